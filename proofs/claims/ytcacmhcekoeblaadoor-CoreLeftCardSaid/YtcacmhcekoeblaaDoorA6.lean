/- Every light operation: where the abstract evaluator answers, the machine does what it says. No conditions. -/
import Derived.Test.YtcacmhcekoeblaaDoorA5
namespace Go.Proofs.YtcacmhcekoeblaaDoorA
open Go.RowKit
set_option linter.unusedVariables false
set_option linter.unusedSimpArgs false
set_option linter.unusedSectionVars false
section
variable {α : Type} {P : Program} {H : World → Prop} {B : Bd} {S : ASt} {r : α} {c : Cfg α}
theorem isBool_some (hT : TOK P c.T) {t : Nat} (h : isBool c t = true) : P.underlying t = some .bool := by
  unfold isBool at h
  split at h
  · rename_i hf
    exact (hT _ _ hf).desc
  · cases h
theorem told_boolEq {t ty : Nat} {x y : Operand} {a b : Bool} (ht : P.underlying t = some .bool) (hx : ∀ ρ N w u, VR ρ N w (S.ev x) u → u = .bool a) (hy : ∀ ρ N w u, VR ρ N w (S.ev y) u → u = .bool b) :
    Told P H B S (.binOp .eql t x y ty) (.bool (a == b)) [] :=
  told_bin fun ρ N w u u' hu hu' => by
    obtain rfl := hx _ _ _ _ hu
    obtain rfl := hy _ _ _ _ hu'
    exact ⟨_, run_eql_bool w t a b ht, rfl, fun _ _ => by simp [eqGuard]⟩
theorem told_boolNe {t ty : Nat} {x y : Operand} {a b : Bool} (ht : P.underlying t = some .bool) (hx : ∀ ρ N w u, VR ρ N w (S.ev x) u → u = .bool a) (hy : ∀ ρ N w u, VR ρ N w (S.ev y) u → u = .bool b) :
    Told P H B S (.binOp .neq t x y ty) (.bool (a != b)) [] :=
  told_bin fun ρ N w u u' hu hu' => by
    obtain rfl := hx _ _ _ _ hu
    obtain rfl := hy _ _ _ _ hu'
    exact ⟨_, run_neq_bool w t a b ht, by cases a <;> cases b <;> rfl, fun _ _ => by simp [eqGuard]⟩
theorem isPtr_some (hT : TOK P c.T) {t : Nat} (h : isPtr c t = true) : ∃ e, P.underlying t = some (.pointer e) := by
  unfold isPtr at h
  split at h
  · rename_i hf
    exact ⟨_, (hT _ _ hf).desc⟩
  · cases h
theorem alight_some (hT : TOK P c.T) (hC : CallOK P H c) {op : Op} {K : AV → List Blk → Option α} (h : alight c S op K = some r) : ∃ v nb, K v nb = some r ∧ Told P H B S op v nb := by
  unfold alight at h
  split at h
  · exact ⟨_, _, h, told_move (.inl rfl)⟩
  · exact ⟨_, _, h, told_move (.inr rfl)⟩
  · -- pick
    obtain ⟨b, h, hb⟩ := aif_some h
    refine ⟨_, _, ?_, told_pick hb⟩
    cases b <;> simpa using h
  · -- alloc
    split at h
    · rename_i hf
      split at h
      · split at h
        · rename_i hs
          exact ⟨_, _, h, told_alloc_part (hT _ _ hf) hs⟩
        · cases h
      · exact ⟨_, _, h, told_alloc (hT _ _ hf)⟩
    · cases h
  · -- box
    split at h
    · split at h
      · rename_i hs
        exact ⟨_, _, h, told_box_part hs⟩
      · cases h
    · split at h
      · rename_i hk
        exact ⟨_, _, h, told_box hk⟩
      · cases h
  · -- build
    split at h
    · rename_i hf
      split at h
      · rename_i hp
        exact ⟨_, _, h, told_build (hT _ _ hf) rfl hp⟩
      · cases h
    · rename_i hf
      split at h
      · rename_i he
        split at h
        · rename_i hl hn
          exact ⟨_, _, h, told_build_arr (hT _ _ hf) rfl rfl (Nat.eq_of_beq_eq_true hn) (hT _ _ he) rfl hl⟩
        · cases h
      · cases h
    · cases h
  · -- buildSlice
    split at h
    · rename_i hr
      split at h
      · rename_i hn hl
        simp only [Bool.and_eq_true] at hn
        exact ⟨_, _, h, told_buildSlice (intElem_some hT hr) (Nat.eq_of_beq_eq_true hn.1) (Nat.le_of_ble_eq_true hn.2) hl⟩
      · cases h
    · split at h
      · rename_i hr
        split at h
        · rename_i hn hl
          simp only [Bool.and_eq_true] at hn
          exact ⟨_, _, h, told_buildRows (rowElem_some hT hr) (Nat.eq_of_beq_eq_true hn.1) (Nat.le_of_ble_eq_true hn.2) hl⟩
        · cases h
      · split at h
        · rename_i hr
          split at h
          · rename_i hps
            split at h
            · rename_i hn hl
              simp only [Bool.and_eq_true] at hn
              exact ⟨_, _, h, told_buildFns (fnElem_some hT hr) (Nat.eq_of_beq_eq_true hn.1) (by rw [hps]; simp) (Nat.le_of_ble_eq_true hn.2) hl⟩
            · cases h
          · cases h
        · cases h
  · -- load
    split at h
    · rename_i ti hf
      split at h
      · rename_i hx hg
        exact ⟨_, _, h, told_load_pro (hT _ _ hf) hg hx⟩
      · rename_i hx hg
        split at h
        · rename_i hr
          exact ⟨_, _, h, told_load_pown (hT _ _ hf) hg hx hr⟩
        · split at h
          · rename_i hb
            exact ⟨_, _, h, told_load_rws (hT _ _ hf) hg hx hb⟩
          · rename_i hb
            obtain ⟨f, m, h1, h2, h⟩ := forkFn_some h
            exact ⟨_, _, h, told_load_fns (hT _ _ hf) hg hx hb h1 h2⟩
          · cases h
      · rename_i hx hg
        split at h
        · exact ⟨_, _, h, told_load_prec (hT _ _ hf) hg hx⟩
        · cases h
      · rename_i hx hg
        split at h
        · rename_i hl
          exact ⟨_, _, h, told_load_precs (hT _ _ hf) hg hx hl⟩
        · cases h
      · rename_i hx
        split at h
        · rename_i hb
          split at h
          · rename_i hg
            split at h
            · rename_i hv
              exact ⟨_, _, h, told_load_cell (hT _ _ hf) hg hx hb hv⟩
            · cases h
          · rename_i hg
            split at h
            · rename_i hl
              exact ⟨_, _, h, told_load_agg (hT _ _ hf) hg hx hb hl⟩
            · cases h
        · cases h
      · rename_i i o g hx
        split at h
        · rename_i b hb
          split at h
          · rename_i ss hi
            split at h
            · rename_i rs hd
              refine told_load_seg (ss := rs) (hT _ _ hf) (fun ρ N a w hp => ?_) h
              have h1 := hp.ops _ (by simp only [Op.operands, List.mem_singleton, List.mem_toArray, List.mem_cons, List.not_mem_nil, or_false]; rfl)
              rw [hx] at h1
              exact rp_SA hp.bl hb hi hd h1
            · cases h
          · cases h
        · cases h
      · rename_i hx hg
        split at h
        · rename_i hb
          split at h
          · rename_i hi
            split at h
            · rename_i hd
              split at h
              · rename_i he
                obtain rfl := Nat.eq_of_beq_eq_true he
                exact ⟨_, _, h, told_load_pel (hT _ _ hf) hg hx hb hi hd⟩
              · cases h
            · cases h
          · cases h
        · cases h
      · rename_i hx
        refine told_load_seg (hT _ _ hf) (fun ρ N a w hp => ?_) h
        have h1 := hp.ops _ (by simp only [Op.operands, List.mem_singleton, List.mem_toArray, List.mem_cons, List.not_mem_nil, or_false]; rfl)
        rw [hx] at h1
        exact pseg_SA h1
      · cases h
    · cases h
  · -- nilCheck
    split at h
    · rename_i hx
      exact ⟨_, _, h, hx ▸ told_nilCheck2 (.inl ⟨_, _, hx⟩)⟩
    · rename_i hx
      exact ⟨_, _, h, hx ▸ told_nilCheck2 (.inr (.inl ⟨_, _, _, _, hx⟩))⟩
    · rename_i hx
      exact ⟨_, _, h, hx ▸ told_nilCheck2 (.inr (.inr ⟨_, hx⟩))⟩
    · rename_i x _ i o hx
      exact ⟨_, _, h, hx ▸ told_nilCheck (.inl ⟨_, _, hx⟩)⟩
    · rename_i hx
      exact ⟨_, _, h, hx ▸ told_nilCheck (.inr (.inl ⟨_, _, hx⟩))⟩
    · rename_i hx
      exact ⟨_, _, h, hx ▸ told_nilCheck (.inr (.inr (.inl ⟨_, _, hx⟩)))⟩
    · rename_i hx
      exact ⟨_, _, h, hx ▸ told_nilCheck (.inr (.inr (.inr ⟨_, hx⟩)))⟩
    · cases h
  · -- binOp
    rename_i op t x y ty
    split at h
    · rename_i cs ds hx hy
      unfold aeqs at h
      split at h
      · rename_i ti hti
        split at h
        · rename_i he hb
          exact ⟨_, _, h, told_eqs (op := .eql) (hT _ _ hti) he hx hy hb (.inl rfl)⟩
        · rename_i he hb
          exact ⟨_, _, h, told_eqs (op := .neq) (hT _ _ hti) he hx hy hb (.inr rfl)⟩
        · cases h
      · cases h
    · split at h
      · rename_i hpt
        obtain ⟨e, hpt⟩ := isPtr_some hT hpt
        obtain ⟨b, hk, hv⟩ := anil_some h hpt
        exact ⟨_, _, hk, told_bin fun ρ N w u u' hu hu' => ⟨.bool b, (hv _ _ _ _ _ hu hu').1, rfl, (hv _ _ _ _ _ hu hu').2⟩⟩
      · split at h
        · obtain ⟨v, hk, hv⟩ := abin_some (P := P) h t
          exact ⟨_, _, hk, told_bin hv⟩
        · rename_i ht
          obtain ⟨a, h, ha⟩ := abool_some h
          obtain ⟨b, h, hb⟩ := abool_some h
          exact ⟨_, _, h, told_boolEq (isBool_some hT ht) ha hb⟩
        · rename_i ht
          obtain ⟨a, h, ha⟩ := abool_some h
          obtain ⟨b, h, hb⟩ := abool_some h
          exact ⟨_, _, h, told_boolNe (isBool_some hT ht) ha hb⟩
        · cases h
  · -- unOp
    obtain ⟨v, hk, hv⟩ := aun_some (P := P) h
    exact ⟨_, _, hk, told_un hv⟩
  · -- convert
    split at h
    · rename_i h1 h2 hx
      exact ⟨_, _, h, told_convert (hT _ _ h1) (hT _ _ h2) rfl hx⟩
    · cases h
  · -- makeSlice
    split at h
    · rename_i hr hx hy
      split at h
      · rename_i hk
        simp only [Bool.and_eq_true] at hk
        obtain ⟨⟨h1, h2⟩, h3⟩ := hk
        obtain rfl := kEq_eq h1
        obtain rfl := kEq_eq h2
        have hb := Nat.le_of_ble_eq_true h3
        split at h
        · rename_i x y _ _ _ _ _ _ _ n _ m hst
          have hxy : x = y := by
            unfold sameTmp at hst
            split at hst
            · rw [Nat.eq_of_beq_eq_true hst]
            · cases hst
          subst hxy
          rw [hx] at hy
          injection hy with _ hnm
          subst hnm
          split at h
          · rename_i h0
            split at h
            · rename_i hl
              exact ⟨_, _, h, told_make (intElem_some hT hr) hx hx hb h0 (Int.le_refl _) hl⟩
            · cases h
          · cases h
        · split at h
          · split at h
            · rename_i h0
              split at h
              · rename_i hnm
                split at h
                · rename_i hl
                  exact ⟨_, _, h, told_room (intElem_some hT hr) hx hy hb h0 hnm hl⟩
                · cases h
              · cases h
            · cases h
          · split at h
            · rename_i h0
              split at h
              · rename_i hnm
                split at h
                · rename_i hl
                  exact ⟨_, _, h, told_make (intElem_some hT hr) hx hy hb h0 hnm hl⟩
                · cases h
              · cases h
            · cases h
      · cases h
    · cases h
  · -- slice
    rename_i t x lo hi mx
    split at h
    · rename_i hr hx hm
      have : mx = none := by cases mx with | none => rfl | some z => cases hm
      subst this
      obtain ⟨b, e, hbe, hel, h, h1, h2⟩ := acut_some h
      exact ⟨_, _, h, told_slice (intElem_some hT hr) (.inl hx) hbe hel h1 h2⟩
    · rename_i hr hx hm
      have : mx = none := by cases mx with | none => rfl | some z => cases hm
      subst this
      obtain ⟨b, e, hbe, hel, h, h1, h2⟩ := acut_some h
      exact ⟨_, _, h, told_slice (intElem_some hT hr) (.inr (.inl ⟨hx, rfl⟩)) hbe hel h1 h2⟩
    · rename_i hr hx hm
      split at h
      · rename_i hh
        split at h
        · rename_i h0
          split at h
          · rename_i h1
            split at h
            · rename_i h2
              exact ⟨_, _, h, told_slice3 (intElem_some hT hr) hx h0 h1 (ln_eq _ ▸ h2) hh hm⟩
            · cases h
          · cases h
        · cases h
      · cases h
    · rename_i hr hx hm
      have : mx = none := by cases mx with | none => rfl | some z => cases hm
      subst this
      split at h
      · rename_i hw hb
        obtain ⟨b, e, hbe, hel, h, h1, h2⟩ := awin_some h
        exact ⟨_, _, h, told_win (intElem_some hT hr) hx hb hbe hel h1 h2⟩
      · cases h
    · rename_i hr hx hm
      have : mx = none := by cases mx with | none => rfl | some z => cases hm
      subst this
      split at h
      · rename_i ha
        split at h
        · rename_i hb
          rw [Bool.and_eq_true] at hb
          obtain rfl := Nat.eq_of_beq_eq_true hb.1
          obtain ⟨e, ha⟩ := arrElem_some hT ha
          exact ⟨_, _, h, told_slice_pseg ha (Nat.le_of_ble_eq_true hb.2) hx⟩
        · cases h
      · cases h
    · cases h
  · -- fieldAddr
    split at h
    · rename_i hf hx
      split at h
      · rename_i hn
        split at h
        · rename_i hs
          exact ⟨_, _, h, told_fieldAddr (hT _ _ hf) rfl hx hn hs⟩
        · cases h
      · cases h
    · rename_i hf hx
      split at h
      · rename_i hn
        split at h
        · rename_i hs
          exact ⟨_, _, h, told_fieldAddr_prec (hT _ _ hf) rfl hx hn hs⟩
        · cases h
      · cases h
    · rename_i hf hx
      split at h
      · rename_i hn
        split at h
        · rename_i hs
          exact ⟨_, _, h, told_fieldAddr_rp (hT _ _ hf) rfl hx hn hs⟩
        · cases h
      · cases h
    · rename_i hf hx
      split at h
      · rename_i hn
        split at h
        · rename_i hs hd
          exact ⟨_, _, h, told_fieldAddr_pseg (hT _ _ hf) rfl hx hn hs hd⟩
        · cases h
      · cases h
    · cases h
  · -- field
    split at h
    · rename_i hf hx
      split at h
      · rename_i hn
        split at h
        · split at h
          · rename_i hv
            exact ⟨_, _, h, told_field_cell (hT _ _ hf) rfl hx hn hv⟩
          · cases h
        · split at h
          · rename_i hl
            exact ⟨_, _, h, told_field_agg (hT _ _ hf) rfl hx hn hl⟩
          · cases h
      · cases h
    · rename_i hf hx
      split at h
      · rename_i hn
        split at h
        · rename_i hd
          exact told_field_sg (hT _ _ hf) rfl hx hn hd h
        · cases h
      · cases h
    · cases h
  · -- indexAddr
    split at h
    · rename_i hr hx hy
      split at h
      · rename_i h0
        split at h
        · rename_i h1
          exact ⟨_, _, h, told_index_ro (intElem_some hT hr) hx hy h0 (ln_eq _ ▸ h1)⟩
        · cases h
      · cases h
    · rename_i hr hx hy
      split at h
      · rename_i hb
        split at h
        · rename_i h0
          split at h
          · rename_i h1
            exact ⟨_, _, h, told_index_own (intElem_some hT hr) hx hb hy h0 (ln_eq _ ▸ h1)⟩
          · cases h
        · cases h
      · rename_i hb
        split at h
        · rename_i h0
          split at h
          · rename_i h1
            exact ⟨_, _, h, told_index_froz (intElem_some hT hr) hx hb hy h0 (ln_eq _ ▸ h1)⟩
          · cases h
        · cases h
      · rename_i hb
        split at h
        · rename_i h0
          split at h
          · rename_i h1
            exact ⟨_, _, h, told_index_bor (intElem_some hT hr) hx hb hy h0 (ln_eq _ ▸ h1)⟩
          · cases h
        · cases h
      · rename_i hb
        split at h
        · rename_i h0
          split at h
          · rename_i h1
            exact ⟨_, _, h, told_index_room (intElem_some hT hr) hx hb hy h0 (ln_eq _ ▸ h1)⟩
          · cases h
        · cases h
      · cases h
    · rename_i hr hx hy
      split at h
      · rename_i he
        obtain ⟨e, hu, hs, _⟩ := recElem_some hT he
        split at h
        · rename_i h0
          split at h
          · rename_i h1
            exact ⟨_, _, h, told_index_recs hu hs rfl hx hy h0 h1⟩
          · cases h
        · cases h
      · cases h
    · rename_i hr hx hy
      split at h
      · rename_i hb he
        split at h
        · rename_i h0
          split at h
          · rename_i h1
            exact ⟨_, _, h, told_index_rws (rowElem_some hT he) hx hb hy h0 (lnr_eq _ ▸ h1)⟩
          · cases h
        · cases h
      · rename_i hb he
        split at h
        · rename_i hfe
          split at h
          · rename_i h0
            split at h
            · rename_i h1
              exact ⟨_, _, h, told_index_fns (fnElem_some hT hfe) hx hb hy h0 h1⟩
            · cases h
          · cases h
        · cases h
      · cases h
    · rename_i hr hx hy
      split at h
      · rename_i ha hb
        obtain ⟨e, ha⟩ := arrElem_some hT ha
        split at h
        · rename_i hi
          split at h
          · rename_i hd
            split at h
            · rename_i he
              split at h
              · rename_i h0
                split at h
                · rename_i h1
                  exact ⟨_, _, h, told_index_rp ha hx hy h0 h1⟩
                · cases h
              · cases h
            · cases h
          · cases h
        · cases h
      · cases h
    · rename_i hr hx hy
      split at h
      · rename_i ha
        obtain ⟨e, ha⟩ := arrElem_some hT ha
        split at h
        · rename_i he
          obtain rfl := Nat.eq_of_beq_eq_true he
          split at h
          · rename_i h0
            split at h
            · rename_i h1
              exact ⟨_, _, h, told_index_pseg ha hx hy h0 h1⟩
            · cases h
          · cases h
        · cases h
      · cases h
    · cases h
  · -- extract
    split at h
    · rename_i hx
      split at h
      · rename_i hv
        exact ⟨_, _, h, told_extract hx hv⟩
      · cases h
    · cases h
  · -- len
    split at h
    · rename_i ha ht
      split at h
      · rename_i hr hx
        exact ⟨_, _, h, by rw [ln_eq]; exact told_len ha ht (intElem_some hT hr) hx⟩
      · split at h
        · rename_i hs hx
          obtain ⟨e, hu⟩ := isSlice_some hT hs
          exact ⟨_, _, h, told_lenrec ha ht hu hx⟩
        · rename_i hs hx
          obtain ⟨e, hu⟩ := isSlice_some hT hs
          split at h
          · rename_i hb
            exact ⟨_, _, h, by rw [lnr_eq]; exact told_lenrws ha ht hu hx hb⟩
          · rename_i hb
            exact ⟨_, _, h, told_lenfns ha ht hu hx hb⟩
          · cases h
        · cases h
      · cases h
    · cases h
  · -- max
    split at h
    · rename_i ha
      split at h
      · rename_i hx hy
        exact ⟨_, _, h, told_max ha hx hy⟩
      · cases h
    · cases h
  · -- min
    split at h
    · rename_i ha
      split at h
      · rename_i hx hy
        exact ⟨_, _, h, told_min ha hx hy⟩
      · cases h
    · rename_i ha
      split at h
      · rename_i hx hy hz
        exact ⟨_, _, h, told_min3 ha hx hy hz⟩
      · cases h
    · cases h
  · -- call
    split at h
    · rename_i f hf
      split at h
      · unfold acallq at h
        split at h
        · rename_i hev
          split at h
          · rename_i hb hds
            split at h
            · rename_i hw hsc
              split at h
              · rename_i hdr
                obtain ⟨off, hk, hcq⟩ := hC.2 _ _ _ _ h
                obtain ⟨a, ha, hk2⟩ := forkOff_some hk
                subst ha
                exact ⟨_, _, hk2, told_callq hf hev hds hsc hb hw hdr hcq⟩
              · cases h
            · cases h
          · cases h
        · cases h
      · unfold acall at h
        split at h
        · rename_i ds hds
          obtain ⟨rs, hk, hcd⟩ := hC.1 _ _ _ _ h
          cases hro : D.hasRos rs with
          | false => simp only [hro] at hk; exact ⟨_, _, hk, told_call hf hds hcd (.inl hro)⟩
          | true =>
            simp only [hro] at hk
            split at hk
            · rename_i hfz
              exact ⟨_, _, hk, told_call hf hds hcd (.inr fun i hi => by rw [hfz] at hi; cases hi)⟩
            · cases hk
        · cases h
    · cases h
  · cases h
end
end Go.Proofs.YtcacmhcekoeblaaDoorA
