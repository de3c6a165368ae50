/- Every operation, and regions in the text's order. No conditions. -/
import Derived.Test.YtcacmhcekoeblaaDoorA9
namespace Go.Proofs.YtcacmhcekoeblaaDoorA
open Go.RowKit
set_option linter.unusedVariables false
set_option linter.unusedSimpArgs false
set_option linter.unusedSectionVars false
section
variable {α : Type} {E : Env} {S : ASt} {r : α} {c : Cfg α} {o : Oper} {a : Act} {w : World}
theorem light_goes (hT : TOK E.P c.T) (hC : CallOK E.P E.H c) {K : ASt → Option α} (h : alight c S o.op (fun v nb => K { tm := (S.put o.dst v).tm, hp := S.hp ++ nb }) = some r) :
    ∃ S', K S' = some r ∧ ∀ (a : Act) (w : World) (Q : Exit → Act → World → Prop), okDst E.nt o = true → Rel E S a w → o.wp E.P a w (fun a' w' => Rel E S' a' w') Q := by
  obtain ⟨v, nb, hk, ht⟩ := alight_some (B := E.B) (H := E.H) hT hC h
  exact ⟨_, hk, fun a w Q hd hr => rel_light hr hd ht Q⟩
theorem win_len {b e : Int} {l : List Int} (h0 : 0 ≤ b) (hbe : b < e) (he : e.toNat ≤ l.length) : ((l.take e.toNat).drop b.toNat).length = e.toNat - b.toNat ∧ 0 < e.toNat - b.toNat := by
  have h1 : ((l.take e.toNat).drop b.toNat).length = e.toNat - b.toNat := by simp; omega
  exact ⟨h1, by omega⟩
theorem nat_sub_le {c e b n : Nat} (h : n = e - b) (hc : e ≤ c) : n ≤ c - b := by omega
theorem callw_some (hW : CallWOK E.P E.H c) {x : Operand} {as : Array Operand} {ts : Array TypeId} {f : Nat} (ho : o.op = .call ⟨.value x, as, ts⟩) (hf : fnOf S x = some f) {K : List Blk → List D → Option α} (h : acallw c S f (evs S as.toList) K = some r) :
    ∃ hp rs, K hp rs = some r ∧ ∀ (a : Act) (w : World) (Q : Exit → Act → World → Prop), okDst E.nt o = true → Rel E S a w → o.wp E.P a w (fun a' w' => Rel E { tm := (S.put o.dst (packD rs 0)).tm, hp := hp } a' w') Q := by
  unfold acallw at h
  split at h
  · rename_i i b e rest hevs
    split at h
    · rename_i et l ds hb hne hds
      split at h
      · rename_i hbe
        obtain ⟨l', rs, h, hcw⟩ := hW.1 _ _ _ _ _ h
        split at h
        · rename_i hrs
          refine ⟨_, _, h, fun a w Q hd hR => ?_⟩
          rw [nth_eq] at hb
          rw [setNth_eq, ← setNth_eq]
          have hl0 : 0 < ((l.take e.toNat).drop b.toNat).length := by
            obtain ⟨ρ, N, hG, hT⟩ := hR
            have hargs : VRs ρ N w (evs S as.toList) (as.toList.map a.eval) := evs_VRs _ fun y hy => ev_VR hG y
            rw [hevs] at hargs
            obtain ⟨u, us, _, hu, _⟩ := hargs
            obtain ⟨_, h1, h2, h3, _, _⟩ := win_at (P := E.P) (B := E.B) (S := S) hG.bl hb hu
            have := win_len h1 hbe h3
            rw [this.1]; exact this.2
          refine rel_callw (b := .ints et .u64 l) (b' := .ints et .u64 (l.take b.toNat ++ l' ++ l.drop e.toNat)) ho hf hevs hb rfl rfl hne hds hcw hrs hl0 ?_ hd hR Q
          intro ρ N a w hG u hu
          obtain ⟨_, h1, h2, h3, _, h4⟩ := win_at (P := E.P) (B := E.B) (S := S) hG.bl hb hu
          obtain ⟨g, c, h5, h6, rfl⟩ := h4 hbe
          obtain ⟨pre, post, h7, h8, h9, h10, h11⟩ := ints_callw (l' := l') hG hb h5 (bn := b.toNat) (en := e.toNat) (Int.toNat_le_toNat h2) h3
          have hwl := (win_len h1 hbe h3).1
          exact ⟨_, g, et, c - b.toNat, pre, post, h5, rfl, .inl h10, by rw [h7, hwl], nat_sub_le hwl h6, h8, h11⟩
        · cases h
      · cases h
    · cases h
  · rename_i i rest hevs
    split at h
    · rename_i et l ds hb hne hds
      split at h
      · rename_i hl
        rw [ln_eq] at hl
        obtain ⟨l', rs, h, hcw⟩ := hW.1 _ _ _ _ _ h
        split at h
        · rename_i hrs
          refine ⟨_, _, h, fun a w Q hd hR => ?_⟩
          rw [nth_eq] at hb
          refine rel_callw (b := .ints et .u64 l) (b' := .ints et .u64 l') ho hf hevs hb rfl rfl hne hds hcw hrs (by omega) ?_ hd hR Q
          intro ρ N a w hG u hu
          have ho2 : w.ownsRow E.B.lo et 1 u l.length (l.map (Value.int .u64)) := hG.bl _ _ _ hb hu.1
          obtain ⟨g, c, rfl, _, _⟩ := ho2.form (by omega)
          obtain ⟨pre, post, h7, h8, h9, h10, h11⟩ := ints_callw (l' := l') hG hb hu.1 (bn := 0) (en := l.length) (Nat.zero_le _) (Nat.le_refl _)
          simp only [List.take_length, List.drop_zero, List.take_zero, List.nil_append, List.drop_length, List.append_nil] at h8 h11
          refine ⟨_, g, et, c, pre, post, hu.1, rfl, .inl h10, by rw [h7], h9, h8, h11⟩
        · cases h
      · cases h
    · rename_i l ds hb hne hds
      split at h
      · rename_i hl
        rw [ln_eq] at hl
        obtain ⟨l', rs, h, hcw⟩ := hW.1 _ _ _ _ _ h
        split at h
        · rename_i hrs
          refine ⟨_, _, h, fun a w Q hd hR => ?_⟩
          rw [nth_eq] at hb
          refine rel_callw (b := .bor .u64 l) (b' := .bor .u64 l') ho hf hevs hb rfl rfl hne hds hcw hrs (by omega) ?_ hd hR Q
          intro ρ N a w hG u hu
          obtain ⟨d, c, h1, hn, rfl, h2, h3, h4⟩ := hG.bl _ _ _ hb hu.1
          refine ⟨_, d.g, d.e, c, d.pre, d.post, hu.1, rfl, .inr ?_, rfl, h2, h4, fun w' hll hh => ⟨d, c, h1, ⟨by rw [hll]; exact hn.1, hn.2⟩, by rw [hll], by rw [hll]; exact h2, by rw [hll]; exact h3, hh⟩⟩
          show E.bor.map Bor.g = _
          have h1' : E.bor = some d := h1
          rw [h1']
          rfl
        · cases h
      · cases h
    · cases h
  · cases h
theorem callp1_some (hW : CallWOK E.P E.H c) {x : Operand} {as : Array Operand} {ts : Array TypeId} {f n i off : Nat} {al : Bool} {rest : List AV} (ho : o.op = .call ⟨.value x, as, ts⟩) (hf : fnOf S x = some f) (hevs : evs S as.toList = (AV.rp i off :: (if al = true then [AV.rp i off] else [])) ++ rest) {K : List Blk → List D → Option α} (h : acallp1 c S f n i off al rest K = some r) :
    ∃ hp rs, K hp rs = some r ∧ ∀ (a : Act) (w : World) (Q : Exit → Act → World → Prop), okDst E.nt o = true → Rel E S a w → o.wp E.P a w (fun a' w' => Rel E { tm := (S.put o.dst (packD rs 0)).tm, hp := hp } a' w') Q := by
  unfold acallp1 at h
  split at h
  · rename_i hb hne hds
    split at h
    · rename_i hw
      split at h
      · rename_i h1 h2
        split at h
        · rename_i h3 h4
          obtain ⟨m', rs, h, hcp⟩ := hW.2 _ _ _ _ _ _ h
          split at h
          · rename_i hrs hsz hnr
            exact ⟨_, _, h, fun a w Q hd hR => rel_callp ho hf hevs hb hw hne hds h1 h2 h3 h4 hcp hrs (Nat.eq_of_beq_eq_true hsz) hnr hd hR Q⟩
          · cases h
        · cases h
      · cases h
    · cases h
  · cases h
theorem callp_some (hW : CallWOK E.P E.H c) {x : Operand} {as : Array Operand} {ts : Array TypeId} {f n : Nat} (ho : o.op = .call ⟨.value x, as, ts⟩) (hf : fnOf S x = some f) {K : List Blk → List D → Option α} (h : acallp c S f n (evs S as.toList) K = some r) :
    ∃ hp rs, K hp rs = some r ∧ ∀ (a : Act) (w : World) (Q : Exit → Act → World → Prop), okDst E.nt o = true → Rel E S a w → o.wp E.P a w (fun a' w' => Rel E { tm := (S.put o.dst (packD rs 0)).tm, hp := hp } a' w') Q := by
  unfold acallp at h
  split at h
  · rename_i hevs
    split at h
    · rename_i h1 h2
      obtain rfl := Nat.eq_of_beq_eq_true h1
      obtain rfl := Nat.eq_of_beq_eq_true h2
      exact callp1_some (al := true) hW ho hf hevs h
    · exact callp1_some (al := false) hW ho hf hevs h
  · rename_i hevs
    exact callp1_some (al := false) hW ho hf hevs h
  · cases h
theorem aheavy_some (hT : TOK E.P c.T) (hC : CallOK E.P E.H c) (hW : CallWOK E.P E.H c) {K : ASt → Option α} (h : aheavy c S o K = some r) :
    ∃ S', K S' = some r ∧ ∀ (a : Act) (w : World) (Q : Exit → Act → World → Prop), okDst E.nt o = true → Rel E S a w → o.wp E.P a w (fun a' w' => Rel E S' a' w') Q := by
  unfold aheavy at h
  split at h
  · -- store
    rename_i ho
    split at h
    · rename_i ti hf
      split at h
      · rename_i hx
        split at h
        · rename_i hb
          split at h
          · rename_i hk
            simp only [Bool.and_eq_true] at hk
            obtain ⟨⟨h1, h2⟩, h3⟩ := hk
            exact ⟨_, h, fun a w Q hd hr => rel_store_ptr ho (hT _ _ hf) hx hb h1 (Nat.eq_of_beq_eq_true h2) (Nat.le_of_ble_eq_true h3) hd hr Q⟩
          · cases h
        · cases h
      · rename_i hx
        split at h
        · rename_i hb h1
          split at h
          · rename_i hn
            exact ⟨_, h, fun a w Q hd hr => rel_store_pown ho (hT _ _ hf) h1 hx hb hn hd hr Q⟩
          · cases h
        · rename_i hb h1
          split at h
          · rename_i hn
            exact ⟨_, h, fun a w Q hd hr => rel_store_bor ho (hT _ _ hf) h1 hx hb hn hd hr Q⟩
          · cases h
        · cases h
      · rename_i hx
        split at h
        · rename_i hb
          split at h
          · rename_i hv hw
            split at h
            · rename_i hl hp
              exact ⟨_, h, fun a w Q hd hr => rel_store_rp ho (hT _ _ hf) hx hb hw hv (Nat.eq_of_beq_eq_true hl) hp hd hr Q⟩
            · cases h
          · cases h
        · cases h
      · rename_i hx
        split at h
        · rename_i hb h1
          split at h
          · rename_i hw
            split at h
            · rename_i hdr
              split at h
              · rename_i he hn
                obtain rfl := Nat.eq_of_beq_eq_true he
                split at h
                · rename_i hp
                  exact ⟨_, h, fun a w Q hd hr => rel_store_pel ho (hT _ _ hf) h1 hx hb hw hdr hn hp hd hr Q⟩
                · cases h
              · cases h
            · cases h
          · cases h
        · cases h
      · cases h
    · cases h
  · -- slice
    rename_i ho
    split at h
    · rename_i hr hx
      split at h
      · exact light_goes hT hC h
      · split at h
        · rename_i hck
          obtain ⟨hlo, ⟨kh, hhi⟩, hb⟩ := cutKind_some hck
          split at h
          · rename_i h0
            split at h
            · rename_i h1
              rw [ln_eq] at h1
              subst hlo
              exact ⟨_, h, fun a w Q hd hrel => rel_slice_cut ho (intElem_some hT hr) hx hb (by omega) (by rw [Int.toNat_of_nonneg h0]; exact hhi) hd hrel Q⟩
            · cases h
          · cases h
        · split at h
          · cases h
          · rename_i hb
            obtain ⟨b, e, hbe, hel, h, h1, h2⟩ := acut_some h
            exact ⟨_, h, fun a w Q hd hrel => rel_slice_room ho (intElem_some hT hr) hx hb hbe hel h1 h2 hd hrel Q⟩
          · rename_i hnb hnr
            split at h
            · rename_i hro
              obtain ⟨b, e, hbe, hel, h, h1, h2⟩ := acut_some h
              exact ⟨_, h, fun a w Q hd hrel => rel_slice_own hnb hnr ho (intElem_some hT hr) hx hro hbe hel h1 h2 hd hrel Q⟩
            · cases h
    · exact light_goes hT hC h
  · -- append
    rename_i ho
    split at h
    · rename_i ha hts
      split at h
      · rename_i hr hr2 hx hy
        split at h
        · rename_i hb hk
          simp only [Bool.and_eq_true] at hk
          obtain ⟨⟨h1, h2⟩, h3⟩ := hk
          split at h
          · rename_i hk2
            simp only [Bool.and_eq_true] at hk2
            split at h
            · rename_i hlim
              obtain rfl := kEq_eq h1
              obtain rfl := kEq_eq hk2.1
              have e1 := Nat.eq_of_beq_eq_true hk2.2
              have e2 := Nat.eq_of_beq_eq_true h2
              subst e1 e2
              exact ⟨_, h, fun a w Q hd hrel => rel_append (e' := 0) ho ha hts (intElem_some hT hr) (Nat.le_of_ble_eq_true h3) hx hb hy hlim hd hrel Q⟩
            · cases h
          · cases h
        · rename_i hb hk
          simp only [Bool.and_eq_true] at hk
          obtain ⟨⟨h1, h2⟩, h3⟩ := hk
          split at h
          · rename_i hk2
            simp only [Bool.and_eq_true] at hk2
            split at h
            · rename_i hlim
              obtain rfl := kEq_eq h1
              obtain rfl := kEq_eq hk2.1
              have e1 := Nat.eq_of_beq_eq_true hk2.2
              have e2 := Nat.eq_of_beq_eq_true h2
              subst e1 e2
              exact ⟨_, h, fun a w Q hd hrel => rel_append_room (e' := 0) ho ha hts (intElem_some hT hr) hx hb hy hlim hd hrel Q⟩
            · cases h
          · cases h
        · cases h
      · rename_i hr hr2 hx hy
        split at h
        · rename_i hk
          simp only [Bool.and_eq_true] at hk
          obtain ⟨⟨h1, h2⟩, h3⟩ := hk
          split at h
          · rename_i hlim
            obtain rfl := kEq_eq h1
            have e2 := Nat.eq_of_beq_eq_true h2
            subst e2
            exact ⟨_, h, fun a w Q hd hrel => rel_append_nil ho ha hts (intElem_some hT hr) (Nat.le_of_ble_eq_true h3) hx hy hlim hd hrel Q⟩
          · cases h
        · cases h
      · rename_i hx _
        split at h
        · rename_i hr hy
          split at h
          · rename_i hb hbj hk
            simp only [Bool.and_eq_true] at hk
            split at h
            · rename_i hk2
              simp only [Bool.and_eq_true] at hk2
              split at h
              · rename_i hlim
                obtain rfl := kEq_eq hk2.1.1
                obtain rfl := kEq_eq hk2.1.2
                have e1 := Nat.eq_of_beq_eq_true hk2.2
                have e2 := Nat.eq_of_beq_eq_true hk.1
                subst e1 e2
                exact ⟨_, h, fun a w Q hd hrel => rel_append_rows (e' := 0) ho ha hts (rowElem_some hT hr) (Nat.le_of_ble_eq_true hk.2) hx hb hy hbj hlim hd hrel Q⟩
              · cases h
            · cases h
          · cases h
        · cases h
      · cases h
    · cases h
  · -- copy
    rename_i ho
    split at h
    · rename_i ha hts
      split at h
      · rename_i hr hr2 hx hy
        split at h
        · rename_i hb h1
          split at h
          · rename_i hk2
            split at h
            · rename_i hlen
              obtain rfl := kEq_eq h1
              obtain rfl := kEq_eq hk2
              exact ⟨_, h, fun a w Q hd hrel => by rw [ln_eq]; exact rel_copy (eu := 0) (bu := 0) (ku := .i64) ho ha hts (intElem_some hT hr) hx hb hy hlen hd hrel Q⟩
            · cases h
          · cases h
        · cases h
      · cases h
    · cases h
  · -- call
    rename_i x as ts ho
    split at h
    · rename_i f hf
      split at h
      · obtain ⟨hp, rs, hk, hgo⟩ := callp_some hW ho hf h
        exact ⟨_, hk, hgo⟩
      · exact light_goes hT hC h
      · unfold acall at h
        split at h
        · rename_i ds hds
          obtain ⟨rs, hk, hcd⟩ := hC.1 _ _ _ _ h
          cases hro : D.hasRos rs with
          | false =>
            simp only [hro, frzOks] at hk
            exact ⟨_, hk, fun a w Q hd hrel => rel_call ho hf hds hcd [] (by rw [hro]; rfl) rfl hd hrel Q⟩
          | true =>
            simp only [hro] at hk
            cases hok : frzOks S.hp (ownss (evs S as.toList)) with
            | false => simp only [hok] at hk; cases hk
            | true =>
              simp only [hok] at hk
              exact ⟨_, hk, fun a w Q hd hrel => rel_call ho hf hds hcd _ (by rw [hro]; rfl) hok hd hrel Q⟩
        · cases h
      · obtain ⟨hp, rs, hk, hgo⟩ := callw_some hW ho hf h
        exact ⟨_, hk, hgo⟩
    · cases h
  · exact light_goes hT hC h
/-- A slot whose bool is told. -/
theorem rel_told {d : Nat} {b : Bool} (h : Rel E S a w) (hb : ∀ ρ N w u, VR ρ N w (S.get d) u → u = .bool b) : Rel E (S.put (some d) (.bool b)) a w := by
  obtain ⟨ρ, N, hG, hT⟩ := h
  refine ⟨ρ, N, ⟨hG.df, hG.sz, fun t => ?_, hG.bl, hG.lo, hG.ds, hG.nn, hG.nw, hG.na, hG.fr, hG.kp⟩, hT⟩
  rw [get_put]
  split
  · rename_i e
    injection e with e
    subst e
    exact hb _ _ _ _ (hG.tm d)
  · exact hG.tm t
/-- A slot that is not looked at again. -/
theorem rel_undef {d : Option Nat} (h : Rel E S a w) : Rel E (S.put d .und) (a.put d undef) w := by
  obtain ⟨ρ, N, hG, hT⟩ := h
  refine ⟨ρ, N, ⟨by rw [defers_put]; exact hG.df, by rw [size_put]; exact hG.sz, fun t => ?_, by cases d <;> exact hG.bl, by cases d <;> exact hG.lo, by cases d <;> exact hG.ds, by cases d <;> exact hG.nn, hG.nw, hG.na, hG.fr, hG.kp⟩, by cases d <;> exact hT⟩
  rw [get_put, getD_put]
  split
  · rename_i he
    show (if _ then _ else _) = undef
    split
    · rfl
    · rename_i hn
      rw [Array.getD_eq_getD_getElem?, Array.getElem?_eq_none (Nat.le_of_not_lt fun h => hn ⟨he, h⟩)]; rfl
  · rename_i hne
    rw [if_neg (fun hh => hne hh.1)]
    exact hG.tm t
theorem rel_und {d : Nat} (h : Rel E S a w) (hb : ∀ ρ N w u, VR ρ N w (S.get d) u → u = undef) : a.tmps.getD d undef = undef := by
  obtain ⟨ρ, N, hG, _⟩ := h
  exact hb _ _ _ _ (hG.tm d)
theorem yielded_und {ops : Array Oper} {j d : Nat} {oj : Oper} (h1 : ops[j]? = some oj) (h2 : oj.dst = some d) (h3 : a.tmps.getD d undef = undef) : yielded ops a.tmps j = none := by
  unfold yielded
  rw [Array.getD_eq_getD_getElem?] at h3
  cases hq : a.tmps[d]? with
  | none => simp [h1, h2, hq]
  | some v =>
    rw [hq] at h3
    simp only [Option.getD_some] at h3
    subst h3
    simp [h1, h2, hq, undef]
theorem rel_bool {d : Nat} {b : Bool} (h : Rel E S a w) (hb : ∀ ρ N w u, VR ρ N w (S.get d) u → u = .bool b) : a.tmps.getD d undef = .bool b := by
  obtain ⟨ρ, N, hG, _⟩ := h
  exact hb _ _ _ _ (hG.tm d)
theorem yielded_of {ops : Array Oper} {j d : Nat} {oj : Oper} {b : Bool} (h1 : ops[j]? = some oj) (h2 : oj.dst = some d) (h3 : a.tmps.getD d undef = .bool b) : yielded ops a.tmps j = some b := by
  have h4 : a.tmps[d]? = some (.bool b) := by
    rw [Array.getD_eq_getD_getElem?] at h3
    cases hq : a.tmps[d]? with
    | none => rw [hq] at h3; cases h3
    | some v => rw [hq] at h3; simp only [Option.getD_some] at h3; rw [h3]
  unfold yielded
  simp [h1, h2, h4]
theorem aguard_some {all : List Oper} {yes no : ASt → Option α} (h : aguard all S o yes no = some r) :
    (o.guard = none ∧ yes S = some r) ∨ (∃ j want oj d b, o.guard = some (j, want) ∧ all[j]? = some oj ∧ oj.dst = some d ∧ (∀ ρ N w u, VR ρ N w (S.get d) u → u = .bool b) ∧
      ((b = want ∧ yes (S.put (some d) (.bool b)) = some r) ∨ (b ≠ want ∧ no ((S.put (some d) (.bool b)).put o.dst .und) = some r))) ∨
    ∃ j want oj d, o.guard = some (j, want) ∧ all[j]? = some oj ∧ oj.dst = some d ∧ (∀ ρ N w u, VR ρ N w (S.get d) u → u = undef) ∧ no (S.put o.dst .und) = some r := by
  unfold aguard at h
  split at h
  · rename_i hg; exact .inl ⟨hg, h⟩
  · rename_i j want hg
    split at h
    · rename_i oj hj
      rw [nth_eq] at hj
      split at h
      · rename_i d hd
        split at h
        · rename_i hv
          exact .inr (.inr ⟨j, _, oj, d, hg, hj, hd, fun ρ N w u hu => by rw [hv] at hu; exact hu, h⟩)
        · obtain ⟨b, h, hb⟩ := aif_some h
          refine .inr (.inl ⟨j, _, oj, d, b, hg, hj, hd, hb, ?_⟩)
          cases b
          · exact .inr ⟨by decide, by simpa using h⟩
          · exact .inl ⟨rfl, by simpa using h⟩
        · obtain ⟨b, h, hb⟩ := aif_some h
          refine .inr (.inl ⟨j, _, oj, d, b, hg, hj, hd, hb, ?_⟩)
          cases b
          · exact .inl ⟨rfl, by simpa using h⟩
          · exact .inr ⟨by decide, by simpa using h⟩
      · cases h
    · cases h
theorem aops_some (hT : TOK E.P c.T) (hC : CallOK E.P E.H c) (hW : CallWOK E.P E.H c) {ops : Array Oper} {K : ASt → Option α} {Q : Exit → Act → World → Prop} (hQ : ∀ S' a' w', K S' = some r → Rel E S' a' w' → Q .normal a' w') :
    ∀ (rest : List Oper) (i : Nat) (S : ASt) (a : Act) (w : World), ops.toList.drop i = rest → rest.all (okDst E.nt) = true → Rel E S a w → aops c ops.toList rest S K = some r → wpOps E.P ops Q (List.range' i rest.length) a w
  | [], i, S, a, w, _, _, hR, h => hQ S a w h hR
  | o :: rest, i, S, a, w, hd, hok, hR, h => by
    have ho : ops[i]? = some o := by
      have : (ops.toList.drop i)[0]? = some o := by rw [hd]; rfl
      rw [List.getElem?_drop] at this
      simpa using this
    have hd' : ops.toList.drop (i + 1) = rest := by
      have : (ops.toList.drop i).drop 1 = rest := by rw [hd]; rfl
      rwa [List.drop_drop] at this
    simp only [List.all_cons, Bool.and_eq_true] at hok
    simp only [List.length_cons, List.range'_succ, wpOps, ho]
    simp only [aops] at h
    rcases aguard_some h with ⟨hg, h⟩ | ⟨j, want, oj, d, b, hg, hj, hdj, hb, h⟩ | ⟨j, want, oj, d, hg, hj, hdj, hb, h⟩
    · have hw : Region.wanted o (yielded ops a.tmps) = true := by unfold Region.wanted; rw [hg]
      rw [if_pos hw]
      obtain ⟨S', h, hgo⟩ := aheavy_some hT hC hW h
      have hwp := hgo a w Q hok.1 hR
      refine .inl (Oper.wp_mono (fun a' w' hR' => aops_some hT hC hW hQ rest (i + 1) S' a' w' hd' hok.2 hR' h) hwp)
    · rw [Array.getElem?_toList] at hj
      have hy : yielded ops a.tmps j = some b := yielded_of hj hdj (rel_bool hR hb)
      rcases h with ⟨rfl, h⟩ | ⟨hne, h⟩
      · have hw : Region.wanted o (yielded ops a.tmps) = true := by unfold Region.wanted; rw [hg]; simp [hy]
        rw [if_pos hw]
        obtain ⟨S', h, hgo⟩ := aheavy_some hT hC hW h
        have hwp := hgo a w Q hok.1 (rel_told hR hb)
        refine .inl (Oper.wp_mono (fun a' w' hR' => aops_some hT hC hW hQ rest (i + 1) S' a' w' hd' hok.2 hR' h) hwp)
      · have hw : ¬ Region.wanted o (yielded ops a.tmps) = true := by unfold Region.wanted; rw [hg]; simp [hy, hne]
        rw [if_neg hw]
        exact aops_some hT hC hW hQ rest (i + 1) _ _ w hd' hok.2 (rel_undef (rel_told hR hb)) h
    · rw [Array.getElem?_toList] at hj
      have hy : yielded ops a.tmps j = none := yielded_und hj hdj (rel_und hR hb)
      have hw : ¬ Region.wanted o (yielded ops a.tmps) = true := by unfold Region.wanted; rw [hg]; simp [hy]
      rw [if_neg hw]
      exact aops_some hT hC hW hQ rest (i + 1) _ _ w hd' hok.2 (rel_undef hR) h
end
end Go.Proofs.YtcacmhcekoeblaaDoorA
