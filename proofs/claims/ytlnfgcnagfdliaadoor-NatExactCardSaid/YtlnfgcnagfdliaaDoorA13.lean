/- Regions, all together; code without loops' cuts. No conditions. -/
import Derived.Test.YtlnfgcnagfdliaaDoorA12
namespace Go.Proofs.YtlnfgcnagfdliaaDoorA
open Go.RowKit
set_option linter.unusedVariables false
set_option linter.unusedSimpArgs false
set_option linter.unusedSectionVars false
section
variable {α : Type} {E : Env} {r : α} {c : Cfg α} {S : ASt} {a : Act} {w : World}
theorem rel_drew (h : Rel E S a w) : Rel E S a { w with drawn := w.drawn + 1 } := by
  obtain ⟨ρ, N, hG, hT⟩ := h
  refine ⟨ρ, N, ⟨hG.df, hG.sz, fun t => VR.keep (w := w) (w' := { w with drawn := w.drawn + 1 }) (fun _ h => h) (fun _ _ => rfl) (fun _ _ h => h) _ _ (hG.tm t), fun i b u hb hu => BR.keep (w := w) (w' := { w with drawn := w.drawn + 1 }) (fun _ h => h) (fun _ _ => rfl) (fun _ _ h => h) (fun _ _ _ => rfl) (hG.bl i b u hb hu), hG.lo, hG.ds, hG.nn, hG.nw, hG.na, ⟨hG.fr.os, hG.fr.tape, hG.fr.output, hG.fr.size, hG.fr.block⟩, hG.kp⟩, hT⟩
theorem all_listed {listed : Array Bool} (h : listed.toList.count false = 0) (k : Nat) (hk : k < listed.size) : listed.getD k false = true := by
  have h1 : ¬ false ∈ listed.toList := List.count_eq_zero.1 h
  rw [Array.getD_eq_getD_getElem?, Array.getElem?_eq_getElem hk, Option.getD_some]
  cases hq : listed[k] with
  | true => rfl
  | false => exact absurd (by rw [← hq]; exact Array.mem_toList_iff.2 (Array.getElem_mem hk)) h1
theorem some_unlisted {listed : Array Bool} (h : listed.toList.count false ≠ 0) : ∃ i, i < listed.size ∧ listed.getD i false = false ∧ ∀ j, j < i → listed.getD j false = true := by
  have h1 : ∃ i, i < listed.size ∧ listed.getD i false = false := by
    have h1 : false ∈ listed.toList := by
      rcases Decidable.em (false ∈ listed.toList) with h2 | h2
      · exact h2
      · exact absurd (List.count_eq_zero.2 h2) h
    obtain ⟨i, hi, he⟩ := Array.mem_iff_getElem.1 (Array.mem_toList_iff.1 h1)
    exact ⟨i, hi, by rw [Array.getD_eq_getD_getElem?, Array.getElem?_eq_getElem hi, Option.getD_some, he]⟩
  obtain ⟨i, hi⟩ := h1
  induction i using Nat.strongRecOn with
  | _ i ih =>
    by_cases hj : ∃ j, j < i ∧ listed.getD j false = false
    · obtain ⟨j, hj1, hj2⟩ := hj
      exact ih j hj1 ⟨by omega, hj2⟩
    · refine ⟨i, hi.1, hi.2, fun j hji => ?_⟩
      cases hq : listed.getD j false with
      | true => rfl
      | false => exact absurd ⟨j, hji, hq⟩ hj
theorem mem_ready_of {ops : Array Oper} {listed : Array Bool} (hsz : listed.size = ops.size) (hedge : ∀ i o j, ops.toList[i]? = some o → waits o j = true → j < i) {i : Nat} (hi : i < listed.size) (hf : listed.getD i false = false) (hlo : ∀ j, j < i → listed.getD j false = true) : i ∈ Region.ready .any ops listed := by
  refine mem_ready.2 ⟨?_, ops[i], Array.getElem?_eq_getElem (by omega), fun e he hb => ?_⟩
  · rw [Array.getD_eq_getD_getElem?, Array.getElem?_eq_getElem hi, Option.getD_some] at hf ⊢
    exact hf
  · refine hlo _ (hedge i ops[i] e.on (by rw [Array.getElem?_toList]; exact Array.getElem?_eq_getElem (by omega)) ?_)
    unfold waits
    exact List.any_eq_true.2 ⟨e, Array.mem_toList_iff.2 he, by rw [hb]; simp⟩
theorem done_ready {ops : Array Oper} {listed : Array Bool} (h : ∀ k, k < ops.size → listed.getD k false = true) : Region.ready .any ops listed = [] := by
  apply List.eq_nil_iff_forall_not_mem.2
  intro i hi
  obtain ⟨h1, o, ho, _⟩ := mem_ready.1 hi
  have hlt : i < ops.size := (Array.getElem?_eq_some_iff.1 ho).1
  have := h i hlt
  rw [Array.getD_eq_getD_getElem?] at h1 this
  cases hq : listed[i]? with
  | none => rw [hq] at this; cases this
  | some b => rw [hq] at h1 this; simp only [Option.getD_some] at h1 this; rw [h1] at this; cases this
/-- Any order. -/
theorem draw_any {ops : Array Oper} {n : Nat} {st sr : Nat → ASt} {sv : Nat → AV} {nb : Nat → List Blk} {Q : Exit → Act → World → Prop}
    (hst : ∀ i o, i < n → ops.toList[i]? = some o → StepOK E ops.toList (st i) (sr i) (st (i + 1)) (sv i) (nb i) o) (hn : n ≤ ops.toList.length) (HF : DrawFacts n ops.toList) (hok : ∀ o, o ∈ ops.toList → okDst E.nt o = true)
    (hfin : (n = ops.size ∧ ∀ a w, Rel E (st n) a w → Q .normal a w) ∨ (n + 1 = ops.size ∧ (∀ o, ops.toList[n]? = some o → ∀ j, j < n → waits o j = true) ∧ ∀ a w (K : Act → World → Prop), Rel E (st n) a w → (∀ a' w', Q .normal a' w' → K a' w') → wpOp E.P ops Q n K a w)) :
    ∀ (fuel : Nat) (listed : Array Bool) (a : Act) (w : World), listed.size = ops.size → listed.toList.count false = fuel → (∀ k, n ≤ k → listed.getD k false = false) → Inv E ops n st sv listed a w → wpAny E.P .any ops Q fuel listed a w
  | 0, listed, a, w, hsz, hc, hhi, hI => by
    have hall := all_listed hc
    rcases hfin with ⟨h1, hq⟩ | ⟨h1, _⟩
    · have hd := inv_end hst hn hI (fun k hk => hall k (by omega))
      exact ⟨done_ready (fun k hk => hall k (by omega)), hq a w hd⟩
    · have h2 := hall n (by omega)
      rw [hhi n (Nat.le_refl _)] at h2
      cases h2
  | fuel + 1, listed, a, w, hsz, hc, hhi, hI => by
    refine ⟨fun hr => ?_, fun i hi => ?_⟩
    · obtain ⟨i, h1, h2, h3⟩ := some_unlisted (by rw [hc]; omega)
      have := mem_ready_of hsz HF.edge h1 h2 h3
      rw [hr] at this
      cases this
    · obtain ⟨hu, o, ho, hed⟩ := mem_ready.1 hi
      have hio : i < ops.size := (Array.getElem?_eq_some_iff.1 ho).1
      have hul : listed.getD i false = false := by
        rw [Array.getD_eq_getD_getElem?, Array.getElem?_eq_getElem (by omega), Option.getD_some] at hu ⊢
        exact hu
      have hol : ops.toList[i]? = some o := by rw [Array.getElem?_toList]; exact ho
      have hcnt : (listed.setIfInBounds i true).toList.count false = fuel := by
        have h2 := cnt_set listed.toList i (by
          rw [Array.getElem?_toList, Array.getElem?_eq_getElem (by omega)]
          rw [Array.getD_eq_getD_getElem?, Array.getElem?_eq_getElem (by omega), Option.getD_some] at hul
          rw [hul])
        rw [Array.toList_setIfInBounds]
        omega
      by_cases hin : i < n
      · refine inv_step (H := HF) hst hn hI hin hsz ho hi hul (hok o (List.mem_of_getElem? hol)) fun a' w' hI' => ?_
        refine draw_any hst hn HF hok hfin fuel _ a' w' (by simpa using hsz) hcnt (fun k hk => ?_) hI'
        rw [getD_set hst hn (by omega), if_neg (by omega)]
        exact hhi k hk
      · rcases hfin with ⟨h1, _⟩ | ⟨h1, hwt, hgo⟩
        · omega
        · have hin' : i = n := by omega
          subst hin'
          have hall : ∀ k, k < i → listed.getD k false = true := fun k hk => waits_ready hi ho (hwt o hol k hk)
          refine hgo a w _ (inv_end hst hn hI hall) fun a' w' hq => wpAny_done (done_ready fun k hk => ?_) hq fuel
          rw [getD_set hst hn (by omega)]
          split
          · rfl
          · exact hall k (by omega)
theorem lastOf_some : ∀ {L : List Oper} {o : Oper}, lastOf L = some o → L ≠ [] ∧ L[L.length - 1]? = some o
  | [], o, h => by cases h
  | [x], o, h => by simp only [lastOf, Option.some.injEq] at h; subst h; simp
  | x :: y :: L, o, h => by
    simp only [lastOf] at h
    obtain ⟨_, h2⟩ := lastOf_some h
    exact ⟨by simp, by simpa using h2⟩
theorem guard_goes (hT : TOK E.P c.T) (hC : CallOK E.P E.H c) (hW : CallWOK E.P E.H c) {ops : Array Oper} {i : Nat} {o : Oper} (ho : ops[i]? = some o) (hd : okDst E.nt o = true) {K : ASt → Option α} (h : aguard ops.toList S o (fun S => aheavy c S o K) K = some r) (hR : Rel E S a w) {Q : Exit → Act → World → Prop} {N : Act → World → Prop}
    (hN : ∀ S' a' w', K S' = some r → Rel E S' a' w' → N a' w') : wpOp E.P ops Q i N a w := by
  unfold wpOp
  rw [ho]
  simp only
  rcases aguard_some h with ⟨hg, h⟩ | ⟨j, want, oj, d, b, hg, hj, hdj, hb, h⟩ | ⟨j, want, oj, d, hg, hj, hdj, hb, h⟩
  · have hw : Region.wanted o (yielded ops a.tmps) = true := by unfold Region.wanted; rw [hg]
    rw [if_pos hw]
    obtain ⟨S', h, hgo⟩ := aheavy_some hT hC hW h
    exact .inl (Oper.wp_mono (fun a' w' hR' => hN S' a' w' h hR') (hgo a w Q hd hR))
  · rw [Array.getElem?_toList] at hj
    have hy : yielded ops a.tmps j = some b := yielded_of hj hdj (rel_bool hR hb)
    rcases h with ⟨rfl, h⟩ | ⟨hne, h⟩
    · have hw : Region.wanted o (yielded ops a.tmps) = true := by unfold Region.wanted; rw [hg]; simp [hy]
      rw [if_pos hw]
      obtain ⟨S', h, hgo⟩ := aheavy_some hT hC hW h
      exact .inl (Oper.wp_mono (fun a' w' hR' => hN S' a' w' h hR') (hgo a w Q hd (rel_told hR hb)))
    · have hw : ¬ Region.wanted o (yielded ops a.tmps) = true := by unfold Region.wanted; rw [hg]; simp [hy, hne]
      rw [if_neg hw]
      exact hN _ _ w h (rel_undef (rel_told hR hb))
  · rw [Array.getElem?_toList] at hj
    have hy : yielded ops a.tmps j = none := yielded_und hj hdj (rel_und hR hb)
    have hw : ¬ Region.wanted o (yielded ops a.tmps) = true := by unfold Region.wanted; rw [hg]; simp [hy]
    rw [if_neg hw]
    exact hN _ _ w h (rel_undef hR)
theorem inv_start {ops : Array Oper} {n : Nat} {st sr : Nat → ASt} {sv : Nat → AV} {nb : Nat → List Blk} (hst : ∀ i o, i < n → ops.toList[i]? = some o → StepOK E ops.toList (st i) (sr i) (st (i + 1)) (sv i) (nb i) o) (hn : n ≤ ops.toList.length) (hR : Rel E (st 0) a w) :
    Inv E ops n st sv (Array.replicate ops.size false) a w := by
  have hno : ∀ k, ¬ Done n (Array.replicate ops.size false) k := fun k hk => by
    have := hk.2
    rw [Array.getD_eq_getD_getElem?, Array.getElem?_replicate] at this
    split at this <;> cases this
  obtain ⟨ρ, N, hG, hTt⟩ := hR
  refine ⟨fun i o j hi => absurd hi (hno i), (st 0).get, ρ, N, ⟨hG.df, hG.sz, hG.tm, ?_, ?_, ?_, ?_, hG.nw, hG.na, hG.fr, hG.kp⟩, fun t => .inr ⟨fun W hW => absurd hW (hno W), rfl⟩, fun id u hu => .inl (hG.lo id u hu), fun id hid => ?_⟩
  · intro i b u hb hu
    have hl := hG.lo i u hu
    have h1 := tr_blk hst hn (Nat.zero_le n) (List.getElem?_eq_getElem hl)
    rw [hb] at h1; injection h1 with h1; subst h1
    exact hG.bl i _ u (List.getElem?_eq_getElem hl) hu
  · intro i u hu
    have := tr_len hst hn (Nat.zero_le n) (Nat.le_refl n)
    have := hG.lo i u hu
    omega
  · intro i j b b' u v g hb hb' hl hl' hij hu hv hg
    have h0 := hG.lo i u hu
    have h0' := hG.lo j v hv
    have h1 := tr_blk hst hn (Nat.zero_le n) (List.getElem?_eq_getElem h0)
    have h1' := tr_blk hst hn (Nat.zero_le n) (List.getElem?_eq_getElem h0')
    rw [hb] at h1; injection h1 with h1; subst h1
    rw [hb'] at h1'; injection h1' with h1'; subst h1'
    exact hG.ds i j _ _ u v g (List.getElem?_eq_getElem h0) (List.getElem?_eq_getElem h0') hl hl' hij hu hv hg
  · intro i b u g hb hl hu hg
    have h0 := hG.lo i u hu
    have h1 := tr_blk hst hn (Nat.zero_le n) (List.getElem?_eq_getElem h0)
    rw [hb] at h1; injection h1 with h1; subst h1
    exact hG.nn i _ u g (List.getElem?_eq_getElem h0) hl hu hg
  · rcases hid with h | ⟨k, hk, _⟩
    · exact hTt id h
    · exact absurd hk (hno k)
theorem count_replicate_false (n : Nat) : (Array.replicate n false).toList.count false = n := by simp
/-- A region. -/
theorem region_some (hT : TOK E.P c.T) (hC : CallOK E.P E.H c) (hW : CallWOK E.P E.H c) (hm : E.P.follows .mixedOrders = true) {id : Nat} {ops : Array Oper} {draw : Bool} {K : ASt → Option α} {Q : Exit → Act → World → Prop} (hok : ops.toList.all (okDst E.nt) = true)
    (h : aregion c ops.toList draw S K = some r) (hR : Rel E S a w) (hQ : ∀ S' a' w', K S' = some r → Rel E S' a' w' → Q .normal a' w') : (Code.region id ops draw).wp E.P Q a w := by
  have hok' : ∀ o, o ∈ ops.toList → okDst E.nt o = true := fun o ho => List.all_eq_true.1 hok o ho
  cases draw with
  | false =>
    simp only [aregion] at h
    refine wp_region ?_
    have := aops_some hT hC hW hQ ops.toList 0 S a w rfl hok hR h
    rwa [Array.length_toList, ← List.range_eq_range'] at this
  | true =>
    simp only [aregion] at h
    refine wp_region_any hm ?_
    have hR' := rel_drew hR
    unfold adraw at h
    split at h
    · rename_i o hlast
      obtain ⟨hne, hlo⟩ := lastOf_some hlast
      split at h
      · split at h
        · rename_i hdo
          obtain ⟨st, sr, sv, nb, h0, hK, hst⟩ := alights_tr hT hC ops.toList S h
          have hst' : ∀ i o, i < ops.toList.length → ops.toList[i]? = some o → StepOK E ops.toList (st i) (sr i) (st (i + 1)) (sv i) (nb i) o := fun i o _ ho => hst i o ho
          refine draw_any hst' (Nat.le_refl _) (drawOk_facts hdo) hok' (.inl ⟨by simp, fun a' w' hr' => hQ _ a' w' hK hr'⟩) ops.size _ a _ (by simp) (count_replicate_false _) (fun k hk => ?_) (inv_start hst' (Nat.le_refl _) (h0 ▸ hR'))
          rw [Array.getD_eq_getD_getElem?, Array.getElem?_replicate]
          split <;> rfl
        · cases h
      · split at h
        · rename_i hdo
          rw [Bool.and_eq_true] at hdo
          obtain ⟨hd1, hd2⟩ := hdo
          obtain ⟨st, sr, sv, nb, h0, hK, hst⟩ := alights_tr hT hC (ops.toList.take (ops.toList.length - 1)) S h
          have hlen : (ops.toList.take (ops.toList.length - 1)).length = ops.toList.length - 1 := by simp
          have hpos : 0 < ops.toList.length := List.length_pos_iff.2 hne
          rw [hlen] at hK
          have hst' : ∀ i o, i < ops.toList.length - 1 → ops.toList[i]? = some o → StepOK E ops.toList (st i) (sr i) (st (i + 1)) (sv i) (nb i) o := fun i o hi ho => hst i o (by rw [List.getElem?_take, if_pos hi]; exact ho)
          refine draw_any hst' (by omega) (drawOk_facts hd1) hok' (.inr ⟨by rw [← Array.length_toList]; omega, fun o' ho' j hj => ?_, fun a' w' N hr' hN => ?_⟩) ops.size _ a _ (by simp) (count_replicate_false _) (fun k hk => ?_) (inv_start hst' (by omega) (h0 ▸ hR'))
          · rw [hlo] at ho'; injection ho' with ho'; subst ho'
            exact List.all_eq_true.1 hd2 j (List.mem_range.2 hj)
          · refine guard_goes hT hC hW (by rw [← Array.getElem?_toList]; exact hlo) (hok' o (List.mem_of_getElem? hlo)) hK hr' fun S' a2 w2 h2 h3 => hN _ _ (hQ S' a2 w2 h2 h3)
          · rw [Array.getD_eq_getD_getElem?, Array.getElem?_replicate]
            split <;> rfl
        · cases h
    · rename_i hlast
      have hnil : ops.toList = [] := by
        cases hq : ops.toList with
        | nil => rfl
        | cons x l =>
          exfalso
          rw [hq] at hlast
          have : ∀ (l : List Oper) (x : Oper), lastOf (x :: l) ≠ none := by
            intro l
            induction l with
            | nil => intro x h; cases h
            | cons y l ih => intro x h; exact ih y h
          exact this l x hlast
      have hsz : ops.size = 0 := by rw [← Array.length_toList, hnil]; rfl
      exact wpAny_done (done_ready fun k hk => by omega) (hQ S a _ h hR') _
end
end Go.Proofs.YtlnfgcnagfdliaaDoorA
