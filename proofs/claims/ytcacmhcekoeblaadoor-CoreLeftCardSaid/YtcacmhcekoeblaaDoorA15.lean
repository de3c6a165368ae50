/- Functions: where the abstract evaluator answers, a call answers so. No conditions. -/
import Derived.Test.YtcacmhcekoeblaaDoorA14
namespace Go.Proofs.YtcacmhcekoeblaaDoorA
open Go.RowKit
set_option linter.unusedVariables false
set_option linter.unusedSimpArgs false
set_option linter.unusedSectionVars false
section
variable {α : Type} {E : Env} {r : α} {c : Cfg α} {S : ASt} {a : Act} {w : World}
theorem loadVar_ptr {P : Program} {B : Bd} {t i off bt : Nat} {ti : TI} {cs : List AV} {ρ : Nat → Option Value} {N : Nat → Prop} {u : Value} (ht : TyOK P t ti) (hx : VR ρ N w (.ptr i off) u) (hb : ∀ x, ρ i = some x → BR B ρ N w x (.cells bt cs)) :
    ∃ ad, u = .pointer (some ad) ∧ ((ti.isAgg = false → ∀ v, nth cs off = some v → ∃ x, (loadVar t ad).run P w = .ok x w ∧ VR ρ N w v x) ∧
      (ti.isAgg = true → off + ti.size ≤ cs.length → ∃ x, (loadVar t ad).run P w = .ok x w ∧ VR ρ N w (.agg ((cs.drop off).take ti.size)) x)) := by
  obtain ⟨g, hρ, rfl⟩ := hx
  obtain ⟨g', arr, e1, _, hh, hvs⟩ := hb _ hρ
  simp only [Value.pointer.injEq, Option.some.injEq, Addr.mk.injEq, and_true] at e1
  subst e1
  refine ⟨_, rfl, fun hg v hv => ?_, fun hg hl' => ?_⟩
  · obtain ⟨x, hu, hvu⟩ := VRs.get hvs off v hv
    rw [Array.getElem?_toList] at hu
    have hc : w.cell? ⟨g, off, none⟩ = some x := (cell_of_row w g off arr bt (0, 0) hh).trans hu
    exact ⟨x, by simp [loadVar, ht.run_isAgg, hg, hc], hvu⟩
  · have hal : cs.length = arr.size := by rw [hvs.length, Array.length_toList]
    have hlen : ((arr.toList.drop off).take ti.size).length = ti.size := by simp; omega
    have hrun := run_loadCells_list (P := P) w ⟨g, off, none⟩ ((arr.toList.drop off).take ti.size) (fun j u hj => by
      have hjl := (List.getElem?_eq_some_iff.1 hj).1
      rw [List.getElem?_take, if_pos (by omega), List.getElem?_drop, Array.getElem?_toList] at hj
      have : (⟨g, off, none⟩ : Addr).add j = ⟨g, off + j, none⟩ := by unfold Addr.add; split <;> simp_all
      rw [this]
      exact (cell_of_row w g (off + j) arr bt (0, 0) hh).trans hj)
    rw [hlen] at hrun
    exact ⟨.agg ((arr.toList.drop off).take ti.size).toArray, by simp [loadVar, ht.run_isAgg, hg, ht.run_sizeOf, hrun], _, rfl, VRs.take _ (VRs.drop _ hvs)⟩
def resOf (tmps : Array Value) : ResultVar → Sem Value
  | .tmp t => pure (tmps.getD t undef)
  | .cell a t => do loadVar t (← asAddr (tmps.getD a undef))
theorem aresult_run (hT : TOK E.P c.T) {ρ : Nat → Option Value} {N : Nat → Prop} (hG : G E S.get S.hp ρ N a w) {x : ResultVar} {v : AV} (h : aresult c S x = some v) : ∃ u, (resOf a.tmps x).run E.P w = .ok u w ∧ VR ρ N w v u := by
  cases x with
  | tmp t =>
    simp only [aresult, Option.some.injEq] at h; subst h
    exact ⟨_, rfl, hG.tm t⟩
  | cell p t =>
    simp only [aresult] at h
    split at h
    · rename_i ti i o hf hp
      have h1 := hG.tm p
      rw [hp] at h1
      split at h
      · rename_i bt cs hb hg
        split at h
        · rename_i hl
          simp only [Option.some.injEq] at h; subst h
          rw [nth_eq] at hb
          obtain ⟨ad, e, _, h3⟩ := loadVar_ptr (B := E.B) (hT _ _ hf) h1 (fun x hx => hG.bl _ _ _ hb hx)
          obtain ⟨x, h4, h5⟩ := h3 hg (Nat.le_of_ble_eq_true hl)
          exact ⟨x, by simp only [resOf, e, asAddr, Sem.run_bind, Sem.run_pure, Result.andThen_ok, h4], h5⟩
        · cases h
      · rename_i bt cs hb hg
        rw [nth_eq] at hb
        obtain ⟨ad, e, h3, _⟩ := loadVar_ptr (hT _ _ hf) h1 (fun x hx => hG.bl _ _ _ hb hx)
        obtain ⟨x, h4, h5⟩ := h3 hg v h
        exact ⟨x, by simp only [resOf, e, asAddr, Sem.run_bind, Sem.run_pure, Result.andThen_ok, h4], h5⟩
      · cases h
    · cases h
theorem aresults_run (hT : TOK E.P c.T) {ρ : Nat → Option Value} {N : Nat → Prop} (hG : G E S.get S.hp ρ N a w) : ∀ {xs : List ResultVar} {vs : List AV}, aresults c S xs = some vs → ∃ us, (xs.mapM (resOf a.tmps)).run E.P w = .ok us w ∧ VRs ρ N w vs us
  | [], vs, h => by simp only [aresults, Option.some.injEq] at h; subst h; exact ⟨[], by simp, rfl⟩
  | x :: xs, vs, h => by
    simp only [aresults] at h
    split at h
    · rename_i v hv
      split at h
      · rename_i vs' hvs
        simp only [Option.some.injEq] at h; subst h
        obtain ⟨u, h1, h2⟩ := aresult_run hT hG hv
        obtain ⟨us, h3, h4⟩ := aresults_run hT hG hvs
        exact ⟨u :: us, by simp only [List.mapM_cons, Sem.run_bind, h1, Result.andThen_ok, h3, Sem.run_pure], u, us, rfl, h2, h4⟩
      · cases h
    · cases h
mutual
theorem toR_len {hp : List Blk} : ∀ {v : AV} {d : D}, toR hp v = some d → (blkD d).length = (rIds hp v).length ∧ ∀ (k : Nat) (b : Blk), (blkD d)[k]? = some b → ∃ i : Nat, (rIds hp v)[k]? = some i ∧ hp[i]? = some b
  | .int k n, d, h => by simp only [toR, Option.some.injEq] at h; subst h; exact ⟨rfl, fun k b hb => by simp [blkD] at hb⟩
  | .bool b, d, h => by simp only [toR, Option.some.injEq] at h; subst h; exact ⟨rfl, fun k b hb => by simp [blkD] at hb⟩
  | .prop p q, d, h => by simp only [toR, Option.some.injEq] at h; subst h; exact ⟨rfl, fun k b hb => by simp [blkD] at hb⟩
  | .ro k l, d, h => by simp only [toR, Option.some.injEq] at h; subst h; exact ⟨rfl, fun k b hb => by simp [blkD] at hb⟩
  | .nil, d, h => by simp only [toR, Option.some.injEq] at h; subst h; exact ⟨rfl, fun k b hb => by simp [blkD] at hb⟩
  | .fn f, d, h => by simp only [toR, Option.some.injEq] at h; subst h; exact ⟨rfl, fun k b hb => by simp [blkD] at hb⟩
  | .own i, d, h => by
    simp only [toR] at h
    split at h
    · rename_i e k l hi
      simp only [Option.some.injEq] at h; subst h
      simp only [rIds, hi, blkD]
      refine ⟨rfl, fun j b hb => ?_⟩
      cases j with
      | zero => simp only [List.getElem?_cons_zero, Option.some.injEq] at hb; subst hb; exact ⟨i, rfl, by rw [← nth_eq]; exact hi⟩
      | succ j => simp at hb
    · rename_i k l hi
      simp only [Option.some.injEq] at h; subst h
      simp only [rIds, hi, blkD]
      exact ⟨rfl, fun k b hb => by simp at hb⟩
    · rename_i e fs hi
      simp only [Option.some.injEq] at h; subst h
      simp only [rIds, hi, blkD]
      refine ⟨rfl, fun j b hb => ?_⟩
      cases j with
      | zero => simp only [List.getElem?_cons_zero, Option.some.injEq] at hb; subst hb; exact ⟨i, rfl, by rw [← nth_eq]; exact hi⟩
      | succ j => simp at hb
    · cases h
  | .agg cs, d, h => by
    simp only [toR] at h
    split at h
    · rename_i ds hds
      simp only [Option.some.injEq] at h; subst h
      simp only [blkD, rIds]
      exact toRs_len hds
    · cases h
  | .unk, _, h => by simp [toR] at h
  | .und, _, h => by simp [toR] at h
  | .ptr _ _, _, h => by simp [toR] at h
  | .pro _ _, _, h => by simp [toR] at h
  | .pown _ _, _, h => by simp [toR] at h
  | .recs _ _, _, h => by simp [toR] at h
  | .prec _, _, h => by simp [toR] at h
  | .win _ _ _, _, h => by simp [toR] at h
  | .tup _, _, h => by simp [toR] at h
  | .nilp, d, h => by simp only [toR, Option.some.injEq] at h; subst h; exact ⟨rfl, fun k b hb => by simp [blkD] at hb⟩
  | .sg ss, d, h => by simp only [toR, Option.some.injEq] at h; subst h; exact ⟨rfl, fun k b hb => by simp [blkD] at hb⟩
  | .rp i o, d, h => by
    simp only [toR] at h
    split at h
    · rename_i t ss hi
      simp only [Option.some.injEq] at h; subst h
      simp only [rIds, hi, blkD]
      refine ⟨rfl, fun j b hb => ?_⟩
      cases j with
      | zero => simp only [List.getElem?_cons_zero, Option.some.injEq] at hb; subst hb; exact ⟨i, rfl, by rw [← nth_eq]; exact hi⟩
      | succ j => simp at hb
    · cases h
  | .pel _ _ _ _, _, h => by simp [toR] at h
  | .pseg _, _, h => by simp [toR] at h
  | .nilf, _, h => by simp [toR] at h
theorem toRs_len {hp : List Blk} : ∀ {vs : List AV} {ds : List D}, toRs hp vs = some ds → (blkDs ds).length = (rIdss hp vs).length ∧ ∀ (k : Nat) (b : Blk), (blkDs ds)[k]? = some b → ∃ i : Nat, (rIdss hp vs)[k]? = some i ∧ hp[i]? = some b
  | [], ds, h => by simp only [toRs, Option.some.injEq] at h; subst h; exact ⟨rfl, fun k b hb => by simp [blkDs] at hb⟩
  | v :: vs, ds, h => by
    simp only [toRs] at h
    split at h
    · rename_i d hd
      split at h
      · rename_i ds' hds
        simp only [Option.some.injEq] at h; subst h
        obtain ⟨h1, h2⟩ := toR_len hd
        obtain ⟨h3, h4⟩ := toRs_len hds
        simp only [blkDs, rIdss]
        refine ⟨by simp [h1, h3], fun k b hb => ?_⟩
        rw [List.getElem?_append] at hb
        split at hb
        · rename_i hlt
          obtain ⟨i, h5, h6⟩ := h2 k b hb
          exact ⟨i, by rw [List.getElem?_append_left (by omega)]; exact h5, h6⟩
        · rename_i hlt
          obtain ⟨i, h5, h6⟩ := h4 _ b hb
          exact ⟨i, by rw [List.getElem?_append_right (by omega), ← h1]; exact h5, h6⟩
      · cases h
    · cases h
end
mutual
theorem toR_VR {hp : List Blk} {B : Bd} {ρ ρ' : Nat → Option Value} {N : Nat → Prop} (hbl : ∀ i b u, hp[i]? = some b → ρ i = some u → BR B ρ N w u b) :
    ∀ (v : AV) (u : Value) (d : D) (m : Nat), VR ρ N w v u → toR hp v = some d → (∀ k i, (rIds hp v)[k]? = some i → ρ' (m + k) = ρ i) → VR ρ' N w (ofD d m) u
  | .int k n, u, d, m, h, he, _ => by simp only [toR, Option.some.injEq] at he; subst he; exact h
  | .bool b, u, d, m, h, he, _ => by simp only [toR, Option.some.injEq] at he; subst he; exact h
  | .prop p q, u, d, m, h, he, _ => by simp only [toR, Option.some.injEq] at he; subst he; exact h
  | .ro k l, u, d, m, h, he, _ => by simp only [toR, Option.some.injEq] at he; subst he; exact h
  | .nil, u, d, m, h, he, _ => by
    simp only [toR, Option.some.injEq] at he; subst he
    obtain rfl : u = _ := h
    exact ⟨none, 0, rfl, Nat.le_refl _, fun h => by simp at h⟩
  | .fn f, u, d, m, h, he, _ => by simp only [toR, Option.some.injEq] at he; subst he; exact h
  | .own i, u, d, m, h, he, hb => by
    simp only [toR] at he
    split at he
    · rename_i e k l hi
      simp only [Option.some.injEq] at he; subst he
      simp only [rIds, hi] at hb
      have := hb 0 i rfl
      exact ⟨by rw [Nat.add_zero] at this; rw [this]; exact h.1, h.2⟩
    · rename_i k l hi
      simp only [Option.some.injEq] at he; subst he
      rw [nth_eq] at hi
      exact hbl _ _ _ hi h.1
    · rename_i e fs hi
      simp only [Option.some.injEq] at he; subst he
      simp only [rIds, hi] at hb
      have := hb 0 i rfl
      exact ⟨by rw [Nat.add_zero] at this; rw [this]; exact h.1, h.2⟩
    · cases he
  | .agg cs, u, d, m, ⟨vs, e, h⟩, he, hb => by
    simp only [toR] at he
    split at he
    · rename_i ds hds
      simp only [Option.some.injEq] at he; subst he
      exact ⟨vs, e, toRs_VR hbl cs vs.toList ds m h hds (fun k i hi => hb k i (by simpa [rIds] using hi))⟩
    · cases he
  | .unk, _, _, _, _, he, _ => by simp [toR] at he
  | .und, _, _, _, _, he, _ => by simp [toR] at he
  | .ptr _ _, _, _, _, _, he, _ => by simp [toR] at he
  | .pro _ _, _, _, _, _, he, _ => by simp [toR] at he
  | .pown _ _, _, _, _, _, he, _ => by simp [toR] at he
  | .recs _ _, _, _, _, _, he, _ => by simp [toR] at he
  | .prec _, _, _, _, _, he, _ => by simp [toR] at he
  | .win _ _ _, _, _, _, _, he, _ => by simp [toR] at he
  | .tup _, _, _, _, _, he, _ => by simp [toR] at he
  | .nilp, u, d, m, h, he, _ => by simp only [toR, Option.some.injEq] at he; subst he; exact h
  | .sg ss, u, d, m, h, he, _ => by
    simp only [toR, Option.some.injEq] at he; subst he
    obtain ⟨vs, e, h2⟩ := h
    exact ⟨vs, e, SegsV.dull h2⟩
  | .rp i o, u, d, m, h, he, hb => by
    simp only [toR] at he
    split at he
    · rename_i t ss hi
      simp only [Option.some.injEq] at he; subst he
      simp only [rIds, hi] at hb
      have h3 := hb 0 i rfl
      rw [Nat.add_zero] at h3
      obtain ⟨g, b, h1, h2⟩ := h
      exact ⟨g, b, h3.trans h1, h2⟩
    · cases he
  | .pel _ _ _ _, _, _, _, _, he, _ => by simp [toR] at he
  | .pseg _, _, _, _, _, he, _ => by simp [toR] at he
  | .nilf, _, _, _, _, he, _ => by simp [toR] at he
theorem toRs_VR {hp : List Blk} {B : Bd} {ρ ρ' : Nat → Option Value} {N : Nat → Prop} (hbl : ∀ i b u, hp[i]? = some b → ρ i = some u → BR B ρ N w u b) :
    ∀ (vs : List AV) (us : List Value) (ds : List D) (m : Nat), VRs ρ N w vs us → toRs hp vs = some ds → (∀ k i, (rIdss hp vs)[k]? = some i → ρ' (m + k) = ρ i) → VRs ρ' N w (ofDs ds m) us
  | [], us, ds, m, h, he, _ => by simp only [toRs, Option.some.injEq] at he; subst he; exact h
  | v :: vs, us, ds, m, ⟨u, us', e, h1, h2⟩, he, hb => by
    simp only [toRs] at he
    split at he
    · rename_i d hd
      split at he
      · rename_i ds' hds
        simp only [Option.some.injEq] at he; subst he
        have hl := (toR_len hd).1
        refine ⟨u, us', e, toR_VR hbl v u d m h1 hd (fun k i hi => hb k i ?_), toRs_VR hbl vs us' ds' _ h2 hds (fun k i hi => ?_)⟩
        · simp only [rIdss]; rw [List.getElem?_append_left (List.getElem?_eq_some_iff.1 hi).1]; exact hi
        · have := hb ((blkD d).length + k) i (by simp only [rIdss]; rw [List.getElem?_append_right (by omega), hl]; rw [show (rIds hp v).length + k - (rIds hp v).length = k from by omega]; exact hi)
          rw [Nat.add_assoc]; exact this
      · cases he
    · cases he
end
mutual
theorem noRo_VR {ρ : Nat → Option Value} {N N' : Nat → Prop} : ∀ (d : D) (m : Nat) (u : Value), d.hasRo = false → VR ρ N w (ofD d m) u → VR ρ N' w (ofD d m) u
  | .int _ _, _, _, _, h => h
  | .bool _, _, _, _, h => h
  | .own _ _ _, _, _, _, h => h
  | .fn _, _, _, _, h => h
  | .fns _ _, _, _, _, h => h
  | .nilp, _, _, _, h => h
  | .box _ _, _, _, _, h => h
  | .sg ss, m, u, hr, ⟨vs, e, h⟩ => ⟨vs, e, SegsV_norow hr h⟩
  | .pseg _, _, _, hr, _ => by simp [D.hasRo] at hr
  | .ro _ _, _, _, hr, _ => by simp [D.hasRo] at hr
  | .recs _ _, _, _, hr, _ => by simp [D.hasRo] at hr
  | .agg ds, m, u, hr, ⟨vs, e, h⟩ => ⟨vs, e, noRos_VR ds m _ (by simpa [D.hasRo] using hr) h⟩
theorem noRos_VR {ρ : Nat → Option Value} {N N' : Nat → Prop} : ∀ (ds : List D) (m : Nat) (us : List Value), D.hasRos ds = false → VRs ρ N w (ofDs ds m) us → VRs ρ N' w (ofDs ds m) us
  | [], _, _, _, h => h
  | d :: ds, m, us, hr, ⟨u, us', e, h1, h2⟩ => by
    simp only [D.hasRos] at hr
    split at hr
    · cases hr
    · rename_i hd
      exact ⟨u, us', e, noRo_VR d m u hd h1, noRos_VR ds _ us' hr h2⟩
end
mutual
theorem blkD_norow : ∀ (d : D), d.hasRo = false → ∀ (k t : Nat) (ss : List Seg), (blkD d)[k]? = some (.part t ss) → anyRow ss = false
  | .int _ _, _, _, _, _, h => by simp [blkD] at h
  | .bool _, _, _, _, _, h => by simp [blkD] at h
  | .own _ _ _, _, k, _, _, h => by cases k <;> simp [blkD] at h
  | .fn _, _, _, _, _, h => by simp [blkD] at h
  | .fns _ _, _, k, _, _, h => by cases k <;> simp [blkD] at h
  | .nilp, _, _, _, _, h => by simp [blkD] at h
  | .box t ss, hr, k, _, _, h => by
    cases k with
    | zero =>
      simp only [blkD, List.getElem?_cons_zero, Option.some.injEq, Blk.part.injEq] at h
      obtain ⟨_, rfl⟩ := h
      exact hr
    | succ k => simp [blkD] at h
  | .sg ss, _, _, _, _, h => by simp [blkD] at h
  | .pseg _, _, _, _, _, h => by simp [blkD] at h
  | .ro _ _, _, _, _, _, h => by simp [blkD] at h
  | .recs _ _, _, _, _, _, h => by simp [blkD] at h
  | .agg ds, hr, k, t, ss, h => blkDs_norow ds (by simpa [D.hasRo] using hr) k t ss (by simpa [blkD] using h)
theorem blkDs_norow : ∀ (ds : List D), D.hasRos ds = false → ∀ (k t : Nat) (ss : List Seg), (blkDs ds)[k]? = some (.part t ss) → anyRow ss = false
  | [], _, _, _, _, h => by simp [blkDs] at h
  | d :: ds, hr, k, t, ss, h => by
    simp only [D.hasRos] at hr
    split at hr
    · cases hr
    · rename_i hd
      simp only [blkDs] at h
      rw [List.getElem?_append] at h
      split at h
      · exact blkD_norow d hd k t ss h
      · exact blkDs_norow ds hr _ t ss h
end
theorem pack_VR {ρ : Nat → Option Value} {N : Nat → Prop} {ds : List D} {us : List Value} {m : Nat} (h : VRs ρ N w (ofDs ds m) us) : VR ρ N w (packD ds m) (if h : us.toArray.size = 1 then us.toArray[0] else .tuple us.toArray) := by
  cases ds with
  | nil =>
    simp only [ofDs] at h
    obtain rfl : us = [] := h
    exact ⟨#[], rfl, rfl⟩
  | cons d ds =>
    cases ds with
    | nil =>
      obtain ⟨u, us', rfl, h1, h2⟩ := h
      obtain rfl : us' = [] := h2
      exact h1
    | cons d2 ds =>
      obtain ⟨u, us', rfl, h1, u2, us2, rfl, h2, h3⟩ := id h
      rw [dif_neg (by simp)]
      exact ⟨_, rfl, h⟩
theorem look_number : ∀ (vs : List AV) (i t : Nat), look (number vs i) t = if i ≤ t then (vs[t - i]?).getD .unk else .unk
  | [], i, t => by simp [number, look]
  | v :: vs, i, t => by
    simp only [number]
    rw [look_cons, look_number vs (i + 1) t]
    by_cases h : i = t
    · subst h; simp
    · rw [if_neg h]
      by_cases h2 : i ≤ t
      · rw [if_pos (by omega), if_pos h2]
        rw [show t - i = (t - (i + 1)) + 1 from by omega]
        simp
      · rw [if_neg (by omega), if_neg h2]
theorem fns_kept {ρ ρ' : Nat → Option Value} {N N' : Nat → Prop} {w : World} : ∀ {fs : List (Option Nat)} {us : List Value}, VRs ρ N w (fs.map fav) us → VRs ρ' N' w (fs.map fav) us
  | [], _, h => h
  | some _ :: _, _, ⟨v, vs, h1, h2, h3⟩ => ⟨v, vs, h1, h2, fns_kept h3⟩
  | none :: _, _, ⟨v, vs, h1, h2, h3⟩ => ⟨v, vs, h1, h2, fns_kept h3⟩
/-- The end of a function. -/
theorem out_some (hE : E.bor = none) (hT : TOK E.P c.T) {fn : Func} {os : List Bool} {out : List D → Option α} (hR : Rel E S a w) (h : aout c fn.results.toList os out S = some r) :
    ∃ ds val, out ds = some r ∧ (results fn a.tmps).run E.P w = .ok val w ∧ Below E.w0.heap.size E.w0 w ∧ ∀ m, ResV m E.w0 E.AB w ds val := by
  have hEB : E.B = ⟨E.w0.heap.size, none⟩ := by unfold Env.B; rw [hE]
  unfold ResV
  rw [← hEB]
  unfold aout at h
  split at h
  · rename_i vs hvs
    obtain ⟨ρ0, N0, hG0, hT0⟩ := id hR
    obtain ⟨us, hrun, hvr0⟩ := aresults_run hT hG0 hvs
    obtain ⟨N, hinn, hG⟩ := hG0.freeze (shared vs os)
    have hvr := VRs.keep hinn (fun _ _ => rfl) (fun _ _ h => h) _ _ hvr0
    revert h
    generalize hhp : freeze (shared vs os) S.hp 0 = hp at hG
    intro h
    dsimp only at h
    split at h
    · rename_i ds hds hnd
      have hnd' := nodupB_nodup hnd
      obtain ⟨hlen, hbk⟩ := toRs_len hds
      refine ⟨ds, if h : us.toArray.size = 1 then us.toArray[0] else .tuple us.toArray, h, ?_, ⟨hG.fr.os, hG.fr.tape, hG.fr.output, hG.fr.size, fun k hk => hG.fr.block k hk (by unfold Env.bg; rw [hE]; intro h; cases h)⟩, fun m => ?_⟩
      · have e : results fn a.tmps = (do let vs ← fn.results.mapM (resOf a.tmps); pure (if h : vs.size = 1 then vs[0] else .tuple vs)) := by
          unfold results
          congr 2
        rw [e, Sem.run_bind, Array.mapM_eq_mapM_toList, Sem.run_map, hrun]
        rfl
      · have hρ : ∀ k i, (rIdss hp vs)[k]? = some i → (fun j => if m ≤ j then ((rIdss hp vs)[j - m]?).bind ρ0 else none) (m + k) = ρ0 i := by
          intro k i hk
          simp only
          rw [if_pos (by omega), show m + k - m = k from by omega, hk]
          rfl
        have hback : ∀ j u, (fun j => if m ≤ j then ((rIdss hp vs)[j - m]?).bind ρ0 else none) j = some u → m ≤ j ∧ ∃ i, (rIdss hp vs)[j - m]? = some i ∧ ρ0 i = some u := by
          intro j u hj
          simp only at hj
          split at hj
          · rename_i hmj
            obtain ⟨i, h1, h2⟩ := Option.bind_eq_some_iff.1 hj
            exact ⟨hmj, i, h1, h2⟩
          · cases hj
        have hall := toRs_VR (ρ' := fun j => if m ≤ j then ((rIdss hp vs)[j - m]?).bind ρ0 else none) hG.bl vs us ds m hvr hds hρ
        refine ⟨fun j => if m ≤ j then ((rIdss hp vs)[j - m]?).bind ρ0 else none, fun g => D.hasRos ds = true ∧ N g, ?_, ?_, ?_, ?_, ?_, fun hro g hg => by rw [hro] at hg; cases hg.1⟩
        · refine pack_VR ?_
          cases hro : D.hasRos ds with
          | false => exact noRos_VR ds m us hro hall
          | true => exact VRs.keep (fun g hg => ⟨rfl, hg⟩) (fun _ _ => rfl) (fun _ _ h => h) _ _ hall
        · intro j u hj
          obtain ⟨h1, i, h2, _⟩ := hback j u hj
          have := (List.getElem?_eq_some_iff.1 h2).1
          omega
        · intro k b hb
          obtain ⟨i, h1, h2⟩ := hbk k b hb
          have hi : i < S.hp.length := by
            have := (List.getElem?_eq_some_iff.1 h2).1
            rw [← hhp, freeze_length] at this
            exact this
          obtain ⟨u, hu⟩ := hT0 i hi
          have hnb := blkDs_ints ds k b hb
          have h3 := hG.bl i _ u h2 hu
          have hk0 : BR E.B (fun j => if m ≤ j then ((rIdss hp vs)[j - m]?).bind ρ0 else none) (fun g => D.hasRos ds = true ∧ N g) w u b := by
            rcases hnb with ⟨_, _, _, rfl⟩ | ⟨_, _, rfl⟩ | ⟨_, _, rfl⟩
            · exact h3
            · obtain ⟨us, h7, h8⟩ := h3
              exact ⟨us, h7, fns_kept h8⟩
            · obtain ⟨g, arr, e1, e2, e3, e4⟩ := h3
              refine ⟨g, arr, e1, e2, e3, ?_⟩
              cases hro : D.hasRos ds with
              | false => exact SegsV_norow (blkDs_norow ds hro k _ _ hb) e4
              | true => exact SegsV.keep (fun g hg => ⟨rfl, hg⟩) (Nat.le_refl _) (fun _ _ => rfl) e4
          exact ⟨u, (hρ k i h1).trans hu, hk0, fun g hg => ⟨new_lo hnb h3 g hg, fun hN => hG.nn i _ u g h2 hnb.live hu hg hN.2⟩⟩
        · intro j k u v g hj hk hjk hu hv hg
          obtain ⟨bj, hbj⟩ : ∃ b, (blkDs ds)[j]? = some b := ⟨_, List.getElem?_eq_getElem hj⟩
          obtain ⟨bk, hbk'⟩ : ∃ b, (blkDs ds)[k]? = some b := ⟨_, List.getElem?_eq_getElem hk⟩
          obtain ⟨i, h1, h2⟩ := hbk j bj hbj
          obtain ⟨i', h1', h2'⟩ := hbk k bk hbk'
          have hu' := (hρ j i h1).symm.trans hu
          have hv' := (hρ k i' h1').symm.trans hv
          refine hG.ds i i' _ _ u v g h2 h2' (blkDs_ints ds j bj hbj).live (blkDs_ints ds k bk hbk').live (fun ee => ?_) hu' hv' hg
          subst ee
          exact hjk ((List.getElem?_inj (List.getElem?_eq_some_iff.1 h1).1 hnd').1 (h1.trans h1'.symm))
        · intro g hg
          exact ⟨hG.na g hg.2, hG.nw g hg.2⟩
    · cases h
  · cases h
/-- A function. -/
theorem fun_calls {P : Program} {H : World → Prop} (hHs : ∀ w w', Below w.heap.size w w' → H w → H w') {f : FuncId} {fn : Func} {body : Code} (hf : P.funcs[f]? = some fn) (hname : (fn.name == "runtime.NumGoroutine") = false) (hb : fn.body = some body)
    {α : Type} {c : Cfg α} {r : α} (hT : TOK P c.T) (hC : CallOK P H c) (hW : CallWOK P H c) (hm : P.follows .mixedOrders = true) (hk : codeOk fn.ntmps body = true) {cuts : List (Nat × List (Nat × Want))} {n : Nat} {os : List Bool} {ds : List D} (hn : ds.length ≤ fn.ntmps) {sg : Sig α}
    (h : afun c idJ cuts n body fn.results.toList os ds sg.out = some r) : ∀ (w : World) (vals : List Value) (AB : Nat → Prop), H w → VRs (fun _ => none) AB w (ofDs ds 0) vals → (∀ g, AB g → g < w.heap.size) →
      Calls P f vals.toArray w fun e w' => ∃ v, e = .returned v ∧ Below w.heap.size w w' ∧ ∀ m, ResV m w AB w' (sg.enc r) v := by
  intro w vals AB hH hv hAB
  let E : Env := { P := P, H := H, w0 := w, AB := AB, nt := fn.ntmps, bor := none, hH := fun w' hw => hHs w w' ⟨hw.os, hw.tape, hw.output, hw.size, fun k hk => hw.block k hk (by intro h; cases h)⟩ hH }
  have hlen : ds.length = vals.length := by
    have h1 := hv.length
    have h2 : ∀ (ds : List D) (m : Nat), (ofDs ds m).length = ds.length := by
      intro ds
      induction ds with
      | nil => intro m; rfl
      | cons d ds ih => intro m; simp [ofDs, ih]
    rw [h2] at h1
    exact h1
  have hR : Rel E (start ds) { tmps := vals.toArray ++ Array.replicate (fn.ntmps - vals.toArray.size) undef, defers := [] } w := by
    refine ⟨fun _ => none, AB, ⟨rfl, ?_, fun t => ?_, fun i b u hb => ?_, fun i u h => (by cases h), fun i j b b' u v g hb => ?_, fun i b u g hb => ?_, hAB, fun g hg => .inl hg, ⟨rfl, rfl, rfl, Nat.le_refl _, fun _ _ _ => rfl⟩, fun g hg => ⟨hg, rfl⟩⟩, fun i hi => ?_⟩
    · simp; show vals.length + (fn.ntmps - vals.length) = fn.ntmps; omega
    · show VR _ _ _ (look (number (ofDs ds 0) 0) t) _
      rw [look_number, if_pos (Nat.zero_le t), Nat.sub_zero]
      cases hq : (ofDs ds 0)[t]? with
      | none => trivial
      | some v =>
        rw [Option.getD_some]
        obtain ⟨u, h1, h2⟩ := VRs.get hv t v (by rw [nth_eq]; exact hq)
        have hlt := (List.getElem?_eq_some_iff.1 h1).1
        have : (vals.toArray ++ Array.replicate (fn.ntmps - vals.toArray.size) undef).getD t undef = u := by
          rw [Array.getD_eq_getD_getElem?, Array.getElem?_append_left (by simpa using hlt)]
          simp [h1]
        rw [this]
        exact h2
    · simp [start] at hb
    · simp [start] at hb
    · simp [start] at hb
    · simp [start] at hi
  refine calls_of_wp hf hb ?_
  refine code_some (E := E) hT hC hW hm body 1 (start ds) _ _ _ w hk h hR fun e S' a' w' h' hR' => ?_
  have key : aout c fn.results.toList os sg.out S' = some r → a'.defers = [] ∧ ∃ v, (results fn a'.tmps).run P w' = .ok v w' ∧ ∃ v', Ending.returned v = .returned v' ∧ Below w.heap.size w w' ∧ ∀ m, ResV m w AB w' (sg.enc r) v' := by
    intro h2
    obtain ⟨ds', val, h3, h4, h5, h6⟩ := out_some (E := E) rfl hT hR' h2
    obtain ⟨ρ, N, hG, _⟩ := hR'
    have := sg.ok _ _ h3
    subst this
    exact ⟨hG.df, val, h4, val, rfl, h5, h6⟩
  cases e with
  | norm => exact key h'
  | ret => exact key h'
  | exit id => cases h'
theorem fun_some {P : Program} {H : World → Prop} (hHs : ∀ w w', Below w.heap.size w w' → H w → H w') {f : FuncId} {fn : Func} {body : Code} (hf : P.funcs[f]? = some fn) (hname : (fn.name == "runtime.NumGoroutine") = false) (hb : fn.body = some body)
    {α : Type} {c : Cfg α} {r : α} (hT : TOK P c.T) (hC : CallOK P H c) (hW : CallWOK P H c) (hm : P.follows .mixedOrders = true) (hk : codeOk fn.ntmps body = true) {cuts : List (Nat × List (Nat × Want))} {n : Nat} {os : List Bool} {ds : List D} (hn : ds.length ≤ fn.ntmps) {sg : Sig α}
    (h : afun c idJ cuts n body fn.results.toList os ds sg.out = some r) : CallD P H f ds (sg.enc r) :=
  fun w vals AB hH hv hAB => .inl ⟨fn, hf, hname, by rw [hb]; rfl, fun_calls hHs hf hname hb hT hC hW hm hk hn h w vals AB hH hv hAB⟩
theorem borOf_some : ∀ {hp : List Blk} {l : List Int}, borOf hp = some l → ∃ (i : Nat) (k : IntKind), hp[i]? = some (.bor k l)
  | [], l, h => by cases h
  | .bor k l' :: _, l, h => by simp only [borOf, Option.some.injEq] at h; subst h; exact ⟨0, k, rfl⟩
  | .ints _ _ _ :: r, l, h => by obtain ⟨i, k, hi⟩ := borOf_some (hp := r) h; exact ⟨i + 1, k, by simpa using hi⟩
  | .froz _ _ :: r, l, h => by obtain ⟨i, k, hi⟩ := borOf_some (hp := r) h; exact ⟨i + 1, k, by simpa using hi⟩
  | .room _ _ _ _ :: r, l, h => by obtain ⟨i, k, hi⟩ := borOf_some (hp := r) h; exact ⟨i + 1, k, by simpa using hi⟩
  | .frws _ _ :: r, l, h => by obtain ⟨i, k, hi⟩ := borOf_some (hp := r) h; exact ⟨i + 1, k, by simpa using hi⟩
  | .part _ _ :: r, l, h => by obtain ⟨i, k, hi⟩ := borOf_some (hp := r) h; exact ⟨i + 1, k, by simpa using hi⟩
  | .bpart _ :: r, l, h => by obtain ⟨i, k, hi⟩ := borOf_some (hp := r) h; exact ⟨i + 1, k, by simpa using hi⟩
  | .fpart _ :: r, l, h => by obtain ⟨i, k, hi⟩ := borOf_some (hp := r) h; exact ⟨i + 1, k, by simpa using hi⟩
  | .rws _ _ _ :: r, l, h => by obtain ⟨i, k, hi⟩ := borOf_some (hp := r) h; exact ⟨i + 1, k, by simpa using hi⟩
  | .fns _ _ :: r, l, h => by obtain ⟨i, k, hi⟩ := borOf_some (hp := r) h; exact ⟨i + 1, k, by simpa using hi⟩
  | .cells _ _ :: r, l, h => by obtain ⟨i, k, hi⟩ := borOf_some (hp := r) h; exact ⟨i + 1, k, by simpa using hi⟩
  | .dead :: r, l, h => by obtain ⟨i, k, hi⟩ := borOf_some (hp := r) h; exact ⟨i + 1, k, by simpa using hi⟩
/-- How a function that writes its first argument is told. -/
def sgw {β : Type} (s : Sig β) : List Int → List D → Option (List Int × β) := fun l ds => match s.out ds with
  | some x => some (l, x)
  | none => none
theorem sgw_ok {β : Type} {s : Sig β} {l : List Int} {ds : List D} {r : List Int × β} (h : sgw s l ds = some r) : l = r.1 ∧ ds = s.enc r.2 := by
  unfold sgw at h
  split at h
  · rename_i x hx
    simp only [Option.some.injEq] at h
    subst h
    exact ⟨rfl, s.ok _ _ hx⟩
  · cases h
/-- A function that writes its first argument. -/
theorem funw_some {P : Program} {H : World → Prop} {f : FuncId} {fn : Func} {body : Code} (hf : P.funcs[f]? = some fn) (hname : (fn.name == "runtime.NumGoroutine") = false) (hb : fn.body = some body)
    {β : Type} {c : Cfg (List Int × β)} {r : List Int × β} (hT : TOK P c.T) (hC : CallOK P H c) (hW : CallWOK P H c) (hm : P.follows .mixedOrders = true) (hk : codeOk fn.ntmps body = true) {cuts : List (Nat × List (Nat × Want))} {n : Nat} {l : List Int} {ds : List D} (hn : ds.length + 1 ≤ fn.ntmps) {sg : Sig β}
    (h : afunw c idJ cuts n body fn.results.toList l ds (sgw sg) = some r) : CallW P H f l ds r.1 (sg.enc r.2) := by
  intro w e g cap pre post vals AB hHs hh h0 hlc hv hAB
  let E : Env := { P := P, H := H, w0 := w, AB := AB, nt := fn.ntmps, bor := some ⟨g, l.length, e, .u64, pre, post⟩, hH := fun w' hw => hHs w' hw }
  have hlen : ds.length = vals.length := by
    have h1 := hv.length
    have h2 : ∀ (ds : List D) (m : Nat), (ofDs ds m).length = ds.length := by
      intro ds
      induction ds with
      | nil => intro m; rfl
      | cons d ds ih => intro m; simp [ofDs, ih]
    rw [h2] at h1
    exact h1
  let v0 : Value := .slice (some ⟨g, pre.length, none⟩) l.length cap
  have hv2 : VRs (fun i => if i = 0 then some v0 else none) AB w (.own 0 :: ofDs ds 0) (v0 :: vals) :=
    ⟨v0, vals, rfl, ⟨rfl, _, _, _, rfl⟩, VRs.keep (fun _ h => h) (fun _ _ => rfl) (fun _ _ h => by cases h) _ _ hv⟩
  have hR : Rel E (startw l ds) { tmps := (v0 :: vals).toArray ++ Array.replicate (fn.ntmps - (v0 :: vals).toArray.size) undef, defers := [] } w := by
    refine ⟨fun i => if i = 0 then some v0 else none, AB, ⟨rfl, ?_, fun t => ?_, fun i b u hb hu => ?_, fun i u h => ?_, fun i j b b' u v q hb hb' _ _ hij hu hv' => ?_, fun i b u q hb _ hu hq => ?_, fun q hq => (hAB q hq).1, fun q hq => .inl hq, ⟨rfl, rfl, rfl, Nat.le_refl _, fun _ _ _ => rfl⟩, fun q hq => ⟨hq, rfl⟩⟩, fun i hi => ?_⟩
    · simp; show vals.length + 1 + (fn.ntmps - (vals.length + 1)) = fn.ntmps; omega
    · show VR _ _ _ (look (number (.own 0 :: ofDs ds 0) 0) t) _
      rw [look_number, if_pos (Nat.zero_le t), Nat.sub_zero]
      cases hq : (AV.own 0 :: ofDs ds 0)[t]? with
      | none => trivial
      | some v =>
        rw [Option.getD_some]
        obtain ⟨u, h1, h2⟩ := VRs.get hv2 t v (by rw [nth_eq]; exact hq)
        have hlt := (List.getElem?_eq_some_iff.1 h1).1
        have : ((v0 :: vals).toArray ++ Array.replicate (fn.ntmps - (v0 :: vals).toArray.size) undef).getD t undef = u := by
          rw [Array.getD_eq_getD_getElem?, Array.getElem?_append_left (by simpa using hlt)]
          simp [h1]
        rw [this]
        exact h2
    · have hi : i = 0 := by
        have := (List.getElem?_eq_some_iff.1 hb).1
        simp [startw] at this; exact this
      subst hi
      simp only [startw, List.getElem?_cons_zero, Option.some.injEq] at hb
      subst hb
      simp only [if_pos, Option.some.injEq] at hu
      subst hu
      exact ⟨_, cap, rfl, ⟨rfl, rfl⟩, rfl, hlc, h0, hh⟩
    · split at h
      · rename_i e; subst e; simp [startw]
      · cases h
    · have h1 := (List.getElem?_eq_some_iff.1 hb).1
      have h2 := (List.getElem?_eq_some_iff.1 hb').1
      simp [startw] at h1 h2
      omega
    · split at hu
      · simp only [Option.some.injEq] at hu
        subst hu
        simp only [v0, hand, Option.some.injEq] at hq
        exact fun hN => (hAB q hN).2 hq.symm
      · cases hu
    · simp [startw] at hi
      subst hi
      exact ⟨v0, rfl⟩
  refine .inl ⟨fn, hf, hname, by rw [hb]; rfl, calls_of_wp hf hb ?_⟩
  refine code_some (E := E) hT hC hW hm body 1 (startw l ds) _ _ _ w hk h hR fun e' S' a' w' h' hR' => ?_
  have key : aoutw c fn.results.toList (sgw sg) S' = some r → a'.defers = [] ∧ ∃ v, (results fn a'.tmps).run P w' = .ok v w' ∧ ∃ v', Ending.returned v = .returned v' ∧ w.grownBy w' (some g) ∧ r.1.length = l.length ∧ w'.heap[g]? = some (.cells (pre ++ r.1.map (Value.int .u64) ++ post).toArray e (0, 0)) ∧ v' = packV (sg.enc r.2) := by
    intro h2
    obtain ⟨ρ, N, hG, hTt⟩ := hR'
    unfold aoutw at h2
    split at h2
    · rename_i vs hvs
      obtain ⟨us, hrun, hvr⟩ := aresults_run hT hG hvs
      split at h2
      · rename_i ds' l' hds hbo
        split at h2
        · rename_i hsc
          obtain ⟨e1, e2⟩ := sgw_ok h2
          subst e1
          obtain ⟨i, k, hi⟩ := borOf_some hbo
          obtain ⟨u, hu⟩ := hTt i (List.getElem?_eq_some_iff.1 hi).1
          obtain ⟨d, cc, h3, h4, h5, h6, h7, h8⟩ := hG.bl i _ u hi hu
          have h3' : some (⟨g, l.length, e, .u64, pre, post⟩ : Bor) = some d := h3
          injection h3' with h3'
          subst h3'
          have hall := toRs_VR (ρ' := fun _ => none) hG.bl vs us ds' 0 hvr hds (fun k i hki => by
            have h9 := (toRs_len hds).1
            rw [scal_blks (scals_all hsc)] at h9
            have := (List.getElem?_eq_some_iff.1 hki).1
            simp at h9; omega)
          have hus := (scal_ofDs (scals_all hsc) 0).1 hall
          refine ⟨hG.df, if h : us.toArray.size = 1 then us.toArray[0] else .tuple us.toArray, ?_, _, rfl, hG.fr, h4.1.symm, ?_, ?_⟩
          · have e : results fn a'.tmps = (do let vs ← fn.results.mapM (resOf a'.tmps); pure (if h : vs.size = 1 then vs[0] else .tuple vs)) := by
              unfold results
              congr 2
            rw [e, Sem.run_bind, Array.mapM_eq_mapM_toList, Sem.run_map, hrun]
            rfl
          · have hk : IntKind.u64 = k := h4.2
            subst hk
            exact h8
          · rw [← e2, hus]
            match ds', hsc with
            | [], _ => rfl
            | [d], _ => rfl
            | d :: d2 :: r, _ => simp [packV]
        · cases h2
      · cases h2
    · cases h2
  cases e' with
  | norm => exact key h'
  | ret => exact key h'
  | exit id => cases h'
theorem brecOf_some : ∀ {hp : List Blk} {ss : List Seg}, brecOf hp = some ss → ∃ (i : Nat), hp[i]? = some (.bpart ss)
  | [], l, h => by cases h
  | .bpart l' :: _, l, h => by simp only [brecOf, Option.some.injEq] at h; subst h; exact ⟨0, rfl⟩
  | .bor _ _ :: r, l, h => by obtain ⟨i, hi⟩ := brecOf_some (hp := r) h; exact ⟨i + 1, by simpa using hi⟩
  | .ints _ _ _ :: r, l, h => by obtain ⟨i, hi⟩ := brecOf_some (hp := r) h; exact ⟨i + 1, by simpa using hi⟩
  | .froz _ _ :: r, l, h => by obtain ⟨i, hi⟩ := brecOf_some (hp := r) h; exact ⟨i + 1, by simpa using hi⟩
  | .room _ _ _ _ :: r, l, h => by obtain ⟨i, hi⟩ := brecOf_some (hp := r) h; exact ⟨i + 1, by simpa using hi⟩
  | .frws _ _ :: r, l, h => by obtain ⟨i, hi⟩ := brecOf_some (hp := r) h; exact ⟨i + 1, by simpa using hi⟩
  | .part _ _ :: r, l, h => by obtain ⟨i, hi⟩ := brecOf_some (hp := r) h; exact ⟨i + 1, by simpa using hi⟩
  | .fpart _ :: r, l, h => by obtain ⟨i, hi⟩ := brecOf_some (hp := r) h; exact ⟨i + 1, by simpa using hi⟩
  | .rws _ _ _ :: r, l, h => by obtain ⟨i, hi⟩ := brecOf_some (hp := r) h; exact ⟨i + 1, by simpa using hi⟩
  | .fns _ _ :: r, l, h => by obtain ⟨i, hi⟩ := brecOf_some (hp := r) h; exact ⟨i + 1, by simpa using hi⟩
  | .cells _ _ :: r, l, h => by obtain ⟨i, hi⟩ := brecOf_some (hp := r) h; exact ⟨i + 1, by simpa using hi⟩
  | .dead :: r, l, h => by obtain ⟨i, hi⟩ := brecOf_some (hp := r) h; exact ⟨i + 1, by simpa using hi⟩
/-- How the parts that are written are told. -/
structure SegSig (γ : Type) where
  out : List Seg → Option γ
  enc : γ → List Seg
  ok : ∀ d x, out d = some x → d = enc x
def gArr (k : IntKind) (n : Nat) : SegSig (List Int) where
  out := fun ss => match ss with
    | [.arr k' n' l] => match kEq k k', Nat.beq n n' with
      | true, true => some l
      | _, _ => none
    | _ => none
  enc := fun l => [.arr k n l]
  ok := fun d x h => by
    split at h
    · split at h
      · rename_i hk hn
        rw [← kEq_eq hk, ← Nat.eq_of_beq_eq_true hn]
        simp only [Option.some.injEq] at h
        rw [h]
      · cases h
    · cases h
def gBool : SegSig Bool where
  out := fun ss => match ss with
    | [.bool b] => some b
    | _ => none
  enc := fun b => [.bool b]
  ok := fun d x h => by
    split at h
    · simp only [Option.some.injEq] at h
      rw [h]
    · cases h
def gcArr {γ : Type} (k : IntKind) (n : Nat) (s : SegSig γ) : SegSig (List Int × γ) where
  out := fun ss => match ss with
    | .arr k' n' l :: r => match kEq k k', Nat.beq n n', s.out r with
      | true, true, some x => some (l, x)
      | _, _, _ => none
    | _ => none
  enc := fun x => .arr k n x.1 :: s.enc x.2
  ok := fun d x h => by
    split at h
    · split at h
      · rename_i hk hn hx
        simp only [Option.some.injEq] at h
        subst h
        rw [← kEq_eq hk, ← Nat.eq_of_beq_eq_true hn, s.ok _ _ hx]
      · cases h
    · cases h
def gcBool {γ : Type} (s : SegSig γ) : SegSig (Bool × γ) where
  out := fun ss => match ss with
    | .bool b :: r => match s.out r with
      | some x => some (b, x)
      | none => none
    | _ => none
  enc := fun x => .bool x.1 :: s.enc x.2
  ok := fun d x h => by
    split at h
    · split at h
      · rename_i hx
        simp only [Option.some.injEq] at h
        subst h
        rw [s.ok _ _ hx]
      · cases h
    · cases h
def gcInt {γ : Type} (k : IntKind) (s : SegSig γ) : SegSig (Int × γ) where
  out := fun ss => match ss with
    | .int k' n :: r => match kEq k k', s.out r with
      | true, some x => some (n, x)
      | _, _ => none
    | _ => none
  enc := fun x => .int k x.1 :: s.enc x.2
  ok := fun d x h => by
    split at h
    · split at h
      · rename_i hk hx
        simp only [Option.some.injEq] at h
        subst h
        rw [← kEq_eq hk, s.ok _ _ hx]
      · cases h
    · cases h
/-- A result: a box of the call's own. -/
def sBox {γ : Type} (t : Nat) (s : SegSig γ) : Sig1 γ where
  out := fun d => match d with
    | .box t' ss => match Nat.beq t t' with
      | true => s.out ss
      | false => none
    | _ => none
  enc := fun x => .box t (s.enc x)
  ok := fun d x h => by
    split at h
    · split at h
      · rename_i ht
        rw [← Nat.eq_of_beq_eq_true ht, s.ok _ _ h]
      · cases h
    · cases h
def sgp {γ β : Type} (g : SegSig γ) (s : Sig β) : List Seg → List D → Option (γ × β) := fun ss ds => match g.out ss, s.out ds with
  | some x, some y => some (x, y)
  | _, _ => none
theorem sgp_ok {γ β : Type} {g : SegSig γ} {s : Sig β} {ss : List Seg} {ds : List D} {r : γ × β} (h : sgp g s ss ds = some r) : ss = g.enc r.1 ∧ ds = s.enc r.2 := by
  unfold sgp at h
  split at h
  · rename_i x y hx hy
    simp only [Option.some.injEq] at h
    subst h
    exact ⟨g.ok _ _ hx, s.ok _ _ hy⟩
  · cases h
theorem start_tm {fn : Func} {vs : List AV} {vals : List Value} {ρ : Nat → Option Value} {N : Nat → Prop} {w : World} (hv : VRs ρ N w vs vals) (t : Nat) : VR ρ N w (look (number vs 0) t) ((vals.toArray ++ Array.replicate (fn.ntmps - vals.toArray.size) undef).getD t undef) := by
  rw [look_number, if_pos (Nat.zero_le t), Nat.sub_zero]
  cases hq : vs[t]? with
  | none => trivial
  | some v =>
    rw [Option.getD_some]
    obtain ⟨u, h1, h2⟩ := VRs.get hv t v (by rw [nth_eq]; exact hq)
    have hlt := (List.getElem?_eq_some_iff.1 h1).1
    have : (vals.toArray ++ Array.replicate (fn.ntmps - vals.toArray.size) undef).getD t undef = u := by
      rw [Array.getD_eq_getD_getElem?, Array.getElem?_append_left (by simpa using hlt)]
      simp [h1]
    rw [this]
    exact h2
theorem ofDs_len : ∀ (ds : List D) (m : Nat), (ofDs ds m).length = ds.length
  | [], m => rfl
  | d :: ds, m => by simp [ofDs, ofDs_len ds]
theorem run_results {P : Program} {fn : Func} {us : List Value} (hrun : (fn.results.toList.mapM (resOf a.tmps)).run P w = .ok us w) : (results fn a.tmps).run P w = .ok (if h : us.toArray.size = 1 then us.toArray[0] else .tuple us.toArray) w := by
  have e : results fn a.tmps = (do let vs ← fn.results.mapM (resOf a.tmps); pure (if h : vs.size = 1 then vs[0] else .tuple vs)) := by
    unfold results
    congr 2
  rw [e, Sem.run_bind, Array.mapM_eq_mapM_toList, Sem.run_map, hrun]
  rfl
/-- A function that writes through its first argument. -/
theorem funp_some {P : Program} {H : World → Prop} {f : FuncId} {fn : Func} {body : Code} (hf : P.funcs[f]? = some fn) (hname : (fn.name == "runtime.NumGoroutine") = false) (hb : fn.body = some body)
    {γ β : Type} {c : Cfg (γ × β)} {r : γ × β} (hT : TOK P c.T) (hC : CallOK P H c) (hW : CallWOK P H c) (hm : P.follows .mixedOrders = true) (hk : codeOk fn.ntmps body = true) {cuts : List (Nat × List (Nat × Want))} {n : Nat} {al : Bool} {ss : List Seg} {ds : List D} (hn : ds.length + 2 ≤ fn.ntmps) {gs : SegSig γ} {sg : Sig β}
    (h : afunp c idJ cuts n body fn.results.toList al ss ds (sgp gs sg) = some r) : CallP P H f al ss ds (gs.enc r.1) (sg.enc r.2) := by
  intro w e g pre mid post vals AB hHs hh hs hv hAB
  let d0 : Bor := ⟨g, 0, e, .u64, pre, post⟩
  let E : Env := { P := P, H := H, w0 := w, AB := AB, nt := fn.ntmps, bor := some d0, hH := fun w' hw => hHs w' hw }
  have hlen : ds.length = vals.length := by
    have h1 := hv.length
    rw [ofDs_len] at h1
    exact h1
  let v0 : Value := .pointer (some ⟨g, pre.length, none⟩)
  let vs0 : List AV := (AV.rp 0 0 :: (if al = true then [AV.rp 0 0] else [])) ++ ofDs ds 0
  let vals0 : List Value := (v0 :: (if al = true then [v0] else [])) ++ vals
  have hself : VR (fun i => if i = 0 then some v0 else none) AB w (.rp 0 0) v0 := ⟨g, pre.length, rfl, rfl⟩
  have hv' : VRs (fun i => if i = 0 then some v0 else none) AB w (ofDs ds 0) vals := VRs.keep (fun _ h => h) (fun _ _ => rfl) (fun _ _ h => by cases h) _ _ hv
  have hv2 : VRs (fun i => if i = 0 then some v0 else none) AB w vs0 vals0 := by
    cases al with
    | false => exact ⟨v0, vals, rfl, hself, hv'⟩
    | true => exact ⟨v0, v0 :: vals, rfl, hself, v0, vals, rfl, hself, hv'⟩
  have hstart : startp al ss ds = { tm := number vs0 0, hp := [.bpart (dull ss)] } := by cases al <;> rfl
  have hsz : vals0.length ≤ fn.ntmps := by
    cases al <;> simp [vals0] <;> omega
  have hR : Rel E (startp al ss ds) { tmps := vals0.toArray ++ Array.replicate (fn.ntmps - vals0.toArray.size) undef, defers := [] } w := by
    rw [hstart]
    refine ⟨fun i => if i = 0 then some v0 else none, AB, ⟨rfl, ?_, fun t => start_tm hv2 t, fun i b u hb hu => ?_, fun i u h => ?_, fun i j b b' u v q hb hb' _ _ hij hu hv' => ?_, fun i b u q hb _ hu hq => ?_, fun q hq => (hAB q hq).1, fun q hq => .inl hq, ⟨rfl, rfl, rfl, Nat.le_refl _, fun _ _ _ => rfl⟩, fun q hq => ⟨hq, rfl⟩⟩, fun i hi => ?_⟩
    · simp only [Array.size_append, List.size_toArray, Array.size_replicate]
      show vals0.length + (fn.ntmps - vals0.length) = fn.ntmps
      omega
    · have hi : i = 0 := by
        have := (List.getElem?_eq_some_iff.1 hb).1
        simp at this; exact this
      subst hi
      simp only [List.getElem?_cons_zero, Option.some.injEq] at hb
      subst hb
      simp only [if_pos, Option.some.injEq] at hu
      subst hu
      exact ⟨d0, mid, rfl, rfl, hh, SegsV.dull hs⟩
    · split at h
      · rename_i e; subst e; simp
      · cases h
    · have h1 := (List.getElem?_eq_some_iff.1 hb).1
      have h2 := (List.getElem?_eq_some_iff.1 hb').1
      simp at h1 h2
      omega
    · split at hu
      · simp only [Option.some.injEq] at hu
        subst hu
        simp only [v0, hand, Option.some.injEq] at hq
        exact fun hN => (hAB q hN).2 hq.symm
      · cases hu
    · simp at hi
      subst hi
      exact ⟨v0, rfl⟩
  refine .inl ⟨fn, hf, hname, by rw [hb]; rfl, calls_of_wp hf hb ?_⟩
  refine code_some (E := E) hT hC hW hm body 1 (startp al ss ds) _ _ _ w hk h hR fun e' S' a' w' h' hR' => ?_
  have key : aoutp c fn.results.toList (sgp gs sg) S' = some r → a'.defers = [] ∧ ∃ v, (results fn a'.tmps).run P w' = .ok v w' ∧ ∃ v', Ending.returned v = .returned v' ∧ w.grownBy w' (some g) ∧ v' = packV (sg.enc r.2) ∧ ∃ (mid' : List Value) (N : Nat → Prop), w'.heap[g]? = some (.cells (pre ++ mid' ++ post).toArray e (0, 0)) ∧ SegsV N 0 w' (gs.enc r.1) mid' := by
    intro h2
    obtain ⟨ρ, N, hG, hTt⟩ := hR'
    unfold aoutp at h2
    split at h2
    · rename_i vs hvs
      obtain ⟨us, hrun, hvr⟩ := aresults_run hT hG hvs
      split at h2
      · rename_i ds' l' hds hbo
        split at h2
        · rename_i hsc
          obtain ⟨e1, e2⟩ := sgp_ok h2
          subst e1
          obtain ⟨i, hi⟩ := brecOf_some hbo
          obtain ⟨u, hu⟩ := hTt i (List.getElem?_eq_some_iff.1 hi).1
          obtain ⟨d, mid', h3, _, h4, h5⟩ := hG.bl i _ u hi hu
          have h3' : some d0 = some d := h3
          injection h3' with h3'
          subst h3'
          have hall := toRs_VR (ρ' := fun _ => none) hG.bl vs us ds' 0 hvr hds (fun k i hki => by
            have h9 := (toRs_len hds).1
            rw [scal_blks (scals_all hsc)] at h9
            have := (List.getElem?_eq_some_iff.1 hki).1
            simp at h9; omega)
          have hus := (scal_ofDs (scals_all hsc) 0).1 hall
          refine ⟨hG.df, _, run_results hrun, _, rfl, hG.fr, ?_, mid', N, h4, SegsV.keep (fun _ h => h) (Nat.zero_le _) (fun _ _ => rfl) h5⟩
          rw [← e2, hus]
          match ds', hsc with
          | [], _ => rfl
          | [d], _ => rfl
          | d :: d2 :: r, _ => simp [packV]
        · cases h2
      · cases h2
    · cases h2
  cases e' with
  | norm => exact key h'
  | ret => exact key h'
  | exit id => cases h'
/-- A function that answers a pointer into what its first argument points to. -/
theorem funq_some {P : Program} {H : World → Prop} {f : FuncId} {fn : Func} {body : Code} (hf : P.funcs[f]? = some fn) (hname : (fn.name == "runtime.NumGoroutine") = false) (hb : fn.body = some body)
    {c : Cfg Int} {r : Int} (hT : TOK P c.T) (hC : CallOK P H c) (hW : CallWOK P H c) (hm : P.follows .mixedOrders = true) (hk : codeOk fn.ntmps body = true) {cuts : List (Nat × List (Nat × Want))} {n : Nat} {ds : List D} (hn : ds.length + 1 ≤ fn.ntmps)
    (h : afunq c idJ cuts n body fn.results.toList ds some = some r) : CallQ P H f ds r := by
  intro w g b0 e arr vals hHs hh hb0 hv
  let d0 : Bor := ⟨g, 0, e, .u64, arr.toList.take b0, arr.toList.drop b0⟩
  let E : Env := { P := P, H := H, w0 := w, AB := fun _ => False, nt := fn.ntmps, bor := some d0, hH := fun w' hw => hHs w' hw }
  have hlen : ds.length = vals.length := by
    have h1 := hv.length
    rw [ofDs_len] at h1
    exact h1
  have hpl : (arr.toList.take b0).length = b0 := by simp; omega
  have hcell : ∀ {e0 : Nat}, (Obj.cells (arr.toList.take b0 ++ [] ++ arr.toList.drop b0).toArray e0 (0, 0)) = Obj.cells arr e0 (0, 0) := by
    intro e0
    congr 1
    apply Array.ext'
    simp [List.take_append_drop]
  let v0 : Value := .pointer (some ⟨g, b0, none⟩)
  have hself : VR (fun i => if i = 0 then some v0 else none) (fun _ => False) w (.rp 0 0) v0 := ⟨g, b0, rfl, rfl⟩
  have hv' : VRs (fun i => if i = 0 then some v0 else none) (fun _ => False) w (ofDs ds 0) vals := VRs.keep (fun _ h => h) (fun _ _ => rfl) (fun _ _ h => by cases h) _ _ hv
  have hv2 : VRs (fun i => if i = 0 then some v0 else none) (fun _ => False) w (AV.rp 0 0 :: ofDs ds 0) (v0 :: vals) := ⟨v0, vals, rfl, hself, hv'⟩
  have hR : Rel E (startq ds) { tmps := (v0 :: vals).toArray ++ Array.replicate (fn.ntmps - (v0 :: vals).toArray.size) undef, defers := [] } w := by
    refine ⟨fun i => if i = 0 then some v0 else none, fun _ => False, ⟨rfl, ?_, fun t => start_tm hv2 t, fun i b u hb hu => ?_, fun i u h => ?_, fun i j b b' u v q hb hb' _ _ hij hu hv' => ?_, fun i b u q hb _ hu hq h => h, fun q hq => hq.elim, fun q hq => hq.elim, ⟨rfl, rfl, rfl, Nat.le_refl _, fun _ _ _ => rfl⟩, fun q hq => hq.elim⟩, fun i hi => ?_⟩
    · simp only [Array.size_append, List.size_toArray, Array.size_replicate]
      show vals.length + 1 + (fn.ntmps - (vals.length + 1)) = fn.ntmps
      omega
    · have hi : i = 0 := by
        have := (List.getElem?_eq_some_iff.1 hb).1
        simp [startq] at this; exact this
      subst hi
      simp only [startq, List.getElem?_cons_zero, Option.some.injEq] at hb
      subst hb
      simp only [if_pos, Option.some.injEq] at hu
      subst hu
      exact ⟨d0, [], rfl, by simp only [d0, hpl, v0], by rw [hcell]; exact hh, rfl⟩
    · split at h
      · rename_i e; subst e; simp [startq]
      · cases h
    · have h1 := (List.getElem?_eq_some_iff.1 hb).1
      have h2 := (List.getElem?_eq_some_iff.1 hb').1
      simp [startq] at h1 h2
      omega
    · simp [startq] at hi
      subst hi
      exact ⟨v0, rfl⟩
  refine .inl ⟨fn, hf, hname, by rw [hb]; rfl, calls_of_wp hf hb ?_⟩
  refine code_some (E := E) hT hC hW hm body 1 (startq ds) _ _ _ w hk h hR fun e' S' a' w' h' hR' => ?_
  have key : aoutq c fn.results.toList some S' = some r → a'.defers = [] ∧ ∃ v, (results fn a'.tmps).run P w' = .ok v w' ∧ ∃ v', Ending.returned v = .returned v' ∧ Below w.heap.size w w' ∧ 0 ≤ r ∧ v' = .pointer (some ⟨g, b0 + r.toNat, none⟩) := by
    intro h2
    obtain ⟨ρ, N, hG, hTt⟩ := hR'
    unfold aoutq at h2
    split at h2
    · rename_i i o hvs
      obtain ⟨us, hrun, hvr⟩ := aresults_run hT hG hvs
      split at h2
      · rename_i hi
        simp only [Option.some.injEq] at h2
        subst h2
        rw [nth_eq] at hi
        obtain ⟨u, hu⟩ := hTt i (List.getElem?_eq_some_iff.1 hi).1
        obtain ⟨d, mid', h3, h6, h4, h5⟩ := hG.bl i _ u hi hu
        have h3' : some d0 = some d := h3
        injection h3' with h3'
        subst h3'
        obtain ⟨x, us', rfl, ⟨g2, b2, h7, h8⟩, h9⟩ := hvr
        obtain rfl : us' = [] := h9
        rw [hu, h6] at h7
        simp only [Option.some.injEq, Value.pointer.injEq, Addr.mk.injEq, and_true] at h7
        obtain ⟨rfl, rfl⟩ := h7
        refine ⟨hG.df, _, run_results hrun, _, rfl, ⟨hG.fr.os, hG.fr.tape, hG.fr.output, hG.fr.size, fun k hk => ?_⟩, Int.natCast_nonneg _, ?_⟩
        · by_cases hkg : k = g
          · subst hkg
            rw [hh]
            obtain rfl : mid' = [] := h5
            exact h4.trans (congrArg some hcell)
          · exact hG.fr.block k hk (fun e => hkg (Option.some.inj e))
        · show x = _
          rw [h8, Int.toNat_natCast]
          simp only [d0, hpl]
      · cases h2
    · cases h2
  cases e' with
  | norm => exact key h'
  | ret => exact key h'
  | exit id => cases h'
end
end Go.Proofs.YtcacmhcekoeblaaDoorA
