/- Regions, all together; code without loops' cuts. No conditions. -/
import Derived.Test.YtcacmhcekoeblaaDoorA12
namespace Go.Proofs.YtcacmhcekoeblaaDoorA
open Go.RowKit
set_option linter.unusedVariables false
set_option linter.unusedSimpArgs false
set_option linter.unusedSectionVars false
section
variable {α : Type} {E : Env} {r : α} {c : Cfg α} {S : ASt} {a : Act} {w : World}
theorem rel_drew (h : Rel E S a w) : Rel E S a { w with drawn := w.drawn + 1 } := by
  obtain ⟨ρ, N, hG, hT⟩ := h
  refine ⟨ρ, N, ⟨hG.df, hG.sz, fun t => VR.keep (w := w) (w' := { w with drawn := w.drawn + 1 }) (fun _ h => h) (fun _ _ => rfl) (fun _ _ h => h) _ _ (hG.tm t), fun i b u hb hu => BR.keep (w := w) (w' := { w with drawn := w.drawn + 1 }) (fun _ h => h) (fun _ _ => rfl) (fun _ _ h => h) (fun _ _ _ => rfl) (hG.bl i b u hb hu), hG.lo, hG.ds, hG.nn, hG.nw, hG.na, ⟨hG.fr.os, hG.fr.tape, hG.fr.output, hG.fr.size, hG.fr.block⟩, hG.kp⟩, hT⟩
theorem all_listed {listed : Array Bool} (h : listed.toList.count false = 0) (k : Nat) (hk : k < listed.size) : listed.getD k false = true := by
  have h1 : ¬ false ∈ listed.toList := List.count_eq_zero.1 h
  rw [Array.getD_eq_getD_getElem?, Array.getElem?_eq_getElem hk, Option.getD_some]
  cases hq : listed[k] with
  | true => rfl
  | false => exact absurd (by rw [← hq]; exact Array.mem_toList_iff.2 (Array.getElem_mem hk)) h1
theorem some_unlisted {listed : Array Bool} (h : listed.toList.count false ≠ 0) : ∃ i, i < listed.size ∧ listed.getD i false = false ∧ ∀ j, j < i → listed.getD j false = true := by
  have h1 : ∃ i, i < listed.size ∧ listed.getD i false = false := by
    have h1 : false ∈ listed.toList := by
      rcases Decidable.em (false ∈ listed.toList) with h2 | h2
      · exact h2
      · exact absurd (List.count_eq_zero.2 h2) h
    obtain ⟨i, hi, he⟩ := Array.mem_iff_getElem.1 (Array.mem_toList_iff.1 h1)
    exact ⟨i, hi, by rw [Array.getD_eq_getD_getElem?, Array.getElem?_eq_getElem hi, Option.getD_some, he]⟩
  obtain ⟨i, hi⟩ := h1
  induction i using Nat.strongRecOn with
  | _ i ih =>
    by_cases hj : ∃ j, j < i ∧ listed.getD j false = false
    · obtain ⟨j, hj1, hj2⟩ := hj
      exact ih j hj1 ⟨by omega, hj2⟩
    · refine ⟨i, hi.1, hi.2, fun j hji => ?_⟩
      cases hq : listed.getD j false with
      | true => rfl
      | false => exact absurd ⟨j, hji, hq⟩ hj
theorem mem_ready_of {ops : Array Oper} {listed : Array Bool} (hsz : listed.size = ops.size) (hedge : ∀ i o j, ops.toList[i]? = some o → waits o j = true → j < i) {i : Nat} (hi : i < listed.size) (hf : listed.getD i false = false) (hlo : ∀ j, j < i → listed.getD j false = true) : i ∈ Region.ready .any ops listed := by
  refine mem_ready.2 ⟨?_, ops[i], Array.getElem?_eq_getElem (by omega), fun e he hb => ?_⟩
  · rw [Array.getD_eq_getD_getElem?, Array.getElem?_eq_getElem hi, Option.getD_some] at hf ⊢
    exact hf
  · refine hlo _ (hedge i ops[i] e.on (by rw [Array.getElem?_toList]; exact Array.getElem?_eq_getElem (by omega)) ?_)
    unfold waits
    exact List.any_eq_true.2 ⟨e, Array.mem_toList_iff.2 he, by rw [hb]; simp⟩
theorem done_ready {ops : Array Oper} {listed : Array Bool} (h : ∀ k, k < ops.size → listed.getD k false = true) : Region.ready .any ops listed = [] := by
  apply List.eq_nil_iff_forall_not_mem.2
  intro i hi
  obtain ⟨h1, o, ho, _⟩ := mem_ready.1 hi
  have hlt : i < ops.size := (Array.getElem?_eq_some_iff.1 ho).1
  have := h i hlt
  rw [Array.getD_eq_getD_getElem?] at h1 this
  cases hq : listed[i]? with
  | none => rw [hq] at this; cases this
  | some b => rw [hq] at h1 this; simp only [Option.getD_some] at h1 this; rw [h1] at this; cases this
theorem reach_listed {ops : Array Oper} {n l i : Nat} {o : Oper} {listed : Array Bool} (HF : DrawFacts n ops.toList) (hclo : ∀ k o' j, Done n listed k → ops.toList[k]? = some o' → waits o' j = true → listed.getD j false = true) (hi : i ∈ Region.ready .any ops listed) (ho : ops[i]? = some o) (hr : reach ops.toList n o l = true) : ∀ j, j < n → j ≠ l → listed.getD j false = true := by
  have key : ∀ d j, n - j ≤ d → j < n → j ≠ l → listed.getD j false = true := by
    intro d
    induction d with
    | zero => intro j h1 h2; omega
    | succ d ih =>
      intro j h1 h2 h3
      have h4 := List.all_eq_true.1 hr j (List.mem_range.2 h2)
      simp only [Bool.or_eq_true] at h4
      rcases h4 with (h4 | h4) | h4
      · exact absurd (Nat.eq_of_beq_eq_true h4) h3
      · exact waits_ready hi ho h4
      · obtain ⟨k, hk, h5⟩ := List.any_eq_true.1 h4
        rw [Bool.and_eq_true] at h5
        obtain ⟨h5, h6⟩ := h5
        have hkn := List.mem_range.1 hk
        split at h6
        · rename_i ok hok
          rw [nth_eq] at hok
          have hjk := HF.edge k ok j hok h6
          have hkl : k ≠ l := fun e => by subst e; rw [Nat.beq_refl] at h5; cases h5
          exact hclo k ok j ⟨hkn, ih k (by omega) hkn hkl⟩ hok h6
        · cases h6
  exact fun j h1 h2 => key (n - j) j (Nat.le_refl _) h1 h2
/-- Any order. -/
theorem draw_any {ops : Array Oper} {n : Nat} {st sr : Nat → ASt} {sv : Nat → AV} {nb : Nat → List Blk} {Q : Exit → Act → World → Prop}
    (hst : ∀ i o, i < n → ops.toList[i]? = some o → StepOK E ops.toList (st i) (sr i) (st (i + 1)) (sv i) (nb i) o) (hn : n ≤ ops.toList.length) (HF : DrawFacts n ops.toList) (hok : ∀ o, o ∈ ops.toList → okDst E.nt o = true)
    (hfin : (n = ops.size ∧ ∀ a w, Rel E (st n) a w → Q .normal a w) ∨ (n + 1 = ops.size ∧ (∀ o, ops.toList[n]? = some o → reach ops.toList n o n = true) ∧ ∀ a w (K : Act → World → Prop), Rel E (st n) a w → (∀ a' w', Q .normal a' w' → K a' w') → wpOp E.P ops Q n K a w)) :
    ∀ (fuel : Nat) (listed : Array Bool) (a : Act) (w : World), listed.size = ops.size → listed.toList.count false = fuel → (∀ k, n ≤ k → listed.getD k false = false) → Inv E ops n st sv listed a w → wpAny E.P .any ops Q fuel listed a w
  | 0, listed, a, w, hsz, hc, hhi, hI => by
    have hall := all_listed hc
    rcases hfin with ⟨h1, hq⟩ | ⟨h1, _⟩
    · have hd := inv_end hst hn hI (fun k hk => hall k (by omega))
      exact ⟨done_ready (fun k hk => hall k (by omega)), hq a w hd⟩
    · have h2 := hall n (by omega)
      rw [hhi n (Nat.le_refl _)] at h2
      cases h2
  | fuel + 1, listed, a, w, hsz, hc, hhi, hI => by
    refine ⟨fun hr => ?_, fun i hi => ?_⟩
    · obtain ⟨i, h1, h2, h3⟩ := some_unlisted (by rw [hc]; omega)
      have := mem_ready_of hsz HF.edge h1 h2 h3
      rw [hr] at this
      cases this
    · obtain ⟨hu, o, ho, hed⟩ := mem_ready.1 hi
      have hio : i < ops.size := (Array.getElem?_eq_some_iff.1 ho).1
      have hul : listed.getD i false = false := by
        rw [Array.getD_eq_getD_getElem?, Array.getElem?_eq_getElem (by omega), Option.getD_some] at hu ⊢
        exact hu
      have hol : ops.toList[i]? = some o := by rw [Array.getElem?_toList]; exact ho
      have hcnt : (listed.setIfInBounds i true).toList.count false = fuel := by
        have h2 := cnt_set listed.toList i (by
          rw [Array.getElem?_toList, Array.getElem?_eq_getElem (by omega)]
          rw [Array.getD_eq_getD_getElem?, Array.getElem?_eq_getElem (by omega), Option.getD_some] at hul
          rw [hul])
        rw [Array.toList_setIfInBounds]
        omega
      by_cases hin : i < n
      · refine inv_step (H := HF) hst hn hI hin hsz ho hi hul (hok o (List.mem_of_getElem? hol)) fun a' w' hI' => ?_
        refine draw_any hst hn HF hok hfin fuel _ a' w' (by simpa using hsz) hcnt (fun k hk => ?_) hI'
        rw [getD_set hst hn (by omega), if_neg (by omega)]
        exact hhi k hk
      · rcases hfin with ⟨h1, _⟩ | ⟨h1, hwt, hgo⟩
        · omega
        · have hin' : i = n := by omega
          subst hin'
          have hall : ∀ k, k < i → listed.getD k false = true := fun k hk => reach_listed HF hI.clo hi ho (hwt o hol) k hk (by omega)
          refine hgo a w _ (inv_end hst hn hI hall) fun a' w' hq => wpAny_done (done_ready fun k hk => ?_) hq fuel
          rw [getD_set hst hn (by omega)]
          split
          · rfl
          · exact hall k (by omega)
theorem store_wp {P : Program} {os : Oper} {t : Nat} {p x : Operand} (h : os.op = .store t p x) {next : Act → World → Prop} (hw : os.wp P a w next (fun _ _ _ => False)) :
    ∃ w', (execOp a.eval os).run P w = .ok .skip w' ∧ next (a.put os.dst undef) w' := by
  unfold Oper.wp at hw
  have he : (execOp a.eval os).run P w = ((Instr.storeAt t (a.eval p) (a.eval x)).run P w).andThen fun _ w' => .ok .skip w' := by
    simp only [execOp, h, Sem.run_bind, Sem.run_pure]
  rw [he] at hw ⊢
  cases hq : (Instr.storeAt t (a.eval p) (a.eval x)).run P w with
  | ok u w' =>
    rw [hq] at hw
    exact ⟨w', rfl, hw⟩
  | halt hl w' =>
    rw [hq] at hw
    exfalso
    cases hl <;> exact hw
theorem extract_wp {P : Program} {ol : Oper} {k : Nat} {x : Operand} (h : ol.op = .extract x k) {next : Act → World → Prop} (hw : ol.wp P a w next (fun _ _ _ => False)) :
    ∃ u, next (a.put ol.dst u) w ∧ ∀ (a2 : Act) (w2 : World), a2.eval x = a.eval x → (execOp a2.eval ol).run P w2 = .ok (.value u) w2 := by
  unfold Oper.wp at hw
  have he : ∀ (a2 : Act) (w2 : World), (execOp a2.eval ol).run P w2 = ((Instr.extract (a2.eval x) k).run P w2).andThen fun v w' => .ok (.value v) w' := by
    intro a2 w2
    simp only [execOp, h, Sem.run_bind, Sem.run_pure]
  rw [he] at hw
  have hst : ∀ (why : String), ¬ ol.upon P a next (fun _ _ _ => False) (((stuck why : Sem Value).run P w).andThen fun v w' => .ok (.value v) w') := by
    intro why hh
    exact hh
  unfold Instr.extract at hw
  split at hw
  · rename_i vs hx
    split at hw
    · rename_i u hu
      refine ⟨u, hw, fun a2 w2 h2 => ?_⟩
      rw [he, h2, hx]
      simp only [Instr.extract, hu]
      rfl
    · exact absurd hw (hst _)
  · exact absurd hw (hst _)
theorem eval_put {d : Nat} {u : Value} {x : Operand} (h : d ∉ opTmps [x]) : (a.put (some d) u).eval x = a.eval x := by
  cases x with
  | tmp t =>
    show (a.put (some d) u).tmps.getD t undef = a.tmps.getD t undef
    rw [getD_put, if_neg]
    rintro ⟨h1, _⟩
    injection h1 with h1
    exact h (by simp [opTmps, h1])
  | const v => rfl
  | func f => rfl
  | global g => rfl
theorem opTmps_two {d : Nat} {p x : Operand} (h : d ∉ opTmps [p, x]) : d ∉ opTmps [p] ∧ d ∉ opTmps [x] := by
  cases p <;> cases x <;> simp_all [opTmps]
/-- A region that ends in a store, which needn't wait for operation l, and one more. -/
structure Hole (E : Env) (ops : Array Oper) (n : Nat) (l : Nat) (ol os oa : Oper) (d s : Nat) : Prop where
  len : n + 2 = ops.size
  lt : l < n
  hol : ops[l]? = some ol
  hos : ops[n]? = some os
  hoa : ops[n + 1]? = some oa
  ext : ∃ k, ol.op = .extract (.tmp s) k
  lg : ol.guard = none
  ld : ol.dst = some d
  sd : s ≠ d
  st : ∃ t p x, os.op = .store t p x ∧ d ∉ opTmps [p, x]
  sdst : os.dst = none
  sg : os.guard = none
  ws : reach ops.toList n os l = true
  wa : ∀ j, j < n + 1 → waits oa j = true
section
variable {ops : Array Oper} {n l d s : Nat} {ol os oa : Oper} {Q : Exit → Act → World → Prop} {S2 : ASt}
theorem ready_unlisted {listed : Array Bool} {i : Nat} (hi : i ∈ Region.ready .any ops listed) (hsz : listed.size = ops.size) : i < ops.size ∧ listed.getD i false = false := by
  obtain ⟨hu, o, ho, hed⟩ := mem_ready.1 hi
  have hio : i < ops.size := (Array.getElem?_eq_some_iff.1 ho).1
  refine ⟨hio, ?_⟩
  rw [Array.getD_eq_getD_getElem?, Array.getElem?_eq_getElem (by omega), Option.getD_some] at hu ⊢
  exact hu
theorem getD_set' {listed : Array Bool} {i k : Nat} (hi : i < listed.size) : (listed.setIfInBounds i true).getD k false = if k = i then true else listed.getD k false := by
  simp only [Array.getD_eq_getD_getElem?, Array.getElem?_setIfInBounds]
  by_cases h : i = k
  · subst h; simp [hi]
  · simp [h, Ne.symm h]
theorem cnt_listed {listed : Array Bool} {i fuel : Nat} (hi : i < listed.size) (hul : listed.getD i false = false) (hc : listed.toList.count false = fuel + 1) : (listed.setIfInBounds i true).toList.count false = fuel := by
  have h2 := cnt_set listed.toList i (by
    rw [Array.getElem?_toList, Array.getElem?_eq_getElem hi]
    rw [Array.getD_eq_getD_getElem?, Array.getElem?_eq_getElem hi, Option.getD_some] at hul
    rw [hul])
  rw [Array.toList_setIfInBounds]
  omega
theorem hole_last (H : Hole E ops n l ol os oa d s) (HF : DrawFacts n ops.toList) (hlast : ∀ (a : Act) (w : World) (K : Act → World → Prop), Rel E S2 a w → (∀ a' w', Q .normal a' w' → K a' w') → wpOp E.P ops Q (n + 1) K a w) :
    ∀ (fuel : Nat) (listed : Array Bool) (a : Act) (w : World), listed.size = ops.size → listed.toList.count false = fuel → (∀ k, k < n + 1 → listed.getD k false = true) → listed.getD (n + 1) false = false → Rel E S2 a w → wpAny E.P .any ops Q fuel listed a w
  | 0, listed, a, w, hsz, hc, _, hn1, _ => by
    have := all_listed hc (n + 1) (by have := H.len; omega)
    rw [this] at hn1; cases hn1
  | fuel + 1, listed, a, w, hsz, hc, hlo, hn1, hR => by
    have hlen := H.len
    refine ⟨fun hr => ?_, fun i hi => ?_⟩
    · have := mem_ready_of hsz HF.edge (i := n + 1) (by omega) hn1 (fun j hj => hlo j hj)
      rw [hr] at this; cases this
    · obtain ⟨hio, hul⟩ := ready_unlisted hi hsz
      have hin : i = n + 1 := by
        rcases Nat.lt_or_ge i (n + 1) with h1 | h1
        · rw [hlo i h1] at hul; cases hul
        · omega
      subst hin
      refine hlast a w _ hR fun a' w' hq => wpAny_done (done_ready fun k hk => ?_) hq fuel
      rw [getD_set' (by omega)]
      split
      · rfl
      · exact hlo k (by omega)
theorem draw_hole {st sr : Nat → ASt} {sv : Nat → AV} {nb : Nat → List Blk}
    (hst : ∀ i o, i < n → ops.toList[i]? = some o → StepOK E ops.toList (st i) (sr i) (st (i + 1)) (sv i) (nb i) o) (H : Hole E ops n l ol os oa d s) (HF : DrawFacts n ops.toList) (hok : ∀ o, o ∈ ops.toList → okDst E.nt o = true)
    (hstore : ∀ (a : Act) (w : World), Rel E (st n) a w → os.wp E.P a w (fun a' w' => Rel E S2 a' w') (fun _ _ _ => False)) (hlast : ∀ (a : Act) (w : World) (K : Act → World → Prop), Rel E S2 a w → (∀ a' w', Q .normal a' w' → K a' w') → wpOp E.P ops Q (n + 1) K a w) :
    ∀ (fuel : Nat) (listed : Array Bool) (a : Act) (w : World), listed.size = ops.size → listed.toList.count false = fuel → (∀ k, n ≤ k → listed.getD k false = false) → Inv E ops n st sv listed a w → wpAny E.P .any ops Q fuel listed a w
  | 0, listed, a, w, hsz, hc, hhi, hI => by
    have := all_listed hc n (by have := H.len; omega)
    rw [hhi n (Nat.le_refl _)] at this; cases this
  | fuel + 1, listed, a, w, hsz, hc, hhi, hI => by
    have hlen := H.len
    have hn : n ≤ ops.toList.length := by simp; omega
    refine ⟨fun hr => ?_, fun i hi => ?_⟩
    · obtain ⟨i, h1, h2, h3⟩ := some_unlisted (by rw [hc]; omega)
      have := mem_ready_of hsz HF.edge h1 h2 h3
      rw [hr] at this; cases this
    · obtain ⟨hio, hul⟩ := ready_unlisted hi hsz
      have hcnt := cnt_listed (by omega) hul hc
      obtain ⟨_, o, ho, _⟩ := mem_ready.1 hi
      have hol : ops.toList[i]? = some o := by rw [Array.getElem?_toList]; exact ho
      by_cases hin : i < n
      · refine inv_step (H := HF) hst hn hI hin hsz ho hi hul (hok o (List.mem_of_getElem? hol)) fun a' w' hI' => ?_
        refine draw_hole hst H HF hok hstore hlast fuel _ a' w' (by simpa using hsz) hcnt (fun k hk => ?_) hI'
        rw [getD_set' (by omega), if_neg (by omega)]
        exact hhi k hk
      · have hin' : i = n := by
          rcases Nat.lt_or_ge n i with h1 | h1
          · exfalso
            have h2 : i = n + 1 := by omega
            subst h2
            rw [H.hoa] at ho; injection ho with ho; subst ho
            have := waits_ready hi H.hoa (H.wa n (by omega))
            rw [hhi n (Nat.le_refl _)] at this; cases this
          · omega
        subst hin'
        rw [H.hos] at ho; injection ho with ho; subst ho
        have hlisted : ∀ j, j < i → j ≠ l → listed.getD j false = true := reach_listed HF hI.clo hi H.hos H.ws
        obtain ⟨t, p, x, hsop, hdp⟩ := H.st
        have hwant : ∀ (a : Act), Region.wanted os (yielded ops a.tmps) = true := fun a => by unfold Region.wanted; rw [H.sg]
        unfold wpOp
        rw [H.hos]
        simp only
        rw [if_pos (hwant a)]
        refine .inl ?_
        by_cases hll : listed.getD l false = true
        · have hall : ∀ k, k < i → listed.getD k false = true := fun k hk => by
            by_cases hkl : k = l
            · rw [hkl]; exact hll
            · exact hlisted k hk hkl
          obtain ⟨w', h1, h2⟩ := store_wp hsop (hstore a w (inv_end hst hn hI hall))
          refine wp_skip_of h1 (hole_last H HF hlast fuel _ _ _ (by simpa using hsz) hcnt (fun k hk => ?_) ?_ h2)
          · rw [getD_set' (by omega)]
            split
            · rfl
            · exact hall k (by omega)
          · rw [getD_set' (by omega), if_neg (by omega)]
            exact hhi _ (by omega)
        · have hll' : listed.getD l false = false := by simpa using hll
          have hlt := H.lt
          have hltl : ops.toList[l]? = some ol := by rw [Array.getElem?_toList]; exact H.hol
          have hrl : l ∈ Region.ready .any ops listed := by
            refine mem_ready.2 ⟨?_, ol, H.hol, fun e he hb => ?_⟩
            · rw [Array.getD_eq_getD_getElem?, Array.getElem?_eq_getElem (by omega), Option.getD_some] at hll' ⊢
              exact hll'
            · have h3 := HF.edge l ol e.on hltl (by unfold waits; exact List.any_eq_true.2 ⟨e, Array.mem_toList_iff.2 he, by rw [hb]; simp⟩)
              exact hlisted e.on (by omega) (by omega)
          have hstep := inv_step (H := HF) hst hn hI H.lt hsz H.hol hrl hll' (hok ol (List.mem_of_getElem? hltl)) (Q := fun _ _ _ => False) (K := fun a' w' => Inv E ops i st sv (listed.setIfInBounds l true) a' w') (fun _ _ h => h)
          unfold wpOp at hstep
          rw [H.hol] at hstep
          simp only at hstep
          rw [if_pos (by unfold Region.wanted; rw [H.lg])] at hstep
          obtain ⟨k, hext⟩ := H.ext
          rcases hstep with hstep | ⟨_, _, _, hf⟩
          · obtain ⟨u, hI2, hrun⟩ := extract_wp hext hstep
            rw [H.ld] at hI2
            have hR := inv_end hst hn hI2 (fun k hk => by
              rw [getD_set' (by omega)]
              split
              · rfl
              · rename_i hkl; exact hlisted k hk hkl)
            obtain ⟨w', h1, h2⟩ := store_wp hsop (hstore _ w hR)
            obtain ⟨hd1, hd2⟩ := opTmps_two hdp
            have h1' : (execOp a.eval os).run E.P w = .ok .skip w' := by
              rw [← h1]
              simp only [execOp, hsop, eval_put hd1, eval_put hd2]
            rw [H.sdst] at h2
            refine wp_skip_of h1' ?_
            rw [H.sdst]
            cases fuel with
            | zero =>
              have := all_listed hcnt l (by simp; omega)
              rw [getD_set' (by omega), if_neg (by omega), hll'] at this; cases this
            | succ fuel =>
              refine ⟨fun hr => ?_, fun j hj => ?_⟩
              · have : l ∈ Region.ready .any ops (listed.setIfInBounds i true) := by
                  refine mem_ready.2 ⟨?_, ol, H.hol, fun e he hb => ?_⟩
                  · rw [Array.getD_eq_getD_getElem?, Array.getElem?_setIfInBounds_ne (by omega)]
                    rw [Array.getD_eq_getD_getElem?, Array.getElem?_eq_getElem (by omega), Option.getD_some] at hll'
                    rw [Array.getElem?_eq_getElem (by omega), hll']
                    rfl
                  · have h3 := HF.edge l ol e.on hltl (by unfold waits; exact List.any_eq_true.2 ⟨e, Array.mem_toList_iff.2 he, by rw [hb]; simp⟩)
                    rw [getD_set' (by omega)]
                    split
                    · rfl
                    · exact hlisted e.on (by omega) (by omega)
                rw [hr] at this; cases this
              · obtain ⟨hjo, hjul⟩ := ready_unlisted hj (by simpa using hsz)
                rw [getD_set' (by omega)] at hjul
                have hjl : j = l := by
                  rcases Nat.lt_or_ge j i with h3 | h3
                  · rw [if_neg (by omega)] at hjul
                    by_cases h4 : j = l
                    · exact h4
                    · rw [hlisted j h3 h4] at hjul; cases hjul
                  · by_cases h4 : j = i
                    · rw [if_pos h4] at hjul; cases hjul
                    · have h5 : j = i + 1 := by omega
                      subst h5
                      have h6 := waits_ready hj H.hoa (H.wa l (by omega))
                      rw [getD_set' (by omega), if_neg (by omega), hll'] at h6; cases h6
                subst hjl
                unfold wpOp
                rw [H.hol]
                simp only
                rw [if_pos (by unfold Region.wanted; rw [H.lg])]
                refine .inl (wp_value_of (hrun _ _ rfl) ?_)
                rw [H.ld]
                refine hole_last H HF hlast fuel _ _ _ (by simpa using hsz) ?_ (fun k hk => ?_) ?_ h2
                · refine cnt_listed (by simp; omega) ?_ hcnt
                  rw [getD_set' (by omega), if_neg (by omega)]
                  exact hll'
                · rw [getD_set' (by simp; omega)]
                  split
                  · rfl
                  · rw [getD_set' (by omega)]
                    split
                    · rfl
                    · exact hlisted k (by omega) (by omega)
                · rw [getD_set' (by simp; omega), if_neg (by omega), getD_set' (by omega), if_neg (by omega)]
                  exact hhi _ (by omega)
          · exact hf.elim
end
theorem optEq_eq {x : Option Nat} {b : Nat} (h : optEq x b = true) : x = some b := by
  cases x with
  | none => cases h
  | some a => rw [Nat.eq_of_beq_eq_true h]
theorem holeOf_some {ops : Array Oper} {l : Nat} (h : holeOf ops.toList = some l) : ∃ n ol os oa d s, n = ops.toList.length - 2 ∧ Hole E ops n l ol os oa d s := by
  unfold holeOf at h
  split at h
  · rename_i os oa hos hoa
    split at h
    · rename_i t p x d h1 h2 h3 h4
      split at h
      · rename_i l' hl
        split at h
        · rename_i ol hol
          split at h
          · rename_i s k h5 h6 h7
            split at h
            · rename_i h8 h9 h10 h11 h12
              simp only [Option.some.injEq] at h; subst h
              rw [nth_eq] at hos hoa hol
              have hlt : l' + 2 < ops.toList.length := Nat.le_of_ble_eq_true h10
              refine ⟨ops.toList.length - 2, ol, os, oa, d, s, rfl, ⟨by rw [← Array.length_toList]; omega, by omega, by rw [← Array.getElem?_toList]; exact hol, by rw [← Array.getElem?_toList]; exact hos, by rw [← Array.getElem?_toList, show ops.toList.length - 2 + 1 = ops.toList.length - 1 from by omega]; exact hoa, ⟨k, h5⟩, h6, optEq_eq h9, fun e => ?_, ⟨t, p, x, h1, fun e => ?_⟩, h2, h3, h12, fun j hj => ?_⟩⟩
              · subst e
                rw [Nat.beq_refl] at h8; cases h8
              · rw [(has_iff _ _).2 e] at h7; cases h7
              · exact List.all_eq_true.1 h11 j (List.mem_range.2 (by omega))
            · cases h
          · cases h
        · cases h
      · cases h
    · cases h
  · cases h
theorem lastOf_some : ∀ {L : List Oper} {o : Oper}, lastOf L = some o → L ≠ [] ∧ L[L.length - 1]? = some o
  | [], o, h => by cases h
  | [x], o, h => by simp only [lastOf, Option.some.injEq] at h; subst h; simp
  | x :: y :: L, o, h => by
    simp only [lastOf] at h
    obtain ⟨_, h2⟩ := lastOf_some h
    exact ⟨by simp, by simpa using h2⟩
theorem guard_goes (hT : TOK E.P c.T) (hC : CallOK E.P E.H c) (hW : CallWOK E.P E.H c) {ops : Array Oper} {i : Nat} {o : Oper} (ho : ops[i]? = some o) (hd : okDst E.nt o = true) {K : ASt → Option α} (h : aguard ops.toList S o (fun S => aheavy c S o K) K = some r) (hR : Rel E S a w) {Q : Exit → Act → World → Prop} {N : Act → World → Prop}
    (hN : ∀ S' a' w', K S' = some r → Rel E S' a' w' → N a' w') : wpOp E.P ops Q i N a w := by
  unfold wpOp
  rw [ho]
  simp only
  rcases aguard_some h with ⟨hg, h⟩ | ⟨j, want, oj, d, b, hg, hj, hdj, hb, h⟩ | ⟨j, want, oj, d, hg, hj, hdj, hb, h⟩
  · have hw : Region.wanted o (yielded ops a.tmps) = true := by unfold Region.wanted; rw [hg]
    rw [if_pos hw]
    obtain ⟨S', h, hgo⟩ := aheavy_some hT hC hW h
    exact .inl (Oper.wp_mono (fun a' w' hR' => hN S' a' w' h hR') (hgo a w Q hd hR))
  · rw [Array.getElem?_toList] at hj
    have hy : yielded ops a.tmps j = some b := yielded_of hj hdj (rel_bool hR hb)
    rcases h with ⟨rfl, h⟩ | ⟨hne, h⟩
    · have hw : Region.wanted o (yielded ops a.tmps) = true := by unfold Region.wanted; rw [hg]; simp [hy]
      rw [if_pos hw]
      obtain ⟨S', h, hgo⟩ := aheavy_some hT hC hW h
      exact .inl (Oper.wp_mono (fun a' w' hR' => hN S' a' w' h hR') (hgo a w Q hd (rel_told hR hb)))
    · have hw : ¬ Region.wanted o (yielded ops a.tmps) = true := by unfold Region.wanted; rw [hg]; simp [hy, hne]
      rw [if_neg hw]
      exact hN _ _ w h (rel_undef (rel_told hR hb))
  · rw [Array.getElem?_toList] at hj
    have hy : yielded ops a.tmps j = none := yielded_und hj hdj (rel_und hR hb)
    have hw : ¬ Region.wanted o (yielded ops a.tmps) = true := by unfold Region.wanted; rw [hg]; simp [hy]
    rw [if_neg hw]
    exact hN _ _ w h (rel_undef hR)
theorem inv_start {ops : Array Oper} {n : Nat} {st sr : Nat → ASt} {sv : Nat → AV} {nb : Nat → List Blk} (hst : ∀ i o, i < n → ops.toList[i]? = some o → StepOK E ops.toList (st i) (sr i) (st (i + 1)) (sv i) (nb i) o) (hn : n ≤ ops.toList.length) (hR : Rel E (st 0) a w) :
    Inv E ops n st sv (Array.replicate ops.size false) a w := by
  have hno : ∀ k, ¬ Done n (Array.replicate ops.size false) k := fun k hk => by
    have := hk.2
    rw [Array.getD_eq_getD_getElem?, Array.getElem?_replicate] at this
    split at this <;> cases this
  obtain ⟨ρ, N, hG, hTt⟩ := hR
  refine ⟨fun i o j hi => absurd hi (hno i), (st 0).get, ρ, N, ⟨hG.df, hG.sz, hG.tm, ?_, ?_, ?_, ?_, hG.nw, hG.na, hG.fr, hG.kp⟩, fun t => .inr ⟨fun W hW => absurd hW (hno W), rfl⟩, fun id u hu => .inl (hG.lo id u hu), fun id hid => ?_⟩
  · intro i b u hb hu
    have hl := hG.lo i u hu
    have h1 := tr_blk hst hn (Nat.zero_le n) (List.getElem?_eq_getElem hl)
    rw [hb] at h1; injection h1 with h1; subst h1
    exact hG.bl i _ u (List.getElem?_eq_getElem hl) hu
  · intro i u hu
    have := tr_len hst hn (Nat.zero_le n) (Nat.le_refl n)
    have := hG.lo i u hu
    omega
  · intro i j b b' u v g hb hb' hl hl' hij hu hv hg
    have h0 := hG.lo i u hu
    have h0' := hG.lo j v hv
    have h1 := tr_blk hst hn (Nat.zero_le n) (List.getElem?_eq_getElem h0)
    have h1' := tr_blk hst hn (Nat.zero_le n) (List.getElem?_eq_getElem h0')
    rw [hb] at h1; injection h1 with h1; subst h1
    rw [hb'] at h1'; injection h1' with h1'; subst h1'
    exact hG.ds i j _ _ u v g (List.getElem?_eq_getElem h0) (List.getElem?_eq_getElem h0') hl hl' hij hu hv hg
  · intro i b u g hb hl hu hg
    have h0 := hG.lo i u hu
    have h1 := tr_blk hst hn (Nat.zero_le n) (List.getElem?_eq_getElem h0)
    rw [hb] at h1; injection h1 with h1; subst h1
    exact hG.nn i _ u g (List.getElem?_eq_getElem h0) hl hu hg
  · rcases hid with h | ⟨k, hk, _⟩
    · exact hTt id h
    · exact absurd hk (hno k)
theorem count_replicate_false (n : Nat) : (Array.replicate n false).toList.count false = n := by simp
/-- A region. -/
theorem region_some (hT : TOK E.P c.T) (hC : CallOK E.P E.H c) (hW : CallWOK E.P E.H c) (hm : E.P.follows .mixedOrders = true) {id : Nat} {ops : Array Oper} {draw : Bool} {K : ASt → Option α} {Q : Exit → Act → World → Prop} (hok : ops.toList.all (okDst E.nt) = true)
    (h : aregion c ops.toList draw S K = some r) (hR : Rel E S a w) (hQ : ∀ S' a' w', K S' = some r → Rel E S' a' w' → Q .normal a' w') : (Code.region id ops draw).wp E.P Q a w := by
  have hok' : ∀ o, o ∈ ops.toList → okDst E.nt o = true := fun o ho => List.all_eq_true.1 hok o ho
  cases draw with
  | false =>
    simp only [aregion] at h
    refine wp_region ?_
    have := aops_some hT hC hW hQ ops.toList 0 S a w rfl hok hR h
    rwa [Array.length_toList, ← List.range_eq_range'] at this
  | true =>
    simp only [aregion] at h
    refine wp_region_any hm ?_
    have hR' := rel_drew hR
    unfold adraw at h
    split at h
    · rename_i o hlast
      obtain ⟨hne, hlo⟩ := lastOf_some hlast
      split at h
      · split at h
        · rename_i l hho
          obtain ⟨n, ol, os, oa, d, s, hnn, H⟩ := holeOf_some (E := E) hho
          split at h
          · rename_i hdo
            rw [← hnn] at h hdo
            obtain ⟨st, sr, sv, nb, h0, hK, hst⟩ := alights_tr hT hC (ops.toList.take n) S h
            have hlen := H.len
            have hlen2 : ops.toList.length = n + 2 := by rw [Array.length_toList]; omega
            have hlen3 : (ops.toList.take n).length = n := by simp; omega
            rw [hlen3] at hK
            have hst' : ∀ i o, i < n → ops.toList[i]? = some o → StepOK E ops.toList (st i) (sr i) (st (i + 1)) (sv i) (nb i) o := fun i o hi ho => hst i o (by rw [List.getElem?_take, if_pos hi]; exact ho)
            have hos : ops.toList[n]? = some os := by rw [Array.getElem?_toList]; exact H.hos
            have hoa : ops.toList[n + 1]? = some oa := by rw [Array.getElem?_toList]; exact H.hoa
            have hdrop : ops.toList.drop n = [os, oa] := by
              rw [List.drop_eq_getElem_cons (by omega), List.drop_eq_getElem_cons (by omega), List.drop_eq_nil_of_le (by omega)]
              rw [List.getElem?_eq_getElem (by omega)] at hos hoa
              injection hos with hos
              injection hoa with hoa
              rw [hos, hoa]
            rw [hdrop] at hK
            simp only [aops] at hK
            unfold aguard at hK
            rw [H.sg] at hK
            simp only at hK
            obtain ⟨S2, hK2, hgo⟩ := aheavy_some hT hC hW hK
            refine draw_hole (S2 := S2) hst' H (drawOk_facts hdo) hok' (fun a' w' hr' => hgo a' w' _ (hok' os (List.mem_of_getElem? hos)) hr') (fun a' w' N hr' hN => guard_goes hT hC hW H.hoa (hok' oa (List.mem_of_getElem? hoa)) hK2 hr' fun S' a2 w2 h2 h3 => hN _ _ (hQ S' a2 w2 h2 h3)) ops.size _ a _ (by simp) (count_replicate_false _) (fun k hk => ?_) (inv_start hst' (by omega) (h0 ▸ hR'))
            rw [Array.getD_eq_getD_getElem?, Array.getElem?_replicate]
            split <;> rfl
          · cases h
        split at h
        · rename_i hdo
          obtain ⟨st, sr, sv, nb, h0, hK, hst⟩ := alights_tr hT hC ops.toList S h
          have hst' : ∀ i o, i < ops.toList.length → ops.toList[i]? = some o → StepOK E ops.toList (st i) (sr i) (st (i + 1)) (sv i) (nb i) o := fun i o _ ho => hst i o ho
          refine draw_any hst' (Nat.le_refl _) (drawOk_facts hdo) hok' (.inl ⟨by simp, fun a' w' hr' => hQ _ a' w' hK hr'⟩) ops.size _ a _ (by simp) (count_replicate_false _) (fun k hk => ?_) (inv_start hst' (Nat.le_refl _) (h0 ▸ hR'))
          rw [Array.getD_eq_getD_getElem?, Array.getElem?_replicate]
          split <;> rfl
        · cases h
      · split at h
        · rename_i hdo
          rw [Bool.and_eq_true] at hdo
          obtain ⟨hd1, hd2⟩ := hdo
          obtain ⟨st, sr, sv, nb, h0, hK, hst⟩ := alights_tr hT hC (ops.toList.take (ops.toList.length - 1)) S h
          have hlen : (ops.toList.take (ops.toList.length - 1)).length = ops.toList.length - 1 := by simp
          have hpos : 0 < ops.toList.length := List.length_pos_iff.2 hne
          rw [hlen] at hK
          have hst' : ∀ i o, i < ops.toList.length - 1 → ops.toList[i]? = some o → StepOK E ops.toList (st i) (sr i) (st (i + 1)) (sv i) (nb i) o := fun i o hi ho => hst i o (by rw [List.getElem?_take, if_pos hi]; exact ho)
          refine draw_any hst' (by omega) (drawOk_facts hd1) hok' (.inr ⟨by rw [← Array.length_toList]; omega, fun o' ho' => ?_, fun a' w' N hr' hN => ?_⟩) ops.size _ a _ (by simp) (count_replicate_false _) (fun k hk => ?_) (inv_start hst' (by omega) (h0 ▸ hR'))
          · rw [hlo] at ho'; injection ho' with ho'; subst ho'
            exact hd2
          · refine guard_goes hT hC hW (by rw [← Array.getElem?_toList]; exact hlo) (hok' o (List.mem_of_getElem? hlo)) hK hr' fun S' a2 w2 h2 h3 => hN _ _ (hQ S' a2 w2 h2 h3)
          · rw [Array.getD_eq_getD_getElem?, Array.getElem?_replicate]
            split <;> rfl
        · cases h
    · rename_i hlast
      have hnil : ops.toList = [] := by
        cases hq : ops.toList with
        | nil => rfl
        | cons x l =>
          exfalso
          rw [hq] at hlast
          have : ∀ (l : List Oper) (x : Oper), lastOf (x :: l) ≠ none := by
            intro l
            induction l with
            | nil => intro x h; cases h
            | cons y l ih => intro x h; exact ih y h
          exact this l x hlast
      have hsz : ops.size = 0 := by rw [← Array.length_toList, hnil]; rfl
      exact wpAny_done (done_ready fun k hk => by omega) (hQ S a _ h hR') _
end
end Go.Proofs.YtcacmhcekoeblaaDoorA
