/- Regions whose order is open: any order comes to what the text's order comes to. No conditions. -/
import Derived.Test.YtcacmhcekoeblaaDoorA11
namespace Go.Proofs.YtcacmhcekoeblaaDoorA
open Go.RowKit
set_option linter.unusedVariables false
set_option linter.unusedSimpArgs false
set_option linter.unusedSectionVars false
theorem waits_ready {ops : Array Oper} {listed : Array Bool} {i j : Nat} {o : Oper} (hr : i ∈ Region.ready .any ops listed) (ho : ops[i]? = some o) (hw : waits o j = true) : listed.getD j false = true := by
  obtain ⟨_, o', ho', h⟩ := mem_ready.1 hr
  rw [ho] at ho'
  injection ho' with ho'
  subst ho'
  unfold waits at hw
  obtain ⟨e, he, h2⟩ := List.any_eq_true.1 hw
  simp only [Bool.and_eq_true] at h2
  have h3 := h e (Array.mem_toList_iff.1 he) h2.1
  rwa [Nat.eq_of_beq_eq_true h2.2] at h3
theorem cnt_set : ∀ (l : List Bool) (i : Nat), l[i]? = some false → (l.set i true).count false + 1 = l.count false
  | [], i, h => by simp at h
  | b :: l, 0, h => by simp only [List.getElem?_cons_zero, Option.some.injEq] at h; subst h; simp
  | b :: l, i + 1, h => by
    have ih := cnt_set l i (by simpa using h)
    simp only [List.set_cons_succ, List.count_cons]
    omega
structure DrawFacts (n : Nat) (all : List Oper) : Prop where
  pair : ∀ i j oi oj t, i < n → j < n → all[i]? = some oi → all[j]? = some oj → oj.dst = some t → t ∈ slots all oi → (j < i → waits oi j = true) ∧ (i < j → waits oj i = true)
  edge : ∀ i o j, all[i]? = some o → waits o j = true → j < i
theorem drawOk_facts {n : Nat} {all : List Oper} (h : drawOk n all = true) : DrawFacts n all := by
  unfold drawOk at h
  rw [Bool.and_eq_true] at h
  obtain ⟨h1, h2⟩ := h
  refine ⟨fun i j oi oj t hi hj hoi hoj hd hs => ?_, fun i o j ho hw => ?_⟩
  · have h3 := List.all_eq_true.1 (List.all_eq_true.1 h1 i (List.mem_range.2 hi)) j (List.mem_range.2 hj)
    unfold pairOk at h3
    simp only [nth_eq, hoi, hoj] at h3
    have hc : clash all oi oj = true := by unfold clash; rw [hd]; exact (has_iff _ _).2 hs
    rw [hc] at h3
    simp only at h3
    refine ⟨fun hlt => ?_, fun hlt => ?_⟩
    · have e1 : Nat.beq i j = false := by rw [← Bool.not_eq_true]; exact fun e => by have := Nat.eq_of_beq_eq_true e; omega
      have e2 : Nat.blt j i = true := Nat.ble_eq_true_of_le hlt
      rw [e1, e2] at h3
      exact h3
    · have e1 : Nat.beq i j = false := by rw [← Bool.not_eq_true]; exact fun e => by have := Nat.eq_of_beq_eq_true e; omega
      have e2 : Nat.blt j i = false := by rw [← Bool.not_eq_true]; exact fun e => by have := Nat.le_of_ble_eq_true e; omega
      rw [e1, e2] at h3
      exact h3
  · have hil : i < all.length := (List.getElem?_eq_some_iff.1 ho).1
    have h3 := List.all_eq_true.1 h2 i (List.mem_range.2 hil)
    unfold edgesOk at h3
    simp only [nth_eq, ho] at h3
    unfold waits at hw
    obtain ⟨e, he, h4⟩ := List.any_eq_true.1 hw
    simp only [Bool.and_eq_true] at h4
    have h5 := List.all_eq_true.1 h3 e he
    rw [h4.1, Nat.eq_of_beq_eq_true h4.2] at h5
    simp only [Bool.not_true, Bool.false_or] at h5
    exact Nat.le_of_ble_eq_true h5
section
variable {E : Env} {ops : Array Oper} {n : Nat} {st sr : Nat → ASt} {sv : Nat → AV} {nb : Nat → List Blk}
def Writes (ops : Array Oper) (k t : Nat) : Prop := ∃ o, ops.toList[k]? = some o ∧ o.dst = some t
def Done (n : Nat) (listed : Array Bool) (k : Nat) : Prop := k < n ∧ listed.getD k false = true
/-- What is known when some of the operations have been carried out. -/
structure Inv (E : Env) (ops : Array Oper) (n : Nat) (st : Nat → ASt) (sv : Nat → AV) (listed : Array Bool) (a : Act) (w : World) : Prop where
  clo : ∀ i o j, Done n listed i → ops.toList[i]? = some o → waits o j = true → listed.getD j false = true
  rel : ∃ tm ρ N, G E tm (st n).hp ρ N a w ∧
    (∀ t, (∃ W, Done n listed W ∧ Writes ops W t ∧ (∀ W', Done n listed W' → Writes ops W' t → W' ≤ W) ∧ tm t = sv W) ∨ ((∀ W, Done n listed W → ¬ Writes ops W t) ∧ tm t = (st 0).get t)) ∧
    (∀ id u, ρ id = some u → id < (st 0).hp.length ∨ ∃ k, Done n listed k ∧ (st k).hp.length ≤ id ∧ id < (st (k + 1)).hp.length) ∧
    (∀ id, (id < (st 0).hp.length ∨ ∃ k, Done n listed k ∧ (st k).hp.length ≤ id ∧ id < (st (k + 1)).hp.length) → ∃ u, ρ id = some u)
variable (hst : ∀ i o, i < n → ops.toList[i]? = some o → StepOK E ops.toList (st i) (sr i) (st (i + 1)) (sv i) (nb i) o) (hn : n ≤ ops.toList.length)
include hst hn
theorem tr_get (i : Nat) (hi : i < n) : ∃ o, ops.toList[i]? = some o ∧ StepOK E ops.toList (st i) (sr i) (st (i + 1)) (sv i) (nb i) o :=
  ⟨_, List.getElem?_eq_getElem (by omega), hst i _ hi (List.getElem?_eq_getElem (by omega))⟩
theorem tr_hp (i : Nat) : ∀ d, i + d ≤ n → ∃ l, (st (i + d)).hp = (st i).hp ++ l
  | 0, _ => ⟨[], by simp⟩
  | d + 1, h => by
    obtain ⟨l, hl⟩ := tr_hp i d (by omega)
    obtain ⟨o, _, hs⟩ := tr_get hst hn (i + d) (by omega)
    exact ⟨l ++ nb (i + d), by rw [← Nat.add_assoc, hs.1, hl, List.append_assoc]⟩
theorem tr_len {i j : Nat} (h : i ≤ j) (hj : j ≤ n) : (st i).hp.length ≤ (st j).hp.length := by
  obtain ⟨l, hl⟩ := tr_hp hst hn i (j - i) (by omega)
  rw [show i + (j - i) = j from by omega] at hl
  rw [hl, List.length_append]; omega
theorem tr_blk {i id : Nat} {b : Blk} (hi : i ≤ n) (h : (st i).hp[id]? = some b) : (st n).hp[id]? = some b := by
  obtain ⟨l, hl⟩ := tr_hp hst hn i (n - i) (by omega)
  rw [show i + (n - i) = n from by omega] at hl
  rw [hl, List.getElem?_append_left (List.getElem?_eq_some_iff.1 h).1]; exact h
theorem tr_ref {t m : Nat} : ∀ d, m + d ≤ n → (∀ k, m ≤ k → k < m + d → ¬ Writes ops k t) → Ref ((st m).get t) ((st (m + d)).get t)
  | 0, _, _ => Ref.refl _
  | d + 1, h, hw => by
    obtain ⟨o, ho, _, _, h3, h4, _⟩ := tr_get hst hn (m + d) (by omega)
    have h5 := h4 t
    rw [if_neg (fun e => hw (m + d) (by omega) (by omega) ⟨o, ho, e⟩)] at h5
    rw [← Nat.add_assoc, h5]
    exact (tr_ref d (by omega) (fun k h1 h2 => hw k h1 (by omega))).trans (h3 t)
/-- What a slot holds is what the text's order says. -/
theorem cur_ref {listed : Array Bool} {tm : Nat → AV} {i t : Nat} (hi : i ≤ n)
    (hcur : (∃ W, Done n listed W ∧ Writes ops W t ∧ (∀ W', Done n listed W' → Writes ops W' t → W' ≤ W) ∧ tm t = sv W) ∨ ((∀ W, Done n listed W → ¬ Writes ops W t) ∧ tm t = (st 0).get t))
    (hlo : ∀ W, W < i → Writes ops W t → Done n listed W) (hhi : ∀ W, Done n listed W → Writes ops W t → W < i) : Ref (tm t) ((st i).get t) := by
  rcases hcur with ⟨W, h1, h2, h3, h4⟩ | ⟨h1, h2⟩
  · have hWi := hhi W h1 h2
    have hr := tr_ref hst hn (t := t) (m := W + 1) (i - (W + 1)) (by omega) (fun k hk1 hk2 hw => by
      have := h3 k (hlo k (by omega) hw) hw
      omega)
    rw [show W + 1 + (i - (W + 1)) = i from by omega] at hr
    obtain ⟨o, ho, _, _, _, h5, _⟩ := tr_get hst hn W (by omega)
    obtain ⟨o', ho', hd⟩ := h2
    rw [ho] at ho'; injection ho' with ho'; subst ho'
    have h6 := h5 t
    rw [if_pos hd] at h6
    rw [h4, ← h6]
    exact hr
  · have hr := tr_ref hst hn (t := t) (m := 0) i (by omega) (fun k _ hk2 hw => h1 k (hlo k (by omega) hw) hw)
    rw [Nat.zero_add] at hr
    rw [h2]
    exact hr
theorem inv_end {listed : Array Bool} {a : Act} {w : World} (h : Inv E ops n st sv listed a w) (hall : ∀ k, k < n → listed.getD k false = true) : Rel E (st n) a w := by
  obtain ⟨tm, ρ, N, hG, hcur, hdom, htot⟩ := h.rel
  refine ⟨ρ, N, ⟨hG.df, hG.sz, fun t => ?_, hG.bl, hG.lo, hG.ds, hG.nn, hG.nw, hG.na, hG.fr, hG.kp⟩, fun id hid => htot id ?_⟩
  · refine cur_ref hst hn (Nat.le_refl n) (hcur t) (fun W hW _ => ⟨hW, hall W hW⟩) (fun W hW _ => hW.1) _ _ _ _ (hG.tm t)
  · by_cases h0 : id < (st 0).hp.length
    · exact .inl h0
    · right
      have : ∀ m, m ≤ n → id < (st m).hp.length → ∃ k, k < m ∧ (st k).hp.length ≤ id ∧ id < (st (k + 1)).hp.length := by
        intro m
        induction m with
        | zero => intro _ h; exact absurd h h0
        | succ m ih =>
          intro hm h
          by_cases h1 : id < (st m).hp.length
          · obtain ⟨k, h2, h3⟩ := ih (by omega) h1
            exact ⟨k, by omega, h3⟩
          · exact ⟨m, by omega, by omega, h⟩
      obtain ⟨k, h1, h2, h3⟩ := this n (Nat.le_refl n) hid
      exact ⟨k, ⟨h1, hall k h1⟩, h2, h3⟩
theorem getD_set {listed : Array Bool} {i k : Nat} (hi : i < listed.size) : (listed.setIfInBounds i true).getD k false = if k = i then true else listed.getD k false := by
  simp only [Array.getD_eq_getD_getElem?, Array.getElem?_setIfInBounds]
  by_cases h : i = k
  · subst h; simp [hi]
  · simp [h, Ne.symm h]
theorem inv_step {H : DrawFacts n ops.toList} {listed : Array Bool} {a : Act} {w : World} {i : Nat} {o : Oper} (h : Inv E ops n st sv listed a w) (hin : i < n) (hsz : listed.size = ops.size) (ho : ops[i]? = some o) (hr : i ∈ Region.ready .any ops listed) (hul : listed.getD i false = false) (hd : okDst E.nt o = true)
    {Q : Exit → Act → World → Prop} {K : Act → World → Prop} (hK : ∀ a' w', Inv E ops n st sv (listed.setIfInBounds i true) a' w' → K a' w') : wpOp E.P ops Q i K a w := by
  obtain ⟨tm, ρ, N, hG, hcur, hdom, htot⟩ := h.rel
  have hol : ops.toList[i]? = some o := by rw [Array.getElem?_toList]; exact ho
  obtain ⟨hs1, hs2, hs3, hs4, hs5⟩ := hst i o hin hol
  have hisz : i < listed.size := by rw [hsz]; have := (List.getElem?_eq_some_iff.1 hol).1; simpa using this
  have hnotDone : ¬ Done n listed i := fun hh => by have h2 := hh.2; rw [hul] at h2; cases h2
  have href : ∀ t, t ∈ slots ops.toList o → Ref (tm t) ((st i).get t) := by
    intro t ht
    refine cur_ref hst hn (by omega) (hcur t) (fun W hW hw => ?_) (fun W hW hw => ?_)
    · obtain ⟨oW, hoW, hdW⟩ := hw
      exact ⟨by omega, waits_ready hr ho ((H.pair i W o oW t hin (by omega) hol hoW hdW ht).1 hW)⟩
    · obtain ⟨oW, hoW, hdW⟩ := hw
      rcases Nat.lt_trichotomy W i with h1 | h1 | h1
      · exact h1
      · subst h1; exact absurd hW hnotDone
      · have h2 := h.clo W oW i hW hoW ((H.pair i W o oW t hin hW.1 hol hoW hdW ht).2 h1)
        rw [hul] at h2; cases h2
  have hgetD : ∀ k, Done n (listed.setIfInBounds i true) k ↔ (k = i ∨ Done n listed k) := by
    intro k
    unfold Done
    rw [getD_set hst hn hisz]
    by_cases hk : k = i
    · subst hk; simp [hin]
    · simp [hk]
  have hclo : ∀ k o' j, Done n (listed.setIfInBounds i true) k → ops.toList[k]? = some o' → waits o' j = true → (listed.setIfInBounds i true).getD j false = true := by
    intro k o' j hk ho' hw
    rw [getD_set hst hn hisz]
    by_cases hj : j = i
    · rw [if_pos hj]
    · rw [if_neg hj]
      rcases (hgetD k).1 hk with e | hk
      · subst e
        rw [hol] at ho'; injection ho' with ho'; subst ho'
        exact waits_ready hr ho hw
      · exact h.clo k o' j hk ho' hw
  have hcur' : ∀ t, (∃ W, Done n (listed.setIfInBounds i true) W ∧ Writes ops W t ∧ (∀ W', Done n (listed.setIfInBounds i true) W' → Writes ops W' t → W' ≤ W) ∧ (if o.dst = some t then sv i else tm t) = sv W) ∨ ((∀ W, Done n (listed.setIfInBounds i true) W → ¬ Writes ops W t) ∧ (if o.dst = some t then sv i else tm t) = (st 0).get t) := by
    intro t
    by_cases hdt : o.dst = some t
    · refine .inl ⟨i, (hgetD i).2 (.inl rfl), ⟨o, hol, hdt⟩, fun W' hW' hw' => ?_, by rw [if_pos hdt]⟩
      rcases (hgetD W').1 hW' with e | hW'
      · omega
      · rcases Nat.lt_or_ge i W' with h1 | h1
        · obtain ⟨oW, hoW, hdW⟩ := hw'
          have ht : t ∈ slots ops.toList o := by unfold slots; rw [hdt]; simp
          have h2 := h.clo W' oW i hW' hoW ((H.pair i W' o oW t hin hW'.1 hol hoW hdW ht).2 h1)
          rw [hul] at h2; cases h2
        · exact h1
    · have hni : ¬ Writes ops i t := fun ⟨o', ho', hd'⟩ => by rw [hol] at ho'; injection ho' with ho'; subst ho'; exact hdt hd'
      rw [if_neg hdt]
      rcases hcur t with ⟨W, h1, h2, h3, h4⟩ | ⟨h1, h2⟩
      · refine .inl ⟨W, (hgetD W).2 (.inr h1), h2, fun W' hW' hw' => ?_, h4⟩
        rcases (hgetD W').1 hW' with e | hW'
        · subst e; exact absurd hw' hni
        · exact h3 W' hW' hw'
      · refine .inr ⟨fun W hW hw => ?_, h2⟩
        rcases (hgetD W).1 hW with e | hW
        · subst e; exact hni hw
        · exact h1 W hW hw
  have hrange : (st (i + 1)).hp.length = (st i).hp.length + (nb i).length := by rw [hs1, List.length_append]
  have hfree : ∀ id, (st i).hp.length ≤ id → id < (st i).hp.length + (nb i).length → ρ id = none := by
    intro id h1 h2
    cases hq : ρ id with
    | none => rfl
    | some u =>
      exfalso
      rcases hdom id u hq with h3 | ⟨k, hk, h3, h4⟩
      · have := tr_len hst hn (Nat.zero_le i) (by omega); omega
      · rcases Nat.lt_trichotomy k i with e | e | e
        · have := tr_len hst hn (i := k + 1) (j := i) (by omega) (by omega); omega
        · subst e; exact hnotDone hk
        · have := tr_len hst hn (i := i + 1) (j := k) (by omega) (by have := hk.1; omega); omega
  have hexec : Told E.P E.H E.B (sr i) o.op (sv i) (nb i) → ∀ (Q : Exit → Act → World → Prop), o.wp E.P a w (fun a' w' => Inv E ops n st sv (listed.setIfInBounds i true) a' w') Q := by
    intro ht Q
    have hpre : Pre E.B (sr i) o.op ρ N a w := by
      refine ⟨fun x hx => ?_, fun id b u hb hu => ?_, hG.nw, hG.size⟩
      · cases x with
        | tmp t =>
          have hts : t ∈ slots ops.toList o := by
            have : ∀ l : List Operand, Operand.tmp t ∈ l → t ∈ opTmps l := by
              intro l
              induction l with
              | nil => intro h; cases h
              | cons y l ih =>
                intro hy
                rcases List.mem_cons.1 hy with e | hy2
                · subst e; simp [opTmps]
                · have h2 := ih hy2
                  cases y <;> simp [opTmps, h2]
            unfold slots
            simp only [List.mem_append]
            exact .inl (.inr (this _ (by simpa using hx)))
          exact hs3 t _ _ _ _ (href t hts _ _ _ _ (hG.tm t))
        | const v => exact VR_const v
        | func f => exact rfl
        | global g => trivial
      · rw [hs2] at hb
        exact hG.bl id b u (tr_blk hst hn (by omega) hb) hu
    refine ht o ρ N a w rfl ⟨E.hH w hG.fr, fun g w' hg hgr => E.hH w' (grown_one hG.fr hgr hg)⟩ hpre (by rw [hs2]; exact hfree) _ Q ?_
    intro val ρ' N' w' hg hv
    rw [hs2] at hg
    have hG' := hG.grow2 (d := o.dst) (okDst_lt hd) (fun k b hb => tr_blk hst hn (i := i + 1) (by omega) (by rw [hs1, List.getElem?_append_right (by omega)]; rw [show (st i).hp.length + k - (st i).hp.length = k from by omega]; exact hb)) hfree hg hv
    refine ⟨hclo, _, ρ', N', hG', hcur', fun id u hu => ?_, fun id hid => ?_⟩
    · rcases hg.dom id u hu with h1 | ⟨h1, h2⟩
      · rcases hdom id u h1 with h3 | ⟨k, hk, h3⟩
        · exact .inl h3
        · exact .inr ⟨k, (hgetD k).2 (.inr hk), h3⟩
      · exact .inr ⟨i, (hgetD i).2 (.inl rfl), h1, by rw [hrange]; exact h2⟩
    · have hold : (id < (st 0).hp.length ∨ ∃ k, Done n listed k ∧ (st k).hp.length ≤ id ∧ id < (st (k + 1)).hp.length) → ∃ u, ρ' id = some u := fun hh => by
        obtain ⟨u, hu⟩ := htot id hh
        exact ⟨u, hg.ext id u hu⟩
      rcases hid with h1 | ⟨k, hk, h1, h2⟩
      · exact hold (.inl h1)
      · rcases (hgetD k).1 hk with e | hk
        · subst e
          obtain ⟨u, h3, _⟩ := hg.blk (id - (st k).hp.length) _ (List.getElem?_eq_getElem (by omega))
          rw [show (st k).hp.length + (id - (st k).hp.length) = id from by omega] at h3
          exact ⟨u, h3⟩
        · exact hold (.inr ⟨k, hk, h1, h2⟩)
  unfold wpOp
  rw [ho]
  have hskip : sv i = .und → nb i = [] → K (a.put o.dst undef) w := by
    intro hsv hnb
    refine hK _ _ ⟨hclo, _, ρ, N, ⟨by rw [defers_put]; exact hG.df, by rw [size_put]; exact hG.sz, hG.tmput (v := sv i) (okDst_lt hd) (by rw [hsv]; rfl) (fun _ h => h) (fun _ _ => rfl) (fun _ _ h => h), hG.bl, hG.lo, hG.ds, hG.nn, hG.nw, hG.na, hG.fr, hG.kp⟩, hcur', fun id u hu => ?_, fun id hid => ?_⟩
    · rcases hdom id u hu with h3 | ⟨k, hk, h3⟩
      · exact .inl h3
      · exact .inr ⟨k, (hgetD k).2 (.inr hk), h3⟩
    · refine htot id ?_
      rcases hid with h1 | ⟨k, hk, h1, h2⟩
      · exact .inl h1
      · rcases (hgetD k).1 hk with e | hk
        · subst e; rw [hrange, hnb] at h2; simp at h2; omega
        · exact .inr ⟨k, hk, h1, h2⟩
  have hds : ∀ {j want oj d}, o.guard = some (j, want) → ops.toList[j]? = some oj → oj.dst = some d → d ∈ slots ops.toList o := by
    intro j want oj d hg hj hdj
    unfold slots
    rw [hg]
    simp only [nth_eq, hj, hdj, List.mem_append]
    exact .inr (by simp)
  rcases hs5 with ⟨hg, ht⟩ | ⟨j, want, oj, d, b, hg, hj, hdj, hb, hs5⟩ | ⟨j, want, oj, d, hg, hj, hdj, hb, hsv, hnb⟩
  · have hw : Region.wanted o (yielded ops a.tmps) = true := by unfold Region.wanted; rw [hg]
    simp only
    rw [if_pos hw]
    exact .inl (Oper.wp_mono hK (hexec ht Q))
  · have hbool := hb _ _ _ _ (href d (hds hg hj hdj) _ _ _ _ (hG.tm d))
    rw [Array.getElem?_toList] at hj
    have hy : yielded ops a.tmps j = some b := yielded_of hj hdj hbool
    simp only
    rcases hs5 with ⟨rfl, ht⟩ | ⟨hne, hsv, hnb⟩
    · have hw : Region.wanted o (yielded ops a.tmps) = true := by unfold Region.wanted; rw [hg]; simp [hy]
      rw [if_pos hw]
      exact .inl (Oper.wp_mono hK (hexec ht Q))
    · have hw : ¬ Region.wanted o (yielded ops a.tmps) = true := by unfold Region.wanted; rw [hg]; simp [hy, hne]
      rw [if_neg hw]
      exact hskip hsv hnb
  · have hbool := hb _ _ _ _ (href d (hds hg hj hdj) _ _ _ _ (hG.tm d))
    rw [Array.getElem?_toList] at hj
    have hy : yielded ops a.tmps j = none := yielded_und hj hdj hbool
    simp only
    have hw : ¬ Region.wanted o (yielded ops a.tmps) = true := by unfold Region.wanted; rw [hg]; simp [hy]
    rw [if_neg hw]
    exact hskip hsv hnb
end
end Go.Proofs.YtcacmhcekoeblaaDoorA
