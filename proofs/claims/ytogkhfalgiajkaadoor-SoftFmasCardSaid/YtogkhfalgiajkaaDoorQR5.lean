/- What the fifth reference computes: sums, products, quotients, rounded once. No conditions. -/
import Derived.Test.YtogkhfalgiajkaaDoorQR4
import Derived.Test.YtogkhfalgiajkaaDoorQSoftTot
namespace Go.Proofs.YtogkhfalgiajkaaDoor.R5
open Go.RowKit Go.Proofs.YtogkhfalgiajkaaDoor.Lib Go.Proofs.YtogkhfalgiajkaaDoor.LibB Go.Proofs.YtogkhfalgiajkaaDoor.F Go.Proofs.YtogkhfalgiajkaaDoor.Nat1 Go.Proofs.YtogkhfalgiajkaaDoor.Nat2 Go.Proofs.YtogkhfalgiajkaaDoor.Bits Go.Proofs.YtogkhfalgiajkaaDoor.Ieee1 Go.Proofs.YtogkhfalgiajkaaDoor.Mag Go.Proofs.YtogkhfalgiajkaaDoor.Ieee2 Go.Proofs.YtogkhfalgiajkaaDoor.Rnd Go.Proofs.YtogkhfalgiajkaaDoor.R1 Go.Proofs.YtogkhfalgiajkaaDoor.R4
open Go.Proofs.YtogkhfalgiajkaaDoor.Soft1 (sv sval Rd sv_zero sv_mul sv_abs)
open Go.Proofs.YtogkhfalgiajkaaDoor.SoftTot (AddR MulR DivR inf_put)
open Go.Proofs.YtogkhfalgiajkaaDoorA (rd ln ln_eq mx mn shl shr wr wr_eq)
set_option linter.unusedVariables false
set_option linter.unusedSimpArgs false
theorem plc_cls {d : Int} (h : U d) : ((plc d : Int) = 9218868437227405312 ↔ cls d = 3) ∧ ((plc d : Int) = 0 ↔ cls d = 0) := by
  have := Int.emod_nonneg d (show (9223372036854775808 : Int) ≠ 0 by omega)
  unfold plc cls
  refine ⟨⟨fun h => ?_, fun h => ?_⟩, ⟨fun h => ?_, fun h => ?_⟩⟩
  all_goals (repeat' split at h) <;> (repeat' split) <;> omega
theorem infinite_eq {d : Int} (h : U d) : abacusref05_infinite.f d = some (decide (cls d = 3)) := by
  unfold abacusref05_infinite.f abacusref05_infinite.b0
  rw [rAbs_eq h, Option.bind_some]
  exact congrArg some (decide_eq_decide.2 (plc_cls h).1)
theorem zero_eq {d : Int} (h : U d) : abacusref05_zero.f d = some (decide (cls d = 0)) := by
  unfold abacusref05_zero.f abacusref05_zero.b0
  rw [rAbs_eq h, Option.bind_some]
  exact congrArg some (decide_eq_decide.2 (plc_cls h).2)
theorem negative_eq (d : Int) : abacusref05_negative.f d = some (sgn d) := rfl
theorem anyNaN_eq {a b : Int} (ha : U a) (hb : U b) : abacusref05_anyNaN.f a b = some (decide (cls a = 4 ∨ cls b = 4)) := by
  unfold abacusref05_anyNaN.f abacusref05_anyNaN.b0
  rw [rIsNaN_eq ha, rIsNaN_eq hb, Option.bind_some, Option.bind_some]
  by_cases h1 : cls a = 4
  · rw [decide_eq_true h1, if_pos rfl, decide_eq_true (.inl h1)]
  · rw [decide_eq_false h1, if_neg (by simp)]
    exact congrArg some (decide_eq_decide.2 ⟨.inr, fun h => h.resolve_left h1⟩)
theorem of_eq {d : Int} (h : U d) : abacusref05_of.f d = some (sgn d, [manOf d], [1], expOf d) := by
  unfold abacusref05_of.f abacusref05_of.b0
  rw [rDecode_eq h, Option.bind_some]
theorem signed_inf (s : Bool) : abacusref05_signed.f s 9218868437227405312 = some (put s inf) := by cases s <;> rfl
theorem signed_zero (s : Bool) : abacusref05_signed.f s 0 = some (put s 0) := by cases s <;> rfl
theorem limb_val {m : Nat} : val [(m : Int)] = m := by rw [val_cons, val_nil]; simp
theorem limb_ok {m : Nat} (h : m < 18446744073709551616) : ok [(m : Int)] := by intro y hy; simp only [List.mem_singleton] at hy; subst hy; omega
theorem one_lim : ([1] : List Int) = lim 1 := by
  have := lim_one_len (n := 1) (by omega) (by omega)
  exact this.symm
theorem pow_B' {x n : Nat} (h : x < 2 ^ n) (hn : n ≤ 262144) : x < B 4096 := by
  obtain ⟨N, hN⟩ : ∃ N, N = 64 * 4096 := ⟨_, rfl⟩
  rw [B_two, ← hN]; exact Nat.lt_of_lt_of_le h (Nat.pow_le_pow_right (by omega) (by omega))
theorem none_ev {l : List Int} {b : Bool} {d : List Int} {e : Int} (h : ok l) (hl : l.length ≤ 64) : Ev (fun k _ _ => abacusref05_none.f k b l d e) (decide (val l = 0)) := by
  simp only [abacusref05_none.f, abacusref05_none.b0]
  refine Ev.bind (abacusref01_Size_ev h (by omega)) (Ev_some ?_)
  have := @lim_len_zero (val l)
  exact decide_eq_decide.2 (by omega)
/-- A sum of two numbers in the unit 2^(-4000). -/
structure SumR (M N : Nat) (s t : Bool) (e f : Int) (r : Bool) (Z : Nat) (g : Int) : Prop where
  lim : Z < B 4096
  g0 : -4000 ≤ g
  g1 : g ≤ 4000
  v : sv r Z * ((2 ^ (g + 4000).toNat : Nat) : Int) = sv s M * ((2 ^ (e + 4000).toNat : Nat) : Int) + sv t N * ((2 ^ (f + 4000).toNat : Nat) : Int)
  z : Z = 0 → r = (s && t)
theorem lift_B {M p : Nat} (hM : M < 2 ^ 110) (hp : p ≤ 8000) : M * 2 ^ p < 2 ^ 8110 := by
  obtain ⟨F, hF⟩ : ∃ F, F = 8110 := ⟨_, rfl⟩
  rw [← hF]
  have h1 : M * 2 ^ p < 2 ^ 110 * 2 ^ p := Nat.mul_lt_mul_of_pos_right hM (Nat.pow_pos (by omega))
  rw [← Nat.pow_add] at h1
  exact Nat.lt_of_lt_of_le h1 (Nat.pow_le_pow_right (by omega) (by omega))
theorem len_of {F n : Nat} (hF : F ≤ 262144) (h : n < 2 ^ F) : (lim n).length ≤ 4096 := (lim_len_le n 4096).2 (pow_B' h hF)
/-- The heart of a sum: over a common unit. -/
theorem sum_core {l m : List Int} {M N p q i j h F : Nat} {s t : Bool} {den : List Int} {e f g : Int} (hF : F = 8110) (hl : ok l) (hm : ok m) (ll : l.length ≤ 64) (lm : m.length ≤ 64) (vl : val l = M) (vm : val m = N)
    (h1 : e - g = (p : Int)) (h2 : f - g = (q : Int)) (hp : p ≤ 8000) (hq : q ≤ 8000) (bM : M * 2 ^ p < 2 ^ F) (bN : N * 2 ^ q < 2 ^ F) (nz : ¬ (M = 0 ∧ N = 0)) (fe : -4000 ≤ e ∧ e ≤ 4000) (ff : -4000 ≤ f ∧ f ≤ 4000) (fg : -4000 ≤ g ∧ g ≤ 4000) {ns nt : List Int} :
    ∃ r Z, Ev (fun k _ _ => abacusref05_sum.l31 k g f s l den e t m ns) (r, lim Z, den, g) ∧ SumR M N s t e f r Z g := by
  simp only [abacusref05_sum.l31, abacusref05_sum.b31]
  have w1 : wrap64 (e - g) = (p : Int) := by rw [h1]; unfold wrap64; omega
  have w2 : wrap64 (f - g) = (q : Int) := by rw [h2]; unfold wrap64; omega
  rw [w1, w2]
  have t1 := Lift_ev (n := p) hl (by omega) (by omega)
  have t2 := Lift_ev (n := q) hm (by omega) (by omega)
  rw [vl] at t1
  rw [vm] at t2
  obtain ⟨A, hA⟩ : ∃ A, A = M * 2 ^ p := ⟨_, rfl⟩
  obtain ⟨C, hC⟩ : ∃ C, C = N * 2 ^ q := ⟨_, rfl⟩
  rw [← hA] at t1 bM
  rw [← hC] at t2 bN
  have lA := len_of (by omega) bM
  have lC := len_of (by omega) bN
  have t3 := rCmp_ev (ok_lim A) (ok_lim C) (by omega) (by omega)
  rw [val_lim, val_lim] at t3
  have sB : A + C < B 4096 := pow_B' (n := F + 1) (by rw [Nat.pow_succ]; omega) (by omega)
  have nz' : ¬ (A = 0 ∧ C = 0) := fun k => nz ⟨by
    have := k.1; rw [hA] at this; exact (Nat.mul_eq_zero.1 this).resolve_right (Nat.pos_iff_ne_zero.1 (Nat.pow_pos (by omega))), by
    have := k.2; rw [hC] at this; exact (Nat.mul_eq_zero.1 this).resolve_right (Nat.pos_iff_ne_zero.1 (Nat.pow_pos (by omega)))⟩
  have val' (r : Bool) (Z : Nat) (h : sv r Z = sv s A + sv t C) : sv r Z * ((2 ^ (g + 4000).toNat : Nat) : Int) = sv s M * ((2 ^ (e + 4000).toNat : Nat) : Int) + sv t N * ((2 ^ (f + 4000).toNat : Nat) : Int) := by
    rw [show (e + 4000).toNat = p + (g + 4000).toNat by omega, show (f + 4000).toNat = q + (g + 4000).toNat by omega, Nat.pow_add, Nat.pow_add, Int.natCast_mul, Int.natCast_mul, ← Int.mul_assoc, ← Int.mul_assoc, ← sv_mul s M, ← sv_mul t N, ← hA, ← hC, ← Int.add_mul, h]
  by_cases hst : s = t
  · subst hst
    have t4 := Plus_ev (ok_lim A) (ok_lim C) (by omega) (by omega)
    rw [val_lim, val_lim] at t4
    refine ⟨s, A + C, Ev.bind t1 (Ev.bind t2 (Ev.bind t3 (Ev_pos (by simp) (Ev.bind t4 (Ev.now _))))), sB, fg.1, fg.2, val' _ _ (by unfold sv; cases s <;> simp <;> omega), fun h => ?_⟩
    omega
  have hne : ¬ ((s == t) = true) := by simp [hst]
  by_cases h0 : A = C
  · refine ⟨false, 0, Ev.bind t1 (Ev.bind t2 (Ev.bind t3 (Ev_neg hne (Ev_pos (by rw [h0, cmp_self]) (Ev_some (by rw [lim_zero])))))), B_pos _, fg.1, fg.2, val' _ _ (by rw [h0]; unfold sv; cases s <;> cases t <;> simp at hst ⊢ <;> omega), fun _ => by cases s <;> cases t <;> simp at hst ⊢⟩
  have c0 := cmp_zero A C
  have cp := cmp_pos A C
  by_cases hgt : C < A
  · have t4 := Less_ev (ok_lim A) (ok_lim C) (by omega) (by omega) (by rw [val_lim, val_lim]; omega)
    rw [val_lim, val_lim] at t4
    refine ⟨s, A - C, Ev.bind t1 (Ev.bind t2 (Ev.bind t3 (Ev_neg hne (Ev_neg (fun k => h0 (c0.1 k)) (Ev_pos (cp.2 hgt) (Ev.bind t4 (Ev.now _))))))), by omega, fg.1, fg.2, val' _ _ (by unfold sv; cases s <;> cases t <;> simp at hst ⊢ <;> omega), fun h => by omega⟩
  · have t4 := Less_ev (ok_lim C) (ok_lim A) (by omega) (by omega) (by rw [val_lim, val_lim]; omega)
    rw [val_lim, val_lim] at t4
    refine ⟨t, C - A, Ev.bind t1 (Ev.bind t2 (Ev.bind t3 (Ev_neg hne (Ev_neg (fun k => h0 (c0.1 k)) (Ev_neg (fun k => hgt (cp.1 k)) (Ev.bind t4 (Ev.now _))))))), by omega, fg.1, fg.2, val' _ _ (by unfold sv; cases s <;> cases t <;> simp at hst ⊢ <;> omega), fun h => by omega⟩
theorem sum_ev {l m : List Int} {M N : Nat} {s t : Bool} {den ns : List Int} {e f : Int} (hl : ok l) (hm : ok m) (ll : l.length ≤ 64) (lm : m.length ≤ 64) (vl : val l = M) (vm : val m = N) (bM : M < 2 ^ 110) (bN : N < 2 ^ 110) (fe : -4000 ≤ e ∧ e ≤ 4000) (ff : -4000 ≤ f ∧ f ≤ 4000) :
    ∃ r Z g, Ev (fun k _ _ => abacusref05_sum.f k s l den e t m ns f) (r, lim Z, den, g) ∧ SumR M N s t e f r Z g := by
  obtain ⟨F, hF⟩ : ∃ F, F = 8110 := ⟨_, rfl⟩
  simp only [abacusref05_sum.f, abacusref05_sum.b0]
  have n1 := none_ev (b := s) (d := den) (e := e) hl ll
  have n2 := none_ev (b := t) (d := ns) (e := f) hm lm
  rw [vl] at n1
  rw [vm] at n2
  have go (nz : ¬ (M = 0 ∧ N = 0)) : ∃ r Z g, Ev (fun k _ _ => abacusref05_sum.l7 k s l den e t m ns f) (r, lim Z, den, g) ∧ SumR M N s t e f r Z g := by
    simp only [abacusref05_sum.l7, abacusref05_sum.b7]
    by_cases h : f < e
    · obtain ⟨r, Z, e1, e2⟩ := sum_core (p := (e - f).toNat) (q := 0) (i := 0) (j := 0) (h := 0) (s := s) (t := t) (den := den) (ns := ns) (nt := []) (e := e) (f := f) (g := f) hF hl hm ll lm vl vm (by omega) (by omega) (by omega) (by omega) (by rw [hF]; exact lift_B bM (by omega)) (by rw [hF]; exact lift_B bN (by omega)) nz fe ff ff
      exact ⟨r, Z, f, Ev_pos h e1, e2⟩
    · obtain ⟨r, Z, e1, e2⟩ := sum_core (p := 0) (q := (f - e).toNat) (i := 0) (j := 0) (h := 0) (s := s) (t := t) (den := den) (ns := ns) (nt := []) (e := e) (f := f) (g := e) hF hl hm ll lm vl vm (by omega) (by omega) (by omega) (by omega) (by rw [hF]; exact lift_B bM (by omega)) (by rw [hF]; exact lift_B bN (by omega)) nz fe ff fe
      exact ⟨r, Z, e, Ev_neg h e1, e2⟩
  by_cases m0 : M = 0
  · by_cases k0 : N = 0
    · have zz : SumR M N s t e f (s && t) 0 0 := ⟨B_pos _, by omega, by omega, by rw [m0, k0, sv_zero, sv_zero, sv_zero, Int.zero_mul, Int.zero_mul, Int.zero_mul]; rfl, fun _ => rfl⟩
      cases hs : s with
      | true => rw [hs, Bool.true_and] at zz; exact ⟨t, 0, 0, Ev.bind n1 (Ev_pos (decide_eq_true m0) (Ev.bind n2 (Ev_pos (decide_eq_true k0) (Ev_pos rfl (Ev_some (by rw [lim_zero])))))), hs ▸ zz⟩
      | false => rw [hs, Bool.false_and] at zz; exact ⟨false, 0, 0, Ev.bind n1 (Ev_pos (decide_eq_true m0) (Ev.bind n2 (Ev_pos (decide_eq_true k0) (Ev_neg (by simp) (Ev_some (by rw [lim_zero])))))), hs ▸ zz⟩
    · obtain ⟨r, Z, g, e1, e2⟩ := go (fun k => k0 k.2)
      exact ⟨r, Z, g, Ev.bind n1 (Ev_pos (decide_eq_true m0) (Ev.bind n2 (Ev_neg (by rw [decide_eq_false k0]; simp) e1))), e2⟩
  · obtain ⟨r, Z, g, e1, e2⟩ := go (fun k => m0 k.1)
    exact ⟨r, Z, g, Ev.bind n1 (Ev_neg (by rw [decide_eq_false m0]; simp) e1), e2⟩
theorem rounded_ev {Z D a b : Nat} {s : Bool} {e : Int} (hZ : Z < B 4096) (hD : D < B 4096) (hD0 : D ≠ 0) (he : -10000 ≤ e ∧ e ≤ 10000) (hab : (a : Int) - b = e + 1074) :
    ∃ p, Ev (fun k _ _ => abacusref05_rounded.f k s (lim Z) (lim D) e) (put s p) ∧ Near p (Z * 2 ^ a) (D * 2 ^ b) := by
  obtain ⟨p, h1, h2⟩ := R4.RoundRatio_ev (s := s) hZ hD hD0 (e := e) (by omega) hab
  refine ⟨p, ?_, h2⟩
  simp only [abacusref05_rounded.f, abacusref05_rounded.b0]
  exact Ev.bind h1 (Ev.now _)
/-- A fraction with nothing above. -/
theorem rounded_zero {D : Nat} {s : Bool} {e : Int} (hD : D < B 4096) (hD0 : D ≠ 0) : Ev (fun k _ _ => abacusref05_rounded.f k s [0] (lim D) e) (put s 0) := by
  simp only [abacusref05_rounded.f, abacusref05_rounded.b0, abacusref04_RoundRatio.f, abacusref04_RoundRatio.b0]
  have o0 : ok [0] := by intro y hy; simp only [List.mem_singleton] at hy; subst hy; omega
  have lD := rlen hD
  have zD := @lim_len_zero D
  have v0 : val [0] = 0 := by rw [val_cons, val_nil]; rfl
  have sz := abacusref01_Size_ev o0 (by simp)
  rw [v0, lim_zero] at sz
  have sD := abacusref01_Size_ev (ok_lim D) (by omega)
  rw [val_lim] at sD
  have b0 : Ev (fun n _ _ => abacusref01_Big.f n [0]) false := by
    simp only [abacusref01_Big.f, abacusref01_Big.b0]
    exact Ev.bind sz (Ev_some rfl)
  have bD : Ev (fun n _ _ => abacusref01_Big.f n (lim D)) false := by
    simp only [abacusref01_Big.f, abacusref01_Big.b0]
    exact Ev.bind sD (Ev_some (decide_eq_false (by omega)))
  refine Ev.bind (a := (put s 0, 0)) (Ev.bind b0 (Ev_neg (by simp) (Ev.bind bD (Ev_neg (by simp) (Ev.bind sD (Ev_neg (by omega) (Ev.bind sz (Ev_pos rfl (Ev_bind_eq (a := put s 0) ?_ (Ev.now _)))))))))) (Ev.now _)
  cases s <;> rfl
theorem parts' {d : Int} (h : U d) (hf : fin d) : ∃ m : Nat, manOf d = (m : Int) ∧ m < 9007199254740992 ∧ uni (plc d) = m * 2 ^ (expOf d + 1074).toNat ∧ -1074 ≤ expOf d ∧ expOf d ≤ 971 := by
  have h1 := man_range hf
  have h2 := exp_range hf
  exact ⟨(manOf d).toNat, by omega, by omega, uni_parts hf, h2.1, h2.2⟩
theorem fin_of {d : Int} (h3 : cls d ≠ 3) (h4 : cls d ≠ 4) : fin d := by
  have h5 := @cls_fin d
  have h6 : cls d ≤ 4 := by unfold cls; repeat' split <;> omega
  exact Decidable.byContradiction fun k => by have := h5.2 k; omega
theorem m110 {m : Nat} (h : m < 9007199254740992) : m < 2 ^ 110 := Nat.lt_of_lt_of_le h (by decide)
theorem sign_sum {r : Bool} {Z : Nat} {v : Int} {Q : Nat} (hQ : 0 < Q) (h : sv r Z * (Q : Int) = v) : Z * Q = v.natAbs ∧ (v ≠ 0 → r = decide (v < 0)) ∧ (v = 0 → Z = 0) := by
  rw [← sv_mul] at h
  have hz : Z * Q = 0 ↔ Z = 0 := ⟨fun k => (Nat.mul_eq_zero.1 k).resolve_right (by omega), fun k => by rw [k, Nat.zero_mul]⟩
  rw [← h]
  refine ⟨(sv_abs _ _).symm, fun k => ?_, fun k => hz.1 ?_⟩
  · unfold sv at k ⊢
    cases r with
    | true => simp only [if_true] at k ⊢; exact (decide_eq_true (by omega)).symm
    | false => simp only [Bool.false_eq_true, if_false] at k ⊢; exact (decide_eq_false (by omega)).symm
  · unfold sv at k
    cases r <;> simp at k <;> omega
theorem rAdd_ev {a b : Int} (ha : U a) (hb : U b) : ∃ d, Ev (fun k _ _ => abacusref05_Add.f k a b) d ∧ AddR a b d := by
  simp only [abacusref05_Add.f, abacusref05_Add.b0]
  unfold AddR
  have nn := anyNaN_eq ha hb
  have ia := infinite_eq ha
  have ib := infinite_eq hb
  by_cases h4 : cls a = 4 ∨ cls b = 4
  · exact ⟨_, Ev_bind_eq nn (Ev_pos (decide_eq_true h4) (Ev.now _)), by rw [if_pos h4]⟩
  have go (x : Bool) (hx : x = decide (cls a = 3 ∧ cls b = 3 ∧ sgn a ≠ sgn b)) : ∃ d, Ev (fun k _ _ => abacusref05_Add.l103 k a b x) d ∧ (if cls a = 3 ∧ cls b = 3 ∧ sgn a ≠ sgn b then d = 9221120237041090560 else if cls a = 3 then d = a else if cls b = 3 then d = b else Rd d (sval a + sval b) (sgn a && sgn b)) := by
    simp only [abacusref05_Add.l103, abacusref05_Add.b103]
    by_cases h3 : cls a = 3 ∧ cls b = 3 ∧ sgn a ≠ sgn b
    · exact ⟨_, Ev_pos (by rw [hx, decide_eq_true h3]) (Ev.now _), by rw [if_pos h3]⟩
    have hx' : ¬ x = true := by rw [hx, decide_eq_false h3]; simp
    by_cases ha3 : cls a = 3
    · exact ⟨_, Ev_neg hx' (Ev_bind_eq ia (Ev_pos (decide_eq_true ha3) (Ev.now _))), by rw [if_neg h3, if_pos ha3]⟩
    by_cases hb3 : cls b = 3
    · exact ⟨_, Ev_neg hx' (Ev_bind_eq ia (Ev_neg (by rw [decide_eq_false ha3]; simp) (Ev_bind_eq ib (Ev_pos (decide_eq_true hb3) (Ev.now _))))), by rw [if_neg h3, if_neg ha3, if_pos hb3]⟩
    have fa := fin_of ha3 (fun k => h4 (.inl k))
    have fb := fin_of hb3 (fun k => h4 (.inr k))
    obtain ⟨m, am, rm, um, e0, e1⟩ := parts' ha fa
    obtain ⟨n, bn, rn, un, f0, f1⟩ := parts' hb fb
    have oa := of_eq ha
    have ob := of_eq hb
    rw [am] at oa
    rw [bn] at ob
    obtain ⟨r, Z, g, es, hs⟩ := sum_ev (s := sgn a) (t := sgn b) (den := [1]) (ns := [1]) (e := expOf a) (f := expOf b) (limb_ok (m := m) (by omega)) (limb_ok (m := n) (by omega)) (by simp) (by simp) limb_val limb_val (m110 rm) (m110 rn) (by omega) (by omega)
    have g0 := hs.g0
    have g1 := hs.g1
    obtain ⟨A, C, hab, hA⟩ : ∃ A C : Nat, (A : Int) - C = g + 1074 ∧ A = (g + 4000).toNat ∧ C = 2926 := ⟨(g + 4000).toNat, 2926, by omega, rfl, rfl⟩
    obtain ⟨p, ep, hp⟩ := rounded_ev (Z := Z) (D := 1) (s := r) (e := g) hs.lim (by have := B_mono (show 1 ≤ 4096 by omega); rw [B_one] at this; omega) (by omega) (by omega) hab
    rw [← one_lim] at ep
    -- the value, in the unit 2^-1074
    have hv := hs.v
    have hQ : 0 < 2 ^ (g + 4000).toNat := Nat.pow_pos (by omega)
    have key : sv (sgn a) m * ((2 ^ (expOf a + 4000).toNat : Nat) : Int) + sv (sgn b) n * ((2 ^ (expOf b + 4000).toNat : Nat) : Int) = (sval a + sval b) * ((2 ^ C : Nat) : Int) := by
      rw [sval, sval, um, un, sv_mul, sv_mul, show (expOf a + 4000).toNat = (expOf a + 1074).toNat + C by omega, show (expOf b + 4000).toNat = (expOf b + 1074).toNat + C by omega, Nat.pow_add, Nat.pow_add, Int.natCast_mul, Int.natCast_mul, Int.add_mul, Int.mul_assoc, Int.mul_assoc]
    rw [key] at hv
    obtain ⟨q1, q2, q3⟩ := sign_sum hQ hv
    have pC : 0 < 2 ^ C := Nat.pow_pos (by omega)
    have vz : (sval a + sval b) * ((2 ^ C : Nat) : Int) = 0 ↔ sval a + sval b = 0 := ⟨fun k => (Int.mul_eq_zero.1 k).resolve_right (by omega), fun k => by rw [k, Int.zero_mul]⟩
    have vn : (sval a + sval b) * ((2 ^ C : Nat) : Int) < 0 ↔ sval a + sval b < 0 := ⟨fun k => by
      refine Int.lt_of_not_ge fun h => ?_
      have := Int.mul_nonneg h (show 0 ≤ ((2 ^ C : Nat) : Int) by omega)
      omega, fun k => Int.mul_neg_of_neg_of_pos k (by omega)⟩
    refine ⟨put r p, Ev_neg hx' (Ev_bind_eq ia (Ev_neg (by rw [decide_eq_false ha3]; simp) (Ev_bind_eq ib (Ev_neg (by rw [decide_eq_false hb3]; simp) (Ev_bind_eq oa (Ev_bind_eq ob (Ev.bind es (Ev.bind ep (Ev.now _))))))))), ?_⟩
    rw [if_neg h3, if_neg ha3, if_neg hb3]
    refine ⟨r, p, rfl, ?_, fun k => ?_, fun k => hs.z (q3 (vz.2 k))⟩
    · rw [hA.1, q1, Int.natAbs_mul, Int.natAbs_natCast, Nat.one_mul] at hp
      exact near_congr pC (by omega) hp (by rw [Nat.mul_one])
    · rw [q2 (fun h => k (vz.1 h))]
      exact decide_eq_decide.2 vn
  by_cases ha3 : cls a = 3
  · by_cases hb3 : cls b = 3
    · obtain ⟨d, e1, e2⟩ := go (sgn a != sgn b) (by by_cases hs : sgn a = sgn b <;> simp [ha3, hb3, hs])
      exact ⟨d, Ev_bind_eq nn (Ev_neg (by rw [decide_eq_false h4]; simp) (Ev_bind_eq ia (Ev_pos (decide_eq_true ha3) (Ev_bind_eq ib (Ev_pos (decide_eq_true hb3) (Ev_bind_eq (negative_eq a) (Ev_bind_eq (negative_eq b) e1))))))), by rw [if_neg h4]; exact e2⟩
    · obtain ⟨d, e1, e2⟩ := go false (by simp [hb3])
      exact ⟨d, Ev_bind_eq nn (Ev_neg (by rw [decide_eq_false h4]; simp) (Ev_bind_eq ia (Ev_pos (decide_eq_true ha3) (Ev_bind_eq ib (Ev_neg (by rw [decide_eq_false hb3]; simp) e1))))), by rw [if_neg h4]; exact e2⟩
  · obtain ⟨d, e1, e2⟩ := go false (by simp [ha3])
    exact ⟨d, Ev_bind_eq nn (Ev_neg (by rw [decide_eq_false h4]; simp) (Ev_bind_eq ia (Ev_neg (by rw [decide_eq_false ha3]; simp) e1))), by rw [if_neg h4]; exact e2⟩
end Go.Proofs.YtogkhfalgiajkaaDoor.R5
