import Derived.Test.YtobocamcoaeliaaGreatDoorQR4
import Derived.Test.YtobocamcoaeliaaGreatDoorQSoftTot
import Derived.Test.YtobocamcoaeliaaGreatDoorQSoftFl
/- What the fifth reference computes: sums, products, quotients, rounded once. No conditions. -/
namespace Go.Proofs.YtobocamcoaeliaaGreatDoor.R5
open Go.RowKit Go.Proofs.YtobocamcoaeliaaGreatDoor.Lib Go.Proofs.YtobocamcoaeliaaGreatDoor.LibB Go.Proofs.YtobocamcoaeliaaGreatDoor.F Go.Proofs.YtobocamcoaeliaaGreatDoor.Nat1 Go.Proofs.YtobocamcoaeliaaGreatDoor.Nat2 Go.Proofs.YtobocamcoaeliaaGreatDoor.Bits Go.Proofs.YtobocamcoaeliaaGreatDoor.Ieee1 Go.Proofs.YtobocamcoaeliaaGreatDoor.Mag Go.Proofs.YtobocamcoaeliaaGreatDoor.Ieee2 Go.Proofs.YtobocamcoaeliaaGreatDoor.Rnd Go.Proofs.YtobocamcoaeliaaGreatDoor.R1 Go.Proofs.YtobocamcoaeliaaGreatDoor.R4
open Go.Proofs.YtobocamcoaeliaaGreatDoor.Soft1 (sv sval Rd sv_zero sv_mul sv_abs)
open Go.Proofs.YtobocamcoaeliaaGreatDoor.SoftTot (AddR MulR DivR)
open Go.Proofs.YtobocamcoaeliaaGreatDoorA (rd ln ln_eq mx mn shl shr wr wr_eq)
set_option linter.unusedVariables false
set_option linter.unusedSimpArgs false
theorem plc_cls {d : Int} (h : U d) : ((plc d : Int) = 9218868437227405312 ↔ cls d = 3) ∧ ((plc d : Int) = 0 ↔ cls d = 0) := by
  have := Int.emod_nonneg d (show (9223372036854775808 : Int) ≠ 0 by omega)
  unfold plc cls
  refine ⟨⟨fun h => ?_, fun h => ?_⟩, ⟨fun h => ?_, fun h => ?_⟩⟩
  all_goals (repeat' split at h) <;> (repeat' split) <;> omega
theorem infinite_eq {d : Int} (h : U d) : abacusref05_infinite.f d = some (decide (cls d = 3)) := by
  unfold abacusref05_infinite.f abacusref05_infinite.b0
  rw [rAbs_eq h, Option.bind_some]
  exact congrArg some (decide_eq_decide.2 (plc_cls h).1)
theorem zero_eq {d : Int} (h : U d) : abacusref05_zero.f d = some (decide (cls d = 0)) := by
  unfold abacusref05_zero.f abacusref05_zero.b0
  rw [rAbs_eq h, Option.bind_some]
  exact congrArg some (decide_eq_decide.2 (plc_cls h).2)
theorem negative_eq (d : Int) : abacusref05_negative.f d = some (sgn d) := rfl
theorem anyNaN_eq {a b : Int} (ha : U a) (hb : U b) : abacusref05_anyNaN.f a b = some (decide (cls a = 4 ∨ cls b = 4)) := by
  unfold abacusref05_anyNaN.f abacusref05_anyNaN.b0
  rw [rIsNaN_eq ha, rIsNaN_eq hb, Option.bind_some, Option.bind_some]
  by_cases h1 : cls a = 4
  · rw [decide_eq_true h1, if_pos rfl, decide_eq_true (.inl h1)]
  · rw [decide_eq_false h1, if_neg (by simp)]
    exact congrArg some (decide_eq_decide.2 ⟨.inr, fun h => h.resolve_left h1⟩)
theorem of_eq {d : Int} (h : U d) : abacusref05_of.f d = some (sgn d, [manOf d], [1], expOf d) := by
  unfold abacusref05_of.f abacusref05_of.b0
  rw [rDecode_eq h, Option.bind_some]
theorem signed_inf (s : Bool) : abacusref05_signed.f s 9218868437227405312 = some (put s inf) := by cases s <;> rfl
theorem signed_zero (s : Bool) : abacusref05_signed.f s 0 = some (put s 0) := by cases s <;> rfl
theorem limb_val {m : Nat} : val [(m : Int)] = m := by rw [val_cons, val_nil]; simp
theorem limb_ok {m : Nat} (h : m < 18446744073709551616) : ok [(m : Int)] := by intro y hy; simp only [List.mem_singleton] at hy; subst hy; omega
theorem one_lim : ([1] : List Int) = lim 1 := by
  have := lim_one_len (n := 1) (by omega) (by omega)
  exact this.symm
theorem pow_B' {x n : Nat} (h : x < 2 ^ n) (hn : n ≤ 262144) : x < B 4096 := by
  obtain ⟨N, hN⟩ : ∃ N, N = 64 * 4096 := ⟨_, rfl⟩
  rw [B_two, ← hN]; exact Nat.lt_of_lt_of_le h (Nat.pow_le_pow_right (by omega) (by omega))
theorem none_ev {l : List Int} {b : Bool} {d : List Int} {e : Int} (h : ok l) (hl : l.length ≤ 64) : Ev (fun k _ _ => abacusref05_none.f k b l d e) (decide (val l = 0)) := by
  simp only [abacusref05_none.f, abacusref05_none.b0]
  refine Ev.bind (abacusref01_Size_ev h (by omega)) (Ev_some ?_)
  have := @lim_len_zero (val l)
  exact decide_eq_decide.2 (by omega)
/-- A sum of two numbers in the unit 2^(-4000). -/
structure SumR (M N : Nat) (s t : Bool) (e f : Int) (r : Bool) (Z : Nat) (g : Int) : Prop where
  lim : Z < B 4096
  g0 : -4000 ≤ g
  g1 : g ≤ 4000
  v : sv r Z * ((2 ^ (g + 4000).toNat : Nat) : Int) = sv s M * ((2 ^ (e + 4000).toNat : Nat) : Int) + sv t N * ((2 ^ (f + 4000).toNat : Nat) : Int)
  z : Z = 0 → r = (s && t)
theorem lift_B {M p : Nat} (hM : M < 2 ^ 110) (hp : p ≤ 8000) : M * 2 ^ p < 2 ^ 8110 := by
  obtain ⟨F, hF⟩ : ∃ F, F = 8110 := ⟨_, rfl⟩
  rw [← hF]
  have h1 : M * 2 ^ p < 2 ^ 110 * 2 ^ p := Nat.mul_lt_mul_of_pos_right hM (Nat.pow_pos (by omega))
  rw [← Nat.pow_add] at h1
  exact Nat.lt_of_lt_of_le h1 (Nat.pow_le_pow_right (by omega) (by omega))
theorem len_of {F n : Nat} (hF : F ≤ 262144) (h : n < 2 ^ F) : (lim n).length ≤ 4096 := (lim_len_le n 4096).2 (pow_B' h hF)
/-- The heart of a sum: over a common unit. -/
theorem sum_core {l m : List Int} {M N p q i j h F : Nat} {s t : Bool} {den : List Int} {e f g : Int} (hF : F = 8110) (hl : ok l) (hm : ok m) (ll : l.length ≤ 64) (lm : m.length ≤ 64) (vl : val l = M) (vm : val m = N)
    (h1 : e - g = (p : Int)) (h2 : f - g = (q : Int)) (hp : p ≤ 8000) (hq : q ≤ 8000) (bM : M * 2 ^ p < 2 ^ F) (bN : N * 2 ^ q < 2 ^ F) (nz : ¬ (M = 0 ∧ N = 0)) (fe : -4000 ≤ e ∧ e ≤ 4000) (ff : -4000 ≤ f ∧ f ≤ 4000) (fg : -4000 ≤ g ∧ g ≤ 4000) {ns nt : List Int} :
    ∃ r Z, Ev (fun k _ _ => abacusref05_sum.l31 k g f s l den e t m ns) (r, lim Z, den, g) ∧ SumR M N s t e f r Z g := by
  simp only [abacusref05_sum.l31, abacusref05_sum.b31]
  have w1 : wrap64 (e - g) = (p : Int) := by rw [h1]; unfold wrap64; omega
  have w2 : wrap64 (f - g) = (q : Int) := by rw [h2]; unfold wrap64; omega
  rw [w1, w2]
  have t1 := Lift_ev (n := p) hl (by omega) (by omega)
  have t2 := Lift_ev (n := q) hm (by omega) (by omega)
  rw [vl] at t1
  rw [vm] at t2
  obtain ⟨A, hA⟩ : ∃ A, A = M * 2 ^ p := ⟨_, rfl⟩
  obtain ⟨C, hC⟩ : ∃ C, C = N * 2 ^ q := ⟨_, rfl⟩
  rw [← hA] at t1 bM
  rw [← hC] at t2 bN
  have lA := len_of (by omega) bM
  have lC := len_of (by omega) bN
  have t3 := rCmp_ev (ok_lim A) (ok_lim C) (by omega) (by omega)
  rw [val_lim, val_lim] at t3
  have sB : A + C < B 4096 := pow_B' (n := F + 1) (by rw [Nat.pow_succ]; omega) (by omega)
  have nz' : ¬ (A = 0 ∧ C = 0) := fun k => nz ⟨by
    have := k.1; rw [hA] at this; exact (Nat.mul_eq_zero.1 this).resolve_right (Nat.pos_iff_ne_zero.1 (Nat.pow_pos (by omega))), by
    have := k.2; rw [hC] at this; exact (Nat.mul_eq_zero.1 this).resolve_right (Nat.pos_iff_ne_zero.1 (Nat.pow_pos (by omega)))⟩
  have val' (r : Bool) (Z : Nat) (h : sv r Z = sv s A + sv t C) : sv r Z * ((2 ^ (g + 4000).toNat : Nat) : Int) = sv s M * ((2 ^ (e + 4000).toNat : Nat) : Int) + sv t N * ((2 ^ (f + 4000).toNat : Nat) : Int) := by
    rw [show (e + 4000).toNat = p + (g + 4000).toNat by omega, show (f + 4000).toNat = q + (g + 4000).toNat by omega, Nat.pow_add, Nat.pow_add, Int.natCast_mul, Int.natCast_mul, ← Int.mul_assoc, ← Int.mul_assoc, ← sv_mul s M, ← sv_mul t N, ← hA, ← hC, ← Int.add_mul, h]
  by_cases hst : s = t
  · subst hst
    have t4 := Plus_ev (ok_lim A) (ok_lim C) (by omega) (by omega)
    rw [val_lim, val_lim] at t4
    refine ⟨s, A + C, Ev.bind t1 (Ev.bind t2 (Ev.bind t3 (Ev_pos (by simp) (Ev.bind t4 (Ev.now _))))), sB, fg.1, fg.2, val' _ _ (by unfold sv; cases s <;> simp <;> omega), fun h => ?_⟩
    omega
  have hne : ¬ ((s == t) = true) := by simp [hst]
  by_cases h0 : A = C
  · refine ⟨false, 0, Ev.bind t1 (Ev.bind t2 (Ev.bind t3 (Ev_neg hne (Ev_pos (by rw [h0, cmp_self]) (Ev_some (by rw [lim_zero])))))), B_pos _, fg.1, fg.2, val' _ _ (by rw [h0]; unfold sv; cases s <;> cases t <;> simp at hst ⊢ <;> omega), fun _ => by cases s <;> cases t <;> simp at hst ⊢⟩
  have c0 := cmp_zero A C
  have cp := cmp_pos A C
  by_cases hgt : C < A
  · have t4 := Less_ev (ok_lim A) (ok_lim C) (by omega) (by omega) (by rw [val_lim, val_lim]; omega)
    rw [val_lim, val_lim] at t4
    refine ⟨s, A - C, Ev.bind t1 (Ev.bind t2 (Ev.bind t3 (Ev_neg hne (Ev_neg (fun k => h0 (c0.1 k)) (Ev_pos (cp.2 hgt) (Ev.bind t4 (Ev.now _))))))), by omega, fg.1, fg.2, val' _ _ (by unfold sv; cases s <;> cases t <;> simp at hst ⊢ <;> omega), fun h => by omega⟩
  · have t4 := Less_ev (ok_lim C) (ok_lim A) (by omega) (by omega) (by rw [val_lim, val_lim]; omega)
    rw [val_lim, val_lim] at t4
    refine ⟨t, C - A, Ev.bind t1 (Ev.bind t2 (Ev.bind t3 (Ev_neg hne (Ev_neg (fun k => h0 (c0.1 k)) (Ev_neg (fun k => hgt (cp.1 k)) (Ev.bind t4 (Ev.now _))))))), by omega, fg.1, fg.2, val' _ _ (by unfold sv; cases s <;> cases t <;> simp at hst ⊢ <;> omega), fun h => by omega⟩
theorem sum_ev {l m : List Int} {M N : Nat} {s t : Bool} {den ns : List Int} {e f : Int} (hl : ok l) (hm : ok m) (ll : l.length ≤ 64) (lm : m.length ≤ 64) (vl : val l = M) (vm : val m = N) (bM : M < 2 ^ 110) (bN : N < 2 ^ 110) (fe : -4000 ≤ e ∧ e ≤ 4000) (ff : -4000 ≤ f ∧ f ≤ 4000) :
    ∃ r Z g, Ev (fun k _ _ => abacusref05_sum.f k s l den e t m ns f) (r, lim Z, den, g) ∧ SumR M N s t e f r Z g := by
  obtain ⟨F, hF⟩ : ∃ F, F = 8110 := ⟨_, rfl⟩
  simp only [abacusref05_sum.f, abacusref05_sum.b0]
  have n1 := none_ev (b := s) (d := den) (e := e) hl ll
  have n2 := none_ev (b := t) (d := ns) (e := f) hm lm
  rw [vl] at n1
  rw [vm] at n2
  have go (nz : ¬ (M = 0 ∧ N = 0)) : ∃ r Z g, Ev (fun k _ _ => abacusref05_sum.l7 k s l den e t m ns f) (r, lim Z, den, g) ∧ SumR M N s t e f r Z g := by
    simp only [abacusref05_sum.l7, abacusref05_sum.b7]
    by_cases h : f < e
    · obtain ⟨r, Z, e1, e2⟩ := sum_core (p := (e - f).toNat) (q := 0) (i := 0) (j := 0) (h := 0) (s := s) (t := t) (den := den) (ns := ns) (nt := []) (e := e) (f := f) (g := f) hF hl hm ll lm vl vm (by omega) (by omega) (by omega) (by omega) (by rw [hF]; exact lift_B bM (by omega)) (by rw [hF]; exact lift_B bN (by omega)) nz fe ff ff
      exact ⟨r, Z, f, Ev_pos h e1, e2⟩
    · obtain ⟨r, Z, e1, e2⟩ := sum_core (p := 0) (q := (f - e).toNat) (i := 0) (j := 0) (h := 0) (s := s) (t := t) (den := den) (ns := ns) (nt := []) (e := e) (f := f) (g := e) hF hl hm ll lm vl vm (by omega) (by omega) (by omega) (by omega) (by rw [hF]; exact lift_B bM (by omega)) (by rw [hF]; exact lift_B bN (by omega)) nz fe ff fe
      exact ⟨r, Z, e, Ev_neg h e1, e2⟩
  by_cases m0 : M = 0
  · by_cases k0 : N = 0
    · have zz : SumR M N s t e f (s && t) 0 0 := ⟨B_pos _, by omega, by omega, by rw [m0, k0, sv_zero, sv_zero, sv_zero, Int.zero_mul, Int.zero_mul, Int.zero_mul]; rfl, fun _ => rfl⟩
      cases hs : s with
      | true => rw [hs, Bool.true_and] at zz; exact ⟨t, 0, 0, Ev.bind n1 (Ev_pos (decide_eq_true m0) (Ev.bind n2 (Ev_pos (decide_eq_true k0) (Ev_pos rfl (Ev_some (by rw [lim_zero])))))), hs ▸ zz⟩
      | false => rw [hs, Bool.false_and] at zz; exact ⟨false, 0, 0, Ev.bind n1 (Ev_pos (decide_eq_true m0) (Ev.bind n2 (Ev_pos (decide_eq_true k0) (Ev_neg (by simp) (Ev_some (by rw [lim_zero])))))), hs ▸ zz⟩
    · obtain ⟨r, Z, g, e1, e2⟩ := go (fun k => k0 k.2)
      exact ⟨r, Z, g, Ev.bind n1 (Ev_pos (decide_eq_true m0) (Ev.bind n2 (Ev_neg (by rw [decide_eq_false k0]; simp) e1))), e2⟩
  · obtain ⟨r, Z, g, e1, e2⟩ := go (fun k => m0 k.1)
    exact ⟨r, Z, g, Ev.bind n1 (Ev_neg (by rw [decide_eq_false m0]; simp) e1), e2⟩
theorem rounded_ev {Z D a b : Nat} {s : Bool} {e : Int} (hZ : Z < B 4096) (hD : D < B 4096) (hD0 : D ≠ 0) (he : -10000 ≤ e ∧ e ≤ 10000) (hab : (a : Int) - b = e + 1074) :
    ∃ p, Ev (fun k _ _ => abacusref05_rounded.f k s (lim Z) (lim D) e) (put s p) ∧ Near p (Z * 2 ^ a) (D * 2 ^ b) := by
  obtain ⟨p, h1, h2⟩ := R4.RoundRatio_ev (s := s) hZ hD hD0 (e := e) (by omega) hab
  refine ⟨p, ?_, h2⟩
  simp only [abacusref05_rounded.f, abacusref05_rounded.b0]
  exact Ev.bind h1 (Ev.now _)
/-- A fraction with nothing above. -/
theorem rounded_zero {D : Nat} {s : Bool} {e : Int} (hD : D < B 4096) (hD0 : D ≠ 0) : Ev (fun k _ _ => abacusref05_rounded.f k s [0] (lim D) e) (put s 0) := by
  simp only [abacusref05_rounded.f, abacusref05_rounded.b0, abacusref04_RoundRatio.f, abacusref04_RoundRatio.b0]
  have o0 : ok [0] := by intro y hy; simp only [List.mem_singleton] at hy; subst hy; omega
  have lD := rlen hD
  have zD := @lim_len_zero D
  have v0 : val [0] = 0 := by rw [val_cons, val_nil]; rfl
  have sz := abacusref01_Size_ev o0 (by simp)
  rw [v0, lim_zero] at sz
  have sD := abacusref01_Size_ev (ok_lim D) (by omega)
  rw [val_lim] at sD
  have b0 : Ev (fun n _ _ => abacusref01_Big.f n [0]) false := by
    simp only [abacusref01_Big.f, abacusref01_Big.b0]
    exact Ev.bind sz (Ev_some rfl)
  have bD : Ev (fun n _ _ => abacusref01_Big.f n (lim D)) false := by
    simp only [abacusref01_Big.f, abacusref01_Big.b0]
    exact Ev.bind sD (Ev_some (decide_eq_false (by omega)))
  refine Ev.bind (a := (put s 0, 0)) (Ev.bind b0 (Ev_neg (by simp) (Ev.bind bD (Ev_neg (by simp) (Ev.bind sD (Ev_neg (by omega) (Ev.bind sz (Ev_pos rfl (Ev_bind_eq (a := put s 0) ?_ (Ev.now _)))))))))) (Ev.now _)
  cases s <;> rfl
theorem parts' {d : Int} (h : U d) (hf : fin d) : ∃ m : Nat, manOf d = (m : Int) ∧ m < 9007199254740992 ∧ uni (plc d) = m * 2 ^ (expOf d + 1074).toNat ∧ -1074 ≤ expOf d ∧ expOf d ≤ 971 := by
  have h1 := man_range hf
  have h2 := exp_range hf
  exact ⟨(manOf d).toNat, by omega, by omega, uni_parts hf, h2.1, h2.2⟩
theorem fin_of {d : Int} (h3 : cls d ≠ 3) (h4 : cls d ≠ 4) : fin d := by
  have h5 := @cls_fin d
  have h6 : cls d ≤ 4 := by unfold cls; repeat' split <;> omega
  exact Decidable.byContradiction fun k => by have := h5.2 k; omega
theorem m110 {m : Nat} (h : m < 9007199254740992) : m < 2 ^ 110 := Nat.lt_of_lt_of_le h (by decide)
theorem sign_sum {r : Bool} {Z : Nat} {v : Int} {Q : Nat} (hQ : 0 < Q) (h : sv r Z * (Q : Int) = v) : Z * Q = v.natAbs ∧ (v ≠ 0 → r = decide (v < 0)) ∧ (v = 0 → Z = 0) := by
  rw [← sv_mul] at h
  have hz : Z * Q = 0 ↔ Z = 0 := ⟨fun k => (Nat.mul_eq_zero.1 k).resolve_right (by omega), fun k => by rw [k, Nat.zero_mul]⟩
  rw [← h]
  refine ⟨(sv_abs _ _).symm, fun k => ?_, fun k => hz.1 ?_⟩
  · unfold sv at k ⊢
    cases r with
    | true => simp only [if_true] at k ⊢; exact (decide_eq_true (by omega)).symm
    | false => simp only [Bool.false_eq_true, if_false] at k ⊢; exact (decide_eq_false (by omega)).symm
  · unfold sv at k
    cases r <;> simp at k <;> omega
theorem rAdd_ev {a b : Int} (ha : U a) (hb : U b) : ∃ d, Ev (fun k _ _ => abacusref05_Add.f k a b) d ∧ AddR a b d := by
  simp only [abacusref05_Add.f, abacusref05_Add.b0]
  unfold AddR
  have nn := anyNaN_eq ha hb
  have ia := infinite_eq ha
  have ib := infinite_eq hb
  by_cases h4 : cls a = 4 ∨ cls b = 4
  · exact ⟨_, Ev_bind_eq nn (Ev_pos (decide_eq_true h4) (Ev.now _)), by rw [if_pos h4]⟩
  have go (x : Bool) (hx : x = decide (cls a = 3 ∧ cls b = 3 ∧ sgn a ≠ sgn b)) : ∃ d, Ev (fun k _ _ => abacusref05_Add.l103 k a b x) d ∧ (if cls a = 3 ∧ cls b = 3 ∧ sgn a ≠ sgn b then d = 9221120237041090560 else if cls a = 3 then d = a else if cls b = 3 then d = b else Rd d (sval a + sval b) (sgn a && sgn b)) := by
    simp only [abacusref05_Add.l103, abacusref05_Add.b103]
    by_cases h3 : cls a = 3 ∧ cls b = 3 ∧ sgn a ≠ sgn b
    · exact ⟨_, Ev_pos (by rw [hx, decide_eq_true h3]) (Ev.now _), by rw [if_pos h3]⟩
    have hx' : ¬ x = true := by rw [hx, decide_eq_false h3]; simp
    by_cases ha3 : cls a = 3
    · exact ⟨_, Ev_neg hx' (Ev_bind_eq ia (Ev_pos (decide_eq_true ha3) (Ev.now _))), by rw [if_neg h3, if_pos ha3]⟩
    by_cases hb3 : cls b = 3
    · exact ⟨_, Ev_neg hx' (Ev_bind_eq ia (Ev_neg (by rw [decide_eq_false ha3]; simp) (Ev_bind_eq ib (Ev_pos (decide_eq_true hb3) (Ev.now _))))), by rw [if_neg h3, if_neg ha3, if_pos hb3]⟩
    have fa := fin_of ha3 (fun k => h4 (.inl k))
    have fb := fin_of hb3 (fun k => h4 (.inr k))
    obtain ⟨m, am, rm, um, e0, e1⟩ := parts' ha fa
    obtain ⟨n, bn, rn, un, f0, f1⟩ := parts' hb fb
    have oa := of_eq ha
    have ob := of_eq hb
    rw [am] at oa
    rw [bn] at ob
    obtain ⟨r, Z, g, es, hs⟩ := sum_ev (s := sgn a) (t := sgn b) (den := [1]) (ns := [1]) (e := expOf a) (f := expOf b) (limb_ok (m := m) (by omega)) (limb_ok (m := n) (by omega)) (by simp) (by simp) limb_val limb_val (m110 rm) (m110 rn) (by omega) (by omega)
    have g0 := hs.g0
    have g1 := hs.g1
    obtain ⟨A, C, hab, hA⟩ : ∃ A C : Nat, (A : Int) - C = g + 1074 ∧ A = (g + 4000).toNat ∧ C = 2926 := ⟨(g + 4000).toNat, 2926, by omega, rfl, rfl⟩
    obtain ⟨p, ep, hp⟩ := rounded_ev (Z := Z) (D := 1) (s := r) (e := g) hs.lim (by have := B_mono (show 1 ≤ 4096 by omega); rw [B_one] at this; omega) (by omega) (by omega) hab
    rw [← one_lim] at ep
    -- the value, in the unit 2^-1074
    have hv := hs.v
    have hQ : 0 < 2 ^ (g + 4000).toNat := Nat.pow_pos (by omega)
    have key : sv (sgn a) m * ((2 ^ (expOf a + 4000).toNat : Nat) : Int) + sv (sgn b) n * ((2 ^ (expOf b + 4000).toNat : Nat) : Int) = (sval a + sval b) * ((2 ^ C : Nat) : Int) := by
      rw [sval, sval, um, un, sv_mul, sv_mul, show (expOf a + 4000).toNat = (expOf a + 1074).toNat + C by omega, show (expOf b + 4000).toNat = (expOf b + 1074).toNat + C by omega, Nat.pow_add, Nat.pow_add, Int.natCast_mul, Int.natCast_mul, Int.add_mul, Int.mul_assoc, Int.mul_assoc]
    rw [key] at hv
    obtain ⟨q1, q2, q3⟩ := sign_sum hQ hv
    have pC : 0 < 2 ^ C := Nat.pow_pos (by omega)
    have vz : (sval a + sval b) * ((2 ^ C : Nat) : Int) = 0 ↔ sval a + sval b = 0 := ⟨fun k => (Int.mul_eq_zero.1 k).resolve_right (by omega), fun k => by rw [k, Int.zero_mul]⟩
    have vn : (sval a + sval b) * ((2 ^ C : Nat) : Int) < 0 ↔ sval a + sval b < 0 := ⟨fun k => by
      refine Int.lt_of_not_ge fun h => ?_
      have := Int.mul_nonneg h (show 0 ≤ ((2 ^ C : Nat) : Int) by omega)
      omega, fun k => Int.mul_neg_of_neg_of_pos k (by omega)⟩
    refine ⟨put r p, Ev_neg hx' (Ev_bind_eq ia (Ev_neg (by rw [decide_eq_false ha3]; simp) (Ev_bind_eq ib (Ev_neg (by rw [decide_eq_false hb3]; simp) (Ev_bind_eq oa (Ev_bind_eq ob (Ev.bind es (Ev.bind ep (Ev.now _))))))))), ?_⟩
    rw [if_neg h3, if_neg ha3, if_neg hb3]
    refine ⟨r, p, rfl, ?_, fun k => ?_, fun k => hs.z (q3 (vz.2 k))⟩
    · rw [hA.1, q1, Int.natAbs_mul, Int.natAbs_natCast, Nat.one_mul] at hp
      exact near_congr pC (by omega) hp (by rw [Nat.mul_one])
    · rw [q2 (fun h => k (vz.1 h))]
      exact decide_eq_decide.2 vn
  by_cases ha3 : cls a = 3
  · by_cases hb3 : cls b = 3
    · obtain ⟨d, e1, e2⟩ := go (sgn a != sgn b) (by by_cases hs : sgn a = sgn b <;> simp [ha3, hb3, hs])
      exact ⟨d, Ev_bind_eq nn (Ev_neg (by rw [decide_eq_false h4]; simp) (Ev_bind_eq ia (Ev_pos (decide_eq_true ha3) (Ev_bind_eq ib (Ev_pos (decide_eq_true hb3) (Ev_bind_eq (negative_eq a) (Ev_bind_eq (negative_eq b) e1))))))), by rw [if_neg h4]; exact e2⟩
    · obtain ⟨d, e1, e2⟩ := go false (by simp [hb3])
      exact ⟨d, Ev_bind_eq nn (Ev_neg (by rw [decide_eq_false h4]; simp) (Ev_bind_eq ia (Ev_pos (decide_eq_true ha3) (Ev_bind_eq ib (Ev_neg (by rw [decide_eq_false hb3]; simp) e1))))), by rw [if_neg h4]; exact e2⟩
  · obtain ⟨d, e1, e2⟩ := go false (by simp [ha3])
    exact ⟨d, Ev_bind_eq nn (Ev_neg (by rw [decide_eq_false h4]; simp) (Ev_bind_eq ia (Ev_neg (by rw [decide_eq_false ha3]; simp) e1))), by rw [if_neg h4]; exact e2⟩
theorem rSub_ev {a b : Int} (ha : U a) (hb : U b) : ∃ d, Ev (fun k _ _ => abacusref05_Sub.f k a b) d ∧ AddR a (neg b) d := by
  obtain ⟨d, h1, h2⟩ := rAdd_ev ha (U_neg hb)
  refine ⟨d, ?_, h2⟩
  simp only [abacusref05_Sub.f, abacusref05_Sub.b0]
  exact Ev_bind_eq (rNeg_eq hb) (Ev.bind h1 (Ev.now _))
end Go.Proofs.YtobocamcoaeliaaGreatDoor.R5
/- What the fifth reference's products and quotients are. No conditions. -/
namespace Go.Proofs.YtobocamcoaeliaaGreatDoor.R5
open Go.RowKit Go.Proofs.YtobocamcoaeliaaGreatDoor.Lib Go.Proofs.YtobocamcoaeliaaGreatDoor.LibB Go.Proofs.YtobocamcoaeliaaGreatDoor.F Go.Proofs.YtobocamcoaeliaaGreatDoor.Nat1 Go.Proofs.YtobocamcoaeliaaGreatDoor.Nat2 Go.Proofs.YtobocamcoaeliaaGreatDoor.Bits Go.Proofs.YtobocamcoaeliaaGreatDoor.Ieee1 Go.Proofs.YtobocamcoaeliaaGreatDoor.Mag Go.Proofs.YtobocamcoaeliaaGreatDoor.Ieee2 Go.Proofs.YtobocamcoaeliaaGreatDoor.Rnd Go.Proofs.YtobocamcoaeliaaGreatDoor.R1 Go.Proofs.YtobocamcoaeliaaGreatDoor.R4
open Go.Proofs.YtobocamcoaeliaaGreatDoor.SoftTot (AddR MulR DivR)
open Go.Proofs.YtobocamcoaeliaaGreatDoorA (rd ln ln_eq mx mn shl shr wr wr_eq)
set_option linter.unusedVariables false
set_option linter.unusedSimpArgs false
theorem put_zero_near {Y : Nat} (hY : 0 < Y) {p : Nat} (h : Near p 0 Y) : p = 0 := by
  have := near_exact (p := 0) hY (by unfold inf; omega)
  rw [uni_zero, Nat.zero_mul] at this
  exact near_unique hY hY h this rfl
theorem rMul_ev {a b : Int} {K : Nat} (hK : K = 1074) (ha : U a) (hb : U b) : ∃ d, Ev (fun k _ _ => abacusref05_Mul.f k a b) d ∧ MulR K a b d := by
  simp only [abacusref05_Mul.f, abacusref05_Mul.b0]
  unfold MulR
  have nn := anyNaN_eq ha hb
  have ia := infinite_eq ha
  have ib := infinite_eq hb
  have za := zero_eq ha
  have zb := zero_eq hb
  have na := negative_eq a
  have nb := negative_eq b
  by_cases h4 : cls a = 4 ∨ cls b = 4
  · exact ⟨_, Ev_bind_eq na (Ev_bind_eq nb (Ev_bind_eq nn (Ev_pos (decide_eq_true h4) (Ev.now _)))), by rw [if_pos h4]⟩
  have d4 : ¬ decide (cls a = 4 ∨ cls b = 4) = true := by rw [decide_eq_false h4]; simp
  obtain ⟨s, hs⟩ : ∃ s, s = (sgn a != sgn b) := ⟨_, rfl⟩
  rw [← hs]
  have go (x : Bool) (hx : x = decide ((cls a = 3 ∧ cls b = 0) ∨ (cls a = 0 ∧ cls b = 3))) : ∃ d, Ev (fun k _ _ => abacusref05_Mul.l231 k a b s x) d ∧ (if (cls a = 3 ∧ cls b = 0) ∨ (cls a = 0 ∧ cls b = 3) then d = 9221120237041090560 else ∃ p, d = put s p ∧ (if cls a = 3 ∨ cls b = 3 then p = inf else Near p (uni (plc a) * uni (plc b)) (2 ^ K))) := by
    simp only [abacusref05_Mul.l231, abacusref05_Mul.b231]
    by_cases h0 : (cls a = 3 ∧ cls b = 0) ∨ (cls a = 0 ∧ cls b = 3)
    · exact ⟨_, Ev_pos (by rw [hx, decide_eq_true h0]) (Ev.now _), by rw [if_pos h0]⟩
    have hx' : ¬ x = true := by rw [hx, decide_eq_false h0]; simp
    by_cases ha3 : cls a = 3
    · exact ⟨_, Ev_neg hx' (Ev_bind_eq ia (Ev_pos (decide_eq_true ha3) (Ev_bind_eq (signed_inf _) (Ev.now _)))), by rw [if_neg h0]; exact ⟨inf, rfl, by rw [if_pos (.inl ha3)]⟩⟩
    have a3 : ¬ decide (cls a = 3) = true := by rw [decide_eq_false ha3]; simp
    by_cases hb3 : cls b = 3
    · exact ⟨_, Ev_neg hx' (Ev_bind_eq ia (Ev_neg a3 (Ev_bind_eq ib (Ev_pos (decide_eq_true hb3) (Ev_bind_eq (signed_inf _) (Ev.now _)))))), by rw [if_neg h0]; exact ⟨inf, rfl, by rw [if_pos (.inr hb3)]⟩⟩
    have b3 : ¬ decide (cls b = 3) = true := by rw [decide_eq_false hb3]; simp
    obtain ⟨m, am, rm, um, e0, e1⟩ := parts' ha (fin_of ha3 (fun k => h4 (.inl k)))
    obtain ⟨n, bn, rn, un, f0, f1⟩ := parts' hb (fin_of hb3 (fun k => h4 (.inr k)))
    have oa := of_eq ha
    have ob := of_eq hb
    rw [am] at oa
    rw [bn] at ob
    have tm := Times_ev (a := [(m : Int)]) (b := [(n : Int)]) (limb_ok (by omega)) (limb_ok (by omega)) (by simp) (by simp)
    rw [limb_val, limb_val] at tm
    have w : wrap64 (expOf a + expOf b) = expOf a + expOf b := by unfold wrap64; omega
    have pr : Ev (fun k _ _ => abacusref05_product.f k (sgn a) [(m : Int)] [1] (expOf a) (sgn b) [(n : Int)] [1] (expOf b)) (s, lim (m * n), [1], expOf a + expOf b) := by
      simp only [abacusref05_product.f, abacusref05_product.b0, w, ← hs]
      exact Ev.bind tm (Ev.now _)
    have lmn : m * n < B 4096 := pow_B' (n := 106) (by
      have := Nat.mul_lt_mul'' rm rn
      exact Nat.lt_of_lt_of_le this (by decide)) (by omega)
    obtain ⟨A, hA⟩ : ∃ A, A = (expOf a + 1074).toNat + (expOf b + 1074).toNat := ⟨_, rfl⟩
    obtain ⟨p, ep, hp⟩ := rounded_ev (a := A) (b := K) (s := s) (e := expOf a + expOf b) lmn (D := 1) (by have := B_mono (show 1 ≤ 4096 by omega); rw [B_one] at this; omega) (by omega) (by omega) (by omega)
    rw [← one_lim] at ep
    refine ⟨put s p, Ev_neg hx' (Ev_bind_eq ia (Ev_neg a3 (Ev_bind_eq ib (Ev_neg b3 (Ev_bind_eq oa (Ev_bind_eq ob (Ev.bind pr (Ev.bind ep (Ev.now _))))))))), ?_⟩
    rw [if_neg h0]
    refine ⟨p, rfl, ?_⟩
    rw [if_neg (by omega), um, un]
    have e9 : m * 2 ^ (expOf a + 1074).toNat * (n * 2 ^ (expOf b + 1074).toNat) = m * n * 2 ^ A := by
      rw [hA, Nat.pow_add]; simp only [Nat.mul_assoc, Nat.mul_comm, Nat.mul_left_comm]
    rw [e9]
    rwa [Nat.one_mul] at hp
  by_cases ha3 : cls a = 3
  · have d3 := decide_eq_true ha3
    by_cases hb0 : cls b = 0
    · obtain ⟨d, e1, e2⟩ := go true (decide_eq_true (.inl ⟨ha3, hb0⟩)).symm
      refine ⟨d, Ev_bind_eq na (Ev_bind_eq nb (Ev_bind_eq nn (Ev_neg d4 (Ev_bind_eq ia (Ev_pos d3 (Ev_bind_eq zb (Ev_pos (decide_eq_true hb0) (by rw [← hs]; exact e1)))))))), by rw [if_neg h4]; exact e2⟩
    · obtain ⟨d, e1, e2⟩ := go false (decide_eq_false (by omega)).symm
      refine ⟨d, Ev_bind_eq na (Ev_bind_eq nb (Ev_bind_eq nn (Ev_neg d4 (Ev_bind_eq ia (Ev_pos d3 (Ev_bind_eq zb (Ev_neg (by rw [decide_eq_false hb0]; simp) (Ev_bind_eq za (Ev_neg (by rw [decide_eq_false (show ¬ cls a = 0 by omega)]; simp) (by rw [← hs]; exact e1)))))))))), by rw [if_neg h4]; exact e2⟩
  · have d3 : ¬ decide (cls a = 3) = true := by rw [decide_eq_false ha3]; simp
    by_cases ha0 : cls a = 0
    · obtain ⟨d, e1, e2⟩ := go (decide (cls b = 3)) (decide_eq_decide.2 (by omega))
      refine ⟨d, Ev_bind_eq na (Ev_bind_eq nb (Ev_bind_eq nn (Ev_neg d4 (Ev_bind_eq ia (Ev_neg d3 (Ev_bind_eq za (Ev_pos (decide_eq_true ha0) (Ev_bind_eq ib (by rw [← hs]; exact e1))))))))), by rw [if_neg h4]; exact e2⟩
    · obtain ⟨d, e1, e2⟩ := go false (decide_eq_false (by omega)).symm
      refine ⟨d, Ev_bind_eq na (Ev_bind_eq nb (Ev_bind_eq nn (Ev_neg d4 (Ev_bind_eq ia (Ev_neg d3 (Ev_bind_eq za (Ev_neg (by rw [decide_eq_false ha0]; simp) (by rw [← hs]; exact e1)))))))), by rw [if_neg h4]; exact e2⟩
theorem rDiv_ev {a b : Int} {K : Nat} (hK : K = 1074) (ha : U a) (hb : U b) : ∃ d, Ev (fun k _ _ => abacusref05_Div.f k a b) d ∧ DivR K a b d := by
  simp only [abacusref05_Div.f, abacusref05_Div.b0]
  unfold DivR
  have nn := anyNaN_eq ha hb
  have ia := infinite_eq ha
  have ib := infinite_eq hb
  have za := zero_eq ha
  have zb := zero_eq hb
  have na := negative_eq a
  have nb := negative_eq b
  by_cases h4 : cls a = 4 ∨ cls b = 4
  · exact ⟨_, Ev_bind_eq na (Ev_bind_eq nb (Ev_bind_eq nn (Ev_pos (decide_eq_true h4) (Ev.now _)))), by rw [if_pos h4]⟩
  have d4 : ¬ decide (cls a = 4 ∨ cls b = 4) = true := by rw [decide_eq_false h4]; simp
  obtain ⟨s, hs⟩ : ∃ s, s = (sgn a != sgn b) := ⟨_, rfl⟩
  rw [← hs]
  have go (x : Bool) (hx : x = decide (cls a = cls b ∧ (cls a = 3 ∨ cls a = 0))) : ∃ d, Ev (fun k _ _ => abacusref05_Div.l231 k a b s x) d ∧ (if cls a = cls b ∧ (cls a = 3 ∨ cls a = 0) then d = 9221120237041090560 else ∃ p, d = put s p ∧ (if cls a = 3 ∨ cls b = 0 then p = inf else if cls a = 0 ∨ cls b = 3 then p = 0 else Near p (uni (plc a) * 2 ^ K) (uni (plc b)))) := by
    simp only [abacusref05_Div.l231, abacusref05_Div.b231]
    by_cases h0 : cls a = cls b ∧ (cls a = 3 ∨ cls a = 0)
    · exact ⟨_, Ev_pos (by rw [hx, decide_eq_true h0]) (Ev.now _), by rw [if_pos h0]⟩
    have hx' : ¬ x = true := by rw [hx, decide_eq_false h0]; simp
    by_cases ha3 : cls a = 3
    · exact ⟨_, Ev_neg hx' (Ev_bind_eq ia (Ev_pos (decide_eq_true ha3) (Ev_bind_eq (signed_inf _) (Ev.now _)))), by rw [if_neg h0]; exact ⟨inf, rfl, by rw [if_pos (.inl ha3)]⟩⟩
    have a3 : ¬ decide (cls a = 3) = true := by rw [decide_eq_false ha3]; simp
    by_cases hb0 : cls b = 0
    · exact ⟨_, Ev_neg hx' (Ev_bind_eq ia (Ev_neg a3 (Ev_bind_eq zb (Ev_pos (decide_eq_true hb0) (Ev_bind_eq (signed_inf _) (Ev.now _)))))), by rw [if_neg h0]; exact ⟨inf, rfl, by rw [if_pos (.inr hb0)]⟩⟩
    have b0 : ¬ decide (cls b = 0) = true := by rw [decide_eq_false hb0]; simp
    by_cases hb3 : cls b = 3
    · exact ⟨_, Ev_neg hx' (Ev_bind_eq ia (Ev_neg a3 (Ev_bind_eq zb (Ev_neg b0 (Ev_bind_eq ib (Ev_pos (decide_eq_true hb3) (Ev_bind_eq (signed_zero _) (Ev.now _)))))))), by rw [if_neg h0]; exact ⟨0, rfl, by rw [if_neg (by omega), if_pos (.inr hb3)]⟩⟩
    have b3 : ¬ decide (cls b = 3) = true := by rw [decide_eq_false hb3]; simp
    obtain ⟨m, am, rm, um, e0, e1⟩ := parts' ha (fin_of ha3 (fun k => h4 (.inl k)))
    obtain ⟨n, bn, rn, un, f0, f1⟩ := parts' hb (fin_of hb3 (fun k => h4 (.inr k)))
    have oa := of_eq ha
    have ob := of_eq hb
    rw [am] at oa
    rw [bn] at ob
    have w : wrap64 (expOf a - expOf b) = expOf a - expOf b := by unfold wrap64; omega
    have n0 : n ≠ 0 := fun h => by
      rw [h, Nat.zero_mul] at un
      have := (plc_cls hb).2.1 (by rw [uni_inj (un.trans uni_zero.symm)]; rfl)
      exact hb0 this
    have nl : n < B 4096 := pow_B' (n := 53) (Nat.lt_of_lt_of_le rn (by decide)) (by omega)
    have ml : m < B 4096 := pow_B' (n := 53) (Nat.lt_of_lt_of_le rm (by decide)) (by omega)
    have pr : abacusref05_ratio.f a b = some (s, [(m : Int)], lim n, expOf a - expOf b) := by
      unfold abacusref05_ratio.f abacusref05_ratio.b0
      rw [oa, ob, Option.bind_some, Option.bind_some, w, ← hs, lim_one_len (by omega) n0]
    have out (p : Nat) (ep : Ev (fun k _ _ => abacusref05_rounded.f k s [(m : Int)] (lim n) (expOf a - expOf b)) (put s p)) : Ev (fun k _ _ => if x = true then some 9221120237041090560 else (abacusref05_infinite.f a).bind fun t1 => if t1 = true then (abacusref05_signed.f s 9218868437227405312).bind fun t3 => some t3 else (abacusref05_zero.f b).bind fun t2 => if t2 = true then (abacusref05_signed.f s 9218868437227405312).bind fun t4 => some t4 else (abacusref05_infinite.f b).bind fun t5 => if t5 = true then (abacusref05_signed.f s 0).bind fun t6 => some t6 else (abacusref05_ratio.f a b).bind fun t7 => (abacusref05_rounded.f k t7.1 t7.2.1 t7.2.2.1 t7.2.2.2).bind fun t8 => some t8) (put s p) :=
      Ev_neg hx' (Ev_bind_eq ia (Ev_neg a3 (Ev_bind_eq zb (Ev_neg b0 (Ev_bind_eq ib (Ev_neg b3 (Ev_bind_eq pr (Ev.bind ep (Ev.now _)))))))))
    by_cases m0 : m = 0
    · have ca : cls a = 0 := by
        rw [m0, Nat.zero_mul] at um
        exact (plc_cls ha).2.1 (by rw [uni_inj (um.trans uni_zero.symm)]; rfl)
      have ep := rounded_zero (s := s) (e := expOf a - expOf b) nl n0
      refine ⟨put s 0, out 0 (by rw [m0]; exact ep), ?_⟩
      rw [if_neg h0]
      exact ⟨0, rfl, by rw [if_neg (by omega), if_pos (.inl ca)]⟩
    · have ca : cls a ≠ 0 := fun h => by
        have := (plc_cls ha).2.2 h
        have hp : plc a = 0 := by omega
        rw [hp, uni_zero] at um
        exact m0 ((Nat.mul_eq_zero.1 um.symm).resolve_right (Nat.pos_iff_ne_zero.1 (Nat.pow_pos (by omega))))
      obtain ⟨A, hA⟩ : ∃ A, A = (expOf a + 1074).toNat + K := ⟨_, rfl⟩
      obtain ⟨C, hC⟩ : ∃ C, C = (expOf b + 1074).toNat := ⟨_, rfl⟩
      obtain ⟨p, ep, hp⟩ := rounded_ev (a := A) (b := C) (s := s) (e := expOf a - expOf b) ml nl n0 (by omega) (by omega)
      refine ⟨put s p, out p (by rw [← lim_one_len (by omega) m0]; exact ep), ?_⟩
      rw [if_neg h0]
      refine ⟨p, rfl, ?_⟩
      rw [if_neg (by omega), if_neg (by omega), um, un, ← hC, Nat.mul_assoc, ← Nat.pow_add, ← hA]
      exact hp
  by_cases ha3 : cls a = 3
  · have d3 := decide_eq_true ha3
    by_cases hb3 : cls b = 3
    · obtain ⟨d, e1, e2⟩ := go true (decide_eq_true (by omega)).symm
      refine ⟨d, Ev_bind_eq na (Ev_bind_eq nb (Ev_bind_eq nn (Ev_neg d4 (Ev_bind_eq ia (Ev_pos d3 (Ev_bind_eq ib (Ev_pos (decide_eq_true hb3) (by rw [← hs]; exact e1)))))))), by rw [if_neg h4]; exact e2⟩
    · obtain ⟨d, e1, e2⟩ := go false (decide_eq_false (by omega)).symm
      refine ⟨d, Ev_bind_eq na (Ev_bind_eq nb (Ev_bind_eq nn (Ev_neg d4 (Ev_bind_eq ia (Ev_pos d3 (Ev_bind_eq ib (Ev_neg (by rw [decide_eq_false hb3]; simp) (Ev_bind_eq za (Ev_neg (by rw [decide_eq_false (show ¬ cls a = 0 by omega)]; simp) (by rw [← hs]; exact e1)))))))))), by rw [if_neg h4]; exact e2⟩
  · have d3 : ¬ decide (cls a = 3) = true := by rw [decide_eq_false ha3]; simp
    by_cases ha0 : cls a = 0
    · obtain ⟨d, e1, e2⟩ := go (decide (cls b = 0)) (decide_eq_decide.2 (by omega))
      refine ⟨d, Ev_bind_eq na (Ev_bind_eq nb (Ev_bind_eq nn (Ev_neg d4 (Ev_bind_eq ia (Ev_neg d3 (Ev_bind_eq za (Ev_pos (decide_eq_true ha0) (Ev_bind_eq zb (by rw [← hs]; exact e1))))))))), by rw [if_neg h4]; exact e2⟩
    · obtain ⟨d, e1, e2⟩ := go false (decide_eq_false (by omega)).symm
      refine ⟨d, Ev_bind_eq na (Ev_bind_eq nb (Ev_bind_eq nn (Ev_neg d4 (Ev_bind_eq ia (Ev_neg d3 (Ev_bind_eq za (Ev_neg (by rw [decide_eq_false ha0]; simp) (by rw [← hs]; exact e1)))))))), by rw [if_neg h4]; exact e2⟩
end Go.Proofs.YtobocamcoaeliaaGreatDoor.R5
/- The flags of the fifth reference on finite operands, and its Told. No conditions. -/
namespace Go.Proofs.YtobocamcoaeliaaGreatDoor.R5t
open Go.RowKit Go.Proofs.YtobocamcoaeliaaGreatDoor.Lib Go.Proofs.YtobocamcoaeliaaGreatDoor.LibB Go.Proofs.YtobocamcoaeliaaGreatDoor.F Go.Proofs.YtobocamcoaeliaaGreatDoor.Nat1 Go.Proofs.YtobocamcoaeliaaGreatDoor.Nat2 Go.Proofs.YtobocamcoaeliaaGreatDoor.Bits Go.Proofs.YtobocamcoaeliaaGreatDoor.Ieee1 Go.Proofs.YtobocamcoaeliaaGreatDoor.Mag Go.Proofs.YtobocamcoaeliaaGreatDoor.Ieee2 Go.Proofs.YtobocamcoaeliaaGreatDoor.Rnd Go.Proofs.YtobocamcoaeliaaGreatDoor.R1 Go.Proofs.YtobocamcoaeliaaGreatDoor.R4 Go.Proofs.YtobocamcoaeliaaGreatDoor.R5
open Go.Proofs.YtobocamcoaeliaaGreatDoor.Soft1 (sv sval Rd sv_zero sv_mul sv_abs)
open Go.Proofs.YtobocamcoaeliaaGreatDoor.Soft2 (RdM sv_prod)
open Go.Proofs.YtobocamcoaeliaaGreatDoor.SoftDiv (cls_zero)
open Go.Proofs.YtobocamcoaeliaaGreatDoor.SoftTot (fin_cls)
open Go.Proofs.YtobocamcoaeliaaGreatDoor.SoftFl (flg pow_eq pow_lt inf_of)
open Go.Proofs.YtobocamcoaeliaaGreatDoorA (rd ln ln_eq mx mn shl shr wr wr_eq)
set_option linter.unusedVariables false
set_option linter.unusedSimpArgs false
theorem none' {l : List Int} {b : Bool} {d : List Int} {e : Int} (h : ok l) (hl : l.length ≤ 8192) : Ev (fun k _ _ => abacusref05_none.f k b l d e) (decide (val l = 0)) := by
  simp only [abacusref05_none.f, abacusref05_none.b0]
  refine Ev.bind (abacusref01_Size_ev h (by omega)) (Ev_some ?_)
  have := @lim_len_zero (val l)
  exact decide_eq_decide.2 (by omega)
theorem uni_zero_iff {x : Nat} : uni x = 0 ↔ x = 0 := by
  constructor
  · intro h
    rcases Nat.eq_zero_or_pos x with h0 | h0
    · exact h0
    · have := uni_smono h0
      rw [uni_zero] at this
      omega
  · rintro rfl; exact uni_zero
theorem fact_wsub {x y : Int} {j : Nat} (h : x - y = (j : Int)) (hj : j ≤ 30000) : wrap64 (x - y) = (j : Int) := by rw [h]; unfold wrap64; omega
theorem len8 {n k : Nat} (hn : n < B 8192) (hk : k ≤ 4194304) : (lim (n * 2 ^ k)).length ≤ 9223372036854775807 := Nat.le_trans (lift_len hn hk) (by decide)
theorem is_ev {d : Int} {s : Bool} {l m : List Int} {N D a b : Nat} {e : Int} (hd : U d) (fd : fin d) (hl : ok l) (hm : ok m) (ll : l.length ≤ 4096) (lm : m.length ≤ 64) (vl : val l = N) (vm : val m = D) (he : -10000 ≤ e ∧ e ≤ 10000) (hab : (a : Int) - b = e + 1074) :
    Ev (fun k _ _ => abacusref05_is.f k d s l m e) (decide ((N = 0 ∧ plc d = 0) ∨ (N ≠ 0 ∧ plc d ≠ 0 ∧ sgn d = s ∧ N * 2 ^ a = uni (plc d) * (D * 2 ^ b)))) := by
  obtain ⟨q, aq, rq, uq, e0, e1⟩ := parts' hd fd
  have od := of_eq hd
  rw [aq] at od
  have hN : N < B 4096 := vl ▸ Nat.lt_of_lt_of_le (val_lt hl) (B_mono ll)
  have hD : D < B 4096 := vm ▸ Nat.lt_of_lt_of_le (val_lt hm) (B_mono (by omega))
  have qz : q = 0 ↔ plc d = 0 := by
    refine Iff.trans ?_ uni_zero_iff
    rw [uq]
    constructor
    · intro h; rw [h, Nat.zero_mul]
    · intro h; exact (Nat.mul_eq_zero.1 h).resolve_right (Nat.pos_iff_ne_zero.1 (Nat.pow_pos (by decide)))
  simp only [abacusref05_is.f, abacusref05_is.b0]
  have n1 := none' (b := s) (d := m) (e := e) hl (by omega)
  rw [vl] at n1
  refine Ev.bind n1 ?_
  by_cases h0 : N = 0
  · refine Ev_pos (decide_eq_true h0) (Ev_bind_eq (zero_eq hd) (Ev_some ?_))
    exact decide_eq_decide.2 ⟨fun h => .inl ⟨h0, cls_zero.1 h⟩, fun h => cls_zero.2 (h.elim (·.2) (fun h => absurd h0 h.1))⟩
  refine Ev_neg (by rw [decide_eq_false h0]; simp) (Ev_bind_eq od ?_)
  have n2 := none' (b := sgn d) (d := [1]) (e := expOf d) (limb_ok (m := q) (by omega)) (by simp)
  rw [limb_val] at n2
  refine Ev.bind n2 ?_
  by_cases hq : q = 0
  · refine Ev_pos (decide_eq_true hq) (Ev_some ?_)
    symm
    exact decide_eq_false (by rintro (h | h); exact h0 h.1; exact h.2.1 (qz.1 hq))
  refine Ev_neg (by rw [decide_eq_false hq]; simp) ?_
  by_cases hs : sgn d = s
  case neg =>
    refine Ev_pos (by simpa using hs) (Ev_some ?_)
    symm
    exact decide_eq_false (by rintro (h | h); exact h0 h.1; exact hs h.2.2.1)
  refine Ev_neg (by simp [hs]) ?_
  have t := Times_ev (limb_ok (m := q) (by omega)) hm (by simp) (by omega)
  rw [limb_val, vm] at t
  have hqD : q * D < B 8192 := by rw [Nat.mul_comm]; exact prod_B hD (by omega)
  refine Ev.bind t ?_
  have fin' : ∀ {P : Prop} [Decidable P], (P ↔ N * 2 ^ a = uni (plc d) * (D * 2 ^ b)) → decide P = decide ((N = 0 ∧ plc d = 0) ∨ (N ≠ 0 ∧ plc d ≠ 0 ∧ sgn d = s ∧ N * 2 ^ a = uni (plc d) * (D * 2 ^ b))) := by
    intro P _ h
    exact decide_eq_decide.2 ⟨fun k => .inr ⟨h0, fun k2 => hq (qz.2 k2), hs, h.1 k⟩, fun k => h.2 (k.elim (fun k => absurd k.1 h0) (·.2.2.2))⟩
  obtain ⟨p, hp⟩ : ∃ p : Nat, expOf d + 1074 = (p : Int) := ⟨(expOf d + 1074).toNat, by omega⟩
  have key : uni (plc d) * (D * 2 ^ b) = q * D * 2 ^ (b + p) := by
    rw [uq, hp, Int.toNat_natCast, Nat.pow_add]; ac_rfl
  rw [key] at fin' ⊢
  dsimp only
  by_cases hge : e ≥ expOf d
  · obtain ⟨j, hj⟩ : ∃ j : Nat, e - expOf d = (j : Int) := ⟨(e - expOf d).toNat, by omega⟩
    rw [fact_wsub hj (by omega)]
    have L := Lift_ev (n := j) hl (by omega) (by omega)
    rw [vl] at L
    have c := rCmp_ev (ok_lim (N * 2 ^ j)) (ok_lim (q * D)) (len8 (B_lt8 hN) (by omega)) (by have := (lim_len_le (q * D) 8192).2 hqD; omega)
    rw [val_lim, val_lim] at c
    refine Ev_pos hge (Ev.bind L (Ev.bind c (Ev_some (fin' ?_))))
    rw [cmp_zero]
    have := pow_eq (N := N) (M := q * D) (i := j) (j := 0) (a := a) (c := b + p) (by omega)
    rwa [Nat.pow_zero, Nat.mul_one] at this
  · obtain ⟨j, hj⟩ : ∃ j : Nat, expOf d - e = (j : Int) := ⟨(expOf d - e).toNat, by omega⟩
    rw [fact_wsub hj (by omega)]
    have L := Lift_ev (n := j) (ok_lim (q * D)) (by have := (lim_len_le (q * D) 8192).2 hqD; omega) (by omega)
    rw [val_lim] at L
    have c := rCmp_ev hl (ok_lim (q * D * 2 ^ j)) (by omega) (len8 hqD (by omega))
    rw [vl, val_lim] at c
    refine Ev_neg hge (Ev.bind L (Ev.bind c (Ev_some (fin' ?_))))
    rw [cmp_zero]
    have := pow_eq (N := N) (M := q * D) (i := 0) (j := j) (a := a) (c := b + p) (by omega)
    rwa [Nat.pow_zero, Nat.mul_one] at this
theorem tiny_ev {s : Bool} {l m : List Int} {N D a b : Nat} {e : Int} (hl : ok l) (hm : ok m) (ll : l.length ≤ 4096) (lm : m.length ≤ 64) (vl : val l = N) (vm : val m = D) (he : -10000 ≤ e ∧ e ≤ 10000) (hab : (a : Int) - b = e + 1074) :
    Ev (fun k _ _ => abacusref05_tiny.f k s l m e) (decide (N ≠ 0 ∧ N * 2 ^ a < 4503599627370496 * (D * 2 ^ b))) := by
  have hN : N < B 4096 := vl ▸ Nat.lt_of_lt_of_le (val_lt hl) (B_mono ll)
  have hD : D < B 4096 := vm ▸ Nat.lt_of_lt_of_le (val_lt hm) (B_mono (by omega))
  simp only [abacusref05_tiny.f, abacusref05_tiny.b0]
  have n1 := none' (b := s) (d := m) (e := e) hl (by omega)
  rw [vl] at n1
  refine Ev.bind n1 ?_
  by_cases h0 : N = 0
  · exact Ev_pos (decide_eq_true h0) (Ev_some (decide_eq_false (fun h => h.1 h0)).symm)
  refine Ev_neg (by rw [decide_eq_false h0]; simp) ?_
  have fin' : ∀ {P : Prop} [Decidable P], (P ↔ N * 2 ^ a < D * 2 ^ (b + 52)) → decide P = decide (N ≠ 0 ∧ N * 2 ^ a < 4503599627370496 * (D * 2 ^ b)) := by
    intro P _ h
    have : D * 2 ^ (b + 52) = 4503599627370496 * (D * 2 ^ b) := by rw [Nat.pow_add, ← Nat.mul_assoc, Nat.mul_comm _ (2 ^ 52)]
    rw [this] at h
    exact decide_eq_decide.2 ⟨fun k => ⟨h0, h.1 k⟩, fun k => h.2 k.2⟩
  have w : wrap64 (e + 1022) = e + 1022 := by unfold wrap64; omega
  rw [w]
  by_cases hge : e + 1022 ≥ 0
  · obtain ⟨j, hj⟩ : ∃ j : Nat, e + 1022 = (j : Int) := ⟨(e + 1022).toNat, by omega⟩
    rw [hj]
    have L := Lift_ev (n := j) hl (by omega) (by omega)
    rw [vl] at L
    have c := rCmp_ev (ok_lim (N * 2 ^ j)) hm (len8 (B_lt8 hN) (by omega)) (by omega)
    rw [val_lim, vm] at c
    refine Ev_pos (by omega) (Ev.bind L (Ev.bind c (Ev_some (fin' ?_))))
    rw [cmp_neg]
    have := pow_lt (N := N) (M := D) (i := j) (j := 0) (a := a) (c := b + 52) (by omega)
    rwa [Nat.pow_zero, Nat.mul_one] at this
  · obtain ⟨j, hj⟩ : ∃ j : Nat, -(e + 1022) = (j : Int) := ⟨(-(e + 1022)).toNat, by omega⟩
    have w2 : wrap64 (-(e + 1022)) = (j : Int) := by rw [hj]; unfold wrap64; omega
    rw [w2]
    have L := Lift_ev (n := j) hm (by omega) (by omega)
    rw [vm] at L
    have c := rCmp_ev hl (ok_lim (D * 2 ^ j)) (by omega) (len8 (B_lt8 hD) (by omega))
    rw [vl, val_lim] at c
    refine Ev_neg hge (Ev.bind L (Ev.bind c (Ev_some (fin' ?_))))
    rw [cmp_neg]
    have := pow_lt (N := N) (M := D) (i := 0) (j := j) (a := a) (c := b + 52) (by omega)
    rwa [Nat.pow_zero, Nat.mul_one] at this
/-- The reference's flags of an exact number l / m * 2^e rounded to d. -/
theorem rflags_ev {op a b c d : Int} {s : Bool} {l m : List Int} {N D x y : Nat} {e : Int} (h5 : op ≠ 5) (hres : Ev (fun k _ _ => abacusref05_result.f k op a b c) (s, l, m, e)) (hd : U d) (hn : cls d ≠ 4) (hl : ok l) (hm : ok m) (ll : l.length ≤ 4096) (lm : m.length ≤ 64) (vl : val l = N) (vm : val m = D) (he : -10000 ≤ e ∧ e ≤ 10000) (hab : (x : Int) - y = e + 1074)
    (hz : N = 0 → plc d = 0) (hs : N ≠ 0 → plc d ≠ 0 → sgn d = s) (ht : plc d = inf → ¬ N * 2 ^ x < 4503599627370496 * (D * 2 ^ y)) (hD : D ≠ 0) :
    Ev (fun k _ _ => abacusref05_flags.f k op a b c d) (flg (N * 2 ^ x) (D * 2 ^ y) d) := by
  have ti := tiny_ev (s := s) hl hm ll lm vl vm he hab
  have ie := infinite_eq hd
  simp only [abacusref05_flags.f, abacusref05_flags.b0]
  refine Ev_neg h5 (Ev.bind hres (Ev_bind_eq ie ?_))
  simp only [abacusref05_flags.l31, abacusref05_flags.b31, abacusref05_flags.l127, abacusref05_flags.b127]
  unfold flg
  by_cases h3 : cls d = 3
  · have hi := inf_of.1 h3
    rw [if_pos hi]
    rw [decide_eq_true h3] at ie ⊢
    rw [decide_eq_false (fun h => ht hi h.2)] at ti
    exact Ev_neg (by simp) (Ev_bind_eq ie (Ev_pos rfl (Ev_pos (by simp) (Ev_pos h5 (Ev.bind ti (Ev_neg (by simp) (Ev_some (by kernel_rfl))))))))
  · have hi : ¬ plc d = inf := fun h => h3 (inf_of.2 h)
    have fd : fin d := fin_cls.2 ⟨h3, hn⟩
    have ise := is_ev (s := s) hd fd hl hm ll lm vl vm he hab
    rw [if_neg hi]
    rw [decide_eq_false h3] at ie ⊢
    refine Ev_pos (by simp) (Ev.bind ise (Ev_bind_eq ie (Ev_neg (by simp) ?_)))
    have hz2 : N = 0 → N * 2 ^ x = uni (plc d) * (D * 2 ^ y) := fun h => by rw [hz h, h, uni_zero, Nat.zero_mul, Nat.zero_mul]
    by_cases hx : N * 2 ^ x = uni (plc d) * (D * 2 ^ y)
    · rw [if_pos hx]
      have : ((N = 0 ∧ plc d = 0) ∨ (N ≠ 0 ∧ plc d ≠ 0 ∧ sgn d = s ∧ N * 2 ^ x = uni (plc d) * (D * 2 ^ y))) := by
        by_cases h0 : N = 0
        · exact .inl ⟨h0, hz h0⟩
        · have hp : plc d ≠ 0 := fun k => by
            rw [k, uni_zero, Nat.zero_mul] at hx
            exact h0 ((Nat.mul_eq_zero.1 hx).resolve_right (Nat.pos_iff_ne_zero.1 (Nat.pow_pos (by decide))))
          exact .inr ⟨h0, hp, hs h0 hp, hx⟩
      rw [decide_eq_true this]
      exact Ev_neg (by simp) (Ev.now _)
    · rw [if_neg hx]
      have h0 : N ≠ 0 := fun h => hx (hz2 h)
      rw [decide_eq_false (by rintro (h | h); exact h0 h.1; exact hx h.2.2.2)]
      refine Ev_pos (by simp) (Ev_pos h5 (Ev.bind ti ?_))
      by_cases h2 : N * 2 ^ x < 4503599627370496 * (D * 2 ^ y)
      · rw [if_pos h2]
        exact Ev_pos (decide_eq_true ⟨h0, h2⟩) (Ev_some (by kernel_rfl))
      · rw [if_neg h2]
        exact Ev_neg (by rw [decide_eq_false (fun h => h2 h.2)]; simp) (Ev_some (by kernel_rfl))
theorem near_inf {X Y : Nat} (hY : 0 < Y) (h : Near inf X Y) : ¬ X < 4503599627370496 * Y := by
  intro hlt
  have hu : uni 4503599627370496 = 4503599627370496 := by
    have := uni_at (k := 0) (c := 4503599627370496) (.inl rfl) (by decide)
    rwa [Nat.zero_mul, Nat.zero_add, Nat.pow_zero, Nat.mul_one] at this
  have hm := near_exact (p := 4503599627370496) (Y := Y) hY (by decide)
  rw [hu] at hm
  have := near_mono hY hY h hm (Nat.mul_le_mul_right _ (Nat.le_of_lt hlt))
  revert this
  decide
theorem flg_scale {X Y X' Y' c c' : Nat} {d : Int} (hc : 0 < c) (hc' : 0 < c') (hX : X * c = X' * c') (hY : Y * c = Y' * c') : flg X Y d = flg X' Y' d := by
  unfold flg
  have e1 : X = uni (plc d) * Y ↔ X' = uni (plc d) * Y' := by
    rw [← Nat.mul_left_inj (Nat.pos_iff_ne_zero.1 hc), hX, Nat.mul_assoc, hY, ← Nat.mul_assoc, Nat.mul_left_inj (Nat.pos_iff_ne_zero.1 hc')]
  have e2 : X < 4503599627370496 * Y ↔ X' < 4503599627370496 * Y' := by
    rw [← Nat.mul_lt_mul_right hc, hX, Nat.mul_assoc, hY, ← Nat.mul_assoc, Nat.mul_lt_mul_right hc']
  simp only [e1, e2]
/-! ### Told -/
theorem Finite_eq {d : Int} (h : U d) : abacusref04_Finite.f d = some (decide (fin d)) := by
  unfold abacusref04_Finite.f abacusref04_Finite.b0
  rw [rAbs_eq h, Option.bind_some]
  refine congrArg some (decide_eq_decide.2 ?_)
  rw [plc_fin]
  unfold inf
  omega
theorem l511_ev {op a b c d n : Int} {fl : Bool} (hd : U d) (hb : U b) (h : if cls d = 4 then n = 1 else if op = 4 ∧ cls b = 0 ∧ fl = true then n = 2 else if fl = false then n = 0 else Ev (fun k _ _ => abacusref05_flags.f k op a b c d) n) :
    Ev (fun k _ _ => abacusref05_Told.l511 k op a b c d fl) (d, n, 0) := by
  simp only [abacusref05_Told.l511, abacusref05_Told.b511]
  refine Ev_bind_eq (rIsNaN_eq hd) ?_
  by_cases h4 : cls d = 4
  · rw [if_pos h4] at h
    subst h
    exact Ev_pos (decide_eq_true h4) (Ev.now _)
  rw [if_neg h4] at h
  refine Ev_neg (by rw [decide_eq_false h4]; simp) ?_
  simp only [abacusref05_Told.l16359, abacusref05_Told.b16359]
  have rest (x6 : Bool) (hx : x6 = decide (op = 4 ∧ cls b = 0 ∧ fl = true)) : Ev (α := Int × Int × Int) (fun k _ _ => if x6 = true then some (d, 2, 0) else if (!fl) = true then some (d, 0, 0) else (abacusref05_flags.f k op a b c d).bind fun t1 => some (d, t1, 0)) (d, n, 0) := by
    by_cases h2 : op = 4 ∧ cls b = 0 ∧ fl = true
    · rw [if_pos h2] at h
      subst h
      exact Ev_pos (by rw [hx, decide_eq_true h2]) (Ev.now _)
    · rw [if_neg h2] at h
      refine Ev_neg (by rw [hx, decide_eq_false h2]; simp) ?_
      cases fl with
      | false => rw [if_pos rfl] at h; subst h; exact Ev_pos rfl (Ev.now _)
      | true => rw [if_neg (by simp)] at h; exact Ev_neg (by simp) (Ev.bind h (Ev.now _))
  by_cases ho : op = 4
  · refine Ev_pos ho (Ev_bind_eq (zero_eq hb) ?_)
    by_cases hz : cls b = 0
    · exact Ev_pos (decide_eq_true hz) (rest fl (by cases fl <;> simp [ho, hz]))
    · exact Ev_neg (by rw [decide_eq_false hz]; simp) (rest false (by simp [hz]))
  · exact Ev_neg ho (rest false (by simp [ho]))
theorem rd_mid {pre xs : List Int} {x : Int} : rd (pre ++ x :: xs) (pre.length : Int) = x := by
  rw [rd_nat]; simp
theorem loop_ev {op a b c d : Int} {r : Int × Int × Int} {l : List Int} (hl : l.length ≤ 3) : ∀ (xs pre : List Int) (fl : Bool), l = pre ++ xs → (∀ x ∈ xs, U x) → ((∃ x ∈ xs, cls x = 4) → r = (d, 0, 0)) →
    ((∀ x ∈ xs, cls x ≠ 4) → Ev (fun k _ _ => abacusref05_Told.l511 k op a b c d (fl && xs.all fun x => decide (fin x))) r) → Ev (fun k m _ => abacusref05_Told.l4085 k m op a b c d fl (pre.length : Int) l) r
  | [], pre, fl, hp, hU, hN, hR => by
    refine Ev_succ ?_
    simp only [abacusref05_Told.l4085, abacusref05_Told.b4085, ln_eq]
    have h1 : l.length = pre.length := by rw [hp, List.append_nil]
    have := hR (by simp)
    rw [List.all_nil, Bool.and_true] at this
    exact Ev_neg (by omega) this
  | x :: xs, pre, fl, hp, hU, hN, hR => by
    have hlen : l.length = pre.length + (xs.length + 1) := by rw [hp, List.length_append, List.length_cons]
    have hx : rd l (pre.length : Int) = x := by rw [hp]; exact rd_mid
    have hw : wrap64 ((pre.length : Int) + 1) = ((pre ++ [x]).length : Int) := by
      rw [List.length_append, List.length_singleton]; unfold wrap64; omega
    refine Ev_succ ?_
    simp only [abacusref05_Told.l4085, abacusref05_Told.b4085, ln_eq, hx]
    refine Ev_pos (by omega) (Ev_pos (by omega) (Ev_pos (by omega) (Ev_bind_eq (rIsNaN_eq (hU x (.head _))) ?_)))
    by_cases h4 : cls x = 4
    · rw [hN ⟨x, .head _, h4⟩]
      exact Ev_pos (decide_eq_true h4) (Ev.now _)
    refine Ev_neg (by rw [decide_eq_false h4]; simp) ?_
    have ih := fun fl' => loop_ev (op := op) (a := a) (b := b) (c := c) (d := d) (r := r) hl xs (pre ++ [x]) fl' (by rw [hp, List.append_assoc]; rfl) (fun y hy => hU y (.tail _ hy)) (fun ⟨y, hy, h⟩ => hN ⟨y, .tail _ hy, h⟩)
    rw [← hw] at ih
    cases fl with
    | true =>
      refine Ev_pos rfl (Ev_pos (by omega) (Ev_pos (by omega) (Ev_bind_eq (Finite_eq (hU x (.head _))) (ih _ fun hn => ?_))))
      have := hR (fun y hy => by cases hy with | head => exact h4 | tail _ h => exact hn y h)
      rwa [List.all_cons, Bool.true_and] at this
    | false =>
      refine Ev_neg (by simp) (ih _ fun hn => ?_)
      have := hR (fun y hy => by cases hy with | head => exact h4 | tail _ h => exact hn y h)
      rwa [Bool.false_and] at this ⊢
theorem told_ev {op a b c d n : Int} {us : List Int} (h1 : 1 ≤ op) (h6 : op ≤ 6) (hans : Ev (fun k _ _ => abacusref05_answer.f k op a b c) d) (hd : U d) (hb : U b) (hus : us = (if op = 5 then [a] else if op = 6 then [a, b, c] else [a, b])) (hU : ∀ x ∈ us, U x)
    (hN : (∃ x ∈ us, cls x = 4) → n = 0) (hR : (∀ x ∈ us, cls x ≠ 4) → if cls d = 4 then n = 1 else if op = 4 ∧ cls b = 0 ∧ (us.all fun x => decide (fin x)) = true then n = 2 else if (us.all fun x => decide (fin x)) = false then n = 0 else Ev (fun k _ _ => abacusref05_flags.f k op a b c d) n) :
    Ev (fun k _ _ => abacusref05_Told.f k op a b c) (d, n, 0) := by
  have loop : us.length ≤ 3 → Ev (fun k m _ => abacusref05_Told.l4085 k m op a b c d true 0 us) (d, n, 0) := fun hl =>
    loop_ev hl us [] true rfl hU (fun h => by rw [hN h]) (fun h => by rw [Bool.true_and]; exact l511_ev hd hb (hR h))
  simp only [abacusref05_Told.f, abacusref05_Told.b0, abacusref05_Told.l63, abacusref05_Told.b63, abacusref05_Told.l127, abacusref05_Told.b127]
  refine Ev_neg (by omega) (Ev_neg (by omega) (Ev.bind hans ?_))
  by_cases h5 : op = 5
  · rw [if_pos h5] at hus
    subst hus
    exact Ev_neg (fun h => h h5) (Ev_neg (by omega) (Ev_in (loop (by simp))))
  rw [if_neg h5] at hus
  refine Ev_pos h5 (Ev_pos (by simp) ?_)
  by_cases h6' : op = 6
  · rw [if_pos h6'] at hus
    subst hus
    exact Ev_pos h6' (Ev_pos (by simp) (Ev_in (loop (by simp))))
  · rw [if_neg h6'] at hus
    subst hus
    exact Ev_neg h6' (Ev_in (loop (by simp)))
end Go.Proofs.YtobocamcoaeliaaGreatDoor.R5t
