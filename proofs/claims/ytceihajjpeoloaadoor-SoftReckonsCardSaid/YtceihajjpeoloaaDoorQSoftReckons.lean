/- Add, Sub, Mul and Div of every pair are the reference's. No conditions. -/
import Derived.Test.YtceihajjpeoloaaDoorQR5
namespace Go.Proofs.YtceihajjpeoloaaDoor.Pure
open Go.RowKit Go.Proofs.YtceihajjpeoloaaDoor.Lib Go.Proofs.YtceihajjpeoloaaDoor.LibB Go.Proofs.YtceihajjpeoloaaDoor.F Go.Proofs.YtceihajjpeoloaaDoor.Nat1 Go.Proofs.YtceihajjpeoloaaDoor.Nat2 Go.Proofs.YtceihajjpeoloaaDoor.Bits Go.Proofs.YtceihajjpeoloaaDoor.Ieee1 Go.Proofs.YtceihajjpeoloaaDoor.Mag Go.Proofs.YtceihajjpeoloaaDoor.Ieee2 Go.Proofs.YtceihajjpeoloaaDoor.Rnd Go.Proofs.YtceihajjpeoloaaDoor.R1 Go.Proofs.YtceihajjpeoloaaDoor.R4 Go.Proofs.YtceihajjpeoloaaDoor.R5
open Go.Proofs.YtceihajjpeoloaaDoor.SoftTot (AddR MulR DivR Add_tot Sub_tot Mul_tot Div_tot)
open Go.Proofs.YtceihajjpeoloaaDoorA (rd ln ln_eq mx mn shl shr wr wr_eq)
set_option linter.unusedVariables false
set_option linter.unusedSimpArgs false
theorem put_zero_near {Y : Nat} (hY : 0 < Y) {p : Nat} (h : Near p 0 Y) : p = 0 := by
  have := near_exact (p := 0) hY (by unfold inf; omega)
  rw [uni_zero, Nat.zero_mul] at this
  exact near_unique hY hY h this rfl
theorem rMul_ev {a b : Int} {K : Nat} (hK : K = 1074) (ha : U a) (hb : U b) : ∃ d, Ev (fun k _ _ => abacusref05_Mul.f k a b) d ∧ MulR K a b d := by
  simp only [abacusref05_Mul.f, abacusref05_Mul.b0]
  unfold MulR
  have nn := anyNaN_eq ha hb
  have ia := infinite_eq ha
  have ib := infinite_eq hb
  have za := zero_eq ha
  have zb := zero_eq hb
  have na := negative_eq a
  have nb := negative_eq b
  by_cases h4 : cls a = 4 ∨ cls b = 4
  · exact ⟨_, Ev_bind_eq na (Ev_bind_eq nb (Ev_bind_eq nn (Ev_pos (decide_eq_true h4) (Ev.now _)))), by rw [if_pos h4]⟩
  have d4 : ¬ decide (cls a = 4 ∨ cls b = 4) = true := by rw [decide_eq_false h4]; simp
  obtain ⟨s, hs⟩ : ∃ s, s = (sgn a != sgn b) := ⟨_, rfl⟩
  rw [← hs]
  have go (x : Bool) (hx : x = decide ((cls a = 3 ∧ cls b = 0) ∨ (cls a = 0 ∧ cls b = 3))) : ∃ d, Ev (fun k _ _ => abacusref05_Mul.l231 k a b s x) d ∧ (if (cls a = 3 ∧ cls b = 0) ∨ (cls a = 0 ∧ cls b = 3) then d = 9221120237041090560 else ∃ p, d = put s p ∧ (if cls a = 3 ∨ cls b = 3 then p = inf else Near p (uni (plc a) * uni (plc b)) (2 ^ K))) := by
    simp only [abacusref05_Mul.l231, abacusref05_Mul.b231]
    by_cases h0 : (cls a = 3 ∧ cls b = 0) ∨ (cls a = 0 ∧ cls b = 3)
    · exact ⟨_, Ev_pos (by rw [hx, decide_eq_true h0]) (Ev.now _), by rw [if_pos h0]⟩
    have hx' : ¬ x = true := by rw [hx, decide_eq_false h0]; simp
    by_cases ha3 : cls a = 3
    · exact ⟨_, Ev_neg hx' (Ev_bind_eq ia (Ev_pos (decide_eq_true ha3) (Ev_bind_eq (signed_inf _) (Ev.now _)))), by rw [if_neg h0]; exact ⟨inf, rfl, by rw [if_pos (.inl ha3)]⟩⟩
    have a3 : ¬ decide (cls a = 3) = true := by rw [decide_eq_false ha3]; simp
    by_cases hb3 : cls b = 3
    · exact ⟨_, Ev_neg hx' (Ev_bind_eq ia (Ev_neg a3 (Ev_bind_eq ib (Ev_pos (decide_eq_true hb3) (Ev_bind_eq (signed_inf _) (Ev.now _)))))), by rw [if_neg h0]; exact ⟨inf, rfl, by rw [if_pos (.inr hb3)]⟩⟩
    have b3 : ¬ decide (cls b = 3) = true := by rw [decide_eq_false hb3]; simp
    obtain ⟨m, am, rm, um, e0, e1⟩ := parts' ha (fin_of ha3 (fun k => h4 (.inl k)))
    obtain ⟨n, bn, rn, un, f0, f1⟩ := parts' hb (fin_of hb3 (fun k => h4 (.inr k)))
    have oa := of_eq ha
    have ob := of_eq hb
    rw [am] at oa
    rw [bn] at ob
    have tm := Times_ev (a := [(m : Int)]) (b := [(n : Int)]) (limb_ok (by omega)) (limb_ok (by omega)) (by simp) (by simp)
    rw [limb_val, limb_val] at tm
    have w : wrap64 (expOf a + expOf b) = expOf a + expOf b := by unfold wrap64; omega
    have pr : Ev (fun k _ _ => abacusref05_product.f k (sgn a) [(m : Int)] [1] (expOf a) (sgn b) [(n : Int)] [1] (expOf b)) (s, lim (m * n), [1], expOf a + expOf b) := by
      simp only [abacusref05_product.f, abacusref05_product.b0, w, ← hs]
      exact Ev.bind tm (Ev.now _)
    have lmn : m * n < B 4096 := pow_B' (n := 106) (by
      have := Nat.mul_lt_mul'' rm rn
      exact Nat.lt_of_lt_of_le this (by decide)) (by omega)
    obtain ⟨A, hA⟩ : ∃ A, A = (expOf a + 1074).toNat + (expOf b + 1074).toNat := ⟨_, rfl⟩
    obtain ⟨p, ep, hp⟩ := rounded_ev (a := A) (b := K) (s := s) (e := expOf a + expOf b) lmn (D := 1) (by have := B_mono (show 1 ≤ 4096 by omega); rw [B_one] at this; omega) (by omega) (by omega) (by omega)
    rw [← one_lim] at ep
    refine ⟨put s p, Ev_neg hx' (Ev_bind_eq ia (Ev_neg a3 (Ev_bind_eq ib (Ev_neg b3 (Ev_bind_eq oa (Ev_bind_eq ob (Ev.bind pr (Ev.bind ep (Ev.now _))))))))), ?_⟩
    rw [if_neg h0]
    refine ⟨p, rfl, ?_⟩
    rw [if_neg (by omega), um, un]
    have e9 : m * 2 ^ (expOf a + 1074).toNat * (n * 2 ^ (expOf b + 1074).toNat) = m * n * 2 ^ A := by
      rw [hA, Nat.pow_add]; simp only [Nat.mul_assoc, Nat.mul_comm, Nat.mul_left_comm]
    rw [e9]
    rwa [Nat.one_mul] at hp
  by_cases ha3 : cls a = 3
  · have d3 := decide_eq_true ha3
    by_cases hb0 : cls b = 0
    · obtain ⟨d, e1, e2⟩ := go true (decide_eq_true (.inl ⟨ha3, hb0⟩)).symm
      refine ⟨d, Ev_bind_eq na (Ev_bind_eq nb (Ev_bind_eq nn (Ev_neg d4 (Ev_bind_eq ia (Ev_pos d3 (Ev_bind_eq zb (Ev_pos (decide_eq_true hb0) (by rw [← hs]; exact e1)))))))), by rw [if_neg h4]; exact e2⟩
    · obtain ⟨d, e1, e2⟩ := go false (decide_eq_false (by omega)).symm
      refine ⟨d, Ev_bind_eq na (Ev_bind_eq nb (Ev_bind_eq nn (Ev_neg d4 (Ev_bind_eq ia (Ev_pos d3 (Ev_bind_eq zb (Ev_neg (by rw [decide_eq_false hb0]; simp) (Ev_bind_eq za (Ev_neg (by rw [decide_eq_false (show ¬ cls a = 0 by omega)]; simp) (by rw [← hs]; exact e1)))))))))), by rw [if_neg h4]; exact e2⟩
  · have d3 : ¬ decide (cls a = 3) = true := by rw [decide_eq_false ha3]; simp
    by_cases ha0 : cls a = 0
    · obtain ⟨d, e1, e2⟩ := go (decide (cls b = 3)) (decide_eq_decide.2 (by omega))
      refine ⟨d, Ev_bind_eq na (Ev_bind_eq nb (Ev_bind_eq nn (Ev_neg d4 (Ev_bind_eq ia (Ev_neg d3 (Ev_bind_eq za (Ev_pos (decide_eq_true ha0) (Ev_bind_eq ib (by rw [← hs]; exact e1))))))))), by rw [if_neg h4]; exact e2⟩
    · obtain ⟨d, e1, e2⟩ := go false (decide_eq_false (by omega)).symm
      refine ⟨d, Ev_bind_eq na (Ev_bind_eq nb (Ev_bind_eq nn (Ev_neg d4 (Ev_bind_eq ia (Ev_neg d3 (Ev_bind_eq za (Ev_neg (by rw [decide_eq_false ha0]; simp) (by rw [← hs]; exact e1)))))))), by rw [if_neg h4]; exact e2⟩
theorem rDiv_ev {a b : Int} {K : Nat} (hK : K = 1074) (ha : U a) (hb : U b) : ∃ d, Ev (fun k _ _ => abacusref05_Div.f k a b) d ∧ DivR K a b d := by
  simp only [abacusref05_Div.f, abacusref05_Div.b0]
  unfold DivR
  have nn := anyNaN_eq ha hb
  have ia := infinite_eq ha
  have ib := infinite_eq hb
  have za := zero_eq ha
  have zb := zero_eq hb
  have na := negative_eq a
  have nb := negative_eq b
  by_cases h4 : cls a = 4 ∨ cls b = 4
  · exact ⟨_, Ev_bind_eq na (Ev_bind_eq nb (Ev_bind_eq nn (Ev_pos (decide_eq_true h4) (Ev.now _)))), by rw [if_pos h4]⟩
  have d4 : ¬ decide (cls a = 4 ∨ cls b = 4) = true := by rw [decide_eq_false h4]; simp
  obtain ⟨s, hs⟩ : ∃ s, s = (sgn a != sgn b) := ⟨_, rfl⟩
  rw [← hs]
  have go (x : Bool) (hx : x = decide (cls a = cls b ∧ (cls a = 3 ∨ cls a = 0))) : ∃ d, Ev (fun k _ _ => abacusref05_Div.l231 k a b s x) d ∧ (if cls a = cls b ∧ (cls a = 3 ∨ cls a = 0) then d = 9221120237041090560 else ∃ p, d = put s p ∧ (if cls a = 3 ∨ cls b = 0 then p = inf else if cls a = 0 ∨ cls b = 3 then p = 0 else Near p (uni (plc a) * 2 ^ K) (uni (plc b)))) := by
    simp only [abacusref05_Div.l231, abacusref05_Div.b231]
    by_cases h0 : cls a = cls b ∧ (cls a = 3 ∨ cls a = 0)
    · exact ⟨_, Ev_pos (by rw [hx, decide_eq_true h0]) (Ev.now _), by rw [if_pos h0]⟩
    have hx' : ¬ x = true := by rw [hx, decide_eq_false h0]; simp
    by_cases ha3 : cls a = 3
    · exact ⟨_, Ev_neg hx' (Ev_bind_eq ia (Ev_pos (decide_eq_true ha3) (Ev_bind_eq (signed_inf _) (Ev.now _)))), by rw [if_neg h0]; exact ⟨inf, rfl, by rw [if_pos (.inl ha3)]⟩⟩
    have a3 : ¬ decide (cls a = 3) = true := by rw [decide_eq_false ha3]; simp
    by_cases hb0 : cls b = 0
    · exact ⟨_, Ev_neg hx' (Ev_bind_eq ia (Ev_neg a3 (Ev_bind_eq zb (Ev_pos (decide_eq_true hb0) (Ev_bind_eq (signed_inf _) (Ev.now _)))))), by rw [if_neg h0]; exact ⟨inf, rfl, by rw [if_pos (.inr hb0)]⟩⟩
    have b0 : ¬ decide (cls b = 0) = true := by rw [decide_eq_false hb0]; simp
    by_cases hb3 : cls b = 3
    · exact ⟨_, Ev_neg hx' (Ev_bind_eq ia (Ev_neg a3 (Ev_bind_eq zb (Ev_neg b0 (Ev_bind_eq ib (Ev_pos (decide_eq_true hb3) (Ev_bind_eq (signed_zero _) (Ev.now _)))))))), by rw [if_neg h0]; exact ⟨0, rfl, by rw [if_neg (by omega), if_pos (.inr hb3)]⟩⟩
    have b3 : ¬ decide (cls b = 3) = true := by rw [decide_eq_false hb3]; simp
    obtain ⟨m, am, rm, um, e0, e1⟩ := parts' ha (fin_of ha3 (fun k => h4 (.inl k)))
    obtain ⟨n, bn, rn, un, f0, f1⟩ := parts' hb (fin_of hb3 (fun k => h4 (.inr k)))
    have oa := of_eq ha
    have ob := of_eq hb
    rw [am] at oa
    rw [bn] at ob
    have w : wrap64 (expOf a - expOf b) = expOf a - expOf b := by unfold wrap64; omega
    have n0 : n ≠ 0 := fun h => by
      rw [h, Nat.zero_mul] at un
      have := (plc_cls hb).2.1 (by rw [uni_inj (un.trans uni_zero.symm)]; rfl)
      exact hb0 this
    have nl : n < B 4096 := pow_B' (n := 53) (Nat.lt_of_lt_of_le rn (by decide)) (by omega)
    have ml : m < B 4096 := pow_B' (n := 53) (Nat.lt_of_lt_of_le rm (by decide)) (by omega)
    have pr : abacusref05_ratio.f a b = some (s, [(m : Int)], lim n, expOf a - expOf b) := by
      unfold abacusref05_ratio.f abacusref05_ratio.b0
      rw [oa, ob, Option.bind_some, Option.bind_some, w, ← hs, lim_one_len (by omega) n0]
    have out (p : Nat) (ep : Ev (fun k _ _ => abacusref05_rounded.f k s [(m : Int)] (lim n) (expOf a - expOf b)) (put s p)) : Ev (fun k _ _ => if x = true then some 9221120237041090560 else (abacusref05_infinite.f a).bind fun t1 => if t1 = true then (abacusref05_signed.f s 9218868437227405312).bind fun t3 => some t3 else (abacusref05_zero.f b).bind fun t2 => if t2 = true then (abacusref05_signed.f s 9218868437227405312).bind fun t4 => some t4 else (abacusref05_infinite.f b).bind fun t5 => if t5 = true then (abacusref05_signed.f s 0).bind fun t6 => some t6 else (abacusref05_ratio.f a b).bind fun t7 => (abacusref05_rounded.f k t7.1 t7.2.1 t7.2.2.1 t7.2.2.2).bind fun t8 => some t8) (put s p) :=
      Ev_neg hx' (Ev_bind_eq ia (Ev_neg a3 (Ev_bind_eq zb (Ev_neg b0 (Ev_bind_eq ib (Ev_neg b3 (Ev_bind_eq pr (Ev.bind ep (Ev.now _)))))))))
    by_cases m0 : m = 0
    · have ca : cls a = 0 := by
        rw [m0, Nat.zero_mul] at um
        exact (plc_cls ha).2.1 (by rw [uni_inj (um.trans uni_zero.symm)]; rfl)
      have ep := rounded_zero (s := s) (e := expOf a - expOf b) nl n0
      refine ⟨put s 0, out 0 (by rw [m0]; exact ep), ?_⟩
      rw [if_neg h0]
      exact ⟨0, rfl, by rw [if_neg (by omega), if_pos (.inl ca)]⟩
    · have ca : cls a ≠ 0 := fun h => by
        have := (plc_cls ha).2.2 h
        have hp : plc a = 0 := by omega
        rw [hp, uni_zero] at um
        exact m0 ((Nat.mul_eq_zero.1 um.symm).resolve_right (Nat.pos_iff_ne_zero.1 (Nat.pow_pos (by omega))))
      obtain ⟨A, hA⟩ : ∃ A, A = (expOf a + 1074).toNat + K := ⟨_, rfl⟩
      obtain ⟨C, hC⟩ : ∃ C, C = (expOf b + 1074).toNat := ⟨_, rfl⟩
      obtain ⟨p, ep, hp⟩ := rounded_ev (a := A) (b := C) (s := s) (e := expOf a - expOf b) ml nl n0 (by omega) (by omega)
      refine ⟨put s p, out p (by rw [← lim_one_len (by omega) m0]; exact ep), ?_⟩
      rw [if_neg h0]
      refine ⟨p, rfl, ?_⟩
      rw [if_neg (by omega), if_neg (by omega), um, un, ← hC, Nat.mul_assoc, ← Nat.pow_add, ← hA]
      exact hp
  by_cases ha3 : cls a = 3
  · have d3 := decide_eq_true ha3
    by_cases hb3 : cls b = 3
    · obtain ⟨d, e1, e2⟩ := go true (decide_eq_true (by omega)).symm
      refine ⟨d, Ev_bind_eq na (Ev_bind_eq nb (Ev_bind_eq nn (Ev_neg d4 (Ev_bind_eq ia (Ev_pos d3 (Ev_bind_eq ib (Ev_pos (decide_eq_true hb3) (by rw [← hs]; exact e1)))))))), by rw [if_neg h4]; exact e2⟩
    · obtain ⟨d, e1, e2⟩ := go false (decide_eq_false (by omega)).symm
      refine ⟨d, Ev_bind_eq na (Ev_bind_eq nb (Ev_bind_eq nn (Ev_neg d4 (Ev_bind_eq ia (Ev_pos d3 (Ev_bind_eq ib (Ev_neg (by rw [decide_eq_false hb3]; simp) (Ev_bind_eq za (Ev_neg (by rw [decide_eq_false (show ¬ cls a = 0 by omega)]; simp) (by rw [← hs]; exact e1)))))))))), by rw [if_neg h4]; exact e2⟩
  · have d3 : ¬ decide (cls a = 3) = true := by rw [decide_eq_false ha3]; simp
    by_cases ha0 : cls a = 0
    · obtain ⟨d, e1, e2⟩ := go (decide (cls b = 0)) (decide_eq_decide.2 (by omega))
      refine ⟨d, Ev_bind_eq na (Ev_bind_eq nb (Ev_bind_eq nn (Ev_neg d4 (Ev_bind_eq ia (Ev_neg d3 (Ev_bind_eq za (Ev_pos (decide_eq_true ha0) (Ev_bind_eq zb (by rw [← hs]; exact e1))))))))), by rw [if_neg h4]; exact e2⟩
    · obtain ⟨d, e1, e2⟩ := go false (decide_eq_false (by omega)).symm
      refine ⟨d, Ev_bind_eq na (Ev_bind_eq nb (Ev_bind_eq nn (Ev_neg d4 (Ev_bind_eq ia (Ev_neg d3 (Ev_bind_eq za (Ev_neg (by rw [decide_eq_false ha0]; simp) (by rw [← hs]; exact e1)))))))), by rw [if_neg h4]; exact e2⟩
/-! ### the law -/
theorem k1 : Ev (fun k _ _ => soft_Add.f k 4607182418800017408 4611686018427387904) 4613937818241073152 := Ev_at 3000 fun d => by kernel_rfl
theorem k2 : Ev (fun k _ _ => soft_Sub.f k 4613937818241073152 4611686018427387904) 4607182418800017408 := Ev_at 3000 fun d => by kernel_rfl
theorem k3 : Ev (fun k _ _ => soft_Mul.f k 4613937818241073152 4611686018427387904) 4618441417868443648 := Ev_at 3000 fun d => by kernel_rfl
theorem k4 : Ev (fun k _ _ => soft_Div.f k 4618441417868443648 4611686018427387904) 4613937818241073152 := Ev_at 3000 fun d => by kernel_rfl
theorem two_adds {a b : Int} (ha : U a) (hb : U b) : ∃ d, Ev (fun k _ _ => soft_Add.f k a b) d ∧ Ev (fun k _ _ => abacusref05_Add.f k a b) d := by
  obtain ⟨d, h1, h2⟩ := Add_tot ha hb
  obtain ⟨d', h3, h4⟩ := rAdd_ev ha hb
  exact ⟨d, h1, by rw [h2.unique h4]; exact h3⟩
theorem two_subs {a b : Int} (ha : U a) (hb : U b) : ∃ d, Ev (fun k _ _ => soft_Sub.f k a b) d ∧ Ev (fun k _ _ => abacusref05_Sub.f k a b) d := by
  obtain ⟨d, h1, h2⟩ := Sub_tot ha hb
  obtain ⟨d', h3, h4⟩ := rSub_ev ha hb
  exact ⟨d, h1, by rw [h2.unique h4]; exact h3⟩
theorem two_muls {a b : Int} (ha : U a) (hb : U b) : ∃ d, Ev (fun k _ _ => soft_Mul.f k a b) d ∧ Ev (fun k _ _ => abacusref05_Mul.f k a b) d := by
  obtain ⟨d, h1, h2⟩ := Mul_tot (K := 1074) rfl ha hb
  obtain ⟨d', h3, h4⟩ := rMul_ev (K := 1074) rfl ha hb
  exact ⟨d, h1, by rw [h2.unique h4]; exact h3⟩
theorem two_divs {a b : Int} (ha : U a) (hb : U b) : ∃ d, Ev (fun k _ _ => soft_Div.f k a b) d ∧ Ev (fun k _ _ => abacusref05_Div.f k a b) d := by
  obtain ⟨d, h1, h2⟩ := Div_tot (K := 1074) rfl ha hb
  obtain ⟨d', h3, h4⟩ := rDiv_ev (K := 1074) rfl ha hb
  exact ⟨d, h1, by rw [h2.unique h4]; exact h3⟩
theorem SoftReckons {n : Int} {A C D : List Int} (hn : 0 ≤ n ∧ n ≤ 140737488351232) (h : ∀ j, 0 ≤ j → j < n → U (rd A j) ∧ U (rd C j) ∧ U (rd D j)) : ∃ k, abacuslaw05_SoftReckons.f k n A C D = some true := by
  refine Ev.rounds ?_
  simp only [abacuslaw05_SoftReckons.f, abacuslaw05_SoftReckons.b0]
  obtain ⟨N, rfl⟩ := Int.eq_ofNat_of_zero_le hn.1
  refine Ev.bind k1 (Ev_neg (by simp) (Ev.bind k2 (Ev_neg (by simp) (Ev.bind k3 (Ev_neg (by simp) (Ev.bind k4 (Ev_neg (by simp) ?_)))))))
  refine Ev_in (g := fun k m _ => abacuslaw05_SoftReckons.l117 k m (N : Int) A C D 0) ?_
  have go (d : Nat) : ∀ i : Nat, i + d = N → Ev (fun k m _ => abacuslaw05_SoftReckons.l117 k m (N : Int) A C D (i : Int)) true := by
    induction d with
    | zero =>
      intro i hi
      refine Ev_succ ?_
      simp only [abacuslaw05_SoftReckons.l117, abacuslaw05_SoftReckons.b117]
      exact Ev_neg (by omega) (Ev.now _)
    | succ d ih =>
      intro i hi
      obtain ⟨ua, ub, uc⟩ := h i (by omega) (by omega)
      have e1 : wrap64 ((i : Int) + 1) = ((i + 1 : Nat) : Int) := by unfold wrap64; omega
      have next := ih (i + 1) (by omega)
      obtain ⟨x1, a1, b1⟩ := two_adds ua ub
      obtain ⟨x2, a2, b2⟩ := two_subs ua ub
      obtain ⟨x3, a3, b3⟩ := two_muls ua ub
      obtain ⟨x4, a4, b4⟩ := two_divs ua ub
      obtain ⟨x5, a5, b5⟩ := two_adds ub uc
      obtain ⟨x6, a6, b6⟩ := two_subs uc ua
      obtain ⟨x7, a7, b7⟩ := two_muls ub uc
      obtain ⟨x8, a8, b8⟩ := two_divs uc ua
      have tail : Ev (fun k m _ => abacuslaw05_SoftReckons.l29853 k (abacuslaw05_SoftReckons.l117 k m) (N : Int) A C D (i : Int) false (rd A i) (rd C i) (rd D i)) true := by
        simp only [abacuslaw05_SoftReckons.l29853, abacuslaw05_SoftReckons.b29853, e1]
        exact Ev_neg (by simp) (Ev.bind a7 (Ev.bind b7 (Ev_neg (fun k => k rfl) (Ev.bind a8 (Ev.bind b8 (Ev_neg (fun k => k rfl) next))))))
      refine Ev_succ ?_
      simp only [abacuslaw05_SoftReckons.l117, abacuslaw05_SoftReckons.b117]
      refine Ev_pos (by omega) (Ev_pos (by omega) (Ev_pos (by omega) (Ev.bind a1 (Ev.bind b1 (Ev_neg (fun k => k rfl) (Ev.bind a2 (Ev.bind b2 (Ev_neg (fun k => k rfl) (Ev.bind a3 (Ev.bind b3 (Ev_neg (fun k => k rfl) (Ev.bind a4 (Ev.bind b4 (Ev_neg (fun k => k rfl) (Ev.bind a5 (Ev.bind b5 (Ev_neg (fun k => k rfl) (Ev.bind a6 (Ev.bind b6 ?_)))))))))))))))))))
      rw [show decide (¬ x6 = x6) = false from decide_eq_false (fun k => k rfl)]
      exact tail
  exact go N 0 (by omega)
end Go.Proofs.YtceihajjpeoloaaDoor.Pure
