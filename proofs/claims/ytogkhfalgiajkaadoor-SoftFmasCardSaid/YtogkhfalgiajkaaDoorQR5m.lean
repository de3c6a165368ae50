/- What the fifth reference's products and quotients are. No conditions. -/
import Derived.Test.YtogkhfalgiajkaaDoorQR5
namespace Go.Proofs.YtogkhfalgiajkaaDoor.R5
open Go.RowKit Go.Proofs.YtogkhfalgiajkaaDoor.Lib Go.Proofs.YtogkhfalgiajkaaDoor.LibB Go.Proofs.YtogkhfalgiajkaaDoor.F Go.Proofs.YtogkhfalgiajkaaDoor.Nat1 Go.Proofs.YtogkhfalgiajkaaDoor.Nat2 Go.Proofs.YtogkhfalgiajkaaDoor.Bits Go.Proofs.YtogkhfalgiajkaaDoor.Ieee1 Go.Proofs.YtogkhfalgiajkaaDoor.Mag Go.Proofs.YtogkhfalgiajkaaDoor.Ieee2 Go.Proofs.YtogkhfalgiajkaaDoor.Rnd Go.Proofs.YtogkhfalgiajkaaDoor.R1 Go.Proofs.YtogkhfalgiajkaaDoor.R4
open Go.Proofs.YtogkhfalgiajkaaDoor.SoftTot (AddR MulR DivR)
open Go.Proofs.YtogkhfalgiajkaaDoorA (rd ln ln_eq mx mn shl shr wr wr_eq)
set_option linter.unusedVariables false
set_option linter.unusedSimpArgs false
theorem put_zero_near {Y : Nat} (hY : 0 < Y) {p : Nat} (h : Near p 0 Y) : p = 0 := by
  have := near_exact (p := 0) hY (by unfold inf; omega)
  rw [uni_zero, Nat.zero_mul] at this
  exact near_unique hY hY h this rfl
theorem rMul_ev {a b : Int} {K : Nat} (hK : K = 1074) (ha : U a) (hb : U b) : ∃ d, Ev (fun k _ _ => abacusref05_Mul.f k a b) d ∧ MulR K a b d := by
  simp only [abacusref05_Mul.f, abacusref05_Mul.b0]
  unfold MulR
  have nn := anyNaN_eq ha hb
  have ia := infinite_eq ha
  have ib := infinite_eq hb
  have za := zero_eq ha
  have zb := zero_eq hb
  have na := negative_eq a
  have nb := negative_eq b
  by_cases h4 : cls a = 4 ∨ cls b = 4
  · exact ⟨_, Ev_bind_eq na (Ev_bind_eq nb (Ev_bind_eq nn (Ev_pos (decide_eq_true h4) (Ev.now _)))), by rw [if_pos h4]⟩
  have d4 : ¬ decide (cls a = 4 ∨ cls b = 4) = true := by rw [decide_eq_false h4]; simp
  obtain ⟨s, hs⟩ : ∃ s, s = (sgn a != sgn b) := ⟨_, rfl⟩
  rw [← hs]
  have go (x : Bool) (hx : x = decide ((cls a = 3 ∧ cls b = 0) ∨ (cls a = 0 ∧ cls b = 3))) : ∃ d, Ev (fun k _ _ => abacusref05_Mul.l231 k a b s x) d ∧ (if (cls a = 3 ∧ cls b = 0) ∨ (cls a = 0 ∧ cls b = 3) then d = 9221120237041090560 else ∃ p, d = put s p ∧ (if cls a = 3 ∨ cls b = 3 then p = inf else Near p (uni (plc a) * uni (plc b)) (2 ^ K))) := by
    simp only [abacusref05_Mul.l231, abacusref05_Mul.b231]
    by_cases h0 : (cls a = 3 ∧ cls b = 0) ∨ (cls a = 0 ∧ cls b = 3)
    · exact ⟨_, Ev_pos (by rw [hx, decide_eq_true h0]) (Ev.now _), by rw [if_pos h0]⟩
    have hx' : ¬ x = true := by rw [hx, decide_eq_false h0]; simp
    by_cases ha3 : cls a = 3
    · exact ⟨_, Ev_neg hx' (Ev_bind_eq ia (Ev_pos (decide_eq_true ha3) (Ev_bind_eq (signed_inf _) (Ev.now _)))), by rw [if_neg h0]; exact ⟨inf, rfl, by rw [if_pos (.inl ha3)]⟩⟩
    have a3 : ¬ decide (cls a = 3) = true := by rw [decide_eq_false ha3]; simp
    by_cases hb3 : cls b = 3
    · exact ⟨_, Ev_neg hx' (Ev_bind_eq ia (Ev_neg a3 (Ev_bind_eq ib (Ev_pos (decide_eq_true hb3) (Ev_bind_eq (signed_inf _) (Ev.now _)))))), by rw [if_neg h0]; exact ⟨inf, rfl, by rw [if_pos (.inr hb3)]⟩⟩
    have b3 : ¬ decide (cls b = 3) = true := by rw [decide_eq_false hb3]; simp
    obtain ⟨m, am, rm, um, e0, e1⟩ := parts' ha (fin_of ha3 (fun k => h4 (.inl k)))
    obtain ⟨n, bn, rn, un, f0, f1⟩ := parts' hb (fin_of hb3 (fun k => h4 (.inr k)))
    have oa := of_eq ha
    have ob := of_eq hb
    rw [am] at oa
    rw [bn] at ob
    have tm := Times_ev (a := [(m : Int)]) (b := [(n : Int)]) (limb_ok (by omega)) (limb_ok (by omega)) (by simp) (by simp)
    rw [limb_val, limb_val] at tm
    have w : wrap64 (expOf a + expOf b) = expOf a + expOf b := by unfold wrap64; omega
    have pr : Ev (fun k _ _ => abacusref05_product.f k (sgn a) [(m : Int)] [1] (expOf a) (sgn b) [(n : Int)] [1] (expOf b)) (s, lim (m * n), [1], expOf a + expOf b) := by
      simp only [abacusref05_product.f, abacusref05_product.b0, w, ← hs]
      exact Ev.bind tm (Ev.now _)
    have lmn : m * n < B 4096 := pow_B' (n := 106) (by
      have := Nat.mul_lt_mul'' rm rn
      exact Nat.lt_of_lt_of_le this (by decide)) (by omega)
    obtain ⟨A, hA⟩ : ∃ A, A = (expOf a + 1074).toNat + (expOf b + 1074).toNat := ⟨_, rfl⟩
    obtain ⟨p, ep, hp⟩ := rounded_ev (a := A) (b := K) (s := s) (e := expOf a + expOf b) lmn (D := 1) (by have := B_mono (show 1 ≤ 4096 by omega); rw [B_one] at this; omega) (by omega) (by omega) (by omega)
    rw [← one_lim] at ep
    refine ⟨put s p, Ev_neg hx' (Ev_bind_eq ia (Ev_neg a3 (Ev_bind_eq ib (Ev_neg b3 (Ev_bind_eq oa (Ev_bind_eq ob (Ev.bind pr (Ev.bind ep (Ev.now _))))))))), ?_⟩
    rw [if_neg h0]
    refine ⟨p, rfl, ?_⟩
    rw [if_neg (by omega), um, un]
    have e9 : m * 2 ^ (expOf a + 1074).toNat * (n * 2 ^ (expOf b + 1074).toNat) = m * n * 2 ^ A := by
      rw [hA, Nat.pow_add]; simp only [Nat.mul_assoc, Nat.mul_comm, Nat.mul_left_comm]
    rw [e9]
    rwa [Nat.one_mul] at hp
  by_cases ha3 : cls a = 3
  · have d3 := decide_eq_true ha3
    by_cases hb0 : cls b = 0
    · obtain ⟨d, e1, e2⟩ := go true (decide_eq_true (.inl ⟨ha3, hb0⟩)).symm
      refine ⟨d, Ev_bind_eq na (Ev_bind_eq nb (Ev_bind_eq nn (Ev_neg d4 (Ev_bind_eq ia (Ev_pos d3 (Ev_bind_eq zb (Ev_pos (decide_eq_true hb0) (by rw [← hs]; exact e1)))))))), by rw [if_neg h4]; exact e2⟩
    · obtain ⟨d, e1, e2⟩ := go false (decide_eq_false (by omega)).symm
      refine ⟨d, Ev_bind_eq na (Ev_bind_eq nb (Ev_bind_eq nn (Ev_neg d4 (Ev_bind_eq ia (Ev_pos d3 (Ev_bind_eq zb (Ev_neg (by rw [decide_eq_false hb0]; simp) (Ev_bind_eq za (Ev_neg (by rw [decide_eq_false (show ¬ cls a = 0 by omega)]; simp) (by rw [← hs]; exact e1)))))))))), by rw [if_neg h4]; exact e2⟩
  · have d3 : ¬ decide (cls a = 3) = true := by rw [decide_eq_false ha3]; simp
    by_cases ha0 : cls a = 0
    · obtain ⟨d, e1, e2⟩ := go (decide (cls b = 3)) (decide_eq_decide.2 (by omega))
      refine ⟨d, Ev_bind_eq na (Ev_bind_eq nb (Ev_bind_eq nn (Ev_neg d4 (Ev_bind_eq ia (Ev_neg d3 (Ev_bind_eq za (Ev_pos (decide_eq_true ha0) (Ev_bind_eq ib (by rw [← hs]; exact e1))))))))), by rw [if_neg h4]; exact e2⟩
    · obtain ⟨d, e1, e2⟩ := go false (decide_eq_false (by omega)).symm
      refine ⟨d, Ev_bind_eq na (Ev_bind_eq nb (Ev_bind_eq nn (Ev_neg d4 (Ev_bind_eq ia (Ev_neg d3 (Ev_bind_eq za (Ev_neg (by rw [decide_eq_false ha0]; simp) (by rw [← hs]; exact e1)))))))), by rw [if_neg h4]; exact e2⟩
end Go.Proofs.YtogkhfalgiajkaaDoor.R5
