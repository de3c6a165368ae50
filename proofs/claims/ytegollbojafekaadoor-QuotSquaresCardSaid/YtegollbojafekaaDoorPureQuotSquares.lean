/- The law of whole square roots (r*r at most a, (r+1)*(r+1) above, the bool tells whether r*r is a; or the error) holds for every input. No conditions. -/
import Derived.Test.YtegollbojafekaaDoorSQuot1
import Derived.Test.YtegollbojafekaaDoorPSx9
namespace Go.Proofs.YtegollbojafekaaDoor.Pure
open Go.RowKit Go.Proofs.YtegollbojafekaaDoorW.PrintWords Go.Proofs.YtegollbojafekaaDoorW.PrintLast Go.Proofs.YtegollbojafekaaDoorW.PrintMore Go.Proofs.YtegollbojafekaaDoor.Lib Go.Proofs.YtegollbojafekaaDoor.LibB Go.Proofs.YtegollbojafekaaDoor.PS Go.Proofs.YtegollbojafekaaDoor.SNat1 Go.Proofs.YtegollbojafekaaDoor.SNat2 Go.Proofs.YtegollbojafekaaDoor.SBits Go.Proofs.YtegollbojafekaaDoor.SPow Go.Proofs.YtegollbojafekaaDoor.SQuot1
set_option linter.unusedVariables false
theorem cmp_right {a : Nat} {y : List Int} (ha : a < B 4096) (hy : ok y) (hl : y.length ≤ 35184372088832) : Ev (fun k => nat_Cmp.f k (lim a) y) (cmp a (val y)) := by
  have := nat_Cmp_ev (ok_lim a) hy (by have := len_lim ha; omega) (by omega)
  rwa [val_lim] at this
theorem cmp_left {b : Nat} {x : List Int} (hb : b < B 4096) (hx : ok x) (hl : x.length ≤ 35184372088832) : Ev (fun k => nat_Cmp.f k x (lim b)) (cmp (val x) b) := by
  have := nat_Cmp_ev hx (ok_lim b) (by omega) (by have := len_lim hb; omega)
  rwa [val_lim] at this
theorem root_bound {s x : Nat} (h : s * s ≤ x) (hx : x < B 256) : (s + 1) * (s + 1) < B 4096 ∧ s + 1 < B 4096 ∧ s < B 4096 := by
  have h1 : s ≤ s * s := by
    rcases Nat.eq_zero_or_pos s with h | h
    · subst h; omega
    · exact Nat.le_mul_of_pos_left s h
  have e : (s + 1) * (s + 1) = s * s + 2 * s + 1 := by
    rw [Nat.add_mul, Nat.mul_add s s 1]; omega
  have h3 := B_mono (show 257 ≤ 4096 by omega)
  rw [B_succ 256] at h3
  omega
theorem squares_j0 {x : List Int} (hx : ok x) (hlx : x.length ≤ 35184372088832) : Ev (fun k => abacuslaw02_QuotSquares.j0 k x false) true := by
  obtain ⟨s, h1, h2, hroot⟩ := quot_Root_ev hx hlx
  have la := lim_len_le (val x) 256
  refine Ev_succ ?_
  simp only [abacuslaw02_QuotSquares.j0]
  refine Ev_neg (by simp) (Ev.bind hroot (Ev.bind (abacusref02_Top_ev hx (by omega)) ?_))
  by_cases hb : val x < B 256
  · simp only [if_pos hb]
    obtain ⟨b1, b2, b3⟩ := root_bound h1 hb
    have hxB : val x < B 4096 := Nat.lt_of_lt_of_le hb (B_mono (by omega))
    have m1 := mul_ev b3 b3
    have hss : s * s < B 4096 := by omega
    rw [ans_ok hss] at m1
    have a1 := add_ev b3 (small_limit (n := 1) (by omega))
    rw [ans_ok b2] at a1
    refine Ev_neg (by have := la.2 hb; omega) (Ev_pos (by first | rfl | trivial) (Ev.bind m1 (Ev_bind_eq (one_eq 1 (by omega) (by omega)) (Ev.bind a1 (Ev_pos (by first | rfl | trivial) ?_)))))
    refine Ev_succ ?_
    simp only [abacuslaw02_QuotSquares.j1]
    have m2 := mul_ev b2 b2
    rw [ans_ok b1] at m2
    have c1 := cmp_right hss hx hlx
    have c2 := cmp_left b1 hx hlx
    refine Ev_neg (by simp) (Ev.bind m2 (Ev.bind c1 (Ev_pos (by first | rfl | trivial) (Ev_pos ?_ (Ev_pos ?_ (Ev.bind c2 (Ev_some ?_)))))))
    · have := cmp_pos (s * s) (val x)
      rcases Int.lt_or_le 0 (cmp (s * s) (val x)) with h | h
      · exact absurd (this.1 h) (by omega)
      · exact h
    · have c0 := cmp_zero (s * s) (val x)
      by_cases h : s * s = val x
      · rw [decide_eq_true h, c0.2 h]; rfl
      · rw [decide_eq_false h]
        have : cmp (s * s) (val x) ≠ 0 := fun h' => h (c0.1 h')
        simp [this]
    · exact decide_eq_true ((cmp_neg _ _).2 h2)
  · simp only [if_neg hb]
    refine Ev_pos ?_ (Ev_pos (by first | rfl | trivial) (Ev_neg (by simp) (Ev_some rfl)))
    rcases Int.lt_or_le 256 ((lim (val x)).length : Int) with h | h
    · exact h
    · exact absurd (la.1 (by omega)) hb
theorem QuotSquares : abacuslaw02_QuotSquares.Pure := by
  intro l0 _ h0 w0
  suffices h : Ev (fun k => abacuslaw02_QuotSquares.f k l0) true by
    obtain ⟨K, hK⟩ := h
    exact ⟨K, hK K (Nat.le_refl _)⟩
  have v10 : val (lim 10) = 10 := val_lim 10
  obtain ⟨s, h1, h2, hroot⟩ := quot_Root_ev (a := lim 10) (ok_lim 10) (by have := len_lim (small_limit (n := 10) (by omega)); omega)
  rw [v10] at h1 h2 hroot
  have s3 : s = 3 := isq_unique h1 h2 (show 3 * 3 ≤ 10 by omega) (show 10 < (3 + 1) * (3 + 1) by omega)
  subst s3
  have hB : (10 : Nat) < B 256 := by
    have := B_mono (show 1 ≤ 256 by omega)
    rw [B_one] at this
    omega
  rw [if_pos hB, decide_eq_false (by omega)] at hroot
  simp only [abacuslaw02_QuotSquares.f]
  refine Ev_bind_eq (one_eq 10 (by omega) (by omega)) (Ev.bind hroot (Ev_pos rfl (Ev_neg (by simp) ?_)))
  refine Ev_bind_eq (one_eq 3 (by omega) (by omega)) (Ev.bind (same_ev (small_limit (by omega))) ?_)
  exact squares_j0 (ok_of_wf w0) (by omega)
end Go.Proofs.YtegollbojafekaaDoor.Pure
