/- The law of quotient and remainder (q*b + r is a, r below b, or the error) holds for every input. No conditions. -/
import Derived.Test.YtegollbojafekaaDoorSQuot1
import Derived.Test.YtegollbojafekaaDoorPSx7
namespace Go.Proofs.YtegollbojafekaaDoor.Pure
open Go.RowKit Go.Proofs.YtegollbojafekaaDoorW.PrintWords Go.Proofs.YtegollbojafekaaDoorW.PrintLast Go.Proofs.YtegollbojafekaaDoorW.PrintMore Go.Proofs.YtegollbojafekaaDoor.Lib Go.Proofs.YtegollbojafekaaDoor.LibB Go.Proofs.YtegollbojafekaaDoor.PS Go.Proofs.YtegollbojafekaaDoor.SNat1 Go.Proofs.YtegollbojafekaaDoor.SNat2 Go.Proofs.YtegollbojafekaaDoor.SBits Go.Proofs.YtegollbojafekaaDoor.SPow Go.Proofs.YtegollbojafekaaDoor.SQuot1
set_option linter.unusedVariables false
theorem mul_right_ev {a : Nat} {y : List Int} (ha : a < B 4096) (hy : ok y) (hl : y.length ≤ 35184372088832) (hb : val y < B 4096) : Ev (fun k => nat_Mul.f k (lim a) y) (ans (a * val y)) := by
  have := nat_Mul_ev (ok_lim a) hy (by have := len_lim ha; omega) (by omega)
  rwa [val_lim, mulAns_eq ha hb] at this
theorem cmp_right_ev {a : Nat} {y : List Int} (ha : a < B 4096) (hy : ok y) (hl : y.length ≤ 35184372088832) : Ev (fun k => nat_Cmp.f k (lim a) y) (cmp a (val y)) := by
  have := nat_Cmp_ev (ok_lim a) hy (by have := len_lim ha; omega) (by omega)
  rwa [val_lim] at this
theorem splits_j0 {x y : List Int} (hx : ok x) (hy : ok y) (hlx : x.length ≤ 35184372088832) (hly : y.length ≤ 35184372088832) : Ev (fun k => abacuslaw02_QuotSplits.j0 k x y false) true := by
  refine Ev_succ ?_
  simp only [abacuslaw02_QuotSplits.j0]
  refine Ev_neg (by simp) (Ev.bind (quot_DivMod_ev hx hy hlx hly) (Ev.bind (errs_ev hx hy hlx hly) ?_))
  unfold dmAns errOf
  by_cases h1 : val x < B 4096 ∧ val y < B 4096
  · simp only [if_pos h1]
    obtain ⟨ha, hb⟩ := h1
    by_cases h0 : val y = 0
    · simp only [if_pos h0]
      exact Ev_pos (by first | rfl | trivial) (Ev_neg (by simp) (Ev_pos (by first | rfl | trivial) (Ev_some rfl)))
    · simp only [if_neg h0]
      have hr := Nat.mod_lt (val x) (show 0 < val y by omega)
      have hq : val x / val y ≤ val x := Nat.div_le_self _ _
      have hm := Nat.div_add_mod (val x) (val y)
      rw [Nat.mul_comm] at hm
      have hqB : val x / val y < B 4096 := Nat.lt_of_le_of_lt hq ha
      have e1 := mul_right_ev hqB hy hly hb
      generalize val x % val y = r at *
      have hp : val x / val y * val y < B 4096 := by omega
      have hrB : r < B 4096 := Nat.lt_trans hr hb
      rw [ans_ok hp] at e1
      have e2 := add_ev hp hrB
      rw [hm, ans_ok ha] at e2
      have e3 := cmp_right_ev ha hx hlx
      have e4 := cmp_right_ev hrB hy hly
      refine Ev_pos (by first | rfl | trivial) (Ev_pos (by first | rfl | trivial) (Ev.bind e1 (Ev.bind e2 (Ev_pos (by first | rfl | trivial) (Ev_pos (by first | rfl | trivial) (Ev.bind e3 (Ev_pos ((cmp_zero _ _).2 rfl) (Ev.bind e4 (Ev_some ?_)))))))))
      exact decide_eq_true ((cmp_neg _ _).2 hr)
  · simp only [if_neg h1]
    exact Ev_pos (by first | rfl | trivial) (Ev_neg (by simp) (Ev_pos (by first | rfl | trivial) (Ev_some rfl)))
theorem QuotSplits : abacuslaw02_QuotSplits.Pure := by
  intro l0 l1 _ h0 w0 _ h1 w1
  suffices h : Ev (fun k => abacuslaw02_QuotSplits.f k l0 l1) true by
    obtain ⟨K, hK⟩ := h
    exact ⟨K, hK K (Nat.le_refl _)⟩
  simp only [abacuslaw02_QuotSplits.f]
  refine Ev_bind_eq (one_eq 100 (by omega) (by omega)) (Ev_bind_eq (one_eq 7 (by omega) (by omega)) (Ev.bind (dm_ev (small_limit (by omega)) (small_limit (by omega)) (by omega)) (Ev_pos (by first | rfl | trivial) ?_)))
  refine Ev_bind_eq (one_eq 14 (by omega) (by omega)) (Ev.bind (same_ev (small_limit (by omega))) (Ev_pos (by first | rfl | trivial) ?_))
  refine Ev_bind_eq (one_eq 2 (by omega) (by omega)) (Ev.bind (same_ev (small_limit (by omega))) ?_)
  exact splits_j0 (ok_of_wf w0) (ok_of_wf w1) (by omega) (by omega)
end Go.Proofs.YtegollbojafekaaDoor.Pure
