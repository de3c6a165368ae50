/- The law of the orders of doubles holds for every input. No conditions. -/
import Derived.Test.YtiigfmmflicdpaaDoorAIeee1
import Derived.Test.YtiigfmmflicdpaaDoorPAx7
import Derived.Test.YtiigfmmflicdpaaDoorPAx8
namespace Go.Proofs.YtiigfmmflicdpaaDoor.Pure
open Go.RowKit Go.Proofs.YtiigfmmflicdpaaDoorW.PrintWords Go.Proofs.YtiigfmmflicdpaaDoorW.PrintLast Go.Proofs.YtiigfmmflicdpaaDoorW.PrintMore Go.Proofs.YtiigfmmflicdpaaDoor.Lib Go.Proofs.YtiigfmmflicdpaaDoor.LibB Go.Proofs.YtiigfmmflicdpaaDoor.PA Go.Proofs.YtiigfmmflicdpaaDoor.AIeee1
set_option linter.unusedVariables false
def key (d : Int) : Int := if d < 9223372036854775808 then d else 9223372036854775807 - d
theorem key_eq {d : Int} (h : U d) : ieee_key.f d = some (key d) := by
  unfold ieee_key.f key
  rw [bit_sgn h, Abs_eq h, Option.bind_some]
  have h1 := h.1
  have h2 := h.2
  by_cases h3 : d < 9223372036854775808
  · rw [if_pos h3, if_pos rfl, if_pos h3]
    congr 1; unfold wrap64; omega
  · rw [if_neg h3, if_neg (by omega), if_neg h3]
    congr 1; unfold wrap64; omega
theorem Total_eq {a b : Int} (ha : U a) (hb : U b) : ieee_Total.f a b = some (ord (key a) (key b)) := by
  unfold ieee_Total.f
  rw [key_eq ha, key_eq hb, Option.bind_some, Option.bind_some, order_eq]
  rfl
theorem ord_cases (x y : Int) : (ord x y = -1 ∧ x < y) ∨ (ord x y = 0 ∧ x = y) ∨ (ord x y = 1 ∧ y < x) := by
  unfold ord
  rcases Int.lt_trichotomy x y with h | h | h
  · rw [if_pos h]; exact .inl ⟨rfl, h⟩
  · rw [if_neg (by omega), if_neg (by omega)]; exact .inr (.inl ⟨rfl, h⟩)
  · rw [if_neg (by omega), if_pos (by omega)]; exact .inr (.inr ⟨rfl, h⟩)
theorem key_inj {a b : Int} (ha : U a) (hb : U b) (h : key a = key b) : a = b := by
  unfold key U at *
  split at h <;> split at h <;> omega
theorem zero_key : ord (key 9223372036854775808) (key 0) = -1 := by decide
theorem order_j3 {a b : Int} {x10 : Bool} {x15 : Int} (ha : U a) (hb : U b) (hx : x10 = true → ¬ nan b) (h15 : (x15 = -1 ∧ key a < key b) ∨ (x15 = 0 ∧ key a = key b) ∨ (x15 = 1 ∧ key b < key a)) : Ev (fun k => abacuslaw04_IeeeOrder.j3 k a x10 x15 false) true := by
  have hz := Total_eq (a := 9223372036854775808) (b := 0) (by unfold U; omega) (by unfold U; omega)
  rw [zero_key] at hz
  refine Ev_succ ?_
  simp only [abacuslaw04_IeeeOrder.j3, hz]
  refine Ev_neg (by simp) ?_
  rw [Int.tmod_eq_emod_of_nonneg ha.1]
  by_cases h1 : a % 9223372036854775808 > 9218868437227405312
  · refine Ev_pos h1 ?_
    cases x10 with
    | false => exact Ev_neg (by simp) (Ev_bind_some (Ev_some rfl))
    | true =>
      have hb2 := hx rfl
      refine Ev_pos rfl (Ev_neg ?_ (Ev_bind_some (Ev_some rfl)))
      have h2 : (x15 < 0) ↔ (a ≥ 9223372036854775808) := by
        unfold nan at hb2
        unfold key U at *
        split at h15 <;> split at h15 <;> omega
      rw [show decide (x15 < 0) = decide (a ≥ 9223372036854775808) from by rw [decide_eq_decide]; exact h2]
      simp
  · exact Ev_neg h1 (Ev_bind_some (Ev_some rfl))
theorem order_j2 {a b : Int} {x10 : Bool} {x y z p q r : Int} (hx : (x = -1 ∧ p < q) ∨ (x = 0 ∧ p = q) ∨ (x = 1 ∧ q < p)) (hy : (y = -1 ∧ q < r) ∨ (y = 0 ∧ q = r) ∨ (y = 1 ∧ r < q)) (hz : (z = -1 ∧ p < r) ∨ (z = 0 ∧ p = r) ∨ (z = 1 ∧ r < p))
    (j3 : Ev (fun k => abacuslaw04_IeeeOrder.j3 k a x10 x false) true) : Ev (fun k => abacuslaw04_IeeeOrder.j2 k a x10 x y z false) true := by
  refine Ev_succ ?_
  rcases hx with ⟨rfl, hx⟩ | ⟨rfl, hx⟩ | ⟨rfl, hx⟩ <;> rcases hy with ⟨rfl, hy⟩ | ⟨rfl, hy⟩ | ⟨rfl, hy⟩ <;> rcases hz with ⟨rfl, hz⟩ | ⟨rfl, hz⟩ | ⟨rfl, hz⟩ <;>
    first
    | (exfalso; omega)
    | (simp [abacuslaw04_IeeeOrder.j2]; exact j3)
theorem order_j1 {a b c : Int} {x10 x12 : Bool} {x11 : Int} (ha : U a) (hb : U b) (hc : U c) (hx : x10 = true → ¬ nan b) (hok : x12 = true → x11 ≠ 0 → ord (key a) (key b) = x11) : Ev (fun k => abacuslaw04_IeeeOrder.j1 k a b c x10 x11 x12 false) true := by
  have ca := ord_cases (key a) (key b)
  have cb := ord_cases (key b) (key a)
  have j2 := order_j2 (a := a) (b := b) ca (ord_cases (key b) (key c)) (ord_cases (key a) (key c)) (order_j3 (x10 := x10) ha hb hx ca)
  refine Ev_succ ?_
  simp only [abacuslaw04_IeeeOrder.j1, Total_eq ha hb, Total_eq hb hc, Total_eq ha hc, Total_eq hb ha, Option.bind_some]
  refine Ev_neg (by simp) (Ev_neg (by omega) (Ev_neg (by omega) (Ev_pos (by unfold wrap64; omega) (Ev_neg ?_ ?_))))
  · have : (ord (key a) (key b) = 0) ↔ a = b := by
      constructor
      · intro h
        exact key_inj ha hb (by omega)
      · rintro rfl
        omega
    rw [show (ord (key a) (key b) == 0) = (a == b) from by rw [Bool.eq_iff_iff, beq_iff_eq, beq_iff_eq]; exact this]
    simp
  · cases x12 with
    | false => exact Ev_neg (by simp) j2
    | true =>
      refine Ev_pos rfl ?_
      by_cases h0 : x11 = 0
      · exact Ev_pos h0 j2
      · refine Ev_neg h0 ?_
        rw [hok rfl h0, show (x11 != x11) = false by simp]
        rw [hok rfl h0] at j2
        exact j2
theorem key_rk {a b : Int} (ha : U a) (hb : U b) (h : ord (rk a) (rk b) ≠ 0) : ord (key a) (key b) = ord (rk a) (rk b) := by
  have c1 := ord_cases (rk a) (rk b)
  have c2 := ord_cases (key a) (key b)
  have k1 : rk a < rk b → key a < key b := by
    unfold rk key U at *
    split <;> split <;> omega
  have k2 : rk b < rk a → key b < key a := by
    unfold rk key U at *
    split <;> split <;> omega
  omega
theorem IeeeOrder : abacuslaw04_IeeeOrder.Pure := by
  intro a b c wa wb wc
  have e1 : IntKind.u64.min = 0 := rfl
  have e2 : IntKind.u64.max = 18446744073709551615 := rfl
  have ha : U a := by simp [Lit.wf] at wa; unfold U; omega
  have hb : U b := by simp [Lit.wf] at wb; unfold U; omega
  have hc : U c := by simp [Lit.wf] at wc; unfold U; omega
  refine Ev.rounds ?_
  simp only [abacuslaw04_IeeeOrder.f]
  refine Ev.bind awake_ev (Ev_pos rfl ?_)
  simp only [Rank_eq ha, Rank_eq hb, Compare_eq ha hb, Compare_eq hb ha, Option.bind_some, Int.tmod_eq_emod_of_nonneg ha.1, Int.tmod_eq_emod_of_nonneg hb.1]
  have da : decide (a % 9223372036854775808 ≤ 9218868437227405312) = !decide (nan a) := by
    rw [← decide_not, decide_eq_decide]; unfold nan; omega
  have db : decide (b % 9223372036854775808 ≤ 9218868437227405312) = !decide (nan b) := by
    rw [← decide_not, decide_eq_decide]; unfold nan; omega
  rw [da, db]
  by_cases hna : nan a
  · have c1 : comp a b = (0, false) := by unfold comp; rw [if_pos hna]
    have c2 : comp b a = (0, false) := by unfold comp; by_cases hnb : nan b; rw [if_pos hnb]; rw [if_neg hnb, if_pos hna]
    rw [c1, c2]
    simp only [if_pos hna, decide_eq_true hna]
    refine Ev_neg (by simp) (Ev_neg ?_ (Ev_neg (by simp) (Ev_neg (by simp) (Ev_neg (by simp) ?_))))
    · by_cases hnb : nan b
      · simp only [if_pos hnb, decide_eq_true hnb]; simp
      · simp only [if_neg hnb, decide_eq_false hnb]; simp
    · refine Ev_succ ?_
      simp only [abacuslaw04_IeeeOrder.j0]
      refine Ev_neg (by rw [show wrap64 (-0) = 0 by unfold wrap64; omega]; simp) (Ev_neg (by simp) ?_)
      refine order_j1 ha hb hc ?_ (by simp)
      by_cases hnb : nan b
      · simp only [if_pos hnb]; simp
      · exact fun _ => hnb
  · by_cases hnb : nan b
    · have c1 : comp a b = (0, false) := by unfold comp; rw [if_neg hna, if_pos hnb]
      have c2 : comp b a = (0, false) := by unfold comp; rw [if_pos hnb]
      rw [c1, c2]
      simp only [if_neg hna, if_pos hnb, decide_eq_false hna, decide_eq_true hnb]
      refine Ev_neg (by simp) (Ev_neg (by simp) (Ev_pos (by first | rfl | trivial) (Ev_neg (by simp) (Ev_neg (by simp) ?_))))
      refine Ev_succ ?_
      simp only [abacuslaw04_IeeeOrder.j0]
      refine Ev_neg (by rw [show wrap64 (-0) = 0 by unfold wrap64; omega]; simp) (Ev_neg (by simp) ?_)
      exact order_j1 ha hb hc (by simp) (by simp)
    · have c1 : comp a b = (ord (rk a) (rk b), true) := by unfold comp; rw [if_neg hna, if_neg hnb]
      have c2 : comp b a = (ord (rk b) (rk a), true) := by unfold comp; rw [if_neg hnb, if_neg hna]
      rw [c1, c2]
      simp only [if_neg hna, if_neg hnb, decide_eq_false hna, decide_eq_false hnb]
      have o1 := ord_cases (rk a) (rk b)
      have o2 := ord_cases (rk b) (rk a)
      refine Ev_neg (by simp) (Ev_neg (by simp) (Ev_pos (by first | rfl | trivial) (Ev_neg (by simp) (Ev_neg (by simp) ?_))))
      rw [show (ord (rk a) (rk b) != wrap64 (-ord (rk b) (rk a))) = false from by rw [bne_eq_false_iff_eq]; unfold wrap64; omega]
      refine Ev_succ ?_
      simp only [abacuslaw04_IeeeOrder.j0]
      refine Ev_neg (by simp) (Ev_pos (by first | rfl | trivial) (Ev_neg ?_ (Ev_neg ?_ ?_)))
      · rw [show decide (ord (rk a) (rk b) < 0) = decide (rk a < rk b) from by rw [decide_eq_decide]; omega]; simp
      · rw [show decide (ord (rk a) (rk b) > 0) = decide (rk a > rk b) from by rw [decide_eq_decide]; omega]; simp
      · exact order_j1 ha hb hc (fun _ => hnb) (fun _ h => key_rk ha hb h)
end Go.Proofs.YtiigfmmflicdpaaDoor.Pure
