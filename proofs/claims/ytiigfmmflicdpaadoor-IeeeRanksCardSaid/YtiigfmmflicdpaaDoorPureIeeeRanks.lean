/- The law of the places of doubles holds for every input. No conditions. -/
import Derived.Test.YtiigfmmflicdpaaDoorAIeee1
import Derived.Test.YtiigfmmflicdpaaDoorPAx7
namespace Go.Proofs.YtiigfmmflicdpaaDoor.Pure
open Go.RowKit Go.Proofs.YtiigfmmflicdpaaDoorW.PrintWords Go.Proofs.YtiigfmmflicdpaaDoorW.PrintLast Go.Proofs.YtiigfmmflicdpaaDoorW.PrintMore Go.Proofs.YtiigfmmflicdpaaDoor.Lib Go.Proofs.YtiigfmmflicdpaaDoor.LibB Go.Proofs.YtiigfmmflicdpaaDoor.PA Go.Proofs.YtiigfmmflicdpaaDoor.AIeee1
set_option linter.unusedVariables false
def pos (i : Int) : Int := if i < 0 then 9223372036854775808 - i else i
section
variable {i : Int} (h0 : -9218868437227405312 ≤ i) (h1 : i ≤ 9218868437227405312)
include h0 h1
theorem at_in : at' i = (pos i, true) := by
  unfold at' pos
  rw [if_neg (by omega)]
  split <;> rfl
theorem pos_U : U (pos i) := by unfold U pos; split <;> omega
theorem pos_nan : ¬ nan (pos i) := by unfold nan pos; split <;> omega
theorem rk_pos : rk (pos i) = i := by
  unfold rk pos
  split <;> split <;> omega
theorem neg_pos (hz : i ≠ 0) : neg (pos i) = pos (-i) := by
  unfold neg pos
  split <;> split <;> split <;> omega
end
theorem up_pos {i : Int} (h0 : -9218868437227405312 ≤ i) (h1 : i < 9218868437227405312) : upd (pos i) = if i = -1 then 9223372036854775808 else pos (i + 1) := by
  unfold upd
  rw [if_neg (pos_nan h0 (by omega)), rk_pos h0 (by omega), if_neg (by omega), at_in (i := i + 1) (by omega) (by omega)]
theorem down_of {d : Int} (hn : ¬ nan d) : down d = neg (upd (neg d)) := by unfold down; rw [if_neg hn]
theorem nan_zero : ¬ nan 9223372036854775808 := by unfold nan; omega
theorem down_up {i : Int} (h0 : -9218868437227405312 ≤ i) (h1 : i < 9218868437227405312) : down (upd (pos i)) = pos i := by
  rw [up_pos h0 h1]
  by_cases h2 : i = -1
  · subst h2
    rw [if_pos rfl, down_of nan_zero, show neg 9223372036854775808 = pos 0 from rfl, up_pos (by omega) (by omega), if_neg (by omega), neg_pos (by omega) (by omega) (by omega)]
    rfl
  · rw [if_neg h2, down_of (pos_nan (by omega) (by omega)), neg_pos (by omega) (by omega) (by omega), up_pos (by omega) (by omega)]
    by_cases h3 : i = 0
    · subst h3
      rw [if_pos (by omega)]
      rfl
    · rw [if_neg (by omega), show -(i + 1) + 1 = -i by omega, neg_pos (by omega) (by omega) (by omega), Int.neg_neg]
theorem rk_up {i : Int} (h0 : -9218868437227405312 ≤ i) (h1 : i < 9218868437227405312) : ¬ nan (upd (pos i)) ∧ rk (upd (pos i)) = i + 1 := by
  rw [up_pos h0 h1]
  by_cases h2 : i = -1
  · subst h2
    rw [if_pos rfl]
    exact ⟨nan_zero, rfl⟩
  · rw [if_neg h2]
    exact ⟨pos_nan (by omega) (by omega), rk_pos (by omega) (by omega)⟩
theorem ranks_j2 {i : Int} (h0 : -9218868437227405312 ≤ i) (h1 : i ≤ 9218868437227405312) : Ev (fun k => abacuslaw04_IeeeRanks.j2 k i (pos i) false) true := by
  have hU := pos_U h0 h1
  have hn := pos_nan h0 h1
  have hr := rk_pos h0 h1
  refine Ev_succ ?_
  simp only [abacuslaw04_IeeeRanks.j2]
  refine Ev_neg (by simp) (Ev.bind (Up_ev hU) ?_)
  by_cases h2 : i = 9218868437227405312
  · have hu : upd (pos i) = pos i := by unfold upd; rw [if_neg hn, hr, if_pos h2]
    have hd : down (neg (pos i)) = neg (pos i) := by
      rw [neg_pos h0 h1 (by omega), down_of (pos_nan (by omega) (by omega)), neg_pos (by omega) (by omega) (by omega), Int.neg_neg, hu, neg_pos h0 h1 (by omega)]
    have hdn := Down_ev (U_neg hU)
    rw [hd] at hdn
    refine Ev_pos h2 (Ev_pos hu (Ev_bind_eq (Neg_eq hU) (Ev.bind hdn (Ev_bind_eq (Neg_eq hU) (Ev_some (by simp))))))
  · have h3 : i < 9218868437227405312 := by omega
    obtain ⟨hun, hur⟩ := rk_up h0 h3
    have hc := Compare_eq (U_up hU) hU
    rw [comp, if_neg hun, if_neg hn, hur, hr, ord, if_neg (by omega), if_pos (by omega)] at hc
    have hk := Rank_eq (U_up hU)
    rw [if_neg hun, hur] at hk
    have hdn := Down_ev (U_up hU)
    rw [down_up h0 h3] at hdn
    refine Ev_neg h2 (Ev_bind_eq hc (Ev_bind_eq hk (Ev_pos (by first | rfl | trivial) (Ev_pos ?_ (Ev.bind hdn (Ev_pos rfl ?_))))))
    · unfold wrap64; omega
    · by_cases h4 : i = -1
      · refine Ev_pos h4 (Ev_some ?_)
        rw [up_pos h0 h3, if_pos h4]; rfl
      · exact Ev_neg h4 (Ev_some rfl)
theorem IeeeRanks : abacuslaw04_IeeeRanks.Pure := by
  intro i wi
  have e1 : IntKind.i64.min = -9223372036854775808 := rfl
  have e2 : IntKind.i64.max = 9223372036854775807 := rfl
  have hi : -9223372036854775808 ≤ i ∧ i ≤ 9223372036854775807 := by
    simp [Lit.wf] at wi
    omega
  refine Ev.rounds ?_
  simp only [abacuslaw04_IeeeRanks.f]
  refine Ev.bind awake_ev (Ev_pos rfl (Ev.bind (AtRank_ev (by omega) (by omega)) ?_))
  have out : at' i = (0, false) → Ev (fun k => abacuslaw04_IeeeRanks.j0 k i (at' i).1 (at' i).2 true) true := by
    intro h
    rw [h]
    refine Ev_succ ?_
    simp only [abacuslaw04_IeeeRanks.j0]
    exact Ev_pos (by simp) (Ev_neg (by simp) (Ev_some (by simp)))
  by_cases h1 : i > 9218868437227405312
  · exact Ev_pos h1 (out (by unfold at'; rw [if_pos (.inl h1)]))
  · refine Ev_neg h1 ?_
    by_cases h2 : i < -9218868437227405312
    · rw [decide_eq_true h2]
      exact out (by unfold at'; rw [if_pos (.inr h2)])
    · rw [decide_eq_false h2]
      have h0' : -9218868437227405312 ≤ i := by omega
      have h1' : i ≤ 9218868437227405312 := by omega
      have hU := pos_U h0' h1'
      have j2 := ranks_j2 h0' h1'
      rw [at_in h0' h1']
      refine Ev_succ ?_
      simp only [abacuslaw04_IeeeRanks.j0]
      have hk := Rank_eq hU
      rw [if_neg (pos_nan h0' h1'), rk_pos h0' h1'] at hk
      refine Ev_neg (by simp) (Ev_bind_eq hk (Ev_pos (by first | rfl | trivial) (Ev_pos (by first | rfl | trivial) ?_)))
      rw [show (i != i) = false by simp]
      refine Ev_succ ?_
      simp only [abacuslaw04_IeeeRanks.j1]
      have e : wrap64 (-i) = -i := by unfold wrap64; omega
      rw [e]
      refine Ev_neg (by simp) (Ev.bind (AtRank_ev (by omega) (by omega)) ?_)
      by_cases h3 : i = 0
      · subst h3
        exact Ev_pos rfl j2
      · rw [at_in (i := -i) (by omega) (by omega)]
        exact Ev_neg h3 (Ev_bind_eq (Neg_eq hU) (Ev_pos (neg_pos h0' h1' h3).symm j2))
end Go.Proofs.YtiigfmmflicdpaaDoor.Pure
