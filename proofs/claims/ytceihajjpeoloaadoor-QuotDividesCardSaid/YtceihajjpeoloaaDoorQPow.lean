/- What the printed Pow of quot computes, and the looks of the laws of its chapter (alike, Top). Conditions: lists of limbs below 2^64, of lengths that a slice of limbs has. -/
import Derived.Test.YtceihajjpeoloaaDoorQBits
namespace Go.Proofs.YtceihajjpeoloaaDoor.Pow
open Go.RowKit Go.Proofs.YtceihajjpeoloaaDoor.Lib Go.Proofs.YtceihajjpeoloaaDoor.LibB Go.Proofs.YtceihajjpeoloaaDoor.F Go.Proofs.YtceihajjpeoloaaDoor.Nat1 Go.Proofs.YtceihajjpeoloaaDoor.Bits
open Go.Proofs.YtceihajjpeoloaaDoorA (rd ln ln_eq mx mn shl shr wr wr_eq)
set_option linter.unusedVariables false
set_option linter.unusedSimpArgs false

theorem alike_l {a b : List Int} (hl : a.length = b.length) (hm : a.length ≤ 9223372036854775806) (d : Nat) : ∀ i : Nat, i + d = a.length → a.take i = b.take i →
    Ev (fun k m _ => abacuslaw02_alike.l117 k m a b (i : Int)) (decide (a = b)) := by
  induction d with
  | zero =>
    intro i hi ht
    refine Ev_succ ?_
    simp only [abacuslaw02_alike.l117, abacuslaw02_alike.b117, ln_eq]
    refine Ev_neg (by omega) (Ev_some ?_)
    rw [List.take_of_length_le (by omega), List.take_of_length_le (by omega)] at ht
    rw [decide_eq_true ht]
  | succ d ih =>
    intro i hi ht
    have e : wrap64 ((i : Int) + 1) = ((i + 1 : Nat) : Int) := by unfold wrap64; omega
    refine Ev_succ ?_
    simp only [abacuslaw02_alike.l117, abacuslaw02_alike.b117, ln_eq, e]
    refine Ev_pos (by omega) (Ev_pos (by omega) (Ev_pos (by omega) (Ev_pos (by omega) (Ev_pos (by omega) ?_))))
    rw [rd_nat, rd_nat]
    by_cases h : a.getD i 0 = b.getD i 0
    · refine Ev_neg (fun k => k h) (ih (i + 1) (by omega) ?_)
      rw [List.getD_eq_getElem?_getD, List.getD_eq_getElem?_getD, List.getElem?_eq_getElem (show i < a.length by omega), List.getElem?_eq_getElem (show i < b.length by omega)] at h
      rw [List.take_succ_eq_append_getElem (show i < a.length by omega), List.take_succ_eq_append_getElem (show i < b.length by omega), ht]
      congr 2
    · refine Ev_pos h (Ev_some ?_)
      rw [decide_eq_false (fun hab => h (by rw [hab]))]
theorem abacuslaw02_alike_ev {a b : List Int} (hm : a.length ≤ 9223372036854775806) : Ev (fun k _ _ => abacuslaw02_alike.f k a b) (decide (a = b)) := by
  simp only [abacuslaw02_alike.f, abacuslaw02_alike.b0, ln_eq]
  by_cases h : a.length = b.length
  · exact Ev_neg (by omega) (Ev_in (alike_l h hm a.length 0 (by omega) (by simp)))
  · refine Ev_pos (by omega) (Ev_some ?_)
    rw [decide_eq_false (fun hab => h (by rw [hab]))]
theorem trim_ev {l : List Int} (h : ok l) (hl : l.length ≤ 35184372088832) : Ev (fun k _ _ => nat_Trim.f k l) (lim (val l)) := nat_Trim_ev h hl
theorem quot_small_ev {l : List Int} {m : Int} (h : ok l) (hl : l.length ≤ 35184372088832) : Ev (fun k _ _ => quot_small.f k l m) (lim (val l), decide (((lim (val l)).length : Int) ≤ m)) := by
  simp only [quot_small.f, quot_small.b0, ln_eq]
  exact Ev.bind (trim_ev h hl) (Ev_some rfl)
/-- A product's answer is that of the product. -/
theorem mulAns_eq {a b : Nat} (ha : a < B 4096) (hb : b < B 4096) : mulAns a b = ans (a * b) := by
  rw [mulAns, ans2, if_pos ⟨ha, hb⟩]
  by_cases h : a = 0 ∨ b = 0
  · rw [if_pos h]
    have : a * b = 0 := by rcases h with rfl | rfl <;> simp
    rw [this, ans, if_pos (B_pos _), lim_zero]
  · rw [if_neg h]
    by_cases h2 : (lim a).length + (lim b).length - 1 > 4096
    · rw [if_pos h2, ans, if_neg]
      have h3 := lim_len_ge a (fun h3 => h (.inl h3))
      have h4 := lim_len_ge b (fun h4 => h (.inr h4))
      have h5 := Nat.mul_le_mul h3 h4
      rw [← B_add] at h5
      have h6 := B_mono (show 4096 ≤ (lim a).length - 1 + ((lim b).length - 1) by omega)
      omega
    · rw [if_neg h2]
theorem ans_big {n : Nat} (h : ¬ n < B 4096) : ans n = ([], 2) := by rw [ans, if_neg h]
theorem ans_ok {n : Nat} (h : n < B 4096) : ans n = (lim n, 0) := by rw [ans, if_pos h]
theorem one_limit : (1 : Nat) < B 4096 := by
  have := B_mono (show 1 ≤ 4096 by omega)
  rw [B_one] at this
  omega
end Go.Proofs.YtceihajjpeoloaaDoor.Pow
