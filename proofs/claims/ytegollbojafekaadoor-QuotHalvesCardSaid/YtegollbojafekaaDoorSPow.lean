/- What the printed Pow of quot computes, and the looks of the laws of its chapter (alike, Top). Conditions: lists of limbs below 2^64, of lengths that a slice of limbs has. -/
import Derived.Test.YtegollbojafekaaDoorSBits
import Derived.Test.YtegollbojafekaaDoorPSx1
import Derived.Test.YtegollbojafekaaDoorPSx5
namespace Go.Proofs.YtegollbojafekaaDoor.SPow
open Go.RowKit Go.Proofs.YtegollbojafekaaDoorW.PrintWords Go.Proofs.YtegollbojafekaaDoorW.PrintLast Go.Proofs.YtegollbojafekaaDoorW.PrintMore Go.Proofs.YtegollbojafekaaDoor.Lib Go.Proofs.YtegollbojafekaaDoor.LibB Go.Proofs.YtegollbojafekaaDoor.PS Go.Proofs.YtegollbojafekaaDoor.SNat1 Go.Proofs.YtegollbojafekaaDoor.SBits
set_option linter.unusedVariables false

theorem alike_l {a b : List Int} (hl : a.length = b.length) (hm : a.length ≤ 9223372036854775806) (d : Nat) : ∀ i : Nat, i + d = a.length → a.take i = b.take i →
    Ev (fun k => abacuslaw02_alike.l0 k a b (i : Int)) (decide (a = b)) := by
  induction d with
  | zero =>
    intro i hi ht
    refine Ev_succ ?_
    simp only [abacuslaw02_alike.l0]
    refine Ev_neg (by omega) (Ev_some ?_)
    rw [List.take_of_length_le (by omega), List.take_of_length_le (by omega)] at ht
    rw [decide_eq_true ht]
  | succ d ih =>
    intro i hi ht
    have e : wrap64 ((i : Int) + 1) = ((i + 1 : Nat) : Int) := by unfold wrap64; omega
    refine Ev_succ ?_
    simp only [abacuslaw02_alike.l0, e]
    refine Ev_pos (by omega) (Ev_pos (by omega) (Ev_pos (by omega) ?_))
    rw [rd_nat, rd_nat]
    by_cases h : a.getD i 0 = b.getD i 0
    · refine Ev_pos h (ih (i + 1) (by omega) ?_)
      rw [List.getD_eq_getElem?_getD, List.getD_eq_getElem?_getD, List.getElem?_eq_getElem (show i < a.length by omega), List.getElem?_eq_getElem (show i < b.length by omega)] at h
      rw [List.take_succ_eq_append_getElem (show i < a.length by omega), List.take_succ_eq_append_getElem (show i < b.length by omega), ht]
      congr 2
    · refine Ev_neg h (Ev_some ?_)
      rw [decide_eq_false (fun hab => h (by rw [hab]))]
theorem abacuslaw02_alike_ev {a b : List Int} (hm : a.length ≤ 9223372036854775806) : Ev (fun k => abacuslaw02_alike.f k a b) (decide (a = b)) := by
  simp only [abacuslaw02_alike.f]
  by_cases h : a.length = b.length
  · exact Ev_pos (by omega) (alike_l h hm a.length 0 (by omega) (by simp))
  · refine Ev_neg (by omega) (Ev_some ?_)
    rw [decide_eq_false (fun hab => h (by rw [hab]))]
theorem top_l {l : List Int} (h : ok l) (hl : l.length ≤ 9223372036854775807) (i : Nat) (hi : i ≤ l.length) (hz : val (l.drop i) = 0) : Ev (fun k => abacusref02_Top.l0 k l i) ((lim (val l)).length : Int) := by
  induction i with
  | zero =>
    have hv : val l = 0 := by simpa using hz
    refine Ev_succ ?_
    simp only [abacusref02_Top.l0]
    refine Ev_neg (by omega) (Ev_some ?_)
    rw [hv, lim_zero]; rfl
  | succ i ih =>
    have e : wrap64 (((i + 1 : Nat) : Int) - 1) = (i : Int) := by unfold wrap64; omega
    refine Ev_succ ?_
    simp only [abacusref02_Top.l0, e]
    refine Ev_pos (by omega) (Ev_pos (by omega) (Ev_pos (by omega) ?_))
    by_cases hr : rd l i = 0
    · refine Ev_pos hr (ih (by omega) ?_)
      rw [val_drop_cons l i (by omega), hz, hr]; rfl
    · refine Ev_neg hr (Ev_some ?_)
      have h1 := val_drop_zero hz
      have h2 := val_take_succ l i
      have h3 := val_lt (ok_take h (i + 1))
      rw [List.length_take, Nat.min_eq_left hi, ← h1] at h3
      have h4 := (lim_len_le (val l) (i + 1)).2 h3
      have h5 := lim_len_le (val l) i
      have h6 := ok_rd h i
      have h7 : B i ≤ B i * (rd l i).toNat := Nat.le_mul_of_pos_right _ (by omega)
      omega
theorem abacusref02_Top_ev {l : List Int} (h : ok l) (hl : l.length ≤ 9223372036854775807) : Ev (fun k => abacusref02_Top.f k l) ((lim (val l)).length : Int) := by
  simp only [abacusref02_Top.f]
  exact top_l h hl l.length (Nat.le_refl _) (by rw [List.drop_length, val_nil])
theorem trim_ev {l : List Int} (h : ok l) (hl : l.length ≤ 35184372088832) : Ev (fun k => nat_Trim.f k l) (lim (val l)) := by
  simp only [nat_Trim.f]
  have := lim_len_val_le h
  refine Ev.bind (nat_size_ev h (by omega)) (Ev_pos ⟨by omega, by omega, by omega⟩ (Ev_some ?_))
  rw [Int.toNat_natCast, take_lim h]
theorem quot_small_ev {l : List Int} {m : Int} (h : ok l) (hl : l.length ≤ 35184372088832) : Ev (fun k => quot_small.f k l m) (lim (val l), decide (((lim (val l)).length : Int) ≤ m)) := by
  simp only [quot_small.f]
  exact Ev.bind (trim_ev h hl) (Ev_some rfl)
/-- A product's answer is that of the product. -/
theorem mulAns_eq {a b : Nat} (ha : a < B 4096) (hb : b < B 4096) : mulAns a b = ans (a * b) := by
  rw [mulAns, ans2, if_pos ⟨ha, hb⟩]
  by_cases h : a = 0 ∨ b = 0
  · rw [if_pos h]
    have : a * b = 0 := by rcases h with rfl | rfl <;> simp
    rw [this, ans, if_pos (B_pos _), lim_zero]
  · rw [if_neg h]
    by_cases h2 : (lim a).length + (lim b).length - 1 > 4096
    · rw [if_pos h2, ans, if_neg]
      have h3 := lim_len_ge a (fun h3 => h (.inl h3))
      have h4 := lim_len_ge b (fun h4 => h (.inr h4))
      have h5 := Nat.mul_le_mul h3 h4
      rw [← B_add] at h5
      have h6 := B_mono (show 4096 ≤ (lim a).length - 1 + ((lim b).length - 1) by omega)
      omega
    · rw [if_neg h2]
theorem ans_big {n : Nat} (h : ¬ n < B 4096) : ans n = ([], 2) := by rw [ans, if_neg h]
theorem ans_ok {n : Nat} (h : n < B 4096) : ans n = (lim n, 0) := by rw [ans, if_pos h]
theorem one_limit : (1 : Nat) < B 4096 := by
  have := B_mono (show 1 ≤ 4096 by omega)
  rw [B_one] at this
  omega
end Go.Proofs.YtegollbojafekaaDoor.SPow
