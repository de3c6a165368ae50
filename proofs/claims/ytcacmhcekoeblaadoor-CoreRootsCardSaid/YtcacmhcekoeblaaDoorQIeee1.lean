/- What the printed calls of ieee on bit patterns compute (Abs, Neg, Class, Rank, AtRank, Up, Down, Compare, Total, Decode). Conditions: patterns below 2^64. -/
import Derived.Test.YtcacmhcekoeblaaDoorQLB
import Derived.Test.YtcacmhcekoeblaaDoorF1
namespace Go.Proofs.YtcacmhcekoeblaaDoor.Ieee1
open Go.RowKit Go.Proofs.YtcacmhcekoeblaaDoor.Lib Go.Proofs.YtcacmhcekoeblaaDoor.LibB Go.Proofs.YtcacmhcekoeblaaDoor.F
open Go.Proofs.YtcacmhcekoeblaaDoorA (rd ln ln_eq mx mn shl shr wr wr_eq)
set_option linter.unusedVariables false
set_option linter.unusedSimpArgs false

/-! ### bits -/
theorem nat_sgn {n : Nat} (h : n < 18446744073709551616) : n &&& 9223372036854775808 = if n < 9223372036854775808 then 0 else 9223372036854775808 := by
  have h1 : (9223372036854775808 : Nat) = 2 ^ 63 := rfl
  rw [h1]
  apply Nat.eq_of_testBit_eq
  intro i
  rw [Nat.testBit_and, Nat.testBit_two_pow]
  by_cases hi : 63 = i
  · subst hi
    by_cases h2 : n < 2 ^ 63
    · rw [if_pos h2, Nat.testBit_lt_two_pow h2]; simp
    · rw [if_neg h2]
      obtain ⟨m, rfl⟩ : ∃ m, n = 2 ^ 63 + m := ⟨n - 2 ^ 63, by omega⟩
      rw [Nat.testBit_two_pow_add_eq, Nat.testBit_lt_two_pow (show m < 2 ^ 63 by omega), Nat.testBit_two_pow]
      simp
  · rw [decide_eq_false hi, Bool.and_false]
    split
    · simp
    · rw [Nat.testBit_two_pow, decide_eq_false hi]
theorem nat_flip_low {n : Nat} (h : n < 9223372036854775808) : n ^^^ 9223372036854775808 = 9223372036854775808 + n := by
  have h1 : (9223372036854775808 : Nat) = 2 ^ 63 := rfl
  rw [h1] at h ⊢
  apply Nat.eq_of_testBit_eq
  intro i
  rw [Nat.testBit_xor, Nat.testBit_two_pow]
  rcases Nat.lt_trichotomy i 63 with hi | hi | hi
  · rw [Nat.testBit_two_pow_add_gt hi, decide_eq_false (show ¬ 63 = i by omega)]
    simp
  · subst hi
    rw [Nat.testBit_two_pow_add_eq, Nat.testBit_lt_two_pow h]
    simp
  · have h2 : 2 ^ 63 + n < 2 ^ i := by
      have : 2 ^ 64 ≤ 2 ^ i := Nat.pow_le_pow_right (by omega) hi
      rw [Nat.pow_succ] at this
      omega
    rw [Nat.testBit_lt_two_pow h2, Nat.testBit_lt_two_pow (show n < 2 ^ i by omega), decide_eq_false (show ¬ 63 = i by omega)]
    rfl
theorem nat_flip {n : Nat} (h : n < 18446744073709551616) : n ^^^ 9223372036854775808 = if n < 9223372036854775808 then n + 9223372036854775808 else n - 9223372036854775808 := by
  by_cases h2 : n < 9223372036854775808
  · rw [if_pos h2, nat_flip_low h2, Nat.add_comm]
  · rw [if_neg h2]
    obtain ⟨m, rfl⟩ : ∃ m, n = 9223372036854775808 + m := ⟨n - 9223372036854775808, by omega⟩
    rw [← nat_flip_low (n := m) (by omega), Nat.xor_assoc, Nat.xor_self, Nat.xor_zero, nat_flip_low (n := m) (by omega)]
    omega
def U (d : Int) : Prop := 0 ≤ d ∧ d < 18446744073709551616
theorem bit_sgn {d : Int} (h : U d) : Go.bits .and .u64 d 9223372036854775808 = if d < 9223372036854775808 then 0 else 9223372036854775808 := by
  obtain ⟨n, rfl⟩ := Int.eq_ofNat_of_zero_le h.1
  have h2 := h.2
  rw [show (9223372036854775808 : Int) = ((9223372036854775808 : Nat) : Int) from rfl, u64_and_nat _ _ (by omega) (by omega), nat_sgn (by omega)]
  by_cases h3 : n < 9223372036854775808
  · rw [if_pos h3, if_pos (by omega)]; rfl
  · rw [if_neg h3, if_neg (by omega)]
theorem bit_flip {d : Int} (h : U d) : Go.bits .xor .u64 d 9223372036854775808 = if d < 9223372036854775808 then d + 9223372036854775808 else d - 9223372036854775808 := by
  obtain ⟨n, rfl⟩ := Int.eq_ofNat_of_zero_le h.1
  have h2 := h.2
  rw [show (9223372036854775808 : Int) = ((9223372036854775808 : Nat) : Int) from rfl, bits_xor_u64_nat _ _ (by omega) (by omega), nat_flip (by omega)]
  by_cases h3 : n < 9223372036854775808
  · rw [if_pos h3, if_pos (by omega)]; omega
  · rw [if_neg h3, if_neg (by omega)]; omega
theorem bit_abs {d : Int} (h : U d) : Go.bits .andNot .u64 d 9223372036854775808 = d % 9223372036854775808 := by
  obtain ⟨n, rfl⟩ := Int.eq_ofNat_of_zero_le h.1
  have h2 := h.2
  have h1 : (~~~ (BitVec.ofInt 64 9223372036854775808)).toNat = 2 ^ 63 - 1 := by decide
  have key : (BitVec.ofInt 64 (n : Int) &&& ~~~ BitVec.ofInt 64 9223372036854775808).toNat = ((n : Int) % ((2 ^ 64 : Nat) : Int)).toNat % 2 ^ 63 := by
    rw [BitVec.toNat_and, BitVec.toNat_ofInt, h1, Nat.and_two_pow_sub_one_eq_mod]
  show IntKind.u64.wrap ((BitVec.ofInt 64 (n : Int) &&& ~~~ BitVec.ofInt 64 9223372036854775808).toNat : Nat) = _
  rw [key, IntKind.wrap_u64]
  omega
theorem bit_low {d : Int} (h : U d) : Go.bits .and .u64 d 4503599627370495 = d % 4503599627370496 := by
  obtain ⟨n, rfl⟩ := Int.eq_ofNat_of_zero_le h.1
  have h2 := h.2
  rw [show (4503599627370495 : Int) = ((2 ^ 52 - 1 : Nat) : Int) from rfl, u64_and_nat _ _ (by omega) (by omega), Nat.and_two_pow_sub_one_eq_mod]
  omega
theorem bit_exp {d : Int} (h : U d) : Go.bits .and .u64 d 2047 = d % 2048 := by
  obtain ⟨n, rfl⟩ := Int.eq_ofNat_of_zero_le h.1
  have h2 := h.2
  rw [show (2047 : Int) = ((2 ^ 11 - 1 : Nat) : Int) from rfl, u64_and_nat _ _ (by omega) (by omega), Nat.and_two_pow_sub_one_eq_mod]
  omega
theorem bit_hidden {x : Int} (h0 : 0 ≤ x) (h1 : x < 4503599627370496) : Go.bits .or .u64 4503599627370496 x = 4503599627370496 + x := by
  obtain ⟨n, rfl⟩ := Int.eq_ofNat_of_zero_le h0
  rw [show (4503599627370496 : Int) = ((2 ^ 52 * 1 : Nat) : Int) from rfl, u64_or_nat _ _ (by omega) (by omega), ← Nat.two_pow_add_eq_or_of_lt (by omega)]
  omega

/-! ### the calls -/
def neg (d : Int) : Int := if d < 9223372036854775808 then d + 9223372036854775808 else d - 9223372036854775808
theorem U_neg {d : Int} (h : U d) : U (neg d) := by unfold U neg at *; split <;> omega
theorem Abs_eq {d : Int} (h : U d) : ieee_Abs.f d = some (d % 9223372036854775808) := by unfold ieee_Abs.f ieee_Abs.b0; rw [bit_abs h]
theorem Neg_eq {d : Int} (h : U d) : ieee_Neg.f d = some (neg d) := by unfold ieee_Neg.f ieee_Neg.b0; rw [bit_flip h]; rfl
def cls (d : Int) : Int := if d % 9223372036854775808 = 0 then 0 else if d % 9223372036854775808 < 4503599627370496 then 1 else if d % 9223372036854775808 < 9218868437227405312 then 2 else if d % 9223372036854775808 = 9218868437227405312 then 3 else 4
theorem Class_eq {d : Int} (h : U d) : ieee_Class.f d = some (cls d) := by
  unfold ieee_Class.f ieee_Class.b0 cls
  rw [Abs_eq h, Option.bind_some]
  repeat' split
  all_goals rfl
/-- The place of a double: whether it has one, and which. -/
def nan (d : Int) : Prop := d % 9223372036854775808 > 9218868437227405312
instance (d : Int) : Decidable (nan d) := inferInstanceAs (Decidable (_ > _))
def rk (d : Int) : Int := if d < 9223372036854775808 then d else 9223372036854775808 - d
theorem Rank_eq {d : Int} (h : U d) : ieee_Rank.f d = some (if nan d then (0, false) else (rk d, true)) := by
  unfold ieee_Rank.f ieee_Rank.b0
  rw [Abs_eq h, Option.bind_some, bit_sgn h]
  have h1 := h.1
  have h2 := h.2
  have e : wrap64 (d % 9223372036854775808) = d % 9223372036854775808 := by unfold wrap64; omega
  have e2 : wrap64 (-(d % 9223372036854775808)) = -(d % 9223372036854775808) := by unfold wrap64; omega
  rw [e, e2]
  by_cases hn : nan d
  · rw [if_pos hn, if_pos (show d % 9223372036854775808 > 9218868437227405312 from hn)]
  · rw [if_neg hn, if_neg (show ¬ d % 9223372036854775808 > 9218868437227405312 from hn)]
    unfold rk
    by_cases h3 : d < 9223372036854775808
    · rw [if_pos h3, if_neg (by omega), if_pos h3]
      congr 2; omega
    · rw [if_neg h3, if_pos (by omega), if_neg h3]
      congr 2; omega
def at' (i : Int) : Int × Bool := if i > 9218868437227405312 ∨ i < -9218868437227405312 then (0, false) else if i < 0 then (9223372036854775808 - i, true) else (i, true)
theorem AtRank_ev {i : Int} (h0 : -9223372036854775808 ≤ i) (h1 : i < 9223372036854775808) : Ev (fun _ _ _ => ieee_AtRank.f i) (at' i) := by
  simp only [ieee_AtRank.f, ieee_AtRank.b0, ln_eq]
  unfold at'
  by_cases h2 : i > 9218868437227405312
  · exact Ev_pos h2 (Ev_some (by rw [if_pos (.inl h2)]))
  · refine Ev_neg h2 ?_
    by_cases h3 : i < -9218868437227405312
    · exact Ev_pos h3 (Ev_some (by rw [if_pos (.inr h3)]))
    · refine Ev_neg h3 ?_
      rw [if_neg (show ¬ (i > 9218868437227405312 ∨ i < -9218868437227405312) by omega)]
      by_cases h4 : i < 0
      · simp only [if_pos h4]
        have e : IntKind.u64.wrap (wrap64 (-i)) = -i := by
          have : wrap64 (-i) = -i := by unfold wrap64; omega
          rw [this, IntKind.wrap_u64]; omega
        have hn := Neg_eq (d := -i) ⟨by omega, by omega⟩
        rw [e]
        refine Ev_bind_eq hn (Ev_some ?_)
        unfold neg
        rw [if_pos (by omega)]
        congr 1; omega
      · simp only [if_neg h4]
        refine Ev_some ?_
        rw [IntKind.wrap_u64]
        congr 1; omega
/-- The next place up. -/
def upd (d : Int) : Int := if nan d then 9221120237041090560 else if rk d = 9218868437227405312 then d else if rk d = -1 then 9223372036854775808 else (at' (rk d + 1)).1
theorem rk_range {d : Int} (h : U d) (hn : ¬ nan d) : -9218868437227405312 ≤ rk d ∧ rk d ≤ 9218868437227405312 := by
  unfold U nan rk at *
  split <;> omega
theorem Up_ev {d : Int} (h : U d) : Ev (fun _ _ _ => ieee_Up.f d) (upd d) := by
  simp only [ieee_Up.f, ieee_Up.b0, ln_eq]
  refine Ev_bind_eq (Rank_eq h) ?_
  unfold upd
  by_cases hn : nan d
  · simp only [if_pos hn]
    exact Ev_pos (by simp) (Ev_some rfl)
  · simp only [if_neg hn]
    have hr := rk_range h hn
    refine Ev_neg (by simp) ?_
    by_cases h1 : rk d = 9218868437227405312
    · exact Ev_pos h1 (Ev_some (by rw [if_pos h1]))
    · refine Ev_neg h1 ?_
      rw [if_neg h1]
      by_cases h2 : rk d = -1
      · exact Ev_pos h2 (Ev_some (by rw [if_pos h2]))
      · refine Ev_neg h2 ?_
        rw [if_neg h2]
        have e : wrap64 (rk d + 1) = rk d + 1 := by unfold wrap64; omega
        simp only [e]
        exact Ev.bind (AtRank_ev (by omega) (by omega)) (Ev_some rfl)
theorem cls_nan {d : Int} : cls d = 4 ↔ nan d := by
  unfold cls nan
  repeat' split
  all_goals omega
theorem at_range {i : Int} (h0 : -9223372036854775808 ≤ i) (h1 : i < 9223372036854775808) : U (at' i).1 := by
  unfold at' U
  repeat' split
  all_goals (dsimp only; omega)
theorem U_up {d : Int} (h : U d) : U (upd d) := by
  unfold upd
  by_cases hn : nan d
  · rw [if_pos hn]; unfold U; omega
  · rw [if_neg hn]
    have hr := rk_range h hn
    split
    · exact h
    · split
      · unfold U; omega
      · exact at_range (by omega) (by omega)
def down (d : Int) : Int := if nan d then 9221120237041090560 else neg (upd (neg d))
theorem Down_ev {d : Int} (h : U d) : Ev (fun _ _ _ => ieee_Down.f d) (down d) := by
  simp only [ieee_Down.f, ieee_Down.b0, ln_eq]
  refine Ev_bind_eq (Class_eq h) ?_
  unfold down
  have hc := @cls_nan d
  by_cases hn : nan d
  · rw [if_pos hn]
    exact Ev_pos (hc.2 hn) (Ev_some rfl)
  · rw [if_neg hn]
    exact Ev_neg (fun h => hn (hc.1 h)) (Ev_bind_eq (Neg_eq h) (Ev.bind (Up_ev (U_neg h)) (Ev_bind_eq (Neg_eq (U_up (U_neg h))) (Ev_some rfl))))
end Go.Proofs.YtcacmhcekoeblaaDoor.Ieee1
