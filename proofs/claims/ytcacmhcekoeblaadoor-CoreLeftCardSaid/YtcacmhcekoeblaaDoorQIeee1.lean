/- What the printed calls of ieee on bit patterns compute (Abs, Neg, Class, Rank, AtRank, Up, Down, Compare, Total, Decode). Conditions: patterns below 2^64. -/
import Derived.Test.YtcacmhcekoeblaaDoorQLB
import Derived.Test.YtcacmhcekoeblaaDoorF1
namespace Go.Proofs.YtcacmhcekoeblaaDoor.Ieee1
open Go.RowKit Go.Proofs.YtcacmhcekoeblaaDoor.Lib Go.Proofs.YtcacmhcekoeblaaDoor.LibB Go.Proofs.YtcacmhcekoeblaaDoor.F
open Go.Proofs.YtcacmhcekoeblaaDoorA (rd ln ln_eq mx mn shl shr wr wr_eq)
set_option linter.unusedVariables false
set_option linter.unusedSimpArgs false

/-! ### bits -/
theorem nat_sgn {n : Nat} (h : n < 18446744073709551616) : n &&& 9223372036854775808 = if n < 9223372036854775808 then 0 else 9223372036854775808 := by
  have h1 : (9223372036854775808 : Nat) = 2 ^ 63 := rfl
  rw [h1]
  apply Nat.eq_of_testBit_eq
  intro i
  rw [Nat.testBit_and, Nat.testBit_two_pow]
  by_cases hi : 63 = i
  · subst hi
    by_cases h2 : n < 2 ^ 63
    · rw [if_pos h2, Nat.testBit_lt_two_pow h2]; simp
    · rw [if_neg h2]
      obtain ⟨m, rfl⟩ : ∃ m, n = 2 ^ 63 + m := ⟨n - 2 ^ 63, by omega⟩
      rw [Nat.testBit_two_pow_add_eq, Nat.testBit_lt_two_pow (show m < 2 ^ 63 by omega), Nat.testBit_two_pow]
      simp
  · rw [decide_eq_false hi, Bool.and_false]
    split
    · simp
    · rw [Nat.testBit_two_pow, decide_eq_false hi]
theorem nat_flip_low {n : Nat} (h : n < 9223372036854775808) : n ^^^ 9223372036854775808 = 9223372036854775808 + n := by
  have h1 : (9223372036854775808 : Nat) = 2 ^ 63 := rfl
  rw [h1] at h ⊢
  apply Nat.eq_of_testBit_eq
  intro i
  rw [Nat.testBit_xor, Nat.testBit_two_pow]
  rcases Nat.lt_trichotomy i 63 with hi | hi | hi
  · rw [Nat.testBit_two_pow_add_gt hi, decide_eq_false (show ¬ 63 = i by omega)]
    simp
  · subst hi
    rw [Nat.testBit_two_pow_add_eq, Nat.testBit_lt_two_pow h]
    simp
  · have h2 : 2 ^ 63 + n < 2 ^ i := by
      have : 2 ^ 64 ≤ 2 ^ i := Nat.pow_le_pow_right (by omega) hi
      rw [Nat.pow_succ] at this
      omega
    rw [Nat.testBit_lt_two_pow h2, Nat.testBit_lt_two_pow (show n < 2 ^ i by omega), decide_eq_false (show ¬ 63 = i by omega)]
    rfl
theorem nat_flip {n : Nat} (h : n < 18446744073709551616) : n ^^^ 9223372036854775808 = if n < 9223372036854775808 then n + 9223372036854775808 else n - 9223372036854775808 := by
  by_cases h2 : n < 9223372036854775808
  · rw [if_pos h2, nat_flip_low h2, Nat.add_comm]
  · rw [if_neg h2]
    obtain ⟨m, rfl⟩ : ∃ m, n = 9223372036854775808 + m := ⟨n - 9223372036854775808, by omega⟩
    rw [← nat_flip_low (n := m) (by omega), Nat.xor_assoc, Nat.xor_self, Nat.xor_zero, nat_flip_low (n := m) (by omega)]
    omega
def U (d : Int) : Prop := 0 ≤ d ∧ d < 18446744073709551616
theorem bit_sgn {d : Int} (h : U d) : Go.bits .and .u64 d 9223372036854775808 = if d < 9223372036854775808 then 0 else 9223372036854775808 := by
  obtain ⟨n, rfl⟩ := Int.eq_ofNat_of_zero_le h.1
  have h2 := h.2
  rw [show (9223372036854775808 : Int) = ((9223372036854775808 : Nat) : Int) from rfl, u64_and_nat _ _ (by omega) (by omega), nat_sgn (by omega)]
  by_cases h3 : n < 9223372036854775808
  · rw [if_pos h3, if_pos (by omega)]; rfl
  · rw [if_neg h3, if_neg (by omega)]
theorem bit_flip {d : Int} (h : U d) : Go.bits .xor .u64 d 9223372036854775808 = if d < 9223372036854775808 then d + 9223372036854775808 else d - 9223372036854775808 := by
  obtain ⟨n, rfl⟩ := Int.eq_ofNat_of_zero_le h.1
  have h2 := h.2
  rw [show (9223372036854775808 : Int) = ((9223372036854775808 : Nat) : Int) from rfl, bits_xor_u64_nat _ _ (by omega) (by omega), nat_flip (by omega)]
  by_cases h3 : n < 9223372036854775808
  · rw [if_pos h3, if_pos (by omega)]; omega
  · rw [if_neg h3, if_neg (by omega)]; omega
theorem bit_abs {d : Int} (h : U d) : Go.bits .andNot .u64 d 9223372036854775808 = d % 9223372036854775808 := by
  obtain ⟨n, rfl⟩ := Int.eq_ofNat_of_zero_le h.1
  have h2 := h.2
  have h1 : (~~~ (BitVec.ofInt 64 9223372036854775808)).toNat = 2 ^ 63 - 1 := by decide
  have key : (BitVec.ofInt 64 (n : Int) &&& ~~~ BitVec.ofInt 64 9223372036854775808).toNat = ((n : Int) % ((2 ^ 64 : Nat) : Int)).toNat % 2 ^ 63 := by
    rw [BitVec.toNat_and, BitVec.toNat_ofInt, h1, Nat.and_two_pow_sub_one_eq_mod]
  show IntKind.u64.wrap ((BitVec.ofInt 64 (n : Int) &&& ~~~ BitVec.ofInt 64 9223372036854775808).toNat : Nat) = _
  rw [key, IntKind.wrap_u64]
  omega
theorem bit_low {d : Int} (h : U d) : Go.bits .and .u64 d 4503599627370495 = d % 4503599627370496 := by
  obtain ⟨n, rfl⟩ := Int.eq_ofNat_of_zero_le h.1
  have h2 := h.2
  rw [show (4503599627370495 : Int) = ((2 ^ 52 - 1 : Nat) : Int) from rfl, u64_and_nat _ _ (by omega) (by omega), Nat.and_two_pow_sub_one_eq_mod]
  omega
theorem bit_exp {d : Int} (h : U d) : Go.bits .and .u64 d 2047 = d % 2048 := by
  obtain ⟨n, rfl⟩ := Int.eq_ofNat_of_zero_le h.1
  have h2 := h.2
  rw [show (2047 : Int) = ((2 ^ 11 - 1 : Nat) : Int) from rfl, u64_and_nat _ _ (by omega) (by omega), Nat.and_two_pow_sub_one_eq_mod]
  omega
theorem bit_hidden {x : Int} (h0 : 0 ≤ x) (h1 : x < 4503599627370496) : Go.bits .or .u64 4503599627370496 x = 4503599627370496 + x := by
  obtain ⟨n, rfl⟩ := Int.eq_ofNat_of_zero_le h0
  rw [show (4503599627370496 : Int) = ((2 ^ 52 * 1 : Nat) : Int) from rfl, u64_or_nat _ _ (by omega) (by omega), ← Nat.two_pow_add_eq_or_of_lt (by omega)]
  omega

/-! ### the calls -/
def neg (d : Int) : Int := if d < 9223372036854775808 then d + 9223372036854775808 else d - 9223372036854775808
theorem Abs_eq {d : Int} (h : U d) : ieee_Abs.f d = some (d % 9223372036854775808) := by unfold ieee_Abs.f ieee_Abs.b0; rw [bit_abs h]
theorem Neg_eq {d : Int} (h : U d) : ieee_Neg.f d = some (neg d) := by unfold ieee_Neg.f ieee_Neg.b0; rw [bit_flip h]; rfl
def cls (d : Int) : Int := if d % 9223372036854775808 = 0 then 0 else if d % 9223372036854775808 < 4503599627370496 then 1 else if d % 9223372036854775808 < 9218868437227405312 then 2 else if d % 9223372036854775808 = 9218868437227405312 then 3 else 4
theorem Class_eq {d : Int} (h : U d) : ieee_Class.f d = some (cls d) := by
  unfold ieee_Class.f ieee_Class.b0 cls
  rw [Abs_eq h, Option.bind_some]
  repeat' split
  all_goals rfl
/-- The place of a double: whether it has one, and which. -/
def nan (d : Int) : Prop := d % 9223372036854775808 > 9218868437227405312
instance (d : Int) : Decidable (nan d) := inferInstanceAs (Decidable (_ > _))
def rk (d : Int) : Int := if d < 9223372036854775808 then d else 9223372036854775808 - d
theorem Rank_eq {d : Int} (h : U d) : ieee_Rank.f d = some (if nan d then (0, false) else (rk d, true)) := by
  unfold ieee_Rank.f ieee_Rank.b0
  rw [Abs_eq h, Option.bind_some, bit_sgn h]
  have h1 := h.1
  have h2 := h.2
  have e : wrap64 (d % 9223372036854775808) = d % 9223372036854775808 := by unfold wrap64; omega
  have e2 : wrap64 (-(d % 9223372036854775808)) = -(d % 9223372036854775808) := by unfold wrap64; omega
  rw [e, e2]
  by_cases hn : nan d
  · rw [if_pos hn, if_pos (show d % 9223372036854775808 > 9218868437227405312 from hn)]
  · rw [if_neg hn, if_neg (show ¬ d % 9223372036854775808 > 9218868437227405312 from hn)]
    unfold rk
    by_cases h3 : d < 9223372036854775808
    · rw [if_pos h3, if_neg (by omega), if_pos h3]
      congr 2; omega
    · rw [if_neg h3, if_pos (by omega), if_neg h3]
      congr 2; omega
def at' (i : Int) : Int × Bool := if i > 9218868437227405312 ∨ i < -9218868437227405312 then (0, false) else if i < 0 then (9223372036854775808 - i, true) else (i, true)
/-- The next place up. -/
def upd (d : Int) : Int := if nan d then 9221120237041090560 else if rk d = 9218868437227405312 then d else if rk d = -1 then 9223372036854775808 else (at' (rk d + 1)).1
def down (d : Int) : Int := if nan d then 9221120237041090560 else neg (upd (neg d))
def ord (x y : Int) : Int := if x < y then -1 else if x > y then 1 else 0
theorem order_eq (x y : Int) : ieee_order.f x y = some (ord x y) := by
  unfold ieee_order.f ieee_order.b0 ord
  repeat' split
  all_goals rfl
def comp (a b : Int) : Int × Bool := if nan a then (0, false) else if nan b then (0, false) else (ord (rk a) (rk b), true)
theorem Compare_eq {a b : Int} (ha : U a) (hb : U b) : ieee_Compare.f a b = some (comp a b) := by
  unfold ieee_Compare.f ieee_Compare.b0 comp
  rw [Rank_eq ha, Rank_eq hb, Option.bind_some, Option.bind_some]
  by_cases h1 : nan a
  · simp only [if_pos h1]
    rw [if_pos (by first | rfl | trivial)]
  · simp only [if_neg h1]
    rw [if_neg (by simp)]
    by_cases h2 : nan b
    · simp only [if_pos h2]
      rw [if_pos (by first | rfl | trivial)]
    · simp only [if_neg h2]
      rw [if_neg (by simp), order_eq]
      rfl
end Go.Proofs.YtcacmhcekoeblaaDoor.Ieee1
