/- Plain laws of bits: shifts of limbs, the length of a number, its trailing zeros. No conditions. -/
import Derived.Test.YtcacmhcekoeblaaDoorQL
import Derived.Laws.BitsAllLaws
import Derived.Laws.Bits64
import Derived.Lib.BitFns
import Derived.Lib.TrailingZeros
namespace Go.Proofs.YtcacmhcekoeblaaDoor.LibB
open Go.RowKit Go.Proofs.YtcacmhcekoeblaaDoorA Go.Proofs.YtcacmhcekoeblaaDoor.Lib
set_option linter.unusedVariables false

/-! ### the shifts -/
theorem shl_u64 {x : Int} {s : Nat} (hx : 0 ≤ x) (hs : s ≤ 64) : shl .u64 x (s : Int) = x * (2 ^ s : Nat) % 18446744073709551616 := by
  unfold shl
  rw [wr_eq]
  rw [IntKind.wrap_u64, Int.toNat_natCast, Nat.min_eq_left (show s ≤ IntKind.u64.bits from hs)]
  rw [Int.natCast_pow]; rfl
theorem shr_u64 {x : Int} {s : Nat} (hs : s ≤ 64) : shr .u64 x (s : Int) = x / (2 ^ s : Nat) := by
  unfold shr
  rw [Int.toNat_natCast, Nat.min_eq_left (show s ≤ IntKind.u64.bits from hs), Int.natCast_pow]; rfl
theorem or_low {p x : Int} {s : Nat} (h0 : 0 ≤ p) (h1 : 0 ≤ x) (h2 : x < (2 ^ s : Nat)) (h3 : p * (2 ^ s : Nat) + x < 18446744073709551616) : Go.bits .or .u64 (p * (2 ^ s : Nat)) x = p * (2 ^ s : Nat) + x := by
  obtain ⟨P, rfl⟩ := Int.eq_ofNat_of_zero_le h0
  obtain ⟨X, rfl⟩ := Int.eq_ofNat_of_zero_le h1
  have e : (P : Int) * ((2 ^ s : Nat) : Int) = ((P * 2 ^ s : Nat) : Int) := by rw [Int.natCast_mul]
  rw [e] at h3 ⊢
  rw [u64_or_nat _ _ (by omega) (by omega), Nat.mul_comm P, ← Nat.two_pow_add_eq_or_of_lt (by omega)]
  omega
theorem bitLenAux_lt : ∀ (f x : Nat), x < 2 ^ f → x < 2 ^ Lib.bitLenAux f x
  | 0, x, h => h
  | f + 1, x, h => by
    unfold Lib.bitLenAux
    by_cases h0 : x = 0
    · rw [if_pos h0]; omega
    · rw [if_neg h0, Nat.add_comm, Nat.pow_succ]
      have := bitLenAux_lt f (x / 2) (by rw [Nat.pow_succ] at h; omega)
      omega
theorem bitLen_lt {x : Nat} (h : x < 18446744073709551616) : x < 2 ^ Lib.bitLen x := bitLenAux_lt 64 x h
theorem bitLen_le64 {x : Nat} (h : x < 18446744073709551616) : Lib.bitLen x ≤ 64 := Lib.bitLen_le x 64 (Nat.le_refl _) h
theorem bitLen_pos {x : Nat} (h0 : x ≠ 0) (h : x < 18446744073709551616) : 0 < Lib.bitLen x := by
  have := bitLen_lt h
  rcases Nat.eq_zero_or_pos (Lib.bitLen x) with h1 | h1
  · rw [h1] at this; omega
  · exact h1
theorem le_bitLen {x : Nat} (h0 : x ≠ 0) (h : x < 18446744073709551616) : 2 ^ (Lib.bitLen x - 1) ≤ x := by
  have h1 := bitLen_pos h0 h
  have h2 := bitLen_le64 h
  rcases Nat.lt_or_ge x (2 ^ (Lib.bitLen x - 1)) with h3 | h3
  · have := Lib.bitLen_le x (Lib.bitLen x - 1) (by omega) h3
    omega
  · exact h3

/-! ### the length in bits -/
def blen (n : Nat) : Nat := if n = 0 then 0 else n.log2 + 1
theorem blen_zero : blen 0 = 0 := rfl
theorem blen_le (n m : Nat) : blen n ≤ m ↔ n < 2 ^ m := by
  unfold blen
  by_cases h : n = 0
  · subst h
    rw [if_pos rfl]
    simp [Nat.pow_pos]
  · rw [if_neg h]
    have := Nat.log2_lt (k := m) h
    omega
theorem blen_lt (n : Nat) : n < 2 ^ blen n := (blen_le n _).1 (Nat.le_refl _)
theorem blen_ge {n : Nat} (h : n ≠ 0) : 2 ^ (blen n - 1) ≤ n := by
  have h1 := blen_le n (blen n - 1)
  have h2 : blen n ≠ 0 := by unfold blen; rw [if_neg h]; omega
  omega
theorem blen_pos {n : Nat} : 0 < blen n ↔ n ≠ 0 := by
  unfold blen
  split <;> omega
theorem blen_eq {n m : Nat} (h1 : 2 ^ m ≤ n) (h2 : n < 2 ^ (m + 1)) : blen n = m + 1 := by
  have h3 := (blen_le n (m + 1)).2 h2
  have h4 := blen_le n m
  omega
theorem blen_limb {x : Nat} (h : x < 18446744073709551616) : Lib.bitLen x = blen x := by
  by_cases h0 : x = 0
  · subst h0; rfl
  · have h1 := bitLen_lt h
    have h2 := le_bitLen h0 h
    have h3 := bitLen_pos h0 h
    obtain ⟨m, hm⟩ : ∃ m, Lib.bitLen x = m + 1 := ⟨Lib.bitLen x - 1, by omega⟩
    rw [hm] at h1 h2 ⊢
    exact (blen_eq h2 h1).symm
theorem blen_mul_pow {n : Nat} (h : n ≠ 0) (k : Nat) : blen (n * 2 ^ k) = blen n + k := by
  have h1 := blen_ge h
  have h2 := blen_lt n
  have h3 := blen_pos.2 h
  have hp := Nat.pow_pos (n := k) (show 0 < 2 by omega)
  obtain ⟨m, hm⟩ : ∃ m, blen n = m + 1 := ⟨blen n - 1, by omega⟩
  rw [hm] at h1 h2 ⊢
  rw [show m + 1 + k = m + k + 1 by omega]
  refine blen_eq ?_ ?_
  · rw [Nat.pow_add]; exact Nat.mul_le_mul_right _ h1
  · rw [show m + k + 1 = m + 1 + k by omega, Nat.pow_add]; exact Nat.mul_lt_mul_of_pos_right h2 hp
/-- The length of a list of limbs, by that of its highest one. -/
theorem blen_high {l r i : Nat} (hl : l < B i) (h0 : r ≠ 0) : blen (l + B i * r) = 64 * i + blen r := by
  have h1 := blen_ge h0
  have h2 := blen_lt r
  have h3 := blen_pos.2 h0
  obtain ⟨m, hm⟩ : ∃ m, blen r = m + 1 := ⟨blen r - 1, by omega⟩
  rw [hm] at h1 h2 ⊢
  have h4 : B i * 2 ^ m ≤ B i * r := Nat.mul_le_mul_left _ h1
  have h5 : B i * (r + 1) ≤ B i * 2 ^ (m + 1) := Nat.mul_le_mul_left _ h2
  rw [Nat.mul_add] at h5
  refine blen_eq (m := 64 * i + m) ?_ ?_
  · rw [Nat.pow_add, ← B_two]; have : m + 1 - 1 = m := rfl; rw [this] at h1; have h4 : B i * 2 ^ m ≤ B i * r := Nat.mul_le_mul_left _ h1; omega
  · rw [show 64 * i + m + 1 = 64 * i + (m + 1) by omega, Nat.pow_add, ← B_two]; omega

/-! ### the trailing zeros -/
def tz (n : Nat) : Nat := if n = 0 then 0 else Lib.ctzFrom n n
theorem tz_spec {n : Nat} (h : n ≠ 0) : ∃ m, n = 2 ^ tz n * (2 * m + 1) := by
  obtain ⟨m, hm, _⟩ := Lib.ctzFrom_spec n n (by omega) Nat.lt_two_pow_self
  exact ⟨m, by unfold tz; rw [if_neg h]; exact hm⟩
theorem odd_pow_inj {a b m k : Nat} (h : 2 ^ a * (2 * m + 1) = 2 ^ b * (2 * k + 1)) : a = b := by
  induction a generalizing b with
  | zero =>
    cases b with
    | zero => rfl
    | succ b => rw [Nat.pow_succ, Nat.mul_comm _ 2, Nat.mul_assoc] at h; omega
  | succ a ih =>
    cases b with
    | zero => rw [Nat.pow_succ, Nat.mul_comm _ 2, Nat.mul_assoc] at h; omega
    | succ b =>
      rw [Nat.pow_succ, Nat.pow_succ, Nat.mul_comm _ 2, Nat.mul_comm _ 2, Nat.mul_assoc, Nat.mul_assoc] at h
      rw [ih (b := b) (by omega)]
theorem tz_eq {n a m : Nat} (h : n = 2 ^ a * (2 * m + 1)) : tz n = a := by
  have hp := Nat.pow_pos (n := a) (show 0 < 2 by omega)
  have hn : n ≠ 0 := by
    have : 0 < 2 ^ a * (2 * m + 1) := Nat.mul_pos hp (by omega)
    omega
  obtain ⟨k, hk⟩ := tz_spec hn
  exact odd_pow_inj (hk.symm.trans h)
theorem tz_limb {x : Nat} (h0 : x ≠ 0) (h : x < 18446744073709551616) : Lib.ctz 64 x = tz x ∧ Lib.ctz 64 x < 64 := by
  obtain ⟨m, hm, hk⟩ := Lib.ctzFrom_spec 64 x (by omega) h
  have e : Lib.ctz 64 x = Lib.ctzFrom 64 x := by simp [Lib.ctz, h0]
  rw [e]
  exact ⟨(tz_eq hm).symm, hk⟩
/-- A multiple of 2^k has k trailing zeros or more. -/
theorem tz_dvd {n : Nat} (h : n ≠ 0) (k : Nat) : n % 2 ^ k = 0 ↔ k ≤ tz n := by
  obtain ⟨m, hm⟩ := tz_spec h
  constructor
  · intro hz
    rcases Nat.lt_or_ge (tz n) k with h1 | h1
    · exfalso
      obtain ⟨d, rfl⟩ : ∃ d, k = tz n + (d + 1) := ⟨k - tz n - 1, by omega⟩
      have h2 := Nat.div_add_mod n (2 ^ (tz n + (d + 1)))
      rw [hz, Nat.add_zero, Nat.pow_add, Nat.pow_succ] at h2
      have hp := Nat.pow_pos (n := tz n) (show 0 < 2 by omega)
      have h3 : 2 ^ tz n * (2 * (2 ^ d * (n / (2 ^ tz n * (2 ^ d * 2))))) = 2 ^ tz n * (2 * m + 1) := by
        rw [← hm]
        conv => rhs; rw [← h2]
        rw [Nat.mul_assoc, Nat.mul_left_comm 2, Nat.mul_assoc]
      have h4 := Nat.eq_of_mul_eq_mul_left hp h3
      omega
    · exact h1
  · intro h1
    obtain ⟨d, hd⟩ : ∃ d, tz n = k + d := ⟨tz n - k, by omega⟩
    rw [hm, hd, Nat.pow_add, Nat.mul_assoc]
    exact Nat.mul_mod_right _ _
/-- The lowest limb that isn't zero. -/
theorem tz_low {r rest i : Nat} (h0 : r ≠ 0) (h : r < 18446744073709551616) : tz (B i * (r + 18446744073709551616 * rest)) = 64 * i + Lib.ctz 64 r := by
  obtain ⟨e, hk⟩ := tz_limb h0 h
  obtain ⟨m, hm⟩ := tz_spec h0
  rw [e] at hk ⊢
  obtain ⟨d, hd⟩ : ∃ d, 64 = tz r + (d + 1) := ⟨64 - tz r - 1, by omega⟩
  have hp : (18446744073709551616 : Nat) = 2 ^ tz r * (2 ^ d * 2) := by rw [← Nat.pow_succ, ← Nat.pow_add, ← hd]
  refine tz_eq (m := m + 2 ^ d * rest) ?_
  rw [B_two, Nat.pow_add, Nat.mul_assoc]
  congr 1
  generalize tz r = t at *
  rw [hp, hm, Nat.mul_assoc, ← Nat.mul_add]
  congr 1
  rw [Nat.mul_add, Nat.mul_right_comm _ 2, Nat.mul_comm _ 2]
  omega

/-! ### a list of limbs, cut at a bit -/
theorem div_limb {l r R i s : Nat} (hl : l < B i) : (l + B i * R) / 2 ^ (64 * i + s) = R / 2 ^ s := by
  rw [Nat.pow_add, ← B_two, ← Nat.div_div_eq_div_mul, Nat.add_mul_div_left _ _ (B_pos i), Nat.div_eq_of_lt hl, Nat.zero_add]
/-- Bits s and on of a limb with limbs above. -/
theorem shift_limb {r R s : Nat} (hs : s ≤ 64) : (r + 18446744073709551616 * R) / 2 ^ s = r / 2 ^ s + 2 ^ (64 - s) * R := by
  have hp : (18446744073709551616 : Nat) = 2 ^ s * 2 ^ (64 - s) := by rw [← Nat.pow_add, show s + (64 - s) = 64 by omega]
  rw [hp, Nat.mul_assoc, Nat.add_mul_div_left _ _ (Nat.pow_pos (by omega))]
theorem bit_limb {r R s : Nat} (hs : s < 64) : (r + 18446744073709551616 * R) / 2 ^ s % 2 = r / 2 ^ s % 2 := by
  rw [shift_limb (by omega), show 64 - s = (63 - s) + 1 by omega, Nat.pow_succ, Nat.mul_comm _ 2, Nat.mul_assoc]
  omega
/-- A bit of a list of limbs. -/
theorem bit_val {l : List Int} (h : ok l) (i s : Nat) (hs : s < 64) : val l / 2 ^ (64 * i + s) % 2 = (rd l (i : Int)).toNat / 2 ^ s % 2 := by
  rcases Nat.lt_or_ge i l.length with hi | hi
  · have h1 := val_split l i
    rw [Nat.min_eq_left (by omega), val_drop_cons l i hi] at h1
    have h2 := val_lt (ok_take h i)
    rw [List.length_take, Nat.min_eq_left (by omega)] at h2
    rw [h1, div_limb (r := 0) h2, bit_limb hs]
  · have h1 := val_lt h
    have h2 := B_mono hi
    have h3 : 2 ^ (64 * i) ≤ 2 ^ (64 * i + s) := Nat.pow_le_pow_right (by omega) (by omega)
    rw [← B_two] at h3
    rw [Nat.div_eq_of_lt (by omega), rd_nat, List.getD_eq_getElem?_getD, List.getElem?_eq_none hi]
    simp
end Go.Proofs.YtcacmhcekoeblaaDoor.LibB
