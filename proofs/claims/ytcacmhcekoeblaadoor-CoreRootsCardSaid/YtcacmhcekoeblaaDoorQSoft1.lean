/- What the printed sums of soft compute on finite doubles, and the signed whole numbers that the laws of its chapter measure with. Conditions: patterns below 2^64. -/
import Derived.Test.YtcacmhcekoeblaaDoorQIeee2
import Derived.Test.YtcacmhcekoeblaaDoorQNat2
namespace Go.Proofs.YtcacmhcekoeblaaDoor.Soft1
open Go.RowKit Go.Proofs.YtcacmhcekoeblaaDoor.Lib Go.Proofs.YtcacmhcekoeblaaDoor.LibB Go.Proofs.YtcacmhcekoeblaaDoor.F Go.Proofs.YtcacmhcekoeblaaDoor.Nat1 Go.Proofs.YtcacmhcekoeblaaDoor.Nat2 Go.Proofs.YtcacmhcekoeblaaDoor.Bits Go.Proofs.YtcacmhcekoeblaaDoor.Ieee1 Go.Proofs.YtcacmhcekoeblaaDoor.Mag Go.Proofs.YtcacmhcekoeblaaDoor.Ieee2 Go.Proofs.YtcacmhcekoeblaaDoor.Rnd
open Go.Proofs.YtcacmhcekoeblaaDoorA (rd ln ln_eq mx mn shl shr wr wr_eq)
set_option linter.unusedVariables false
set_option linter.unusedSimpArgs false

/-! ### signed whole numbers -/
def sv (b : Bool) (n : Nat) : Int := if b then -(n : Int) else (n : Int)
/-- A finite double's value, counted in 2^-1074. -/
def sval (d : Int) : Int := sv (sgn d) (uni (plc d))
theorem sv_mul (b : Bool) (n m : Nat) : sv b (n * m) = sv b n * (m : Int) := by unfold sv; cases b <;> simp [Int.neg_mul]
theorem sv_zero (b : Bool) : sv b 0 = 0 := by unfold sv; cases b <;> rfl
theorem put_U {s : Bool} {p : Nat} (h : p ≤ inf) : U (put s p) ∧ plc (put s p) = p ∧ sgn (put s p) = s := by
  unfold inf at h
  unfold plc put U sgn
  cases s with
  | false => simp only [Bool.false_eq_true, if_false]; exact ⟨by omega, by omega, decide_eq_false (by omega)⟩
  | true => simp only [if_true]; exact ⟨by omega, by omega, decide_eq_true (by omega)⟩

/-! ### the measuring words -/
theorem lt_B' {x n k : Nat} (h : x < 2 ^ n) (hn : n ≤ 64 * k) : x < B k := by rw [B_two]; exact Nat.lt_of_lt_of_le h (Nat.pow_le_pow_right (by omega) hn)
theorem len_lim' {n : Nat} (h : n < B 4096) : (lim n).length ≤ 4096 := (lim_len_le n 4096).2 h
theorem ans_ok' {n : Nat} (h : n < B 4096) : ans n = (lim n, 0) := by rw [ans, if_pos h]
theorem shl_lim {a n : Nat} (ha : a < B 4096) (h : a * 2 ^ n < B 4096) (hn : n ≤ 262144) : Ev (fun k _ _ => nat_Shl.f k (lim a) (n : Int)) (lim (a * 2 ^ n), 0) := by
  have hs := nat_Shl_ev (a := lim a) (n := (n : Int)) (ok_lim a) (by have := len_lim' ha; omega) (by omega)
  have : shlAns (val (lim a)) (n : Int) = (lim (a * 2 ^ n), 0) := by
    rw [val_lim]
    unfold shlAns
    rw [if_pos ha, if_neg (by omega)]
    by_cases h0 : a = 0
    · rw [if_pos h0, h0, Nat.zero_mul, lim_zero]
    · rw [if_neg h0, if_neg (by omega), Int.toNat_natCast, ans_ok' h]
  rwa [this] at hs
theorem lift2 {m k : Nat} (hm : m < 9007199254740992) (hk : k ≤ 5000) : m * 2 ^ k < 2 ^ (53 + k) ∧ m * 2 ^ k < B 4096 := by
  have h1 : m * 2 ^ k < 2 ^ (53 + k) := by
    rw [Nat.pow_add]
    exact Nat.mul_lt_mul_of_pos_right hm (Nat.pow_pos (by omega))
  exact ⟨h1, lt_B' h1 (by omega)⟩
theorem man_any (d : Int) : 0 ≤ manOf d ∧ manOf d < 9007199254740992 := by
  unfold manOf
  by_cases h1 : cls d = 1
  · have h2 : d % 9223372036854775808 < 4503599627370496 := by
      unfold cls at h1
      repeat' split at h1
      all_goals omega
    rw [if_pos h1]
    omega
  · rw [if_neg h1]
    repeat' split
    all_goals omega
theorem cls_lt {d : Int} (h : fin d) : cls d ≠ 3 ∧ cls d ≠ 4 := by
  have := cls_fin (d := d)
  constructor <;> intro h2 <;> exact absurd h (this.1 (by omega))
theorem FromUint_man (d : Int) : nat_FromUint.f (manOf d) = some (lim (manOf d).toNat) := by
  have h := man_any d
  have := FromUint_lim (n := (manOf d).toNat) (by omega)
  rwa [Int.toNat_of_nonneg h.1] at this
/-! ### sums of terms -/

/-! ### the flags come out -/
/-! ### sums of doubles -/
end Go.Proofs.YtcacmhcekoeblaaDoor.Soft1
