/- remain.round: d cut to a whole number, one more where the rule says so. No conditions. -/
import Derived.Test.YtjmcfampoajbmaaDoorQRemainWraps
namespace Go.Proofs.YtjmcfampoajbmaaDoor.Pure
open Go.RowKit Go.Proofs.YtjmcfampoajbmaaDoor.Lib Go.Proofs.YtjmcfampoajbmaaDoor.LibB Go.Proofs.YtjmcfampoajbmaaDoor.F Go.Proofs.YtjmcfampoajbmaaDoor.Nat1 Go.Proofs.YtjmcfampoajbmaaDoor.Nat2 Go.Proofs.YtjmcfampoajbmaaDoor.Bits Go.Proofs.YtjmcfampoajbmaaDoor.Div Go.Proofs.YtjmcfampoajbmaaDoor.Quot1 Go.Proofs.YtjmcfampoajbmaaDoor.Ieee1 Go.Proofs.YtjmcfampoajbmaaDoor.Mag Go.Proofs.YtjmcfampoajbmaaDoor.Ieee2 Go.Proofs.YtjmcfampoajbmaaDoor.Rnd Go.Proofs.YtjmcfampoajbmaaDoor.Rn
open Go.Proofs.YtjmcfampoajbmaaDoorA (rd ln ln_eq mx mn shl shr wr wr_eq)
set_option linter.unusedVariables false
set_option linter.unusedSimpArgs false
theorem or_sgn {x : Int} (h1 : 0 ≤ x) (h2 : x < 9223372036854775808) : Go.bits .or .u64 x 9223372036854775808 = x + 9223372036854775808 := by
  obtain ⟨n, rfl⟩ := Int.eq_ofNat_of_zero_le h1
  have := or_low' (p := 1) (x := n) (s := 63) (by omega) (by omega)
  rw [show ((1 * 2 ^ 63 : Nat) : Int) = 9223372036854775808 from rfl] at this
  rw [this]
  omega
theorem signed_put (s : Bool) {p : Nat} (hp : p ≤ inf) : remain_signed.f s (p : Int) = some (put s p) := by
  unfold inf at hp
  unfold remain_signed.f remain_signed.b0 put
  cases s with
  | true => rw [if_pos rfl, if_pos rfl, or_sgn (by omega) (by omega)]
  | false => rw [if_neg (by simp), if_neg (by simp), bit_abs ⟨by omega, by omega⟩, Int.emod_eq_of_lt (by omega) (by omega)]
/-- What stands behind the point: nothing, below a half, a half, above a half. -/
def rst (f O : Nat) : Int := if f = 0 then 0 else if 2 * f < O then 1 else if 2 * f = O then 2 else 3
theorem rst_scale {f O c : Nat} (hc : 0 < c) : rst (f * c) (O * c) = rst f O := by
  unfold rst
  have e1 : f * c = 0 ↔ f = 0 := ⟨fun h => (Nat.mul_eq_zero.1 h).resolve_right (by omega), fun h => by rw [h, Nat.zero_mul]⟩
  have e2 : 2 * (f * c) < O * c ↔ 2 * f < O := by rw [← Nat.mul_assoc]; exact ⟨fun h => Nat.lt_of_mul_lt_mul_right h, fun h => Nat.mul_lt_mul_of_pos_right h hc⟩
  have e3 : 2 * (f * c) = O * c ↔ 2 * f = O := by rw [← Nat.mul_assoc]; exact ⟨fun h => Nat.eq_of_mul_eq_mul_right hc h, fun h => by rw [h]⟩
  simp only [e1, e2, e3]
/-- Whether one is added. -/
def up (R : Bool → Nat → Int → Bool) (s : Bool) (w f O : Nat) : Bool := decide (rst f O ≠ 0) && R s w (rst f O)
theorem cls_le (d : Int) : cls d ≤ 4 := by unfold cls; repeat' split <;> omega
theorem shl_one_bit {k : Nat} (hk : k ≤ 63) : shl .u64 1 (k : Int) = ((2 ^ k : Nat) : Int) := by
  have hp2 : 2 ^ k ≤ 2 ^ 63 := Nat.pow_le_pow_right (by omega) hk
  have hp : 0 < 2 ^ k := Nat.pow_pos (by omega)
  rw [shl_u64 (by omega) (by omega), Int.one_mul]
  exact Int.emod_eq_of_lt (by omega) (by omega)
theorem low_bits {m k : Nat} (hm : m < 18446744073709551616) (hk : k ≤ 63) : Go.bits .and .u64 (m : Int) (IntKind.u64.wrap (((2 ^ k : Nat) : Int) - 1)) = ((m % 2 ^ k : Nat) : Int) := by
  have hp2 : 2 ^ k ≤ 2 ^ 63 := Nat.pow_le_pow_right (by omega) hk
  have hp : 0 < 2 ^ k := Nat.pow_pos (by omega)
  rw [show IntKind.u64.wrap (((2 ^ k : Nat) : Int) - 1) = ((2 ^ k - 1 : Nat) : Int) by rw [IntKind.wrap_u64]; omega, u64_and_nat _ _ hm (by omega), Nat.and_two_pow_sub_one_eq_mod]
end Go.Proofs.YtjmcfampoajbmaaDoor.Pure
