/- A double taken apart and put together again, for every input. No conditions. -/
import Derived.Test.YtlnfgcnagfdliaaDoorQIeee2
namespace Go.Proofs.YtlnfgcnagfdliaaDoor.Pure
open Go.RowKit Go.Proofs.YtlnfgcnagfdliaaDoor.Lib Go.Proofs.YtlnfgcnagfdliaaDoor.LibB Go.Proofs.YtlnfgcnagfdliaaDoor.F Go.Proofs.YtlnfgcnagfdliaaDoor.Nat1 Go.Proofs.YtlnfgcnagfdliaaDoor.Bits Go.Proofs.YtlnfgcnagfdliaaDoor.Ieee1 Go.Proofs.YtlnfgcnagfdliaaDoor.Mag Go.Proofs.YtlnfgcnagfdliaaDoor.Ieee2 Go.Proofs.YtlnfgcnagfdliaaDoor.Rnd
open Go.Proofs.YtlnfgcnagfdliaaDoorA (rd ln ln_eq mx mn shl shr wr wr_eq)
set_option linter.unusedVariables false
set_option linter.unusedSimpArgs false
theorem or_high {p x : Int} (h0 : 0 ≤ p) (h1 : 0 ≤ x) (h2 : x < 4503599627370496) (h3 : p * 4503599627370496 + x < 18446744073709551616) : Go.bits .or .u64 (p * 4503599627370496) x = p * 4503599627370496 + x :=
  or_low (s := 52) h0 h1 h2 h3
theorem or_sign {x : Int} (h1 : 0 ≤ x) (h2 : x < 9223372036854775808) : Go.bits .or .u64 x 9223372036854775808 = x + 9223372036854775808 := by
  obtain ⟨n, rfl⟩ := Int.eq_ofNat_of_zero_le h1
  have := or_low' (p := 1) (x := n) (s := 63) (by omega) (by omega)
  rw [show ((1 * 2 ^ 63 : Nat) : Int) = 9223372036854775808 from rfl] at this
  rw [this]
  omega
theorem encode_j0 {d r : Int} (h : U d) (hr : r = d % 9223372036854775808) : Ev (fun _ _ _ => ieee_Encode.l15 r (sgn d) (cls d) (manOf d) (expOf d)) (d, 0) := by
  have h0 := h.1
  have h1 := h.2
  simp only [ieee_Encode.l15, ieee_Encode.b15, ieee_Encode.l31, ieee_Encode.b31]
  by_cases hs : d ≥ 9223372036854775808
  · have e : Go.bits .or .u64 r 9223372036854775808 = d := by rw [or_sign (by omega) (by omega)]; omega
    rw [e]
    exact Ev_pos (decide_eq_true hs) (Ev_bind_eq (Decode_eq h) (Ev_neg (by simp) (Ev_some rfl)))
  · have e : r = d := by omega
    rw [e]
    exact Ev_neg (by simp [sgn]; omega) (Ev_bind_eq (Decode_eq h) (Ev_neg (by simp) (Ev_some rfl)))
theorem cls_range (d : Int) : (cls d = 0 ∧ d % 9223372036854775808 = 0) ∨ (cls d = 1 ∧ d % 9223372036854775808 ≠ 0 ∧ d % 9223372036854775808 < 4503599627370496) ∨
    (cls d = 2 ∧ 4503599627370496 ≤ d % 9223372036854775808 ∧ d % 9223372036854775808 < 9218868437227405312) ∨ (cls d = 3 ∧ d % 9223372036854775808 = 9218868437227405312) ∨ (cls d = 4 ∧ d % 9223372036854775808 > 9218868437227405312) := by
  unfold cls
  repeat' split
  all_goals omega
theorem Encode_ev {d : Int} (h : U d) : Ev (fun _ _ _ => ieee_Encode.f (sgn d) (cls d) (manOf d) (expOf d)) (d, 0) := by
  have h0 := h.1
  have h1 := h.2
  simp only [ieee_Encode.f, ieee_Encode.b0, ln_eq]
  rcases cls_range d with ⟨c, h2⟩ | ⟨c, h2, h3⟩ | ⟨c, h2, h3⟩ | ⟨c, h2⟩ | ⟨c, h2⟩
  · exact Ev_neg (by omega) (Ev_neg (by omega) (Ev_neg (by omega) (Ev_neg (by omega) (encode_j0 h h2.symm))))
  · have hm : manOf d = d % 9223372036854775808 := by unfold manOf; rw [if_pos c]
    refine Ev_pos c ?_
    have e := encode_j0 h (r := Go.bits .and .u64 (manOf d) 4503599627370495) (by rw [hm, bit_low ⟨by omega, by omega⟩]; omega)
    exact e
  · have hm : manOf d = 4503599627370496 + d % 4503599627370496 := by unfold manOf; rw [if_neg (by omega), if_pos c]
    have he : expOf d = d % 9223372036854775808 / 4503599627370496 - 1075 := by unfold expOf; rw [if_neg (by omega), if_pos c]
    refine Ev_neg (by omega) (Ev_pos c (Ev_neg (by omega) (Ev_neg (by omega) ?_)))
    refine encode_j0 h ?_
    have w1 : IntKind.u64.wrap (IntKind.u64.wrap (wrap64 (expOf d + 1075)) * 4503599627370496) = d % 9223372036854775808 / 4503599627370496 * 4503599627370496 := by
      rw [IntKind.wrap_u64, IntKind.wrap_u64, show wrap64 (expOf d + 1075) = expOf d + 1075 from wrap_id (by omega) (by omega)]
      omega
    rw [w1, hm, bit_low ⟨by omega, by omega⟩, or_high (by omega) (by omega) (by omega) (by omega)]
    omega
  · have hm : manOf d = 0 := by unfold manOf; rw [if_neg (by omega), if_neg (by omega), if_neg (by omega)]
    refine Ev_neg (by omega) (Ev_neg (by omega) (Ev_pos c ?_))
    refine encode_j0 h ?_
    rw [hm, bit_low ⟨by omega, by omega⟩]
    have := or_high (p := 2047) (x := 0) (by omega) (by omega) (by omega) (by omega)
    rw [show (2047 : Int) * 4503599627370496 = 9218868437227405312 from rfl] at this
    rw [show (0 : Int) % 4503599627370496 = 0 from rfl, this]
    omega
  · have hm : manOf d = d % 4503599627370496 := by unfold manOf; rw [if_neg (by omega), if_neg (by omega), if_pos c]
    refine Ev_neg (by omega) (Ev_neg (by omega) (Ev_neg (by omega) (Ev_pos c ?_)))
    refine encode_j0 h ?_
    rw [hm, bit_low ⟨by omega, by omega⟩]
    have := or_high (p := 2047) (x := d % 4503599627370496 % 4503599627370496) (by omega) (by omega) (by omega) (by omega)
    rw [show (2047 : Int) * 4503599627370496 = 9218868437227405312 from rfl] at this
    rw [this]
    omega
theorem awake_ev : Ev (fun k _ _ => abacuslaw04_awake.f k) true := Ev_at 150 fun d => by kernel_rfl
end Go.Proofs.YtlnfgcnagfdliaaDoor.Pure
