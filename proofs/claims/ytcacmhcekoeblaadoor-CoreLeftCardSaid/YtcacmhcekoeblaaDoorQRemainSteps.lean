/- Two scalings are one where the first one lost nothing, for every input. No conditions. -/
import Derived.Test.YtcacmhcekoeblaaDoorQIeee2
import Derived.Test.YtcacmhcekoeblaaDoorQRn
namespace Go.Proofs.YtcacmhcekoeblaaDoor.Pure
open Go.RowKit Go.Proofs.YtcacmhcekoeblaaDoor.Lib Go.Proofs.YtcacmhcekoeblaaDoor.LibB Go.Proofs.YtcacmhcekoeblaaDoor.F Go.Proofs.YtcacmhcekoeblaaDoor.Nat1 Go.Proofs.YtcacmhcekoeblaaDoor.Bits Go.Proofs.YtcacmhcekoeblaaDoor.Ieee1 Go.Proofs.YtcacmhcekoeblaaDoor.Mag Go.Proofs.YtcacmhcekoeblaaDoor.Ieee2 Go.Proofs.YtcacmhcekoeblaaDoor.Rnd Go.Proofs.YtcacmhcekoeblaaDoor.Rn
open Go.Proofs.YtcacmhcekoeblaaDoorA (rd ln ln_eq mx mn shl shr wr wr_eq)
set_option linter.unusedVariables false
set_option linter.unusedSimpArgs false
theorem put_U {s : Bool} {p : Nat} (h : p ≤ inf) : U (put s p) ∧ plc (put s p) = p ∧ sgn (put s p) = s := by
  unfold inf at h
  unfold plc put U sgn
  cases s with
  | false => simp only [Bool.false_eq_true, if_false]; exact ⟨by omega, by omega, decide_eq_false (by omega)⟩
  | true => simp only [if_true]; exact ⟨by omega, by omega, decide_eq_true (by omega)⟩

theorem plc_put {d : Int} (h : U d) (hn : cls d ≠ 4) : d = put (sgn d) (plc d) ∧ plc d ≤ inf := by
  have h1 := h.1
  have h2 := h.2
  have hp : d % 9223372036854775808 ≤ 9218868437227405312 := by
    unfold cls at hn
    repeat' split at hn
    all_goals omega
  constructor
  · unfold put sgn plc
    by_cases hs : d < 9223372036854775808
    · simp [hs]; omega
    · simp [hs]; omega
  · unfold plc inf; omega
theorem cls_plc {d : Int} : (cls d = 4 ↔ plc d > 9218868437227405312) ∧ (cls d = 3 ↔ plc d = 9218868437227405312) ∧ (cls d = 0 ↔ plc d = 0) ∧ (cls d = 2 ↔ 4503599627370496 ≤ plc d ∧ plc d < inf) := by
  unfold cls plc inf
  refine ⟨⟨fun h => ?_, fun h => ?_⟩, ⟨fun h => ?_, fun h => ?_⟩, ⟨fun h => ?_, fun h => ?_⟩, ⟨fun h => ?_, fun h => ?_⟩⟩
  all_goals (repeat' split at h) <;> (repeat' split) <;> omega
end Go.Proofs.YtcacmhcekoeblaaDoor.Pure
