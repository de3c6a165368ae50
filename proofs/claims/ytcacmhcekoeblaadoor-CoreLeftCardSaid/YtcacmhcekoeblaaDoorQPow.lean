/- What the printed Pow of quot computes, and the looks of the laws of its chapter (alike, Top). Conditions: lists of limbs below 2^64, of lengths that a slice of limbs has. -/
import Derived.Test.YtcacmhcekoeblaaDoorQBits
namespace Go.Proofs.YtcacmhcekoeblaaDoor.Pow
open Go.RowKit Go.Proofs.YtcacmhcekoeblaaDoor.Lib Go.Proofs.YtcacmhcekoeblaaDoor.LibB Go.Proofs.YtcacmhcekoeblaaDoor.F Go.Proofs.YtcacmhcekoeblaaDoor.Nat1 Go.Proofs.YtcacmhcekoeblaaDoor.Bits
open Go.Proofs.YtcacmhcekoeblaaDoorA (rd ln ln_eq mx mn shl shr wr wr_eq)
set_option linter.unusedVariables false
set_option linter.unusedSimpArgs false

theorem trim_ev {l : List Int} (h : ok l) (hl : l.length ≤ 35184372088832) : Ev (fun k _ _ => nat_Trim.f k l) (lim (val l)) := nat_Trim_ev h hl
theorem quot_small_ev {l : List Int} {m : Int} (h : ok l) (hl : l.length ≤ 35184372088832) : Ev (fun k _ _ => quot_small.f k l m) (lim (val l), decide (((lim (val l)).length : Int) ≤ m)) := by
  simp only [quot_small.f, quot_small.b0, ln_eq]
  exact Ev.bind (trim_ev h hl) (Ev_some rfl)
theorem ans_ok {n : Nat} (h : n < B 4096) : ans n = (lim n, 0) := by rw [ans, if_pos h]
end Go.Proofs.YtcacmhcekoeblaaDoor.Pow
