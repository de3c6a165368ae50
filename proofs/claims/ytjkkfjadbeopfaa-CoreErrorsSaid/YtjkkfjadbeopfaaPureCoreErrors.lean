/- The printed function of CoreErrors answers true; no conditions. -/
import Derived.Test.YtjkkfjadbeopfaaPCoreErrorsx1
namespace Go.Proofs.Ytjkkfjadbeopfaa.Pure
open Go.RowKit Go.Proofs.Ytjkkfjadbeopfaa.PCoreErrors Go.Proofs.YtjkkfjadbeopfaaW.PrintWords Go.Proofs.YtjkkfjadbeopfaaW.PrintLast

/-- YOURS: abacustop_CoreErrors.f  = some true
What it reaches (each with k first where it has rounds; `.mono`: more rounds tell the same; `.l0`, ..: its loops, with `.mono_l`): abacustop_CoreErrors.f -/
theorem CoreErrors : abacustop_CoreErrors.Pure := by
  unfold abacustop_CoreErrors.Pure abacustop_CoreErrors.f
  rfl

end Go.Proofs.Ytjkkfjadbeopfaa.Pure
