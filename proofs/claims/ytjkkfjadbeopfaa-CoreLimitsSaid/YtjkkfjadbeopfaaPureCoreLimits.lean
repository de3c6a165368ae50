/- The printed function of CoreLimits answers true; no conditions. -/
import Derived.Test.YtjkkfjadbeopfaaPCoreLimitsx1
namespace Go.Proofs.Ytjkkfjadbeopfaa.Pure
open Go.RowKit Go.Proofs.Ytjkkfjadbeopfaa.PCoreLimits Go.Proofs.YtjkkfjadbeopfaaW.PrintWords Go.Proofs.YtjkkfjadbeopfaaW.PrintLast

/-- YOURS: abacustop_CoreLimits.f  = some true
What it reaches (each with k first where it has rounds; `.mono`: more rounds tell the same; `.l0`, ..: its loops, with `.mono_l`): abacustop_CoreLimits.f -/
theorem CoreLimits : abacustop_CoreLimits.Pure := by
  unfold abacustop_CoreLimits.Pure abacustop_CoreLimits.f
  rfl

end Go.Proofs.Ytjkkfjadbeopfaa.Pure
