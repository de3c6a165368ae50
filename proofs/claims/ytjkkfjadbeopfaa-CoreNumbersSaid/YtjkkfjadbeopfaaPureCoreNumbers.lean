/- The printed function of CoreNumbers answers true; no conditions. -/
import Derived.Test.YtjkkfjadbeopfaaPCoreNumbersx1
namespace Go.Proofs.Ytjkkfjadbeopfaa.Pure
open Go.RowKit Go.Proofs.Ytjkkfjadbeopfaa.PCoreNumbers Go.Proofs.YtjkkfjadbeopfaaW.PrintWords Go.Proofs.YtjkkfjadbeopfaaW.PrintLast

/-- YOURS: abacustop_CoreNumbers.f  = some true
What it reaches (each with k first where it has rounds; `.mono`: more rounds tell the same; `.l0`, ..: its loops, with `.mono_l`): abacustop_CoreNumbers.f -/
theorem CoreNumbers : abacustop_CoreNumbers.Pure := by
  unfold abacustop_CoreNumbers.Pure abacustop_CoreNumbers.f
  rfl

end Go.Proofs.Ytjkkfjadbeopfaa.Pure
