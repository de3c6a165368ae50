-- printed by a program
import Derived.Test.YtcdnoklokoplaaaDoorProg
import Derived.Below
import Derived.Deep.Draws
import Derived.Deep.AppendLies
import Derived.Maps.AppendAt
import Derived.OwnWalk
import Derived.Laws.BytesArg
import Derived.Laws.MakeOwn
import Derived.Laws.OwnMore
import Derived.Deep.OwnRows
import Derived.Tactics
import Derived.Lib.ConvBytes
import Derived.Laws.Slices
import Derived.WalkKit
import Derived.KernelRfl
import Derived.RowKit3
import Derived.Deep.LoopGhost
import Derived.Deep.QuietTactic
import Derived.BigQuiet
import Derived.WideLaws
import Derived.Deep.DeepCutAuto
import Derived.Deep.CutBlock
import Derived.Deep.RegionHeld3
import Derived.Laws.Rows
import Derived.Lib.AppendStr
import Derived.ArgAppend
import Derived.Laws.IdiomCopy
import Derived.OrdersHeld
import Derived.Laws.BitsLemmas
import Derived.RowKit
import Derived.Test.YtcdnoklokoplaaaDoorX
import Derived.Test.YtcdnoklokoplaaaDoorG
import Derived.Test.YtcdnoklokoplaaaDoorWWords
import Derived.Test.YtcdnoklokoplaaaDoorWLast
import Derived.Test.YtcdnoklokoplaaaDoorWTab
import Derived.Test.YtcdnoklokoplaaaDoorWFour
import Derived.Test.YtcdnoklokoplaaaDoorWQPut
import Derived.Test.YtcdnoklokoplaaaDoorWApart
import Derived.Test.YtcdnoklokoplaaaDoorWArr
import Derived.Test.YtcdnoklokoplaaaDoorWZeros
import Derived.Test.YtcdnoklokoplaaaDoorWFoot
import Derived.Test.YtcdnoklokoplaaaDoorWKept
import Derived.Test.YtcdnoklokoplaaaDoorWShare
import Derived.Test.YtcdnoklokoplaaaDoorWN
import Derived.Test.YtcdnoklokoplaaaDoorWFootNe
import Derived.Test.YtcdnoklokoplaaaDoorWAt
import Derived.Test.YtcdnoklokoplaaaDoorWEqStruct
import Derived.Test.YtcdnoklokoplaaaDoorWRepsOne
import Derived.Test.YtcdnoklokoplaaaDoorWInv
import Derived.Test.YtcdnoklokoplaaaDoorWInvWords
import Derived.Test.YtcdnoklokoplaaaDoorWGuard
import Derived.Test.YtcdnoklokoplaaaDoorWNEv
import Derived.Test.YtcdnoklokoplaaaDoorWMore
namespace Go.Proofs.YtcdnoklokoplaaaDoor.PE
open Go.Proofs.YtcdnoklokoplaaaDoorX
open Go.RowKit Go.Proofs.YtcdnoklokoplaaaDoorW.PrintWords Go.Proofs.YtcdnoklokoplaaaDoorW.PrintLast Go.Proofs.YtcdnoklokoplaaaDoorW.PrintMore
attribute [local go_sem] max2_int min2_int max_two min_two max_three min_three max_four min_four   -- for this text's walks alone
set_option linter.unusedVariables false
set_option linter.unusedSimpArgs false



def errW : Option Int → Value
 | none => .nilIface
 | some c => .iface 0 (.int .i64 c)
theorem errW_none : errW none = .nilIface := rfl
theorem errW_some (c : Int) : errW (some c) = .iface 0 (.int .i64 c) := rfl

theorem info22 : (Tryd.prog.info? 22).map (fun i => (i.zero, i.size, i.bytes)) = some (some (.int .u64 0), 1, 8) := by kernel_rfl
-- the values' own types

end Go.Proofs.YtcdnoklokoplaaaDoor.PE
