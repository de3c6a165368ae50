-- printed by a program
import Derived.Test.YtnicfpilpafddaaDoorProg
import Derived.Below
import Derived.Deep.Draws
import Derived.Deep.AppendLies
import Derived.Maps.AppendAt
import Derived.OwnWalk
import Derived.Laws.BytesArg
import Derived.Laws.MakeOwn
import Derived.Laws.OwnMore
import Derived.Deep.OwnRows
import Derived.Tactics
import Derived.Lib.ConvBytes
import Derived.Laws.Slices
import Derived.WalkKit
import Derived.KernelRfl
import Derived.RowKit3
import Derived.Deep.LoopGhost
import Derived.Deep.QuietTactic
import Derived.BigQuiet
import Derived.WideLaws
import Derived.Deep.DeepCutAuto
import Derived.Deep.CutBlock
import Derived.Deep.RegionHeld3
import Derived.Laws.Rows
import Derived.Lib.AppendStr
import Derived.ArgAppend
import Derived.Laws.IdiomCopy
import Derived.OrdersHeld
import Derived.Laws.BitsLemmas
import Derived.RowKit
import Derived.Test.YtnicfpilpafddaaDoorX
import Derived.Test.YtnicfpilpafddaaDoorG
import Derived.Test.YtnicfpilpafddaaDoorWWords
import Derived.Test.YtnicfpilpafddaaDoorWLast
import Derived.Test.YtnicfpilpafddaaDoorWTab
import Derived.Test.YtnicfpilpafddaaDoorWFour
import Derived.Test.YtnicfpilpafddaaDoorWQPut
import Derived.Test.YtnicfpilpafddaaDoorWApart
import Derived.Test.YtnicfpilpafddaaDoorWArr
import Derived.Test.YtnicfpilpafddaaDoorWZeros
import Derived.Test.YtnicfpilpafddaaDoorWFoot
import Derived.Test.YtnicfpilpafddaaDoorWKept
import Derived.Test.YtnicfpilpafddaaDoorWShare
import Derived.Test.YtnicfpilpafddaaDoorWN
import Derived.Test.YtnicfpilpafddaaDoorWFootNe
import Derived.Test.YtnicfpilpafddaaDoorWAt
import Derived.Test.YtnicfpilpafddaaDoorWEqStruct
import Derived.Test.YtnicfpilpafddaaDoorWRepsOne
import Derived.Test.YtnicfpilpafddaaDoorWInv
import Derived.Test.YtnicfpilpafddaaDoorWInvWords
import Derived.Test.YtnicfpilpafddaaDoorWGuard
import Derived.Test.YtnicfpilpafddaaDoorWNEv
import Derived.Test.YtnicfpilpafddaaDoorWMore
namespace Go.Proofs.YtnicfpilpafddaaDoor.PT
open Go.Proofs.YtnicfpilpafddaaDoorX
open Go.RowKit Go.Proofs.YtnicfpilpafddaaDoorW.PrintWords Go.Proofs.YtnicfpilpafddaaDoorW.PrintLast Go.Proofs.YtnicfpilpafddaaDoorW.PrintMore
attribute [local go_sem] max2_int min2_int max_two min_two max_three min_three max_four min_four   -- for this text's walks alone
set_option linter.unusedVariables false
set_option linter.unusedSimpArgs false



def errW : Option Int → Value
  | none => .nilIface
  | some c => .iface 0 (.int .i64 c)
theorem errW_none : errW none = .nilIface := rfl
theorem errW_some (c : Int) : errW (some c) = .iface 0 (.int .i64 c) := rfl

theorem info29 : (Tryd.prog.info? 29).map (fun i => (i.zero, i.size, i.bytes)) = some (some (.int .u64 0), 1, 8) := by kernel_rfl
-- the values' own types

end Go.Proofs.YtnicfpilpafddaaDoor.PT
