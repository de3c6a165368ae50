-- printed by a program
import Derived.Test.YtegollbojafekaaDoorProg
import Derived.Below
import Derived.Deep.Draws
import Derived.Deep.AppendLies
import Derived.Maps.AppendAt
import Derived.OwnWalk
import Derived.Laws.BytesArg
import Derived.Laws.MakeOwn
import Derived.Laws.OwnMore
import Derived.Deep.OwnRows
import Derived.Tactics
import Derived.Lib.ConvBytes
import Derived.Laws.Slices
import Derived.WalkKit
import Derived.KernelRfl
import Derived.RowKit3
import Derived.Deep.LoopGhost
import Derived.Deep.QuietTactic
import Derived.BigQuiet
import Derived.WideLaws
import Derived.Deep.DeepCutAuto
import Derived.Deep.CutBlock
import Derived.Deep.RegionHeld3
import Derived.Laws.Rows
import Derived.Lib.AppendStr
import Derived.ArgAppend
import Derived.Laws.IdiomCopy
import Derived.OrdersHeld
import Derived.Laws.BitsLemmas
import Derived.RowKit
import Derived.Test.YtegollbojafekaaDoorX
import Derived.Test.YtegollbojafekaaDoorXLong
import Derived.Test.YtegollbojafekaaDoorG
import Derived.Test.YtegollbojafekaaDoorWWords
import Derived.Test.YtegollbojafekaaDoorWLast
import Derived.Test.YtegollbojafekaaDoorWTab
import Derived.Test.YtegollbojafekaaDoorWFour
import Derived.Test.YtegollbojafekaaDoorWQPut
import Derived.Test.YtegollbojafekaaDoorWApart
import Derived.Test.YtegollbojafekaaDoorWArr
import Derived.Test.YtegollbojafekaaDoorWZeros
import Derived.Test.YtegollbojafekaaDoorWFoot
import Derived.Test.YtegollbojafekaaDoorWKept
import Derived.Test.YtegollbojafekaaDoorWShare
import Derived.Test.YtegollbojafekaaDoorWN
import Derived.Test.YtegollbojafekaaDoorWFootNe
import Derived.Test.YtegollbojafekaaDoorWAt
import Derived.Test.YtegollbojafekaaDoorWEqStruct
import Derived.Test.YtegollbojafekaaDoorWRepsOne
import Derived.Test.YtegollbojafekaaDoorWInv
import Derived.Test.YtegollbojafekaaDoorWInvWords
import Derived.Test.YtegollbojafekaaDoorWGuard
import Derived.Test.YtegollbojafekaaDoorWNEv
import Derived.Test.YtegollbojafekaaDoorWMore
namespace Go.Proofs.YtegollbojafekaaDoor.PS
open Go.Proofs.YtegollbojafekaaDoorX
open Go.RowKit Go.Proofs.YtegollbojafekaaDoorW.PrintWords Go.Proofs.YtegollbojafekaaDoorW.PrintLast Go.Proofs.YtegollbojafekaaDoorW.PrintMore
attribute [local go_sem] max2_int min2_int max_two min_two max_three min_three max_four min_four   -- for this text's walks alone
set_option linter.unusedVariables false
set_option linter.unusedSimpArgs false



def errW : Option Int → Value
  | none => .nilIface
  | some c => .iface 0 (.int .i64 c)
theorem errW_none : errW none = .nilIface := rfl
theorem errW_some (c : Int) : errW (some c) = .iface 0 (.int .i64 c) := rfl

theorem info27 : (Tryd.prog.info? 27).map (fun i => (i.zero, i.size, i.bytes)) = some (some (.int .u64 0), 1, 8) := by kernel_rfl
-- the values' own types

end Go.Proofs.YtegollbojafekaaDoor.PS
