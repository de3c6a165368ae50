-- printed by a program
import Derived.Test.YtegollbojafekaaProg
import Derived.Below
import Derived.Deep.Draws
import Derived.Deep.AppendLies
import Derived.Maps.AppendAt
import Derived.OwnWalk
import Derived.Laws.BytesArg
import Derived.Laws.MakeOwn
import Derived.Laws.OwnMore
import Derived.Deep.OwnRows
import Derived.Tactics
import Derived.Lib.ConvBytes
import Derived.Laws.Slices
import Derived.WalkKit
import Derived.KernelRfl
import Derived.RowKit3
import Derived.Deep.LoopGhost
import Derived.Deep.QuietTactic
import Derived.BigQuiet
import Derived.WideLaws
import Derived.Deep.DeepCutAuto
import Derived.Deep.CutBlock
import Derived.Deep.RegionHeld3
import Derived.Laws.Rows
import Derived.Lib.AppendStr
import Derived.ArgAppend
import Derived.Laws.IdiomCopy
import Derived.OrdersHeld
import Derived.Laws.BitsLemmas
import Derived.RowKit
import Derived.Test.YtegollbojafekaaX
import Derived.Test.YtegollbojafekaaG
import Derived.Test.YtegollbojafekaaWWords
import Derived.Test.YtegollbojafekaaWLast
import Derived.Test.YtegollbojafekaaWTab
import Derived.Test.YtegollbojafekaaWFour
import Derived.Test.YtegollbojafekaaWQPut
import Derived.Test.YtegollbojafekaaWApart
import Derived.Test.YtegollbojafekaaWArr
import Derived.Test.YtegollbojafekaaWZeros
import Derived.Test.YtegollbojafekaaWFoot
import Derived.Test.YtegollbojafekaaWKept
import Derived.Test.YtegollbojafekaaWShare
import Derived.Test.YtegollbojafekaaWN
import Derived.Test.YtegollbojafekaaWFootNe
import Derived.Test.YtegollbojafekaaWAt
import Derived.Test.YtegollbojafekaaWEqStruct
import Derived.Test.YtegollbojafekaaWRepsOne
import Derived.Test.YtegollbojafekaaWInv
import Derived.Test.YtegollbojafekaaWInvWords
import Derived.Test.YtegollbojafekaaWGuard
import Derived.Test.YtegollbojafekaaWNEv
import Derived.Test.YtegollbojafekaaWMore
namespace Go.Proofs.Ytegollbojafekaa.PA
open Go.Proofs.YtegollbojafekaaX
open Go.RowKit Go.Proofs.YtegollbojafekaaW.PrintWords Go.Proofs.YtegollbojafekaaW.PrintLast Go.Proofs.YtegollbojafekaaW.PrintMore
attribute [local go_sem] max2_int min2_int max_two min_two max_three min_three max_four min_four   -- for this text's walks alone
set_option linter.unusedVariables false
set_option linter.unusedSimpArgs false



def errW : Option Int → Value
  | none => .nilIface
  | some c => .iface 0 (.int .i64 c)
theorem errW_none : errW none = .nilIface := rfl
theorem errW_some (c : Int) : errW (some c) = .iface 0 (.int .i64 c) := rfl

theorem info27 : (Try.prog.info? 27).map (fun i => (i.zero, i.size, i.bytes)) = some (some (.int .u64 0), 1, 8) := by kernel_rfl
-- the values' own types

end Go.Proofs.Ytegollbojafekaa.PA
