-- printed by a program
import Derived.Test.YtnicfpilpafddaaProg
import Derived.Below
import Derived.Deep.Draws
import Derived.Deep.AppendLies
import Derived.Maps.AppendAt
import Derived.OwnWalk
import Derived.Laws.BytesArg
import Derived.Laws.MakeOwn
import Derived.Laws.OwnMore
import Derived.Deep.OwnRows
import Derived.Tactics
import Derived.Lib.ConvBytes
import Derived.Laws.Slices
import Derived.WalkKit
import Derived.KernelRfl
import Derived.RowKit3
import Derived.Deep.LoopGhost
import Derived.Deep.QuietTactic
import Derived.BigQuiet
import Derived.WideLaws
import Derived.Deep.DeepCutAuto
import Derived.Deep.CutBlock
import Derived.Deep.RegionHeld3
import Derived.Laws.Rows
import Derived.Lib.AppendStr
import Derived.ArgAppend
import Derived.Laws.IdiomCopy
import Derived.OrdersHeld
import Derived.Laws.BitsLemmas
import Derived.RowKit
import Derived.Test.YtnicfpilpafddaaX
import Derived.Test.YtnicfpilpafddaaG
import Derived.Test.YtnicfpilpafddaaWWords
import Derived.Test.YtnicfpilpafddaaWLast
import Derived.Test.YtnicfpilpafddaaWTab
import Derived.Test.YtnicfpilpafddaaWFour
import Derived.Test.YtnicfpilpafddaaWQPut
import Derived.Test.YtnicfpilpafddaaWApart
import Derived.Test.YtnicfpilpafddaaWArr
import Derived.Test.YtnicfpilpafddaaWZeros
import Derived.Test.YtnicfpilpafddaaWFoot
import Derived.Test.YtnicfpilpafddaaWKept
import Derived.Test.YtnicfpilpafddaaWShare
import Derived.Test.YtnicfpilpafddaaWN
import Derived.Test.YtnicfpilpafddaaWFootNe
import Derived.Test.YtnicfpilpafddaaWAt
import Derived.Test.YtnicfpilpafddaaWEqStruct
import Derived.Test.YtnicfpilpafddaaWRepsOne
import Derived.Test.YtnicfpilpafddaaWInv
import Derived.Test.YtnicfpilpafddaaWInvWords
import Derived.Test.YtnicfpilpafddaaWGuard
import Derived.Test.YtnicfpilpafddaaWNEv
import Derived.Test.YtnicfpilpafddaaWMore
namespace Go.Proofs.Ytnicfpilpafddaa.PR
open Go.Proofs.YtnicfpilpafddaaX
open Go.RowKit Go.Proofs.YtnicfpilpafddaaW.PrintWords Go.Proofs.YtnicfpilpafddaaW.PrintLast Go.Proofs.YtnicfpilpafddaaW.PrintMore
attribute [local go_sem] max2_int min2_int max_two min_two max_three min_three max_four min_four   -- for this text's walks alone
set_option linter.unusedVariables false
set_option linter.unusedSimpArgs false



def errW : Option Int → Value
  | none => .nilIface
  | some c => .iface 0 (.int .i64 c)
theorem errW_none : errW none = .nilIface := rfl
theorem errW_some (c : Int) : errW (some c) = .iface 0 (.int .i64 c) := rfl

theorem info33 : (Try.prog.info? 33).map (fun i => (i.zero, i.size, i.bytes)) = some (some (.int .u64 0), 1, 8) := by kernel_rfl
-- the values' own types

end Go.Proofs.Ytnicfpilpafddaa.PR
