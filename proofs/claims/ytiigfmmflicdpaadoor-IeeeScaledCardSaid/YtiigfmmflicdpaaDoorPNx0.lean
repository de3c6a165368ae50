-- printed by a program
import Derived.Test.YtiigfmmflicdpaaDoorProg
import Derived.Below
import Derived.Deep.Draws
import Derived.Deep.AppendLies
import Derived.Maps.AppendAt
import Derived.OwnWalk
import Derived.Laws.BytesArg
import Derived.Laws.MakeOwn
import Derived.Laws.OwnMore
import Derived.Deep.OwnRows
import Derived.Tactics
import Derived.Lib.ConvBytes
import Derived.Laws.Slices
import Derived.WalkKit
import Derived.KernelRfl
import Derived.RowKit3
import Derived.Deep.LoopGhost
import Derived.Deep.QuietTactic
import Derived.BigQuiet
import Derived.WideLaws
import Derived.Deep.DeepCutAuto
import Derived.Deep.CutBlock
import Derived.Deep.RegionHeld3
import Derived.Laws.Rows
import Derived.Lib.AppendStr
import Derived.ArgAppend
import Derived.Laws.IdiomCopy
import Derived.OrdersHeld
import Derived.Laws.BitsLemmas
import Derived.RowKit
import Derived.Test.YtiigfmmflicdpaaDoorX
import Derived.Test.YtiigfmmflicdpaaDoorXLong
import Derived.Test.YtiigfmmflicdpaaDoorG
import Derived.Test.YtiigfmmflicdpaaDoorWWords
import Derived.Test.YtiigfmmflicdpaaDoorWLast
import Derived.Test.YtiigfmmflicdpaaDoorWTab
import Derived.Test.YtiigfmmflicdpaaDoorWFour
import Derived.Test.YtiigfmmflicdpaaDoorWQPut
import Derived.Test.YtiigfmmflicdpaaDoorWApart
import Derived.Test.YtiigfmmflicdpaaDoorWArr
import Derived.Test.YtiigfmmflicdpaaDoorWZeros
import Derived.Test.YtiigfmmflicdpaaDoorWFoot
import Derived.Test.YtiigfmmflicdpaaDoorWKept
import Derived.Test.YtiigfmmflicdpaaDoorWShare
import Derived.Test.YtiigfmmflicdpaaDoorWN
import Derived.Test.YtiigfmmflicdpaaDoorWFootNe
import Derived.Test.YtiigfmmflicdpaaDoorWAt
import Derived.Test.YtiigfmmflicdpaaDoorWEqStruct
import Derived.Test.YtiigfmmflicdpaaDoorWRepsOne
import Derived.Test.YtiigfmmflicdpaaDoorWInv
import Derived.Test.YtiigfmmflicdpaaDoorWInvWords
import Derived.Test.YtiigfmmflicdpaaDoorWGuard
import Derived.Test.YtiigfmmflicdpaaDoorWNEv
import Derived.Test.YtiigfmmflicdpaaDoorWMore
namespace Go.Proofs.YtiigfmmflicdpaaDoor.PN
open Go.Proofs.YtiigfmmflicdpaaDoorX
open Go.RowKit Go.Proofs.YtiigfmmflicdpaaDoorW.PrintWords Go.Proofs.YtiigfmmflicdpaaDoorW.PrintLast Go.Proofs.YtiigfmmflicdpaaDoorW.PrintMore
attribute [local go_sem] max2_int min2_int max_two min_two max_three min_three max_four min_four   -- for this text's walks alone
set_option linter.unusedVariables false
set_option linter.unusedSimpArgs false



def errW : Option Int → Value
  | none => .nilIface
  | some c => .iface 0 (.int .i64 c)
theorem errW_none : errW none = .nilIface := rfl
theorem errW_some (c : Int) : errW (some c) = .iface 0 (.int .i64 c) := rfl

theorem info28 : (Tryd.prog.info? 28).map (fun i => (i.zero, i.size, i.bytes)) = some (some (.int .u64 0), 1, 8) := by kernel_rfl
-- the values' own types

end Go.Proofs.YtiigfmmflicdpaaDoor.PN
