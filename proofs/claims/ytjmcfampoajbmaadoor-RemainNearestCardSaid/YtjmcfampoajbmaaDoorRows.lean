/-
  NARROWER THAN 'FOR EVERY INPUT', by the rows' own cells (each row's printed sentence says how): RemainSteps: laid · RemainNearest: laid · RemainWraps: laid · RemainCentres: laid · RemainFirst: laid · RemainFloors: laid · RemainJoins: laid.
  DERIVED. THE GIVEN ROWS OF THIS SEAT. 7 by the template 'for every input the law returns true; each argument reads behind the call as it read before'; 0 by the template 'total and deterministic' (their statements: YtjmcfampoajbmaaDoorTotals.lean).
  GIVEN WITH THE SEED: the statements are not yours to turn. If you find one false, say at which input.
  Laid BY PROGRAM, IN A SANDBOX (cutbox-rows.mjs): the forced cells as the released guide's own fill.sh prints them over the translation c7f0a049facfbddb… (all of the seat's roots in one cut). By AI agents, Wed Nov 11 2026. No macro, syntax, notation, axiom, sorry.
-/
import Derived.Test.YtjmcfampoajbmaaDoorChecked
import GoSem.Claim
import GoSem.ClaimJoined
import GoSem.ClaimMapViews
import Derived.JoinedTies
import Derived.KernelRfl
namespace Go.Proofs.YtjmcfampoajbmaaDoor
/- THE CELL 'sum', in the pinned program and in every row, IS THE sha256 OF THE DUMP (.gsa) THAT YtjmcfampoajbmaaDoorProg.lean LOADS. Nothing in Lean hashes anything: it is a label: what it is worth is what the hold of that sum in a sandbox is worth. -/
noncomputable def Tryd.pinned : Pinned := { name := "ytjmcfampoajbmaadoor", sum := "c7f0a049facfbddb1857daf1d3af0d63083ee22c773c1d0343d8066bbd7351d8", checked := Tryd.checked }
namespace Rows
def none {H : Type} : Left H := { results := [], args := [] }

/- WHAT THE LISTED PACKAGE-LEVEL VARIABLES READ AS WHEN THE CALL BEGINS. Each datum BY PROGRAM (the guide's laid-datum.mjs) off the statement by which the dump's own 'gosem.cut.vars' lays the variable. In a bare row this is a premise. The card (YtjmcfampoajbmaaDoorCards.lean) ties it to the program's text. -/
def laid_math_bits_deBruijn64tab {H : Type} : DataW H := .agg [.lit (.int .u8 0), .lit (.int .u8 1), .lit (.int .u8 56), .lit (.int .u8 2), .lit (.int .u8 57), .lit (.int .u8 49), .lit (.int .u8 28), .lit (.int .u8 3), .lit (.int .u8 61), .lit (.int .u8 58), .lit (.int .u8 42), .lit (.int .u8 50), .lit (.int .u8 38), .lit (.int .u8 29), .lit (.int .u8 17), .lit (.int .u8 4), .lit (.int .u8 62), .lit (.int .u8 47), .lit (.int .u8 59), .lit (.int .u8 36), .lit (.int .u8 45), .lit (.int .u8 43), .lit (.int .u8 51), .lit (.int .u8 22), .lit (.int .u8 53), .lit (.int .u8 39), .lit (.int .u8 33), .lit (.int .u8 30), .lit (.int .u8 24), .lit (.int .u8 18), .lit (.int .u8 12), .lit (.int .u8 5), .lit (.int .u8 63), .lit (.int .u8 55), .lit (.int .u8 48), .lit (.int .u8 27), .lit (.int .u8 60), .lit (.int .u8 41), .lit (.int .u8 37), .lit (.int .u8 16), .lit (.int .u8 46), .lit (.int .u8 35), .lit (.int .u8 44), .lit (.int .u8 21), .lit (.int .u8 52), .lit (.int .u8 32), .lit (.int .u8 23), .lit (.int .u8 11), .lit (.int .u8 54), .lit (.int .u8 26), .lit (.int .u8 40), .lit (.int .u8 15), .lit (.int .u8 34), .lit (.int .u8 20), .lit (.int .u8 31), .lit (.int .u8 10), .lit (.int .u8 25), .lit (.int .u8 14), .lit (.int .u8 19), .lit (.int .u8 9), .lit (.int .u8 13), .lit (.int .u8 8), .lit (.int .u8 7), .lit (.int .u8 6)]

/-- 'abacuslaw06.RemainSteps': WHATEVER THE INPUT: true; the input reads as it did. -/
def remainStepsSpec : ChangeSpec := { name := "remainSteps", fn := fun _ => fun
  | [d1, d2, d3] => { results := [.lit (.bool true)], args := [d1, d2, d3] }
  | _ => none }
def remainStepsRow : OpenClaim := { program := "ytjmcfampoajbmaadoor", sum := "c7f0a049facfbddb1857daf1d3af0d63083ee22c773c1d0343d8066bbd7351d8", func := "abacus/abacuslaw06.RemainSteps", spec := "remainSteps", inPlace := ["math/bits.Add64", "math/bits.Sub64"], unfollowed := true, recurses := true, named := ["math/bits.deBruijn64tab", "math/bits.divideError", "math/bits.overflowError"], apart := false, laid := [("math/bits.deBruijn64tab", laid_math_bits_deBruijn64tab)] }
def RemainStepsSaid : Prop := remainStepsRow.holds Tryd.pinned (OpenSpec.ofChange remainStepsSpec)

/-- ITS FALSE NEIGHBOUR: 'it returns false'. Refute it at one input. -/
def remainStepsWrong : ChangeSpec := { name := "remainSteps", fn := fun _ => fun
  | [d1, d2, d3] => { results := [.lit (.bool false)], args := [d1, d2, d3] }
  | _ => none }
def RemainStepsWrongFalsely : Prop := remainStepsRow.holds Tryd.pinned (OpenSpec.ofChange remainStepsWrong)

/-- 'abacuslaw06.RemainNearest': WHATEVER THE INPUT: true; the input reads as it did. -/
def remainNearestSpec : ChangeSpec := { name := "remainNearest", fn := fun _ => fun
  | [d1, d2] => { results := [.lit (.bool true)], args := [d1, d2] }
  | _ => none }
def remainNearestRow : OpenClaim := { program := "ytjmcfampoajbmaadoor", sum := "c7f0a049facfbddb1857daf1d3af0d63083ee22c773c1d0343d8066bbd7351d8", func := "abacus/abacuslaw06.RemainNearest", spec := "remainNearest", inPlace := ["math/bits.Add64", "math/bits.Sub64"], unfollowed := true, recurses := true, named := ["math/bits.deBruijn64tab", "math/bits.divideError", "math/bits.overflowError"], apart := false, laid := [("math/bits.deBruijn64tab", laid_math_bits_deBruijn64tab)] }
def RemainNearestSaid : Prop := remainNearestRow.holds Tryd.pinned (OpenSpec.ofChange remainNearestSpec)

/-- ITS FALSE NEIGHBOUR: 'it returns false'. Refute it at one input. -/
def remainNearestWrong : ChangeSpec := { name := "remainNearest", fn := fun _ => fun
  | [d1, d2] => { results := [.lit (.bool false)], args := [d1, d2] }
  | _ => none }
def RemainNearestWrongFalsely : Prop := remainNearestRow.holds Tryd.pinned (OpenSpec.ofChange remainNearestWrong)

/-- 'abacuslaw06.RemainWraps': WHATEVER THE INPUT: true; the input reads as it did. -/
def remainWrapsSpec : ChangeSpec := { name := "remainWraps", fn := fun _ => fun
  | [d1, d2] => { results := [.lit (.bool true)], args := [d1, d2] }
  | _ => none }
def remainWrapsRow : OpenClaim := { program := "ytjmcfampoajbmaadoor", sum := "c7f0a049facfbddb1857daf1d3af0d63083ee22c773c1d0343d8066bbd7351d8", func := "abacus/abacuslaw06.RemainWraps", spec := "remainWraps", inPlace := ["math/bits.Add64", "math/bits.Sub64"], unfollowed := true, recurses := true, named := ["math/bits.deBruijn64tab", "math/bits.divideError", "math/bits.overflowError"], apart := false, laid := [("math/bits.deBruijn64tab", laid_math_bits_deBruijn64tab)] }
def RemainWrapsSaid : Prop := remainWrapsRow.holds Tryd.pinned (OpenSpec.ofChange remainWrapsSpec)

/-- ITS FALSE NEIGHBOUR: 'it returns false'. Refute it at one input. -/
def remainWrapsWrong : ChangeSpec := { name := "remainWraps", fn := fun _ => fun
  | [d1, d2] => { results := [.lit (.bool false)], args := [d1, d2] }
  | _ => none }
def RemainWrapsWrongFalsely : Prop := remainWrapsRow.holds Tryd.pinned (OpenSpec.ofChange remainWrapsWrong)

/-- 'abacuslaw06.RemainCentres': WHATEVER THE INPUT: true; the input reads as it did. -/
def remainCentresSpec : ChangeSpec := { name := "remainCentres", fn := fun _ => fun
  | [d1, d2] => { results := [.lit (.bool true)], args := [d1, d2] }
  | _ => none }
def remainCentresRow : OpenClaim := { program := "ytjmcfampoajbmaadoor", sum := "c7f0a049facfbddb1857daf1d3af0d63083ee22c773c1d0343d8066bbd7351d8", func := "abacus/abacuslaw06.RemainCentres", spec := "remainCentres", inPlace := ["math/bits.Add64", "math/bits.Sub64"], unfollowed := true, recurses := true, named := ["math/bits.deBruijn64tab", "math/bits.divideError", "math/bits.overflowError"], apart := false, laid := [("math/bits.deBruijn64tab", laid_math_bits_deBruijn64tab)] }
def RemainCentresSaid : Prop := remainCentresRow.holds Tryd.pinned (OpenSpec.ofChange remainCentresSpec)

/-- ITS FALSE NEIGHBOUR: 'it returns false'. Refute it at one input. -/
def remainCentresWrong : ChangeSpec := { name := "remainCentres", fn := fun _ => fun
  | [d1, d2] => { results := [.lit (.bool false)], args := [d1, d2] }
  | _ => none }
def RemainCentresWrongFalsely : Prop := remainCentresRow.holds Tryd.pinned (OpenSpec.ofChange remainCentresWrong)

/-- 'abacuslaw06.RemainFirst': WHATEVER THE INPUT: true; the input reads as it did. -/
def remainFirstSpec : ChangeSpec := { name := "remainFirst", fn := fun _ => fun
  | [d1, d2] => { results := [.lit (.bool true)], args := [d1, d2] }
  | _ => none }
def remainFirstRow : OpenClaim := { program := "ytjmcfampoajbmaadoor", sum := "c7f0a049facfbddb1857daf1d3af0d63083ee22c773c1d0343d8066bbd7351d8", func := "abacus/abacuslaw06.RemainFirst", spec := "remainFirst", inPlace := ["math/bits.Add64", "math/bits.Sub64"], unfollowed := true, recurses := true, named := ["math/bits.deBruijn64tab", "math/bits.divideError", "math/bits.overflowError"], apart := false, laid := [("math/bits.deBruijn64tab", laid_math_bits_deBruijn64tab)] }
def RemainFirstSaid : Prop := remainFirstRow.holds Tryd.pinned (OpenSpec.ofChange remainFirstSpec)

/-- ITS FALSE NEIGHBOUR: 'it returns false'. Refute it at one input. -/
def remainFirstWrong : ChangeSpec := { name := "remainFirst", fn := fun _ => fun
  | [d1, d2] => { results := [.lit (.bool false)], args := [d1, d2] }
  | _ => none }
def RemainFirstWrongFalsely : Prop := remainFirstRow.holds Tryd.pinned (OpenSpec.ofChange remainFirstWrong)

/-- 'abacuslaw06.RemainFloors': WHATEVER THE INPUT: true; the input reads as it did. -/
def remainFloorsSpec : ChangeSpec := { name := "remainFloors", fn := fun _ => fun
  | [d] => { results := [.lit (.bool true)], args := [d] }
  | _ => none }
def remainFloorsRow : OpenClaim := { program := "ytjmcfampoajbmaadoor", sum := "c7f0a049facfbddb1857daf1d3af0d63083ee22c773c1d0343d8066bbd7351d8", func := "abacus/abacuslaw06.RemainFloors", spec := "remainFloors", inPlace := ["math/bits.Add64", "math/bits.Sub64"], unfollowed := true, recurses := true, named := ["math/bits.deBruijn64tab", "math/bits.divideError", "math/bits.overflowError"], apart := false, laid := [("math/bits.deBruijn64tab", laid_math_bits_deBruijn64tab)] }
def RemainFloorsSaid : Prop := remainFloorsRow.holds Tryd.pinned (OpenSpec.ofChange remainFloorsSpec)

/-- ITS FALSE NEIGHBOUR: 'it returns false'. Refute it at one input. -/
def remainFloorsWrong : ChangeSpec := { name := "remainFloors", fn := fun _ => fun
  | [d] => { results := [.lit (.bool false)], args := [d] }
  | _ => none }
def RemainFloorsWrongFalsely : Prop := remainFloorsRow.holds Tryd.pinned (OpenSpec.ofChange remainFloorsWrong)

/-- 'abacuslaw06.RemainJoins': WHATEVER THE INPUT: true; the input reads as it did. -/
def remainJoinsSpec : ChangeSpec := { name := "remainJoins", fn := fun _ => fun
  | [d] => { results := [.lit (.bool true)], args := [d] }
  | _ => none }
def remainJoinsRow : OpenClaim := { program := "ytjmcfampoajbmaadoor", sum := "c7f0a049facfbddb1857daf1d3af0d63083ee22c773c1d0343d8066bbd7351d8", func := "abacus/abacuslaw06.RemainJoins", spec := "remainJoins", inPlace := ["math/bits.Add64", "math/bits.Sub64"], unfollowed := true, recurses := true, named := ["math/bits.deBruijn64tab", "math/bits.divideError", "math/bits.overflowError"], apart := false, laid := [("math/bits.deBruijn64tab", laid_math_bits_deBruijn64tab)] }
def RemainJoinsSaid : Prop := remainJoinsRow.holds Tryd.pinned (OpenSpec.ofChange remainJoinsSpec)

/-- ITS FALSE NEIGHBOUR: 'it returns false'. Refute it at one input. -/
def remainJoinsWrong : ChangeSpec := { name := "remainJoins", fn := fun _ => fun
  | [d] => { results := [.lit (.bool false)], args := [d] }
  | _ => none }
def RemainJoinsWrongFalsely : Prop := remainJoinsRow.holds Tryd.pinned (OpenSpec.ofChange remainJoinsWrong)

/- THE SECOND FORM. 'bulk': how many values and letters a reading holds, each counted each time it is reached (what is shared counts as often as it is met; a slice's spare places count too). A statement '..UptoSaid' is the law's where the arguments, and the package variables that the reading takes, are together of bulk at most 1048576: NARROWER than '..Said'. Prove '..Said' where nothing that the law and all that it calls make is longer than what came in: it says more and counts as full. Else prove '..UptoSaid'. A law counts once. -/
mutual
def uptoBulk {H : Type} : DataW H → Nat
  | .lit (.string bytes) => bytes.length + 1
  | .lit _ => 1
  | .nil => 1
  | .ptr d => uptoBulk d + 1
  | .slice elems spare => uptoBulkAll elems + uptoBulkAll spare + 1
  | .agg parts => uptoBulkAll parts + 1
  | .iface _ d => uptoBulk d + 1
  | .map entries => uptoBulkEntries entries + 1
  | .held _ => 1
def uptoBulkAll {H : Type} : List (DataW H) → Nat
  | [] => 0
  | d :: r => uptoBulk d + uptoBulkAll r
def uptoBulkEntries {H : Type} : List (Lit × DataW H) → Nat
  | [] => 0
  | x :: r => uptoBulkEntry x + uptoBulkEntries r
def uptoBulkEntry {H : Type} : Lit × DataW H → Nat
  | (.string bytes, d) => bytes.length + uptoBulk d + 1
  | (_, d) => uptoBulk d + 1
 end
def uptoSmall : (H : Type) → List (DataW H) → Bool := fun _ ds => decide (uptoBulkAll ds ≤ 1048576)
def OpenSpec.upto (s : _root_.Go.ChangeSpec) : _root_.Go.OpenSpec := { _root_.Go.OpenSpec.ofChange s with cond := some uptoSmall }

/-- 'abacuslaw06.RemainSteps', WHERE WHAT IT READS IS OF BULK AT MOST 1048576: true; the input reads as it did. -/
def remainStepsUptoRow : OpenClaim := { program := "ytjmcfampoajbmaadoor", sum := "c7f0a049facfbddb1857daf1d3af0d63083ee22c773c1d0343d8066bbd7351d8", func := "abacus/abacuslaw06.RemainSteps", spec := "remainSteps", inPlace := ["math/bits.Add64", "math/bits.Sub64"], unfollowed := true, recurses := true, named := ["math/bits.deBruijn64tab", "math/bits.divideError", "math/bits.overflowError"], apart := false, laid := [("math/bits.deBruijn64tab", laid_math_bits_deBruijn64tab)], narrowed := true }
def RemainStepsUptoSaid : Prop := remainStepsUptoRow.holds Tryd.pinned (OpenSpec.upto remainStepsSpec)

/-- 'abacuslaw06.RemainNearest', WHERE WHAT IT READS IS OF BULK AT MOST 1048576: true; the input reads as it did. -/
def remainNearestUptoRow : OpenClaim := { program := "ytjmcfampoajbmaadoor", sum := "c7f0a049facfbddb1857daf1d3af0d63083ee22c773c1d0343d8066bbd7351d8", func := "abacus/abacuslaw06.RemainNearest", spec := "remainNearest", inPlace := ["math/bits.Add64", "math/bits.Sub64"], unfollowed := true, recurses := true, named := ["math/bits.deBruijn64tab", "math/bits.divideError", "math/bits.overflowError"], apart := false, laid := [("math/bits.deBruijn64tab", laid_math_bits_deBruijn64tab)], narrowed := true }
def RemainNearestUptoSaid : Prop := remainNearestUptoRow.holds Tryd.pinned (OpenSpec.upto remainNearestSpec)

/-- 'abacuslaw06.RemainWraps', WHERE WHAT IT READS IS OF BULK AT MOST 1048576: true; the input reads as it did. -/
def remainWrapsUptoRow : OpenClaim := { program := "ytjmcfampoajbmaadoor", sum := "c7f0a049facfbddb1857daf1d3af0d63083ee22c773c1d0343d8066bbd7351d8", func := "abacus/abacuslaw06.RemainWraps", spec := "remainWraps", inPlace := ["math/bits.Add64", "math/bits.Sub64"], unfollowed := true, recurses := true, named := ["math/bits.deBruijn64tab", "math/bits.divideError", "math/bits.overflowError"], apart := false, laid := [("math/bits.deBruijn64tab", laid_math_bits_deBruijn64tab)], narrowed := true }
def RemainWrapsUptoSaid : Prop := remainWrapsUptoRow.holds Tryd.pinned (OpenSpec.upto remainWrapsSpec)

/-- 'abacuslaw06.RemainCentres', WHERE WHAT IT READS IS OF BULK AT MOST 1048576: true; the input reads as it did. -/
def remainCentresUptoRow : OpenClaim := { program := "ytjmcfampoajbmaadoor", sum := "c7f0a049facfbddb1857daf1d3af0d63083ee22c773c1d0343d8066bbd7351d8", func := "abacus/abacuslaw06.RemainCentres", spec := "remainCentres", inPlace := ["math/bits.Add64", "math/bits.Sub64"], unfollowed := true, recurses := true, named := ["math/bits.deBruijn64tab", "math/bits.divideError", "math/bits.overflowError"], apart := false, laid := [("math/bits.deBruijn64tab", laid_math_bits_deBruijn64tab)], narrowed := true }
def RemainCentresUptoSaid : Prop := remainCentresUptoRow.holds Tryd.pinned (OpenSpec.upto remainCentresSpec)

/-- 'abacuslaw06.RemainFirst', WHERE WHAT IT READS IS OF BULK AT MOST 1048576: true; the input reads as it did. -/
def remainFirstUptoRow : OpenClaim := { program := "ytjmcfampoajbmaadoor", sum := "c7f0a049facfbddb1857daf1d3af0d63083ee22c773c1d0343d8066bbd7351d8", func := "abacus/abacuslaw06.RemainFirst", spec := "remainFirst", inPlace := ["math/bits.Add64", "math/bits.Sub64"], unfollowed := true, recurses := true, named := ["math/bits.deBruijn64tab", "math/bits.divideError", "math/bits.overflowError"], apart := false, laid := [("math/bits.deBruijn64tab", laid_math_bits_deBruijn64tab)], narrowed := true }
def RemainFirstUptoSaid : Prop := remainFirstUptoRow.holds Tryd.pinned (OpenSpec.upto remainFirstSpec)

/-- 'abacuslaw06.RemainFloors', WHERE WHAT IT READS IS OF BULK AT MOST 1048576: true; the input reads as it did. -/
def remainFloorsUptoRow : OpenClaim := { program := "ytjmcfampoajbmaadoor", sum := "c7f0a049facfbddb1857daf1d3af0d63083ee22c773c1d0343d8066bbd7351d8", func := "abacus/abacuslaw06.RemainFloors", spec := "remainFloors", inPlace := ["math/bits.Add64", "math/bits.Sub64"], unfollowed := true, recurses := true, named := ["math/bits.deBruijn64tab", "math/bits.divideError", "math/bits.overflowError"], apart := false, laid := [("math/bits.deBruijn64tab", laid_math_bits_deBruijn64tab)], narrowed := true }
def RemainFloorsUptoSaid : Prop := remainFloorsUptoRow.holds Tryd.pinned (OpenSpec.upto remainFloorsSpec)

/-- 'abacuslaw06.RemainJoins', WHERE WHAT IT READS IS OF BULK AT MOST 1048576: true; the input reads as it did. -/
def remainJoinsUptoRow : OpenClaim := { program := "ytjmcfampoajbmaadoor", sum := "c7f0a049facfbddb1857daf1d3af0d63083ee22c773c1d0343d8066bbd7351d8", func := "abacus/abacuslaw06.RemainJoins", spec := "remainJoins", inPlace := ["math/bits.Add64", "math/bits.Sub64"], unfollowed := true, recurses := true, named := ["math/bits.deBruijn64tab", "math/bits.divideError", "math/bits.overflowError"], apart := false, laid := [("math/bits.deBruijn64tab", laid_math_bits_deBruijn64tab)], narrowed := true }
def RemainJoinsUptoSaid : Prop := remainJoinsUptoRow.holds Tryd.pinned (OpenSpec.upto remainJoinsSpec)

end Rows
end Go.Proofs.YtjmcfampoajbmaaDoor
