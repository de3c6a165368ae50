/-
  NARROWER THAN 'FOR EVERY INPUT', by the rows' own cells (each row's printed sentence says how): SoftSterbenz: laid · SoftTwoSum: laid · SoftNearSum: laid · SoftTwoProduct: laid · SoftNearProduct: laid · SoftNearRoot: laid · SoftFmas: laid · SoftNearQuotient: laid · SoftReckons: laid · SoftSigns: laid · SoftFlags: laid.
  DERIVED. THE GIVEN ROWS OF THIS SEAT. 11 by the template 'for every input the law returns true; each argument reads behind the call as it read before'; 0 by the template 'total and deterministic' (their statements: YtcdnoklokoplaaaDoorTotals.lean).
  GIVEN WITH THE SEED: the statements are not yours to turn. If you find one false, say at which input.
  Laid BY PROGRAM, IN A SANDBOX (cutbox-rows.mjs): the forced cells as the released guide's own fill.sh prints them over the translation b609abed4d0c8728… (all of the seat's roots in one cut). By AI agents, Wed Nov 11 2026. No macro, syntax, notation, axiom, sorry.
-/
import Derived.Test.YtcdnoklokoplaaaDoorChecked
import GoSem.Claim
import GoSem.ClaimJoined
import GoSem.ClaimMapViews
import Derived.JoinedTies
import Derived.KernelRfl
namespace Go.Proofs.YtcdnoklokoplaaaDoor
/- THE CELL 'sum', in the pinned program and in every row, IS THE sha256 OF THE DUMP (.gsa) THAT YtcdnoklokoplaaaDoorProg.lean LOADS. Nothing in Lean hashes anything: it is a label: what it is worth is what the hold of that sum in a sandbox is worth. -/
noncomputable def Tryd.pinned : Pinned := { name := "ytcdnoklokoplaaadoor", sum := "b609abed4d0c872893ea43a2e4896d0df6da927a18bcaedd20fc583ca752c998", checked := Tryd.checked }
namespace Rows
def none {H : Type} : Left H := { results := [], args := [] }

/- WHAT THE LISTED PACKAGE-LEVEL VARIABLES READ AS WHEN THE CALL BEGINS. Each datum BY PROGRAM (the guide's laid-datum.mjs) off the statement by which the dump's own 'gosem.cut.vars' lays the variable. In a bare row this is a premise. The card (YtcdnoklokoplaaaDoorCards.lean) ties it to the program's text. -/
def laid_math_bits_deBruijn64tab {H : Type} : DataW H := .agg [.lit (.int .u8 0), .lit (.int .u8 1), .lit (.int .u8 56), .lit (.int .u8 2), .lit (.int .u8 57), .lit (.int .u8 49), .lit (.int .u8 28), .lit (.int .u8 3), .lit (.int .u8 61), .lit (.int .u8 58), .lit (.int .u8 42), .lit (.int .u8 50), .lit (.int .u8 38), .lit (.int .u8 29), .lit (.int .u8 17), .lit (.int .u8 4), .lit (.int .u8 62), .lit (.int .u8 47), .lit (.int .u8 59), .lit (.int .u8 36), .lit (.int .u8 45), .lit (.int .u8 43), .lit (.int .u8 51), .lit (.int .u8 22), .lit (.int .u8 53), .lit (.int .u8 39), .lit (.int .u8 33), .lit (.int .u8 30), .lit (.int .u8 24), .lit (.int .u8 18), .lit (.int .u8 12), .lit (.int .u8 5), .lit (.int .u8 63), .lit (.int .u8 55), .lit (.int .u8 48), .lit (.int .u8 27), .lit (.int .u8 60), .lit (.int .u8 41), .lit (.int .u8 37), .lit (.int .u8 16), .lit (.int .u8 46), .lit (.int .u8 35), .lit (.int .u8 44), .lit (.int .u8 21), .lit (.int .u8 52), .lit (.int .u8 32), .lit (.int .u8 23), .lit (.int .u8 11), .lit (.int .u8 54), .lit (.int .u8 26), .lit (.int .u8 40), .lit (.int .u8 15), .lit (.int .u8 34), .lit (.int .u8 20), .lit (.int .u8 31), .lit (.int .u8 10), .lit (.int .u8 25), .lit (.int .u8 14), .lit (.int .u8 19), .lit (.int .u8 9), .lit (.int .u8 13), .lit (.int .u8 8), .lit (.int .u8 7), .lit (.int .u8 6)]

/-- 'abacuslaw05.SoftSterbenz': WHATEVER THE INPUT: true; the input reads as it did. -/
def softSterbenzSpec : ChangeSpec := { name := "softSterbenz", fn := fun _ => fun
  | [d1, d2] => { results := [.lit (.bool true)], args := [d1, d2] }
  | _ => none }
def softSterbenzRow : OpenClaim := { program := "ytcdnoklokoplaaadoor", sum := "b609abed4d0c872893ea43a2e4896d0df6da927a18bcaedd20fc583ca752c998", func := "abacus/abacuslaw05.SoftSterbenz", spec := "softSterbenz", inPlace := ["math/bits.Add64", "math/bits.Sub64"], named := ["math/bits.deBruijn64tab"], apart := false, laid := [("math/bits.deBruijn64tab", laid_math_bits_deBruijn64tab)] }
def SoftSterbenzSaid : Prop := softSterbenzRow.holds Tryd.pinned (OpenSpec.ofChange softSterbenzSpec)

/-- ITS FALSE NEIGHBOUR: 'it returns false'. Refute it at one input. -/
def softSterbenzWrong : ChangeSpec := { name := "softSterbenz", fn := fun _ => fun
  | [d1, d2] => { results := [.lit (.bool false)], args := [d1, d2] }
  | _ => none }
def SoftSterbenzWrongFalsely : Prop := softSterbenzRow.holds Tryd.pinned (OpenSpec.ofChange softSterbenzWrong)

/-- 'abacuslaw05.SoftTwoSum': WHATEVER THE INPUT: true; the input reads as it did. -/
def softTwoSumSpec : ChangeSpec := { name := "softTwoSum", fn := fun _ => fun
  | [d1, d2] => { results := [.lit (.bool true)], args := [d1, d2] }
  | _ => none }
def softTwoSumRow : OpenClaim := { program := "ytcdnoklokoplaaadoor", sum := "b609abed4d0c872893ea43a2e4896d0df6da927a18bcaedd20fc583ca752c998", func := "abacus/abacuslaw05.SoftTwoSum", spec := "softTwoSum", inPlace := ["math/bits.Add64", "math/bits.Sub64"], named := ["math/bits.deBruijn64tab"], apart := false, laid := [("math/bits.deBruijn64tab", laid_math_bits_deBruijn64tab)] }
def SoftTwoSumSaid : Prop := softTwoSumRow.holds Tryd.pinned (OpenSpec.ofChange softTwoSumSpec)

/-- ITS FALSE NEIGHBOUR: 'it returns false'. Refute it at one input. -/
def softTwoSumWrong : ChangeSpec := { name := "softTwoSum", fn := fun _ => fun
  | [d1, d2] => { results := [.lit (.bool false)], args := [d1, d2] }
  | _ => none }
def SoftTwoSumWrongFalsely : Prop := softTwoSumRow.holds Tryd.pinned (OpenSpec.ofChange softTwoSumWrong)

/-- 'abacuslaw05.SoftNearSum': WHATEVER THE INPUT: true; the input reads as it did. -/
def softNearSumSpec : ChangeSpec := { name := "softNearSum", fn := fun _ => fun
  | [d1, d2] => { results := [.lit (.bool true)], args := [d1, d2] }
  | _ => none }
def softNearSumRow : OpenClaim := { program := "ytcdnoklokoplaaadoor", sum := "b609abed4d0c872893ea43a2e4896d0df6da927a18bcaedd20fc583ca752c998", func := "abacus/abacuslaw05.SoftNearSum", spec := "softNearSum", inPlace := ["math/bits.Add64", "math/bits.Sub64"], named := ["math/bits.deBruijn64tab"], apart := false, laid := [("math/bits.deBruijn64tab", laid_math_bits_deBruijn64tab)] }
def SoftNearSumSaid : Prop := softNearSumRow.holds Tryd.pinned (OpenSpec.ofChange softNearSumSpec)

/-- ITS FALSE NEIGHBOUR: 'it returns false'. Refute it at one input. -/
def softNearSumWrong : ChangeSpec := { name := "softNearSum", fn := fun _ => fun
  | [d1, d2] => { results := [.lit (.bool false)], args := [d1, d2] }
  | _ => none }
def SoftNearSumWrongFalsely : Prop := softNearSumRow.holds Tryd.pinned (OpenSpec.ofChange softNearSumWrong)

/-- 'abacuslaw05.SoftTwoProduct': WHATEVER THE INPUT: true; the input reads as it did. -/
def softTwoProductSpec : ChangeSpec := { name := "softTwoProduct", fn := fun _ => fun
  | [d1, d2] => { results := [.lit (.bool true)], args := [d1, d2] }
  | _ => none }
def softTwoProductRow : OpenClaim := { program := "ytcdnoklokoplaaadoor", sum := "b609abed4d0c872893ea43a2e4896d0df6da927a18bcaedd20fc583ca752c998", func := "abacus/abacuslaw05.SoftTwoProduct", spec := "softTwoProduct", inPlace := ["math/bits.Add64", "math/bits.Sub64"], named := ["math/bits.deBruijn64tab"], apart := false, laid := [("math/bits.deBruijn64tab", laid_math_bits_deBruijn64tab)] }
def SoftTwoProductSaid : Prop := softTwoProductRow.holds Tryd.pinned (OpenSpec.ofChange softTwoProductSpec)

/-- ITS FALSE NEIGHBOUR: 'it returns false'. Refute it at one input. -/
def softTwoProductWrong : ChangeSpec := { name := "softTwoProduct", fn := fun _ => fun
  | [d1, d2] => { results := [.lit (.bool false)], args := [d1, d2] }
  | _ => none }
def SoftTwoProductWrongFalsely : Prop := softTwoProductRow.holds Tryd.pinned (OpenSpec.ofChange softTwoProductWrong)

/-- 'abacuslaw05.SoftNearProduct': WHATEVER THE INPUT: true; the input reads as it did. -/
def softNearProductSpec : ChangeSpec := { name := "softNearProduct", fn := fun _ => fun
  | [d1, d2, d3] => { results := [.lit (.bool true)], args := [d1, d2, d3] }
  | _ => none }
def softNearProductRow : OpenClaim := { program := "ytcdnoklokoplaaadoor", sum := "b609abed4d0c872893ea43a2e4896d0df6da927a18bcaedd20fc583ca752c998", func := "abacus/abacuslaw05.SoftNearProduct", spec := "softNearProduct", inPlace := ["math/bits.Add64", "math/bits.Sub64"], named := ["math/bits.deBruijn64tab"], apart := false, laid := [("math/bits.deBruijn64tab", laid_math_bits_deBruijn64tab)] }
def SoftNearProductSaid : Prop := softNearProductRow.holds Tryd.pinned (OpenSpec.ofChange softNearProductSpec)

/-- ITS FALSE NEIGHBOUR: 'it returns false'. Refute it at one input. -/
def softNearProductWrong : ChangeSpec := { name := "softNearProduct", fn := fun _ => fun
  | [d1, d2, d3] => { results := [.lit (.bool false)], args := [d1, d2, d3] }
  | _ => none }
def SoftNearProductWrongFalsely : Prop := softNearProductRow.holds Tryd.pinned (OpenSpec.ofChange softNearProductWrong)

/-- 'abacuslaw05.SoftNearRoot': WHATEVER THE INPUT: true; the input reads as it did. -/
def softNearRootSpec : ChangeSpec := { name := "softNearRoot", fn := fun _ => fun
  | [d] => { results := [.lit (.bool true)], args := [d] }
  | _ => none }
def softNearRootRow : OpenClaim := { program := "ytcdnoklokoplaaadoor", sum := "b609abed4d0c872893ea43a2e4896d0df6da927a18bcaedd20fc583ca752c998", func := "abacus/abacuslaw05.SoftNearRoot", spec := "softNearRoot", inPlace := ["math/bits.Add64", "math/bits.Sub64"], named := ["math/bits.divideError", "math/bits.overflowError", "math/bits.deBruijn64tab"], apart := false, laid := [("math/bits.deBruijn64tab", laid_math_bits_deBruijn64tab)] }
def SoftNearRootSaid : Prop := softNearRootRow.holds Tryd.pinned (OpenSpec.ofChange softNearRootSpec)

/-- ITS FALSE NEIGHBOUR: 'it returns false'. Refute it at one input. -/
def softNearRootWrong : ChangeSpec := { name := "softNearRoot", fn := fun _ => fun
  | [d] => { results := [.lit (.bool false)], args := [d] }
  | _ => none }
def SoftNearRootWrongFalsely : Prop := softNearRootRow.holds Tryd.pinned (OpenSpec.ofChange softNearRootWrong)

/-- 'abacuslaw05.SoftFmas': WHATEVER THE INPUT: true; the input reads as it did. -/
def softFmasSpec : ChangeSpec := { name := "softFmas", fn := fun _ => fun
  | [d] => { results := [.lit (.bool true)], args := [d] }
  | _ => none }
def softFmasRow : OpenClaim := { program := "ytcdnoklokoplaaadoor", sum := "b609abed4d0c872893ea43a2e4896d0df6da927a18bcaedd20fc583ca752c998", func := "abacus/abacuslaw05.SoftFmas", spec := "softFmas", inPlace := ["math/bits.Add64", "math/bits.Sub64"], named := ["math/bits.deBruijn64tab", "math/bits.divideError", "math/bits.overflowError"], apart := false, laid := [("math/bits.deBruijn64tab", laid_math_bits_deBruijn64tab)] }
def SoftFmasSaid : Prop := softFmasRow.holds Tryd.pinned (OpenSpec.ofChange softFmasSpec)

/-- ITS FALSE NEIGHBOUR: 'it returns false'. Refute it at one input. -/
def softFmasWrong : ChangeSpec := { name := "softFmas", fn := fun _ => fun
  | [d] => { results := [.lit (.bool false)], args := [d] }
  | _ => none }
def SoftFmasWrongFalsely : Prop := softFmasRow.holds Tryd.pinned (OpenSpec.ofChange softFmasWrong)

/-- 'abacuslaw05.SoftNearQuotient': WHATEVER THE INPUT: true; the input reads as it did. -/
def softNearQuotientSpec : ChangeSpec := { name := "softNearQuotient", fn := fun _ => fun
  | [d1, d2] => { results := [.lit (.bool true)], args := [d1, d2] }
  | _ => none }
def softNearQuotientRow : OpenClaim := { program := "ytcdnoklokoplaaadoor", sum := "b609abed4d0c872893ea43a2e4896d0df6da927a18bcaedd20fc583ca752c998", func := "abacus/abacuslaw05.SoftNearQuotient", spec := "softNearQuotient", inPlace := ["math/bits.Add64", "math/bits.Sub64"], named := ["math/bits.deBruijn64tab", "math/bits.divideError", "math/bits.overflowError"], apart := false, laid := [("math/bits.deBruijn64tab", laid_math_bits_deBruijn64tab)] }
def SoftNearQuotientSaid : Prop := softNearQuotientRow.holds Tryd.pinned (OpenSpec.ofChange softNearQuotientSpec)

/-- ITS FALSE NEIGHBOUR: 'it returns false'. Refute it at one input. -/
def softNearQuotientWrong : ChangeSpec := { name := "softNearQuotient", fn := fun _ => fun
  | [d1, d2] => { results := [.lit (.bool false)], args := [d1, d2] }
  | _ => none }
def SoftNearQuotientWrongFalsely : Prop := softNearQuotientRow.holds Tryd.pinned (OpenSpec.ofChange softNearQuotientWrong)

/-- 'abacuslaw05.SoftReckons': WHATEVER THE INPUT: true; the input reads as it did. -/
def softReckonsSpec : ChangeSpec := { name := "softReckons", fn := fun _ => fun
  | [d] => { results := [.lit (.bool true)], args := [d] }
  | _ => none }
def softReckonsRow : OpenClaim := { program := "ytcdnoklokoplaaadoor", sum := "b609abed4d0c872893ea43a2e4896d0df6da927a18bcaedd20fc583ca752c998", func := "abacus/abacuslaw05.SoftReckons", spec := "softReckons", inPlace := ["math/bits.Add64", "math/bits.Sub64"], named := ["math/bits.deBruijn64tab", "math/bits.divideError", "math/bits.overflowError"], apart := false, laid := [("math/bits.deBruijn64tab", laid_math_bits_deBruijn64tab)] }
def SoftReckonsSaid : Prop := softReckonsRow.holds Tryd.pinned (OpenSpec.ofChange softReckonsSpec)

/-- ITS FALSE NEIGHBOUR: 'it returns false'. Refute it at one input. -/
def softReckonsWrong : ChangeSpec := { name := "softReckons", fn := fun _ => fun
  | [d] => { results := [.lit (.bool false)], args := [d] }
  | _ => none }
def SoftReckonsWrongFalsely : Prop := softReckonsRow.holds Tryd.pinned (OpenSpec.ofChange softReckonsWrong)

/-- 'abacuslaw05.SoftSigns': WHATEVER THE INPUT: true; the input reads as it did. -/
def softSignsSpec : ChangeSpec := { name := "softSigns", fn := fun _ => fun
  | [d1, d2, d3] => { results := [.lit (.bool true)], args := [d1, d2, d3] }
  | _ => none }
def softSignsRow : OpenClaim := { program := "ytcdnoklokoplaaadoor", sum := "b609abed4d0c872893ea43a2e4896d0df6da927a18bcaedd20fc583ca752c998", func := "abacus/abacuslaw05.SoftSigns", spec := "softSigns", inPlace := ["math/bits.Add64", "math/bits.Sub64"], named := ["math/bits.deBruijn64tab", "math/bits.divideError", "math/bits.overflowError"], apart := false, laid := [("math/bits.deBruijn64tab", laid_math_bits_deBruijn64tab)] }
def SoftSignsSaid : Prop := softSignsRow.holds Tryd.pinned (OpenSpec.ofChange softSignsSpec)

/-- ITS FALSE NEIGHBOUR: 'it returns false'. Refute it at one input. -/
def softSignsWrong : ChangeSpec := { name := "softSigns", fn := fun _ => fun
  | [d1, d2, d3] => { results := [.lit (.bool false)], args := [d1, d2, d3] }
  | _ => none }
def SoftSignsWrongFalsely : Prop := softSignsRow.holds Tryd.pinned (OpenSpec.ofChange softSignsWrong)

/-- 'abacuslaw05.SoftFlags': WHATEVER THE INPUT: true; the input reads as it did. -/
def softFlagsSpec : ChangeSpec := { name := "softFlags", fn := fun _ => fun
  | [d] => { results := [.lit (.bool true)], args := [d] }
  | _ => none }
def softFlagsRow : OpenClaim := { program := "ytcdnoklokoplaaadoor", sum := "b609abed4d0c872893ea43a2e4896d0df6da927a18bcaedd20fc583ca752c998", func := "abacus/abacuslaw05.SoftFlags", spec := "softFlags", inPlace := ["math/bits.Add64", "math/bits.Sub64"], unfollowed := true, recurses := true, named := ["math/bits.deBruijn64tab", "math/bits.divideError", "math/bits.overflowError"], apart := false, laid := [("math/bits.deBruijn64tab", laid_math_bits_deBruijn64tab)] }
def SoftFlagsSaid : Prop := softFlagsRow.holds Tryd.pinned (OpenSpec.ofChange softFlagsSpec)

/-- ITS FALSE NEIGHBOUR: 'it returns false'. Refute it at one input. -/
def softFlagsWrong : ChangeSpec := { name := "softFlags", fn := fun _ => fun
  | [d] => { results := [.lit (.bool false)], args := [d] }
  | _ => none }
def SoftFlagsWrongFalsely : Prop := softFlagsRow.holds Tryd.pinned (OpenSpec.ofChange softFlagsWrong)

/- THE SECOND FORM. 'bulk': how many values and letters a reading holds, each counted each time it is reached (what is shared counts as often as it is met; a slice's spare places count too). A statement '..UptoSaid' is the law's where the arguments, and the package variables that the reading takes, are together of bulk at most 1048576: NARROWER than '..Said'. Prove '..Said' where nothing that the law and all that it calls make is longer than what came in: it says more and counts as full. Else prove '..UptoSaid'. A law counts once. -/
mutual
def uptoBulk {H : Type} : DataW H → Nat
  | .lit (.string bytes) => bytes.length + 1
  | .lit _ => 1
  | .nil => 1
  | .ptr d => uptoBulk d + 1
  | .slice elems spare => uptoBulkAll elems + uptoBulkAll spare + 1
  | .agg parts => uptoBulkAll parts + 1
  | .iface _ d => uptoBulk d + 1
  | .map entries => uptoBulkEntries entries + 1
  | .held _ => 1
def uptoBulkAll {H : Type} : List (DataW H) → Nat
  | [] => 0
  | d :: r => uptoBulk d + uptoBulkAll r
def uptoBulkEntries {H : Type} : List (Lit × DataW H) → Nat
  | [] => 0
  | x :: r => uptoBulkEntry x + uptoBulkEntries r
def uptoBulkEntry {H : Type} : Lit × DataW H → Nat
  | (.string bytes, d) => bytes.length + uptoBulk d + 1
  | (_, d) => uptoBulk d + 1
 end
def uptoSmall : (H : Type) → List (DataW H) → Bool := fun _ ds => decide (uptoBulkAll ds ≤ 1048576)
def OpenSpec.upto (s : _root_.Go.ChangeSpec) : _root_.Go.OpenSpec := { _root_.Go.OpenSpec.ofChange s with cond := some uptoSmall }

/-- 'abacuslaw05.SoftSterbenz', WHERE WHAT IT READS IS OF BULK AT MOST 1048576: true; the input reads as it did. -/
def softSterbenzUptoRow : OpenClaim := { program := "ytcdnoklokoplaaadoor", sum := "b609abed4d0c872893ea43a2e4896d0df6da927a18bcaedd20fc583ca752c998", func := "abacus/abacuslaw05.SoftSterbenz", spec := "softSterbenz", inPlace := ["math/bits.Add64", "math/bits.Sub64"], named := ["math/bits.deBruijn64tab"], apart := false, laid := [("math/bits.deBruijn64tab", laid_math_bits_deBruijn64tab)], narrowed := true }
def SoftSterbenzUptoSaid : Prop := softSterbenzUptoRow.holds Tryd.pinned (OpenSpec.upto softSterbenzSpec)

/-- 'abacuslaw05.SoftTwoSum', WHERE WHAT IT READS IS OF BULK AT MOST 1048576: true; the input reads as it did. -/
def softTwoSumUptoRow : OpenClaim := { program := "ytcdnoklokoplaaadoor", sum := "b609abed4d0c872893ea43a2e4896d0df6da927a18bcaedd20fc583ca752c998", func := "abacus/abacuslaw05.SoftTwoSum", spec := "softTwoSum", inPlace := ["math/bits.Add64", "math/bits.Sub64"], named := ["math/bits.deBruijn64tab"], apart := false, laid := [("math/bits.deBruijn64tab", laid_math_bits_deBruijn64tab)], narrowed := true }
def SoftTwoSumUptoSaid : Prop := softTwoSumUptoRow.holds Tryd.pinned (OpenSpec.upto softTwoSumSpec)

/-- 'abacuslaw05.SoftNearSum', WHERE WHAT IT READS IS OF BULK AT MOST 1048576: true; the input reads as it did. -/
def softNearSumUptoRow : OpenClaim := { program := "ytcdnoklokoplaaadoor", sum := "b609abed4d0c872893ea43a2e4896d0df6da927a18bcaedd20fc583ca752c998", func := "abacus/abacuslaw05.SoftNearSum", spec := "softNearSum", inPlace := ["math/bits.Add64", "math/bits.Sub64"], named := ["math/bits.deBruijn64tab"], apart := false, laid := [("math/bits.deBruijn64tab", laid_math_bits_deBruijn64tab)], narrowed := true }
def SoftNearSumUptoSaid : Prop := softNearSumUptoRow.holds Tryd.pinned (OpenSpec.upto softNearSumSpec)

/-- 'abacuslaw05.SoftTwoProduct', WHERE WHAT IT READS IS OF BULK AT MOST 1048576: true; the input reads as it did. -/
def softTwoProductUptoRow : OpenClaim := { program := "ytcdnoklokoplaaadoor", sum := "b609abed4d0c872893ea43a2e4896d0df6da927a18bcaedd20fc583ca752c998", func := "abacus/abacuslaw05.SoftTwoProduct", spec := "softTwoProduct", inPlace := ["math/bits.Add64", "math/bits.Sub64"], named := ["math/bits.deBruijn64tab"], apart := false, laid := [("math/bits.deBruijn64tab", laid_math_bits_deBruijn64tab)], narrowed := true }
def SoftTwoProductUptoSaid : Prop := softTwoProductUptoRow.holds Tryd.pinned (OpenSpec.upto softTwoProductSpec)

/-- 'abacuslaw05.SoftNearProduct', WHERE WHAT IT READS IS OF BULK AT MOST 1048576: true; the input reads as it did. -/
def softNearProductUptoRow : OpenClaim := { program := "ytcdnoklokoplaaadoor", sum := "b609abed4d0c872893ea43a2e4896d0df6da927a18bcaedd20fc583ca752c998", func := "abacus/abacuslaw05.SoftNearProduct", spec := "softNearProduct", inPlace := ["math/bits.Add64", "math/bits.Sub64"], named := ["math/bits.deBruijn64tab"], apart := false, laid := [("math/bits.deBruijn64tab", laid_math_bits_deBruijn64tab)], narrowed := true }
def SoftNearProductUptoSaid : Prop := softNearProductUptoRow.holds Tryd.pinned (OpenSpec.upto softNearProductSpec)

/-- 'abacuslaw05.SoftNearRoot', WHERE WHAT IT READS IS OF BULK AT MOST 1048576: true; the input reads as it did. -/
def softNearRootUptoRow : OpenClaim := { program := "ytcdnoklokoplaaadoor", sum := "b609abed4d0c872893ea43a2e4896d0df6da927a18bcaedd20fc583ca752c998", func := "abacus/abacuslaw05.SoftNearRoot", spec := "softNearRoot", inPlace := ["math/bits.Add64", "math/bits.Sub64"], named := ["math/bits.divideError", "math/bits.overflowError", "math/bits.deBruijn64tab"], apart := false, laid := [("math/bits.deBruijn64tab", laid_math_bits_deBruijn64tab)], narrowed := true }
def SoftNearRootUptoSaid : Prop := softNearRootUptoRow.holds Tryd.pinned (OpenSpec.upto softNearRootSpec)

/-- 'abacuslaw05.SoftFmas', WHERE WHAT IT READS IS OF BULK AT MOST 1048576: true; the input reads as it did. -/
def softFmasUptoRow : OpenClaim := { program := "ytcdnoklokoplaaadoor", sum := "b609abed4d0c872893ea43a2e4896d0df6da927a18bcaedd20fc583ca752c998", func := "abacus/abacuslaw05.SoftFmas", spec := "softFmas", inPlace := ["math/bits.Add64", "math/bits.Sub64"], named := ["math/bits.deBruijn64tab", "math/bits.divideError", "math/bits.overflowError"], apart := false, laid := [("math/bits.deBruijn64tab", laid_math_bits_deBruijn64tab)], narrowed := true }
def SoftFmasUptoSaid : Prop := softFmasUptoRow.holds Tryd.pinned (OpenSpec.upto softFmasSpec)

/-- 'abacuslaw05.SoftNearQuotient', WHERE WHAT IT READS IS OF BULK AT MOST 1048576: true; the input reads as it did. -/
def softNearQuotientUptoRow : OpenClaim := { program := "ytcdnoklokoplaaadoor", sum := "b609abed4d0c872893ea43a2e4896d0df6da927a18bcaedd20fc583ca752c998", func := "abacus/abacuslaw05.SoftNearQuotient", spec := "softNearQuotient", inPlace := ["math/bits.Add64", "math/bits.Sub64"], named := ["math/bits.deBruijn64tab", "math/bits.divideError", "math/bits.overflowError"], apart := false, laid := [("math/bits.deBruijn64tab", laid_math_bits_deBruijn64tab)], narrowed := true }
def SoftNearQuotientUptoSaid : Prop := softNearQuotientUptoRow.holds Tryd.pinned (OpenSpec.upto softNearQuotientSpec)

/-- 'abacuslaw05.SoftReckons', WHERE WHAT IT READS IS OF BULK AT MOST 1048576: true; the input reads as it did. -/
def softReckonsUptoRow : OpenClaim := { program := "ytcdnoklokoplaaadoor", sum := "b609abed4d0c872893ea43a2e4896d0df6da927a18bcaedd20fc583ca752c998", func := "abacus/abacuslaw05.SoftReckons", spec := "softReckons", inPlace := ["math/bits.Add64", "math/bits.Sub64"], named := ["math/bits.deBruijn64tab", "math/bits.divideError", "math/bits.overflowError"], apart := false, laid := [("math/bits.deBruijn64tab", laid_math_bits_deBruijn64tab)], narrowed := true }
def SoftReckonsUptoSaid : Prop := softReckonsUptoRow.holds Tryd.pinned (OpenSpec.upto softReckonsSpec)

/-- 'abacuslaw05.SoftSigns', WHERE WHAT IT READS IS OF BULK AT MOST 1048576: true; the input reads as it did. -/
def softSignsUptoRow : OpenClaim := { program := "ytcdnoklokoplaaadoor", sum := "b609abed4d0c872893ea43a2e4896d0df6da927a18bcaedd20fc583ca752c998", func := "abacus/abacuslaw05.SoftSigns", spec := "softSigns", inPlace := ["math/bits.Add64", "math/bits.Sub64"], named := ["math/bits.deBruijn64tab", "math/bits.divideError", "math/bits.overflowError"], apart := false, laid := [("math/bits.deBruijn64tab", laid_math_bits_deBruijn64tab)], narrowed := true }
def SoftSignsUptoSaid : Prop := softSignsUptoRow.holds Tryd.pinned (OpenSpec.upto softSignsSpec)

/-- 'abacuslaw05.SoftFlags', WHERE WHAT IT READS IS OF BULK AT MOST 1048576: true; the input reads as it did. -/
def softFlagsUptoRow : OpenClaim := { program := "ytcdnoklokoplaaadoor", sum := "b609abed4d0c872893ea43a2e4896d0df6da927a18bcaedd20fc583ca752c998", func := "abacus/abacuslaw05.SoftFlags", spec := "softFlags", inPlace := ["math/bits.Add64", "math/bits.Sub64"], unfollowed := true, recurses := true, named := ["math/bits.deBruijn64tab", "math/bits.divideError", "math/bits.overflowError"], apart := false, laid := [("math/bits.deBruijn64tab", laid_math_bits_deBruijn64tab)], narrowed := true }
def SoftFlagsUptoSaid : Prop := softFlagsUptoRow.holds Tryd.pinned (OpenSpec.upto softFlagsSpec)

end Rows
end Go.Proofs.YtcdnoklokoplaaaDoor
