/-
  NARROWER THAN 'FOR EVERY INPUT', by the rows' own cells (each row's printed sentence says how): IeeeRising: laid · IeeeParts: laid · IeeeRanks: laid · IeeeOrder: laid · IeeeNearest: laid · IeeeScaled: laid · IeeeWhole: laid · IeeeExact: laid · IeeeMemory: laid.
  DERIVED. THE GIVEN ROWS OF THIS SEAT. 9 by the template 'for every input the law returns true; each argument reads behind the call as it read before'; 0 by the template 'total and deterministic' (their statements: YtiigfmmflicdpaaDoorTotals.lean).
  GIVEN WITH THE SEED: the statements are not yours to turn. If you find one false, say at which input.
  Laid BY PROGRAM, IN A SANDBOX (cutbox-rows.mjs): the forced cells as the released guide's own fill.sh prints them over the translation 3dbd7bb593abb8fc… (all of the seat's roots in one cut). By AI agents, Wed Nov 11 2026. No macro, syntax, notation, axiom, sorry.
-/
import Derived.Test.YtiigfmmflicdpaaDoorChecked
import GoSem.Claim
import GoSem.ClaimJoined
import GoSem.ClaimMapViews
import Derived.JoinedTies
import Derived.KernelRfl
namespace Go.Proofs.YtiigfmmflicdpaaDoor
/- THE CELL 'sum', in the pinned program and in every row, IS THE sha256 OF THE DUMP (.gsa) THAT YtiigfmmflicdpaaDoorProg.lean LOADS. Nothing in Lean hashes anything: it is a label: what it is worth is what the hold of that sum in a sandbox is worth. -/
noncomputable def Tryd.pinned : Pinned := { name := "ytiigfmmflicdpaadoor", sum := "3dbd7bb593abb8fc91a1f8cb5f634b2ec8cbb124c66cdc3af7e1f5867ad1c648", checked := Tryd.checked }
namespace Rows
def none {H : Type} : Left H := { results := [], args := [] }

/- WHAT THE LISTED PACKAGE-LEVEL VARIABLES READ AS WHEN THE CALL BEGINS. Each datum BY PROGRAM (the guide's laid-datum.mjs) off the statement by which the dump's own 'gosem.cut.vars' lays the variable. In a bare row this is a premise. The card (YtiigfmmflicdpaaDoorCards.lean) ties it to the program's text. -/
def laid_math_bits_deBruijn64tab {H : Type} : DataW H := .agg [.lit (.int .u8 0), .lit (.int .u8 1), .lit (.int .u8 56), .lit (.int .u8 2), .lit (.int .u8 57), .lit (.int .u8 49), .lit (.int .u8 28), .lit (.int .u8 3), .lit (.int .u8 61), .lit (.int .u8 58), .lit (.int .u8 42), .lit (.int .u8 50), .lit (.int .u8 38), .lit (.int .u8 29), .lit (.int .u8 17), .lit (.int .u8 4), .lit (.int .u8 62), .lit (.int .u8 47), .lit (.int .u8 59), .lit (.int .u8 36), .lit (.int .u8 45), .lit (.int .u8 43), .lit (.int .u8 51), .lit (.int .u8 22), .lit (.int .u8 53), .lit (.int .u8 39), .lit (.int .u8 33), .lit (.int .u8 30), .lit (.int .u8 24), .lit (.int .u8 18), .lit (.int .u8 12), .lit (.int .u8 5), .lit (.int .u8 63), .lit (.int .u8 55), .lit (.int .u8 48), .lit (.int .u8 27), .lit (.int .u8 60), .lit (.int .u8 41), .lit (.int .u8 37), .lit (.int .u8 16), .lit (.int .u8 46), .lit (.int .u8 35), .lit (.int .u8 44), .lit (.int .u8 21), .lit (.int .u8 52), .lit (.int .u8 32), .lit (.int .u8 23), .lit (.int .u8 11), .lit (.int .u8 54), .lit (.int .u8 26), .lit (.int .u8 40), .lit (.int .u8 15), .lit (.int .u8 34), .lit (.int .u8 20), .lit (.int .u8 31), .lit (.int .u8 10), .lit (.int .u8 25), .lit (.int .u8 14), .lit (.int .u8 19), .lit (.int .u8 9), .lit (.int .u8 13), .lit (.int .u8 8), .lit (.int .u8 7), .lit (.int .u8 6)]

/-- 'abacuslaw04.IeeeRising': WHATEVER THE INPUT: true; the input reads as it did. -/
def ieeeRisingSpec : ChangeSpec := { name := "ieeeRising", fn := fun _ => fun
  | [d] => { results := [.lit (.bool true)], args := [d] }
  | _ => none }
def ieeeRisingRow : OpenClaim := { program := "ytiigfmmflicdpaadoor", sum := "3dbd7bb593abb8fc91a1f8cb5f634b2ec8cbb124c66cdc3af7e1f5867ad1c648", func := "abacus/abacuslaw04.IeeeRising", spec := "ieeeRising", inPlace := ["math/bits.Add64", "math/bits.Sub64"], named := ["math/bits.deBruijn64tab", "math/bits.divideError", "math/bits.overflowError"], apart := false, laid := [("math/bits.deBruijn64tab", laid_math_bits_deBruijn64tab)] }
def IeeeRisingSaid : Prop := ieeeRisingRow.holds Tryd.pinned (OpenSpec.ofChange ieeeRisingSpec)

/-- ITS FALSE NEIGHBOUR: 'it returns false'. Refute it at one input. -/
def ieeeRisingWrong : ChangeSpec := { name := "ieeeRising", fn := fun _ => fun
  | [d] => { results := [.lit (.bool false)], args := [d] }
  | _ => none }
def IeeeRisingWrongFalsely : Prop := ieeeRisingRow.holds Tryd.pinned (OpenSpec.ofChange ieeeRisingWrong)

/-- 'abacuslaw04.IeeeParts': WHATEVER THE INPUT: true; the input reads as it did. -/
def ieeePartsSpec : ChangeSpec := { name := "ieeeParts", fn := fun _ => fun
  | [d] => { results := [.lit (.bool true)], args := [d] }
  | _ => none }
def ieeePartsRow : OpenClaim := { program := "ytiigfmmflicdpaadoor", sum := "3dbd7bb593abb8fc91a1f8cb5f634b2ec8cbb124c66cdc3af7e1f5867ad1c648", func := "abacus/abacuslaw04.IeeeParts", spec := "ieeeParts", inPlace := ["math/bits.Add64", "math/bits.Sub64"], named := ["math/bits.deBruijn64tab", "math/bits.divideError", "math/bits.overflowError"], apart := false, laid := [("math/bits.deBruijn64tab", laid_math_bits_deBruijn64tab)] }
def IeeePartsSaid : Prop := ieeePartsRow.holds Tryd.pinned (OpenSpec.ofChange ieeePartsSpec)

/-- ITS FALSE NEIGHBOUR: 'it returns false'. Refute it at one input. -/
def ieeePartsWrong : ChangeSpec := { name := "ieeeParts", fn := fun _ => fun
  | [d] => { results := [.lit (.bool false)], args := [d] }
  | _ => none }
def IeeePartsWrongFalsely : Prop := ieeePartsRow.holds Tryd.pinned (OpenSpec.ofChange ieeePartsWrong)

/-- 'abacuslaw04.IeeeRanks': WHATEVER THE INPUT: true; the input reads as it did. -/
def ieeeRanksSpec : ChangeSpec := { name := "ieeeRanks", fn := fun _ => fun
  | [d] => { results := [.lit (.bool true)], args := [d] }
  | _ => none }
def ieeeRanksRow : OpenClaim := { program := "ytiigfmmflicdpaadoor", sum := "3dbd7bb593abb8fc91a1f8cb5f634b2ec8cbb124c66cdc3af7e1f5867ad1c648", func := "abacus/abacuslaw04.IeeeRanks", spec := "ieeeRanks", inPlace := ["math/bits.Add64", "math/bits.Sub64"], named := ["math/bits.deBruijn64tab", "math/bits.divideError", "math/bits.overflowError"], apart := false, laid := [("math/bits.deBruijn64tab", laid_math_bits_deBruijn64tab)] }
def IeeeRanksSaid : Prop := ieeeRanksRow.holds Tryd.pinned (OpenSpec.ofChange ieeeRanksSpec)

/-- ITS FALSE NEIGHBOUR: 'it returns false'. Refute it at one input. -/
def ieeeRanksWrong : ChangeSpec := { name := "ieeeRanks", fn := fun _ => fun
  | [d] => { results := [.lit (.bool false)], args := [d] }
  | _ => none }
def IeeeRanksWrongFalsely : Prop := ieeeRanksRow.holds Tryd.pinned (OpenSpec.ofChange ieeeRanksWrong)

/-- 'abacuslaw04.IeeeOrder': WHATEVER THE INPUT: true; the input reads as it did. -/
def ieeeOrderSpec : ChangeSpec := { name := "ieeeOrder", fn := fun _ => fun
  | [d1, d2, d3] => { results := [.lit (.bool true)], args := [d1, d2, d3] }
  | _ => none }
def ieeeOrderRow : OpenClaim := { program := "ytiigfmmflicdpaadoor", sum := "3dbd7bb593abb8fc91a1f8cb5f634b2ec8cbb124c66cdc3af7e1f5867ad1c648", func := "abacus/abacuslaw04.IeeeOrder", spec := "ieeeOrder", inPlace := ["math/bits.Add64", "math/bits.Sub64"], named := ["math/bits.deBruijn64tab", "math/bits.divideError", "math/bits.overflowError"], apart := false, laid := [("math/bits.deBruijn64tab", laid_math_bits_deBruijn64tab)] }
def IeeeOrderSaid : Prop := ieeeOrderRow.holds Tryd.pinned (OpenSpec.ofChange ieeeOrderSpec)

/-- ITS FALSE NEIGHBOUR: 'it returns false'. Refute it at one input. -/
def ieeeOrderWrong : ChangeSpec := { name := "ieeeOrder", fn := fun _ => fun
  | [d1, d2, d3] => { results := [.lit (.bool false)], args := [d1, d2, d3] }
  | _ => none }
def IeeeOrderWrongFalsely : Prop := ieeeOrderRow.holds Tryd.pinned (OpenSpec.ofChange ieeeOrderWrong)

/-- 'abacuslaw04.IeeeNearest': WHATEVER THE INPUT: true; the input reads as it did. -/
def ieeeNearestSpec : ChangeSpec := { name := "ieeeNearest", fn := fun _ => fun
  | [d] => { results := [.lit (.bool true)], args := [d] }
  | _ => none }
def ieeeNearestRow : OpenClaim := { program := "ytiigfmmflicdpaadoor", sum := "3dbd7bb593abb8fc91a1f8cb5f634b2ec8cbb124c66cdc3af7e1f5867ad1c648", func := "abacus/abacuslaw04.IeeeNearest", spec := "ieeeNearest", inPlace := ["math/bits.Add64", "math/bits.Sub64"], named := ["math/bits.deBruijn64tab", "math/bits.divideError", "math/bits.overflowError"], apart := false, laid := [("math/bits.deBruijn64tab", laid_math_bits_deBruijn64tab)] }
def IeeeNearestSaid : Prop := ieeeNearestRow.holds Tryd.pinned (OpenSpec.ofChange ieeeNearestSpec)

/-- ITS FALSE NEIGHBOUR: 'it returns false'. Refute it at one input. -/
def ieeeNearestWrong : ChangeSpec := { name := "ieeeNearest", fn := fun _ => fun
  | [d] => { results := [.lit (.bool false)], args := [d] }
  | _ => none }
def IeeeNearestWrongFalsely : Prop := ieeeNearestRow.holds Tryd.pinned (OpenSpec.ofChange ieeeNearestWrong)

/-- 'abacuslaw04.IeeeScaled': WHATEVER THE INPUT: true; the input reads as it did. -/
def ieeeScaledSpec : ChangeSpec := { name := "ieeeScaled", fn := fun _ => fun
  | [d] => { results := [.lit (.bool true)], args := [d] }
  | _ => none }
def ieeeScaledRow : OpenClaim := { program := "ytiigfmmflicdpaadoor", sum := "3dbd7bb593abb8fc91a1f8cb5f634b2ec8cbb124c66cdc3af7e1f5867ad1c648", func := "abacus/abacuslaw04.IeeeScaled", spec := "ieeeScaled", inPlace := ["math/bits.Add64", "math/bits.Sub64"], named := ["math/bits.deBruijn64tab", "math/bits.divideError", "math/bits.overflowError"], apart := false, laid := [("math/bits.deBruijn64tab", laid_math_bits_deBruijn64tab)] }
def IeeeScaledSaid : Prop := ieeeScaledRow.holds Tryd.pinned (OpenSpec.ofChange ieeeScaledSpec)

/-- ITS FALSE NEIGHBOUR: 'it returns false'. Refute it at one input. -/
def ieeeScaledWrong : ChangeSpec := { name := "ieeeScaled", fn := fun _ => fun
  | [d] => { results := [.lit (.bool false)], args := [d] }
  | _ => none }
def IeeeScaledWrongFalsely : Prop := ieeeScaledRow.holds Tryd.pinned (OpenSpec.ofChange ieeeScaledWrong)

/-- 'abacuslaw04.IeeeWhole': WHATEVER THE INPUT: true; the input reads as it did. -/
def ieeeWholeSpec : ChangeSpec := { name := "ieeeWhole", fn := fun _ => fun
  | [d1, d2] => { results := [.lit (.bool true)], args := [d1, d2] }
  | _ => none }
def ieeeWholeRow : OpenClaim := { program := "ytiigfmmflicdpaadoor", sum := "3dbd7bb593abb8fc91a1f8cb5f634b2ec8cbb124c66cdc3af7e1f5867ad1c648", func := "abacus/abacuslaw04.IeeeWhole", spec := "ieeeWhole", inPlace := ["math/bits.Add64", "math/bits.Sub64"], named := ["math/bits.deBruijn64tab", "math/bits.divideError", "math/bits.overflowError"], apart := false, laid := [("math/bits.deBruijn64tab", laid_math_bits_deBruijn64tab)] }
def IeeeWholeSaid : Prop := ieeeWholeRow.holds Tryd.pinned (OpenSpec.ofChange ieeeWholeSpec)

/-- ITS FALSE NEIGHBOUR: 'it returns false'. Refute it at one input. -/
def ieeeWholeWrong : ChangeSpec := { name := "ieeeWhole", fn := fun _ => fun
  | [d1, d2] => { results := [.lit (.bool false)], args := [d1, d2] }
  | _ => none }
def IeeeWholeWrongFalsely : Prop := ieeeWholeRow.holds Tryd.pinned (OpenSpec.ofChange ieeeWholeWrong)

/-- 'abacuslaw04.IeeeExact': WHATEVER THE INPUT: true; the input reads as it did. -/
def ieeeExactSpec : ChangeSpec := { name := "ieeeExact", fn := fun _ => fun
  | [d] => { results := [.lit (.bool true)], args := [d] }
  | _ => none }
def ieeeExactRow : OpenClaim := { program := "ytiigfmmflicdpaadoor", sum := "3dbd7bb593abb8fc91a1f8cb5f634b2ec8cbb124c66cdc3af7e1f5867ad1c648", func := "abacus/abacuslaw04.IeeeExact", spec := "ieeeExact", inPlace := ["math/bits.Add64", "math/bits.Sub64"], named := ["math/bits.deBruijn64tab", "math/bits.divideError", "math/bits.overflowError"], apart := false, laid := [("math/bits.deBruijn64tab", laid_math_bits_deBruijn64tab)] }
def IeeeExactSaid : Prop := ieeeExactRow.holds Tryd.pinned (OpenSpec.ofChange ieeeExactSpec)

/-- ITS FALSE NEIGHBOUR: 'it returns false'. Refute it at one input. -/
def ieeeExactWrong : ChangeSpec := { name := "ieeeExact", fn := fun _ => fun
  | [d] => { results := [.lit (.bool false)], args := [d] }
  | _ => none }
def IeeeExactWrongFalsely : Prop := ieeeExactRow.holds Tryd.pinned (OpenSpec.ofChange ieeeExactWrong)

/-- 'abacuslaw04.IeeeMemory': WHATEVER THE INPUT: true; the input reads as it did. -/
def ieeeMemorySpec : ChangeSpec := { name := "ieeeMemory", fn := fun _ => fun
  | [d] => { results := [.lit (.bool true)], args := [d] }
  | _ => none }
def ieeeMemoryRow : OpenClaim := { program := "ytiigfmmflicdpaadoor", sum := "3dbd7bb593abb8fc91a1f8cb5f634b2ec8cbb124c66cdc3af7e1f5867ad1c648", func := "abacus/abacuslaw04.IeeeMemory", spec := "ieeeMemory", inPlace := ["math/bits.Add64", "math/bits.Sub64"], named := ["math/bits.deBruijn64tab", "math/bits.divideError", "math/bits.overflowError"], apart := false, laid := [("math/bits.deBruijn64tab", laid_math_bits_deBruijn64tab)] }
def IeeeMemorySaid : Prop := ieeeMemoryRow.holds Tryd.pinned (OpenSpec.ofChange ieeeMemorySpec)

/-- ITS FALSE NEIGHBOUR: 'it returns false'. Refute it at one input. -/
def ieeeMemoryWrong : ChangeSpec := { name := "ieeeMemory", fn := fun _ => fun
  | [d] => { results := [.lit (.bool false)], args := [d] }
  | _ => none }
def IeeeMemoryWrongFalsely : Prop := ieeeMemoryRow.holds Tryd.pinned (OpenSpec.ofChange ieeeMemoryWrong)

/- THE SECOND FORM. 'bulk': how many values and letters a reading holds, each counted each time it is reached (what is shared counts as often as it is met; a slice's spare places count too). A statement '..UptoSaid' is the law's where the arguments, and the package variables that the reading takes, are together of bulk at most 1048576: NARROWER than '..Said'. Prove '..Said' where nothing that the law and all that it calls make is longer than what came in: it says more and counts as full. Else prove '..UptoSaid'. A law counts once. -/
mutual
def uptoBulk {H : Type} : DataW H → Nat
  | .lit (.string bytes) => bytes.length + 1
  | .lit _ => 1
  | .nil => 1
  | .ptr d => uptoBulk d + 1
  | .slice elems spare => uptoBulkAll elems + uptoBulkAll spare + 1
  | .agg parts => uptoBulkAll parts + 1
  | .iface _ d => uptoBulk d + 1
  | .map entries => uptoBulkEntries entries + 1
  | .held _ => 1
def uptoBulkAll {H : Type} : List (DataW H) → Nat
  | [] => 0
  | d :: r => uptoBulk d + uptoBulkAll r
def uptoBulkEntries {H : Type} : List (Lit × DataW H) → Nat
  | [] => 0
  | x :: r => uptoBulkEntry x + uptoBulkEntries r
def uptoBulkEntry {H : Type} : Lit × DataW H → Nat
  | (.string bytes, d) => bytes.length + uptoBulk d + 1
  | (_, d) => uptoBulk d + 1
 end
def uptoSmall : (H : Type) → List (DataW H) → Bool := fun _ ds => decide (uptoBulkAll ds ≤ 1048576)
def OpenSpec.upto (s : _root_.Go.ChangeSpec) : _root_.Go.OpenSpec := { _root_.Go.OpenSpec.ofChange s with cond := some uptoSmall }

/-- 'abacuslaw04.IeeeRising', WHERE WHAT IT READS IS OF BULK AT MOST 1048576: true; the input reads as it did. -/
def ieeeRisingUptoRow : OpenClaim := { program := "ytiigfmmflicdpaadoor", sum := "3dbd7bb593abb8fc91a1f8cb5f634b2ec8cbb124c66cdc3af7e1f5867ad1c648", func := "abacus/abacuslaw04.IeeeRising", spec := "ieeeRising", inPlace := ["math/bits.Add64", "math/bits.Sub64"], named := ["math/bits.deBruijn64tab", "math/bits.divideError", "math/bits.overflowError"], apart := false, laid := [("math/bits.deBruijn64tab", laid_math_bits_deBruijn64tab)], narrowed := true }
def IeeeRisingUptoSaid : Prop := ieeeRisingUptoRow.holds Tryd.pinned (OpenSpec.upto ieeeRisingSpec)

/-- 'abacuslaw04.IeeeParts', WHERE WHAT IT READS IS OF BULK AT MOST 1048576: true; the input reads as it did. -/
def ieeePartsUptoRow : OpenClaim := { program := "ytiigfmmflicdpaadoor", sum := "3dbd7bb593abb8fc91a1f8cb5f634b2ec8cbb124c66cdc3af7e1f5867ad1c648", func := "abacus/abacuslaw04.IeeeParts", spec := "ieeeParts", inPlace := ["math/bits.Add64", "math/bits.Sub64"], named := ["math/bits.deBruijn64tab", "math/bits.divideError", "math/bits.overflowError"], apart := false, laid := [("math/bits.deBruijn64tab", laid_math_bits_deBruijn64tab)], narrowed := true }
def IeeePartsUptoSaid : Prop := ieeePartsUptoRow.holds Tryd.pinned (OpenSpec.upto ieeePartsSpec)

/-- 'abacuslaw04.IeeeRanks', WHERE WHAT IT READS IS OF BULK AT MOST 1048576: true; the input reads as it did. -/
def ieeeRanksUptoRow : OpenClaim := { program := "ytiigfmmflicdpaadoor", sum := "3dbd7bb593abb8fc91a1f8cb5f634b2ec8cbb124c66cdc3af7e1f5867ad1c648", func := "abacus/abacuslaw04.IeeeRanks", spec := "ieeeRanks", inPlace := ["math/bits.Add64", "math/bits.Sub64"], named := ["math/bits.deBruijn64tab", "math/bits.divideError", "math/bits.overflowError"], apart := false, laid := [("math/bits.deBruijn64tab", laid_math_bits_deBruijn64tab)], narrowed := true }
def IeeeRanksUptoSaid : Prop := ieeeRanksUptoRow.holds Tryd.pinned (OpenSpec.upto ieeeRanksSpec)

/-- 'abacuslaw04.IeeeOrder', WHERE WHAT IT READS IS OF BULK AT MOST 1048576: true; the input reads as it did. -/
def ieeeOrderUptoRow : OpenClaim := { program := "ytiigfmmflicdpaadoor", sum := "3dbd7bb593abb8fc91a1f8cb5f634b2ec8cbb124c66cdc3af7e1f5867ad1c648", func := "abacus/abacuslaw04.IeeeOrder", spec := "ieeeOrder", inPlace := ["math/bits.Add64", "math/bits.Sub64"], named := ["math/bits.deBruijn64tab", "math/bits.divideError", "math/bits.overflowError"], apart := false, laid := [("math/bits.deBruijn64tab", laid_math_bits_deBruijn64tab)], narrowed := true }
def IeeeOrderUptoSaid : Prop := ieeeOrderUptoRow.holds Tryd.pinned (OpenSpec.upto ieeeOrderSpec)

/-- 'abacuslaw04.IeeeNearest', WHERE WHAT IT READS IS OF BULK AT MOST 1048576: true; the input reads as it did. -/
def ieeeNearestUptoRow : OpenClaim := { program := "ytiigfmmflicdpaadoor", sum := "3dbd7bb593abb8fc91a1f8cb5f634b2ec8cbb124c66cdc3af7e1f5867ad1c648", func := "abacus/abacuslaw04.IeeeNearest", spec := "ieeeNearest", inPlace := ["math/bits.Add64", "math/bits.Sub64"], named := ["math/bits.deBruijn64tab", "math/bits.divideError", "math/bits.overflowError"], apart := false, laid := [("math/bits.deBruijn64tab", laid_math_bits_deBruijn64tab)], narrowed := true }
def IeeeNearestUptoSaid : Prop := ieeeNearestUptoRow.holds Tryd.pinned (OpenSpec.upto ieeeNearestSpec)

/-- 'abacuslaw04.IeeeScaled', WHERE WHAT IT READS IS OF BULK AT MOST 1048576: true; the input reads as it did. -/
def ieeeScaledUptoRow : OpenClaim := { program := "ytiigfmmflicdpaadoor", sum := "3dbd7bb593abb8fc91a1f8cb5f634b2ec8cbb124c66cdc3af7e1f5867ad1c648", func := "abacus/abacuslaw04.IeeeScaled", spec := "ieeeScaled", inPlace := ["math/bits.Add64", "math/bits.Sub64"], named := ["math/bits.deBruijn64tab", "math/bits.divideError", "math/bits.overflowError"], apart := false, laid := [("math/bits.deBruijn64tab", laid_math_bits_deBruijn64tab)], narrowed := true }
def IeeeScaledUptoSaid : Prop := ieeeScaledUptoRow.holds Tryd.pinned (OpenSpec.upto ieeeScaledSpec)

/-- 'abacuslaw04.IeeeWhole', WHERE WHAT IT READS IS OF BULK AT MOST 1048576: true; the input reads as it did. -/
def ieeeWholeUptoRow : OpenClaim := { program := "ytiigfmmflicdpaadoor", sum := "3dbd7bb593abb8fc91a1f8cb5f634b2ec8cbb124c66cdc3af7e1f5867ad1c648", func := "abacus/abacuslaw04.IeeeWhole", spec := "ieeeWhole", inPlace := ["math/bits.Add64", "math/bits.Sub64"], named := ["math/bits.deBruijn64tab", "math/bits.divideError", "math/bits.overflowError"], apart := false, laid := [("math/bits.deBruijn64tab", laid_math_bits_deBruijn64tab)], narrowed := true }
def IeeeWholeUptoSaid : Prop := ieeeWholeUptoRow.holds Tryd.pinned (OpenSpec.upto ieeeWholeSpec)

/-- 'abacuslaw04.IeeeExact', WHERE WHAT IT READS IS OF BULK AT MOST 1048576: true; the input reads as it did. -/
def ieeeExactUptoRow : OpenClaim := { program := "ytiigfmmflicdpaadoor", sum := "3dbd7bb593abb8fc91a1f8cb5f634b2ec8cbb124c66cdc3af7e1f5867ad1c648", func := "abacus/abacuslaw04.IeeeExact", spec := "ieeeExact", inPlace := ["math/bits.Add64", "math/bits.Sub64"], named := ["math/bits.deBruijn64tab", "math/bits.divideError", "math/bits.overflowError"], apart := false, laid := [("math/bits.deBruijn64tab", laid_math_bits_deBruijn64tab)], narrowed := true }
def IeeeExactUptoSaid : Prop := ieeeExactUptoRow.holds Tryd.pinned (OpenSpec.upto ieeeExactSpec)

/-- 'abacuslaw04.IeeeMemory', WHERE WHAT IT READS IS OF BULK AT MOST 1048576: true; the input reads as it did. -/
def ieeeMemoryUptoRow : OpenClaim := { program := "ytiigfmmflicdpaadoor", sum := "3dbd7bb593abb8fc91a1f8cb5f634b2ec8cbb124c66cdc3af7e1f5867ad1c648", func := "abacus/abacuslaw04.IeeeMemory", spec := "ieeeMemory", inPlace := ["math/bits.Add64", "math/bits.Sub64"], named := ["math/bits.deBruijn64tab", "math/bits.divideError", "math/bits.overflowError"], apart := false, laid := [("math/bits.deBruijn64tab", laid_math_bits_deBruijn64tab)], narrowed := true }
def IeeeMemoryUptoSaid : Prop := ieeeMemoryUptoRow.holds Tryd.pinned (OpenSpec.upto ieeeMemorySpec)

end Rows
end Go.Proofs.YtiigfmmflicdpaaDoor
