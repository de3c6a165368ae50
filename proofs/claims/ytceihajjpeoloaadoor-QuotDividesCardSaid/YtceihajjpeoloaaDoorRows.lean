/-
  NARROWER THAN 'FOR EVERY INPUT', by the rows' own cells (each row's printed sentence says how): CoreDivides: laid · SoftReckons: laid · SoftFmas: laid · QuotRoots: laid · IeeeExact: laid · NatExact: laid · QuotDivides: laid · IeeeRising: laid.
  DERIVED. THE GIVEN ROWS OF THIS SEAT. 8 by the template 'for every input the law returns true; each argument reads behind the call as it read before'; 0 by the template 'total and deterministic' (their statements: YtceihajjpeoloaaDoorTotals.lean).
  GIVEN WITH THE SEED: the statements are not yours to turn. If you find one false, say at which input.
  Laid BY PROGRAM, IN A SANDBOX (cutbox-rows.mjs): the forced cells as the released guide's own fill.sh prints them over the translation 94a4c3a1304df2a5… (all of the seat's roots in one cut). By AI agents, Wed Nov 11 2026. No macro, syntax, notation, axiom, sorry.
-/
import Derived.Test.YtceihajjpeoloaaDoorChecked
import GoSem.Claim
import GoSem.ClaimJoined
import GoSem.ClaimMapViews
import Derived.JoinedTies
import Derived.KernelRfl
namespace Go.Proofs.YtceihajjpeoloaaDoor
/- THE CELL 'sum', in the pinned program and in every row, IS THE sha256 OF THE DUMP (.gsa) THAT YtceihajjpeoloaaDoorProg.lean LOADS. Nothing in Lean hashes anything: it is a label: what it is worth is what the hold of that sum in a sandbox is worth. -/
noncomputable def Tryd.pinned : Pinned := { name := "ytceihajjpeoloaadoor", sum := "94a4c3a1304df2a5f9dfa58ed4e2242b2c911aed04f5d47e3847ccf28fe09ba4", checked := Tryd.checked }
namespace Rows
def none {H : Type} : Left H := { results := [], args := [] }

/- WHAT THE LISTED PACKAGE-LEVEL VARIABLES READ AS WHEN THE CALL BEGINS. Each datum BY PROGRAM (the guide's laid-datum.mjs) off the statement by which the dump's own 'gosem.cut.vars' lays the variable. In a bare row this is a premise. The card (YtceihajjpeoloaaDoorCards.lean) ties it to the program's text. -/
def laid_math_bits_deBruijn64tab {H : Type} : DataW H := .agg [.lit (.int .u8 0), .lit (.int .u8 1), .lit (.int .u8 56), .lit (.int .u8 2), .lit (.int .u8 57), .lit (.int .u8 49), .lit (.int .u8 28), .lit (.int .u8 3), .lit (.int .u8 61), .lit (.int .u8 58), .lit (.int .u8 42), .lit (.int .u8 50), .lit (.int .u8 38), .lit (.int .u8 29), .lit (.int .u8 17), .lit (.int .u8 4), .lit (.int .u8 62), .lit (.int .u8 47), .lit (.int .u8 59), .lit (.int .u8 36), .lit (.int .u8 45), .lit (.int .u8 43), .lit (.int .u8 51), .lit (.int .u8 22), .lit (.int .u8 53), .lit (.int .u8 39), .lit (.int .u8 33), .lit (.int .u8 30), .lit (.int .u8 24), .lit (.int .u8 18), .lit (.int .u8 12), .lit (.int .u8 5), .lit (.int .u8 63), .lit (.int .u8 55), .lit (.int .u8 48), .lit (.int .u8 27), .lit (.int .u8 60), .lit (.int .u8 41), .lit (.int .u8 37), .lit (.int .u8 16), .lit (.int .u8 46), .lit (.int .u8 35), .lit (.int .u8 44), .lit (.int .u8 21), .lit (.int .u8 52), .lit (.int .u8 32), .lit (.int .u8 23), .lit (.int .u8 11), .lit (.int .u8 54), .lit (.int .u8 26), .lit (.int .u8 40), .lit (.int .u8 15), .lit (.int .u8 34), .lit (.int .u8 20), .lit (.int .u8 31), .lit (.int .u8 10), .lit (.int .u8 25), .lit (.int .u8 14), .lit (.int .u8 19), .lit (.int .u8 9), .lit (.int .u8 13), .lit (.int .u8 8), .lit (.int .u8 7), .lit (.int .u8 6)]

/-- 'abacustop.CoreDivides': WHATEVER THE INPUT: true; the input reads as it did. -/
def coreDividesSpec : ChangeSpec := { name := "coreDivides", fn := fun _ => fun
  | [d1, d2] => { results := [.lit (.bool true)], args := [d1, d2] }
  | _ => none }
def coreDividesRow : OpenClaim := { program := "ytceihajjpeoloaadoor", sum := "94a4c3a1304df2a5f9dfa58ed4e2242b2c911aed04f5d47e3847ccf28fe09ba4", func := "abacus/abacustop.CoreDivides", spec := "coreDivides", inPlace := ["math/bits.Add64", "math/bits.Sub64"], named := ["math/bits.deBruijn64tab", "math/bits.divideError", "math/bits.overflowError"], apart := false, laid := [("math/bits.deBruijn64tab", laid_math_bits_deBruijn64tab)] }
def CoreDividesSaid : Prop := coreDividesRow.holds Tryd.pinned (OpenSpec.ofChange coreDividesSpec)

/-- ITS FALSE NEIGHBOUR: 'it returns false'. Refute it at one input. -/
def coreDividesWrong : ChangeSpec := { name := "coreDivides", fn := fun _ => fun
  | [d1, d2] => { results := [.lit (.bool false)], args := [d1, d2] }
  | _ => none }
def CoreDividesWrongFalsely : Prop := coreDividesRow.holds Tryd.pinned (OpenSpec.ofChange coreDividesWrong)

/-- 'abacuslaw05.SoftReckons': WHATEVER THE INPUT: true; the input reads as it did. -/
def softReckonsSpec : ChangeSpec := { name := "softReckons", fn := fun _ => fun
  | [d] => { results := [.lit (.bool true)], args := [d] }
  | _ => none }
def softReckonsRow : OpenClaim := { program := "ytceihajjpeoloaadoor", sum := "94a4c3a1304df2a5f9dfa58ed4e2242b2c911aed04f5d47e3847ccf28fe09ba4", func := "abacus/abacuslaw05.SoftReckons", spec := "softReckons", inPlace := ["math/bits.Add64", "math/bits.Sub64"], named := ["math/bits.deBruijn64tab", "math/bits.divideError", "math/bits.overflowError"], apart := false, laid := [("math/bits.deBruijn64tab", laid_math_bits_deBruijn64tab)] }
def SoftReckonsSaid : Prop := softReckonsRow.holds Tryd.pinned (OpenSpec.ofChange softReckonsSpec)

/-- ITS FALSE NEIGHBOUR: 'it returns false'. Refute it at one input. -/
def softReckonsWrong : ChangeSpec := { name := "softReckons", fn := fun _ => fun
  | [d] => { results := [.lit (.bool false)], args := [d] }
  | _ => none }
def SoftReckonsWrongFalsely : Prop := softReckonsRow.holds Tryd.pinned (OpenSpec.ofChange softReckonsWrong)

/-- 'abacuslaw05.SoftFmas': WHATEVER THE INPUT: true; the input reads as it did. -/
def softFmasSpec : ChangeSpec := { name := "softFmas", fn := fun _ => fun
  | [d] => { results := [.lit (.bool true)], args := [d] }
  | _ => none }
def softFmasRow : OpenClaim := { program := "ytceihajjpeoloaadoor", sum := "94a4c3a1304df2a5f9dfa58ed4e2242b2c911aed04f5d47e3847ccf28fe09ba4", func := "abacus/abacuslaw05.SoftFmas", spec := "softFmas", inPlace := ["math/bits.Add64", "math/bits.Sub64"], named := ["math/bits.deBruijn64tab", "math/bits.divideError", "math/bits.overflowError"], apart := false, laid := [("math/bits.deBruijn64tab", laid_math_bits_deBruijn64tab)] }
def SoftFmasSaid : Prop := softFmasRow.holds Tryd.pinned (OpenSpec.ofChange softFmasSpec)

/-- ITS FALSE NEIGHBOUR: 'it returns false'. Refute it at one input. -/
def softFmasWrong : ChangeSpec := { name := "softFmas", fn := fun _ => fun
  | [d] => { results := [.lit (.bool false)], args := [d] }
  | _ => none }
def SoftFmasWrongFalsely : Prop := softFmasRow.holds Tryd.pinned (OpenSpec.ofChange softFmasWrong)

/-- 'abacuslaw02.QuotRoots': WHATEVER THE INPUT: true; the input reads as it did. -/
def quotRootsSpec : ChangeSpec := { name := "quotRoots", fn := fun _ => fun
  | [d] => { results := [.lit (.bool true)], args := [d] }
  | _ => none }
def quotRootsRow : OpenClaim := { program := "ytceihajjpeoloaadoor", sum := "94a4c3a1304df2a5f9dfa58ed4e2242b2c911aed04f5d47e3847ccf28fe09ba4", func := "abacus/abacuslaw02.QuotRoots", spec := "quotRoots", inPlace := ["math/bits.Add64", "math/bits.Sub64"], named := ["math/bits.divideError", "math/bits.overflowError", "math/bits.deBruijn64tab"], apart := false, laid := [("math/bits.deBruijn64tab", laid_math_bits_deBruijn64tab)] }
def QuotRootsSaid : Prop := quotRootsRow.holds Tryd.pinned (OpenSpec.ofChange quotRootsSpec)

/-- ITS FALSE NEIGHBOUR: 'it returns false'. Refute it at one input. -/
def quotRootsWrong : ChangeSpec := { name := "quotRoots", fn := fun _ => fun
  | [d] => { results := [.lit (.bool false)], args := [d] }
  | _ => none }
def QuotRootsWrongFalsely : Prop := quotRootsRow.holds Tryd.pinned (OpenSpec.ofChange quotRootsWrong)

/-- 'abacuslaw04.IeeeExact': WHATEVER THE INPUT: true; the input reads as it did. -/
def ieeeExactSpec : ChangeSpec := { name := "ieeeExact", fn := fun _ => fun
  | [d] => { results := [.lit (.bool true)], args := [d] }
  | _ => none }
def ieeeExactRow : OpenClaim := { program := "ytceihajjpeoloaadoor", sum := "94a4c3a1304df2a5f9dfa58ed4e2242b2c911aed04f5d47e3847ccf28fe09ba4", func := "abacus/abacuslaw04.IeeeExact", spec := "ieeeExact", inPlace := ["math/bits.Add64", "math/bits.Sub64"], named := ["math/bits.deBruijn64tab", "math/bits.divideError", "math/bits.overflowError"], apart := false, laid := [("math/bits.deBruijn64tab", laid_math_bits_deBruijn64tab)] }
def IeeeExactSaid : Prop := ieeeExactRow.holds Tryd.pinned (OpenSpec.ofChange ieeeExactSpec)

/-- ITS FALSE NEIGHBOUR: 'it returns false'. Refute it at one input. -/
def ieeeExactWrong : ChangeSpec := { name := "ieeeExact", fn := fun _ => fun
  | [d] => { results := [.lit (.bool false)], args := [d] }
  | _ => none }
def IeeeExactWrongFalsely : Prop := ieeeExactRow.holds Tryd.pinned (OpenSpec.ofChange ieeeExactWrong)

/-- 'abacuslaw01.NatExact': WHATEVER THE INPUT: true; the input reads as it did. -/
def natExactSpec : ChangeSpec := { name := "natExact", fn := fun _ => fun
  | [d] => { results := [.lit (.bool true)], args := [d] }
  | _ => none }
def natExactRow : OpenClaim := { program := "ytceihajjpeoloaadoor", sum := "94a4c3a1304df2a5f9dfa58ed4e2242b2c911aed04f5d47e3847ccf28fe09ba4", func := "abacus/abacuslaw01.NatExact", spec := "natExact", inPlace := ["math/bits.Add64", "math/bits.Sub64"], named := ["math/bits.deBruijn64tab", "math/bits.divideError", "math/bits.overflowError"], apart := false, laid := [("math/bits.deBruijn64tab", laid_math_bits_deBruijn64tab)] }
def NatExactSaid : Prop := natExactRow.holds Tryd.pinned (OpenSpec.ofChange natExactSpec)

/-- ITS FALSE NEIGHBOUR: 'it returns false'. Refute it at one input. -/
def natExactWrong : ChangeSpec := { name := "natExact", fn := fun _ => fun
  | [d] => { results := [.lit (.bool false)], args := [d] }
  | _ => none }
def NatExactWrongFalsely : Prop := natExactRow.holds Tryd.pinned (OpenSpec.ofChange natExactWrong)

/-- 'abacuslaw02.QuotDivides': WHATEVER THE INPUT: true; the input reads as it did. -/
def quotDividesSpec : ChangeSpec := { name := "quotDivides", fn := fun _ => fun
  | [d] => { results := [.lit (.bool true)], args := [d] }
  | _ => none }
def quotDividesRow : OpenClaim := { program := "ytceihajjpeoloaadoor", sum := "94a4c3a1304df2a5f9dfa58ed4e2242b2c911aed04f5d47e3847ccf28fe09ba4", func := "abacus/abacuslaw02.QuotDivides", spec := "quotDivides", inPlace := ["math/bits.Add64", "math/bits.Sub64"], named := ["math/bits.divideError", "math/bits.overflowError", "math/bits.deBruijn64tab"], apart := false, laid := [("math/bits.deBruijn64tab", laid_math_bits_deBruijn64tab)] }
def QuotDividesSaid : Prop := quotDividesRow.holds Tryd.pinned (OpenSpec.ofChange quotDividesSpec)

/-- ITS FALSE NEIGHBOUR: 'it returns false'. Refute it at one input. -/
def quotDividesWrong : ChangeSpec := { name := "quotDivides", fn := fun _ => fun
  | [d] => { results := [.lit (.bool false)], args := [d] }
  | _ => none }
def QuotDividesWrongFalsely : Prop := quotDividesRow.holds Tryd.pinned (OpenSpec.ofChange quotDividesWrong)

/-- 'abacuslaw04.IeeeRising': WHATEVER THE INPUT: true; the input reads as it did. -/
def ieeeRisingSpec : ChangeSpec := { name := "ieeeRising", fn := fun _ => fun
  | [d] => { results := [.lit (.bool true)], args := [d] }
  | _ => none }
def ieeeRisingRow : OpenClaim := { program := "ytceihajjpeoloaadoor", sum := "94a4c3a1304df2a5f9dfa58ed4e2242b2c911aed04f5d47e3847ccf28fe09ba4", func := "abacus/abacuslaw04.IeeeRising", spec := "ieeeRising", inPlace := ["math/bits.Add64", "math/bits.Sub64"], named := ["math/bits.deBruijn64tab", "math/bits.divideError", "math/bits.overflowError"], apart := false, laid := [("math/bits.deBruijn64tab", laid_math_bits_deBruijn64tab)] }
def IeeeRisingSaid : Prop := ieeeRisingRow.holds Tryd.pinned (OpenSpec.ofChange ieeeRisingSpec)

/-- ITS FALSE NEIGHBOUR: 'it returns false'. Refute it at one input. -/
def ieeeRisingWrong : ChangeSpec := { name := "ieeeRising", fn := fun _ => fun
  | [d] => { results := [.lit (.bool false)], args := [d] }
  | _ => none }
def IeeeRisingWrongFalsely : Prop := ieeeRisingRow.holds Tryd.pinned (OpenSpec.ofChange ieeeRisingWrong)

/- THE SECOND FORM. 'bulk': how many values and letters a reading holds, each counted each time it is reached (what is shared counts as often as it is met; a slice's spare places count too). A statement '..UptoSaid' is the law's where the arguments, and the package variables that the reading takes, are together of bulk at most 1048576: NARROWER than '..Said'. Prove '..Said' where nothing that the law and all that it calls make is longer than what came in: it says more and counts as full. Else prove '..UptoSaid'. A law counts once. -/
mutual
def uptoBulk {H : Type} : DataW H → Nat
  | .lit (.string bytes) => bytes.length + 1
  | .lit _ => 1
  | .nil => 1
  | .ptr d => uptoBulk d + 1
  | .slice elems spare => uptoBulkAll elems + uptoBulkAll spare + 1
  | .agg parts => uptoBulkAll parts + 1
  | .iface _ d => uptoBulk d + 1
  | .map entries => uptoBulkEntries entries + 1
  | .held _ => 1
def uptoBulkAll {H : Type} : List (DataW H) → Nat
  | [] => 0
  | d :: r => uptoBulk d + uptoBulkAll r
def uptoBulkEntries {H : Type} : List (Lit × DataW H) → Nat
  | [] => 0
  | x :: r => uptoBulkEntry x + uptoBulkEntries r
def uptoBulkEntry {H : Type} : Lit × DataW H → Nat
  | (.string bytes, d) => bytes.length + uptoBulk d + 1
  | (_, d) => uptoBulk d + 1
 end
def uptoSmall : (H : Type) → List (DataW H) → Bool := fun _ ds => decide (uptoBulkAll ds ≤ 1048576)
def OpenSpec.upto (s : _root_.Go.ChangeSpec) : _root_.Go.OpenSpec := { _root_.Go.OpenSpec.ofChange s with cond := some uptoSmall }

/-- 'abacustop.CoreDivides', WHERE WHAT IT READS IS OF BULK AT MOST 1048576: true; the input reads as it did. -/
def coreDividesUptoRow : OpenClaim := { program := "ytceihajjpeoloaadoor", sum := "94a4c3a1304df2a5f9dfa58ed4e2242b2c911aed04f5d47e3847ccf28fe09ba4", func := "abacus/abacustop.CoreDivides", spec := "coreDivides", inPlace := ["math/bits.Add64", "math/bits.Sub64"], named := ["math/bits.deBruijn64tab", "math/bits.divideError", "math/bits.overflowError"], apart := false, laid := [("math/bits.deBruijn64tab", laid_math_bits_deBruijn64tab)], narrowed := true }
def CoreDividesUptoSaid : Prop := coreDividesUptoRow.holds Tryd.pinned (OpenSpec.upto coreDividesSpec)

/-- 'abacuslaw05.SoftReckons', WHERE WHAT IT READS IS OF BULK AT MOST 1048576: true; the input reads as it did. -/
def softReckonsUptoRow : OpenClaim := { program := "ytceihajjpeoloaadoor", sum := "94a4c3a1304df2a5f9dfa58ed4e2242b2c911aed04f5d47e3847ccf28fe09ba4", func := "abacus/abacuslaw05.SoftReckons", spec := "softReckons", inPlace := ["math/bits.Add64", "math/bits.Sub64"], named := ["math/bits.deBruijn64tab", "math/bits.divideError", "math/bits.overflowError"], apart := false, laid := [("math/bits.deBruijn64tab", laid_math_bits_deBruijn64tab)], narrowed := true }
def SoftReckonsUptoSaid : Prop := softReckonsUptoRow.holds Tryd.pinned (OpenSpec.upto softReckonsSpec)

/-- 'abacuslaw05.SoftFmas', WHERE WHAT IT READS IS OF BULK AT MOST 1048576: true; the input reads as it did. -/
def softFmasUptoRow : OpenClaim := { program := "ytceihajjpeoloaadoor", sum := "94a4c3a1304df2a5f9dfa58ed4e2242b2c911aed04f5d47e3847ccf28fe09ba4", func := "abacus/abacuslaw05.SoftFmas", spec := "softFmas", inPlace := ["math/bits.Add64", "math/bits.Sub64"], named := ["math/bits.deBruijn64tab", "math/bits.divideError", "math/bits.overflowError"], apart := false, laid := [("math/bits.deBruijn64tab", laid_math_bits_deBruijn64tab)], narrowed := true }
def SoftFmasUptoSaid : Prop := softFmasUptoRow.holds Tryd.pinned (OpenSpec.upto softFmasSpec)

/-- 'abacuslaw02.QuotRoots', WHERE WHAT IT READS IS OF BULK AT MOST 1048576: true; the input reads as it did. -/
def quotRootsUptoRow : OpenClaim := { program := "ytceihajjpeoloaadoor", sum := "94a4c3a1304df2a5f9dfa58ed4e2242b2c911aed04f5d47e3847ccf28fe09ba4", func := "abacus/abacuslaw02.QuotRoots", spec := "quotRoots", inPlace := ["math/bits.Add64", "math/bits.Sub64"], named := ["math/bits.divideError", "math/bits.overflowError", "math/bits.deBruijn64tab"], apart := false, laid := [("math/bits.deBruijn64tab", laid_math_bits_deBruijn64tab)], narrowed := true }
def QuotRootsUptoSaid : Prop := quotRootsUptoRow.holds Tryd.pinned (OpenSpec.upto quotRootsSpec)

/-- 'abacuslaw04.IeeeExact', WHERE WHAT IT READS IS OF BULK AT MOST 1048576: true; the input reads as it did. -/
def ieeeExactUptoRow : OpenClaim := { program := "ytceihajjpeoloaadoor", sum := "94a4c3a1304df2a5f9dfa58ed4e2242b2c911aed04f5d47e3847ccf28fe09ba4", func := "abacus/abacuslaw04.IeeeExact", spec := "ieeeExact", inPlace := ["math/bits.Add64", "math/bits.Sub64"], named := ["math/bits.deBruijn64tab", "math/bits.divideError", "math/bits.overflowError"], apart := false, laid := [("math/bits.deBruijn64tab", laid_math_bits_deBruijn64tab)], narrowed := true }
def IeeeExactUptoSaid : Prop := ieeeExactUptoRow.holds Tryd.pinned (OpenSpec.upto ieeeExactSpec)

/-- 'abacuslaw01.NatExact', WHERE WHAT IT READS IS OF BULK AT MOST 1048576: true; the input reads as it did. -/
def natExactUptoRow : OpenClaim := { program := "ytceihajjpeoloaadoor", sum := "94a4c3a1304df2a5f9dfa58ed4e2242b2c911aed04f5d47e3847ccf28fe09ba4", func := "abacus/abacuslaw01.NatExact", spec := "natExact", inPlace := ["math/bits.Add64", "math/bits.Sub64"], named := ["math/bits.deBruijn64tab", "math/bits.divideError", "math/bits.overflowError"], apart := false, laid := [("math/bits.deBruijn64tab", laid_math_bits_deBruijn64tab)], narrowed := true }
def NatExactUptoSaid : Prop := natExactUptoRow.holds Tryd.pinned (OpenSpec.upto natExactSpec)

/-- 'abacuslaw02.QuotDivides', WHERE WHAT IT READS IS OF BULK AT MOST 1048576: true; the input reads as it did. -/
def quotDividesUptoRow : OpenClaim := { program := "ytceihajjpeoloaadoor", sum := "94a4c3a1304df2a5f9dfa58ed4e2242b2c911aed04f5d47e3847ccf28fe09ba4", func := "abacus/abacuslaw02.QuotDivides", spec := "quotDivides", inPlace := ["math/bits.Add64", "math/bits.Sub64"], named := ["math/bits.divideError", "math/bits.overflowError", "math/bits.deBruijn64tab"], apart := false, laid := [("math/bits.deBruijn64tab", laid_math_bits_deBruijn64tab)], narrowed := true }
def QuotDividesUptoSaid : Prop := quotDividesUptoRow.holds Tryd.pinned (OpenSpec.upto quotDividesSpec)

/-- 'abacuslaw04.IeeeRising', WHERE WHAT IT READS IS OF BULK AT MOST 1048576: true; the input reads as it did. -/
def ieeeRisingUptoRow : OpenClaim := { program := "ytceihajjpeoloaadoor", sum := "94a4c3a1304df2a5f9dfa58ed4e2242b2c911aed04f5d47e3847ccf28fe09ba4", func := "abacus/abacuslaw04.IeeeRising", spec := "ieeeRising", inPlace := ["math/bits.Add64", "math/bits.Sub64"], named := ["math/bits.deBruijn64tab", "math/bits.divideError", "math/bits.overflowError"], apart := false, laid := [("math/bits.deBruijn64tab", laid_math_bits_deBruijn64tab)], narrowed := true }
def IeeeRisingUptoSaid : Prop := ieeeRisingUptoRow.holds Tryd.pinned (OpenSpec.upto ieeeRisingSpec)

end Rows
end Go.Proofs.YtceihajjpeoloaaDoor
