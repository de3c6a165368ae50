/-
  NARROWER THAN 'FOR EVERY INPUT', by the rows' own cells (each row's printed sentence says how): NatExact: laid · NatMemory: laid · QuotKeeps: laid · IeeeExact: laid · IeeeMemory: laid.
  DERIVED. THE GIVEN ROWS OF THIS SEAT. 5 by the template 'for every input the law returns true; each argument reads behind the call as it read before'; 0 by the template 'total and deterministic' (their statements: YtlnfgcnagfdliaaDoorTotals.lean).
  GIVEN WITH THE SEED: the statements are not yours to turn. If you find one false, say at which input.
  Laid BY PROGRAM, IN A SANDBOX (cutbox-rows.mjs): the forced cells as the released guide's own fill.sh prints them over the translation 24168122a058146d… (all of the seat's roots in one cut). By AI agents, Wed Nov 11 2026. No macro, syntax, notation, axiom, sorry.
-/
import Derived.Test.YtlnfgcnagfdliaaDoorChecked
import GoSem.Claim
import GoSem.ClaimJoined
import GoSem.ClaimMapViews
import Derived.JoinedTies
import Derived.KernelRfl
namespace Go.Proofs.YtlnfgcnagfdliaaDoor
/- THE CELL 'sum', in the pinned program and in every row, IS THE sha256 OF THE DUMP (.gsa) THAT YtlnfgcnagfdliaaDoorProg.lean LOADS. Nothing in Lean hashes anything: it is a label: what it is worth is what the hold of that sum in a sandbox is worth. -/
noncomputable def Tryd.pinned : Pinned := { name := "ytlnfgcnagfdliaadoor", sum := "24168122a058146d3d755954a30ab8d804659bcbdedd75ac303fb9f7f18ed0be", checked := Tryd.checked }
namespace Rows
def none {H : Type} : Left H := { results := [], args := [] }

/- WHAT THE LISTED PACKAGE-LEVEL VARIABLES READ AS WHEN THE CALL BEGINS. Each datum BY PROGRAM (the guide's laid-datum.mjs) off the statement by which the dump's own 'gosem.cut.vars' lays the variable. In a bare row this is a premise. The card (YtlnfgcnagfdliaaDoorCards.lean) ties it to the program's text. -/
def laid_math_bits_deBruijn64tab {H : Type} : DataW H := .agg [.lit (.int .u8 0), .lit (.int .u8 1), .lit (.int .u8 56), .lit (.int .u8 2), .lit (.int .u8 57), .lit (.int .u8 49), .lit (.int .u8 28), .lit (.int .u8 3), .lit (.int .u8 61), .lit (.int .u8 58), .lit (.int .u8 42), .lit (.int .u8 50), .lit (.int .u8 38), .lit (.int .u8 29), .lit (.int .u8 17), .lit (.int .u8 4), .lit (.int .u8 62), .lit (.int .u8 47), .lit (.int .u8 59), .lit (.int .u8 36), .lit (.int .u8 45), .lit (.int .u8 43), .lit (.int .u8 51), .lit (.int .u8 22), .lit (.int .u8 53), .lit (.int .u8 39), .lit (.int .u8 33), .lit (.int .u8 30), .lit (.int .u8 24), .lit (.int .u8 18), .lit (.int .u8 12), .lit (.int .u8 5), .lit (.int .u8 63), .lit (.int .u8 55), .lit (.int .u8 48), .lit (.int .u8 27), .lit (.int .u8 60), .lit (.int .u8 41), .lit (.int .u8 37), .lit (.int .u8 16), .lit (.int .u8 46), .lit (.int .u8 35), .lit (.int .u8 44), .lit (.int .u8 21), .lit (.int .u8 52), .lit (.int .u8 32), .lit (.int .u8 23), .lit (.int .u8 11), .lit (.int .u8 54), .lit (.int .u8 26), .lit (.int .u8 40), .lit (.int .u8 15), .lit (.int .u8 34), .lit (.int .u8 20), .lit (.int .u8 31), .lit (.int .u8 10), .lit (.int .u8 25), .lit (.int .u8 14), .lit (.int .u8 19), .lit (.int .u8 9), .lit (.int .u8 13), .lit (.int .u8 8), .lit (.int .u8 7), .lit (.int .u8 6)]

/-- 'abacuslaw01.NatExact': WHATEVER THE INPUT: true; the input reads as it did. -/
def natExactSpec : ChangeSpec := { name := "natExact", fn := fun _ => fun
  | [d] => { results := [.lit (.bool true)], args := [d] }
  | _ => none }
def natExactRow : OpenClaim := { program := "ytlnfgcnagfdliaadoor", sum := "24168122a058146d3d755954a30ab8d804659bcbdedd75ac303fb9f7f18ed0be", func := "abacus/abacuslaw01.NatExact", spec := "natExact", inPlace := ["math/bits.Add64", "math/bits.Sub64"], named := ["math/bits.deBruijn64tab", "math/bits.divideError", "math/bits.overflowError"], apart := false, laid := [("math/bits.deBruijn64tab", laid_math_bits_deBruijn64tab)] }
def NatExactSaid : Prop := natExactRow.holds Tryd.pinned (OpenSpec.ofChange natExactSpec)

/-- ITS FALSE NEIGHBOUR: 'it returns false'. Refute it at one input. -/
def natExactWrong : ChangeSpec := { name := "natExact", fn := fun _ => fun
  | [d] => { results := [.lit (.bool false)], args := [d] }
  | _ => none }
def NatExactWrongFalsely : Prop := natExactRow.holds Tryd.pinned (OpenSpec.ofChange natExactWrong)

/-- 'abacuslaw01.NatMemory': WHATEVER THE INPUT: true; the input reads as it did. -/
def natMemorySpec : ChangeSpec := { name := "natMemory", fn := fun _ => fun
  | [d] => { results := [.lit (.bool true)], args := [d] }
  | _ => none }
def natMemoryRow : OpenClaim := { program := "ytlnfgcnagfdliaadoor", sum := "24168122a058146d3d755954a30ab8d804659bcbdedd75ac303fb9f7f18ed0be", func := "abacus/abacuslaw01.NatMemory", spec := "natMemory", inPlace := ["math/bits.Add64", "math/bits.Sub64"], named := ["math/bits.deBruijn64tab", "math/bits.divideError", "math/bits.overflowError"], apart := false, laid := [("math/bits.deBruijn64tab", laid_math_bits_deBruijn64tab)] }
def NatMemorySaid : Prop := natMemoryRow.holds Tryd.pinned (OpenSpec.ofChange natMemorySpec)

/-- ITS FALSE NEIGHBOUR: 'it returns false'. Refute it at one input. -/
def natMemoryWrong : ChangeSpec := { name := "natMemory", fn := fun _ => fun
  | [d] => { results := [.lit (.bool false)], args := [d] }
  | _ => none }
def NatMemoryWrongFalsely : Prop := natMemoryRow.holds Tryd.pinned (OpenSpec.ofChange natMemoryWrong)

/-- 'abacuslaw02.QuotKeeps': WHATEVER THE INPUT: true; the input reads as it did. -/
def quotKeepsSpec : ChangeSpec := { name := "quotKeeps", fn := fun _ => fun
  | [d] => { results := [.lit (.bool true)], args := [d] }
  | _ => none }
def quotKeepsRow : OpenClaim := { program := "ytlnfgcnagfdliaadoor", sum := "24168122a058146d3d755954a30ab8d804659bcbdedd75ac303fb9f7f18ed0be", func := "abacus/abacuslaw02.QuotKeeps", spec := "quotKeeps", inPlace := ["math/bits.Add64", "math/bits.Sub64"], recurses := true, named := ["math/bits.divideError", "math/bits.overflowError", "math/bits.deBruijn64tab"], apart := false, laid := [("math/bits.deBruijn64tab", laid_math_bits_deBruijn64tab)] }
def QuotKeepsSaid : Prop := quotKeepsRow.holds Tryd.pinned (OpenSpec.ofChange quotKeepsSpec)

/-- ITS FALSE NEIGHBOUR: 'it returns false'. Refute it at one input. -/
def quotKeepsWrong : ChangeSpec := { name := "quotKeeps", fn := fun _ => fun
  | [d] => { results := [.lit (.bool false)], args := [d] }
  | _ => none }
def QuotKeepsWrongFalsely : Prop := quotKeepsRow.holds Tryd.pinned (OpenSpec.ofChange quotKeepsWrong)

/-- 'abacuslaw04.IeeeExact': WHATEVER THE INPUT: true; the input reads as it did. -/
def ieeeExactSpec : ChangeSpec := { name := "ieeeExact", fn := fun _ => fun
  | [d] => { results := [.lit (.bool true)], args := [d] }
  | _ => none }
def ieeeExactRow : OpenClaim := { program := "ytlnfgcnagfdliaadoor", sum := "24168122a058146d3d755954a30ab8d804659bcbdedd75ac303fb9f7f18ed0be", func := "abacus/abacuslaw04.IeeeExact", spec := "ieeeExact", inPlace := ["math/bits.Add64", "math/bits.Sub64"], named := ["math/bits.deBruijn64tab", "math/bits.divideError", "math/bits.overflowError"], apart := false, laid := [("math/bits.deBruijn64tab", laid_math_bits_deBruijn64tab)] }
def IeeeExactSaid : Prop := ieeeExactRow.holds Tryd.pinned (OpenSpec.ofChange ieeeExactSpec)

/-- ITS FALSE NEIGHBOUR: 'it returns false'. Refute it at one input. -/
def ieeeExactWrong : ChangeSpec := { name := "ieeeExact", fn := fun _ => fun
  | [d] => { results := [.lit (.bool false)], args := [d] }
  | _ => none }
def IeeeExactWrongFalsely : Prop := ieeeExactRow.holds Tryd.pinned (OpenSpec.ofChange ieeeExactWrong)

/-- 'abacuslaw04.IeeeMemory': WHATEVER THE INPUT: true; the input reads as it did. -/
def ieeeMemorySpec : ChangeSpec := { name := "ieeeMemory", fn := fun _ => fun
  | [d] => { results := [.lit (.bool true)], args := [d] }
  | _ => none }
def ieeeMemoryRow : OpenClaim := { program := "ytlnfgcnagfdliaadoor", sum := "24168122a058146d3d755954a30ab8d804659bcbdedd75ac303fb9f7f18ed0be", func := "abacus/abacuslaw04.IeeeMemory", spec := "ieeeMemory", inPlace := ["math/bits.Add64", "math/bits.Sub64"], named := ["math/bits.deBruijn64tab", "math/bits.divideError", "math/bits.overflowError"], apart := false, laid := [("math/bits.deBruijn64tab", laid_math_bits_deBruijn64tab)] }
def IeeeMemorySaid : Prop := ieeeMemoryRow.holds Tryd.pinned (OpenSpec.ofChange ieeeMemorySpec)

/-- ITS FALSE NEIGHBOUR: 'it returns false'. Refute it at one input. -/
def ieeeMemoryWrong : ChangeSpec := { name := "ieeeMemory", fn := fun _ => fun
  | [d] => { results := [.lit (.bool false)], args := [d] }
  | _ => none }
def IeeeMemoryWrongFalsely : Prop := ieeeMemoryRow.holds Tryd.pinned (OpenSpec.ofChange ieeeMemoryWrong)

/- THE SECOND FORM. 'bulk': how many values and letters a reading holds, each counted each time it is reached (what is shared counts as often as it is met; a slice's spare places count too). A statement '..UptoSaid' is the law's where the arguments, and the package variables that the reading takes, are together of bulk at most 1048576: NARROWER than '..Said'. Prove '..Said' where nothing that the law and all that it calls make is longer than what came in: it says more and counts as full. Else prove '..UptoSaid'. A law counts once. -/
mutual
def uptoBulk {H : Type} : DataW H → Nat
  | .lit (.string bytes) => bytes.length + 1
  | .lit _ => 1
  | .nil => 1
  | .ptr d => uptoBulk d + 1
  | .slice elems spare => uptoBulkAll elems + uptoBulkAll spare + 1
  | .agg parts => uptoBulkAll parts + 1
  | .iface _ d => uptoBulk d + 1
  | .map entries => uptoBulkEntries entries + 1
  | .held _ => 1
def uptoBulkAll {H : Type} : List (DataW H) → Nat
  | [] => 0
  | d :: r => uptoBulk d + uptoBulkAll r
def uptoBulkEntries {H : Type} : List (Lit × DataW H) → Nat
  | [] => 0
  | x :: r => uptoBulkEntry x + uptoBulkEntries r
def uptoBulkEntry {H : Type} : Lit × DataW H → Nat
  | (.string bytes, d) => bytes.length + uptoBulk d + 1
  | (_, d) => uptoBulk d + 1
 end
def uptoSmall : (H : Type) → List (DataW H) → Bool := fun _ ds => decide (uptoBulkAll ds ≤ 1048576)
def OpenSpec.upto (s : _root_.Go.ChangeSpec) : _root_.Go.OpenSpec := { _root_.Go.OpenSpec.ofChange s with cond := some uptoSmall }

/-- 'abacuslaw01.NatExact', WHERE WHAT IT READS IS OF BULK AT MOST 1048576: true; the input reads as it did. -/
def natExactUptoRow : OpenClaim := { program := "ytlnfgcnagfdliaadoor", sum := "24168122a058146d3d755954a30ab8d804659bcbdedd75ac303fb9f7f18ed0be", func := "abacus/abacuslaw01.NatExact", spec := "natExact", inPlace := ["math/bits.Add64", "math/bits.Sub64"], named := ["math/bits.deBruijn64tab", "math/bits.divideError", "math/bits.overflowError"], apart := false, laid := [("math/bits.deBruijn64tab", laid_math_bits_deBruijn64tab)], narrowed := true }
def NatExactUptoSaid : Prop := natExactUptoRow.holds Tryd.pinned (OpenSpec.upto natExactSpec)

/-- 'abacuslaw01.NatMemory', WHERE WHAT IT READS IS OF BULK AT MOST 1048576: true; the input reads as it did. -/
def natMemoryUptoRow : OpenClaim := { program := "ytlnfgcnagfdliaadoor", sum := "24168122a058146d3d755954a30ab8d804659bcbdedd75ac303fb9f7f18ed0be", func := "abacus/abacuslaw01.NatMemory", spec := "natMemory", inPlace := ["math/bits.Add64", "math/bits.Sub64"], named := ["math/bits.deBruijn64tab", "math/bits.divideError", "math/bits.overflowError"], apart := false, laid := [("math/bits.deBruijn64tab", laid_math_bits_deBruijn64tab)], narrowed := true }
def NatMemoryUptoSaid : Prop := natMemoryUptoRow.holds Tryd.pinned (OpenSpec.upto natMemorySpec)

/-- 'abacuslaw02.QuotKeeps', WHERE WHAT IT READS IS OF BULK AT MOST 1048576: true; the input reads as it did. -/
def quotKeepsUptoRow : OpenClaim := { program := "ytlnfgcnagfdliaadoor", sum := "24168122a058146d3d755954a30ab8d804659bcbdedd75ac303fb9f7f18ed0be", func := "abacus/abacuslaw02.QuotKeeps", spec := "quotKeeps", inPlace := ["math/bits.Add64", "math/bits.Sub64"], recurses := true, named := ["math/bits.divideError", "math/bits.overflowError", "math/bits.deBruijn64tab"], apart := false, laid := [("math/bits.deBruijn64tab", laid_math_bits_deBruijn64tab)], narrowed := true }
def QuotKeepsUptoSaid : Prop := quotKeepsUptoRow.holds Tryd.pinned (OpenSpec.upto quotKeepsSpec)

/-- 'abacuslaw04.IeeeExact', WHERE WHAT IT READS IS OF BULK AT MOST 1048576: true; the input reads as it did. -/
def ieeeExactUptoRow : OpenClaim := { program := "ytlnfgcnagfdliaadoor", sum := "24168122a058146d3d755954a30ab8d804659bcbdedd75ac303fb9f7f18ed0be", func := "abacus/abacuslaw04.IeeeExact", spec := "ieeeExact", inPlace := ["math/bits.Add64", "math/bits.Sub64"], named := ["math/bits.deBruijn64tab", "math/bits.divideError", "math/bits.overflowError"], apart := false, laid := [("math/bits.deBruijn64tab", laid_math_bits_deBruijn64tab)], narrowed := true }
def IeeeExactUptoSaid : Prop := ieeeExactUptoRow.holds Tryd.pinned (OpenSpec.upto ieeeExactSpec)

/-- 'abacuslaw04.IeeeMemory', WHERE WHAT IT READS IS OF BULK AT MOST 1048576: true; the input reads as it did. -/
def ieeeMemoryUptoRow : OpenClaim := { program := "ytlnfgcnagfdliaadoor", sum := "24168122a058146d3d755954a30ab8d804659bcbdedd75ac303fb9f7f18ed0be", func := "abacus/abacuslaw04.IeeeMemory", spec := "ieeeMemory", inPlace := ["math/bits.Add64", "math/bits.Sub64"], named := ["math/bits.deBruijn64tab", "math/bits.divideError", "math/bits.overflowError"], apart := false, laid := [("math/bits.deBruijn64tab", laid_math_bits_deBruijn64tab)], narrowed := true }
def IeeeMemoryUptoSaid : Prop := ieeeMemoryUptoRow.holds Tryd.pinned (OpenSpec.upto ieeeMemorySpec)

end Rows
end Go.Proofs.YtlnfgcnagfdliaaDoor
