/-
  No cell of these rows narrows 'for every input' (looked for: loops, veiled, ifaces, maps, wideKeys, modest, calm, conditions, laid).
  DERIVED. THE GIVEN ROWS OF THIS SEAT. 6 by the template 'for every input the law returns true; each argument reads behind the call as it read before'; 0 by the template 'total and deterministic' (their statements: YtnicfpilpafddaaTotals.lean).
  GIVEN WITH THE SEED: the statements are not yours to turn. If you find one false, say at which input.
  Laid BY PROGRAM, IN A SANDBOX (cutbox-rows.mjs): the forced cells as the released guide's own fill.sh prints them over the translation 0fbb57ef4e742456… (all of the seat's roots in one cut). By AI agents, Wed Nov 11 2026. No macro, syntax, notation, axiom, sorry.
-/
import Derived.Test.YtnicfpilpafddaaChecked
import GoSem.Claim
import GoSem.ClaimJoined
import GoSem.ClaimMapViews
import Derived.JoinedTies
import Derived.KernelRfl
namespace Go.Proofs.Ytnicfpilpafddaa
/- THE CELL 'sum', in the pinned program and in every row, IS THE sha256 OF THE DUMP (.gsa) THAT YtnicfpilpafddaaProg.lean LOADS. Nothing in Lean hashes anything: it is a label: what it is worth is what the hold of that sum in a sandbox is worth. -/
noncomputable def Try.pinned : Pinned := { name := "ytnicfpilpafddaa", sum := "0fbb57ef4e7424568871704c7be1b1f6ba43b69f3e712d2c3429cc471758c8b0", checked := Try.checked }
namespace Rows
def none {H : Type} : Left H := { results := [], args := [] }

/-- 'abacuslaw01.NatRing': WHATEVER THE INPUT: true; the input reads as it did. -/
def natRingSpec : ChangeSpec := { name := "natRing", fn := fun _ => fun
  | [d1, d2, d3] => { results := [.lit (.bool true)], args := [d1, d2, d3] }
  | _ => none }
def natRingRow : OpenClaim := { program := "ytnicfpilpafddaa", sum := "0fbb57ef4e7424568871704c7be1b1f6ba43b69f3e712d2c3429cc471758c8b0", func := "abacus/abacuslaw01.NatRing", spec := "natRing", inPlace := ["math/bits.Add64"], apart := false }
def NatRingSaid : Prop := natRingRow.holds Try.pinned (OpenSpec.ofChange natRingSpec)

/-- ITS FALSE NEIGHBOUR: 'it returns false'. Refute it at one input. -/
def natRingWrong : ChangeSpec := { name := "natRing", fn := fun _ => fun
  | [d1, d2, d3] => { results := [.lit (.bool false)], args := [d1, d2, d3] }
  | _ => none }
def NatRingWrongFalsely : Prop := natRingRow.holds Try.pinned (OpenSpec.ofChange natRingWrong)

/-- 'abacuslaw01.NatSum': WHATEVER THE INPUT: true; the input reads as it did. -/
def natSumSpec : ChangeSpec := { name := "natSum", fn := fun _ => fun
  | [d] => { results := [.lit (.bool true)], args := [d] }
  | _ => none }
def natSumRow : OpenClaim := { program := "ytnicfpilpafddaa", sum := "0fbb57ef4e7424568871704c7be1b1f6ba43b69f3e712d2c3429cc471758c8b0", func := "abacus/abacuslaw01.NatSum", spec := "natSum", inPlace := ["math/bits.Add64"], apart := false }
def NatSumSaid : Prop := natSumRow.holds Try.pinned (OpenSpec.ofChange natSumSpec)

/-- ITS FALSE NEIGHBOUR: 'it returns false'. Refute it at one input. -/
def natSumWrong : ChangeSpec := { name := "natSum", fn := fun _ => fun
  | [d] => { results := [.lit (.bool false)], args := [d] }
  | _ => none }
def NatSumWrongFalsely : Prop := natSumRow.holds Try.pinned (OpenSpec.ofChange natSumWrong)

/-- 'abacuslaw01.NatSums': WHATEVER THE INPUT: true; the input reads as it did. -/
def natSumsSpec : ChangeSpec := { name := "natSums", fn := fun _ => fun
  | [d1, d2] => { results := [.lit (.bool true)], args := [d1, d2] }
  | _ => none }
def natSumsRow : OpenClaim := { program := "ytnicfpilpafddaa", sum := "0fbb57ef4e7424568871704c7be1b1f6ba43b69f3e712d2c3429cc471758c8b0", func := "abacus/abacuslaw01.NatSums", spec := "natSums", inPlace := ["math/bits.Add64", "math/bits.Sub64"], apart := false }
def NatSumsSaid : Prop := natSumsRow.holds Try.pinned (OpenSpec.ofChange natSumsSpec)

/-- ITS FALSE NEIGHBOUR: 'it returns false'. Refute it at one input. -/
def natSumsWrong : ChangeSpec := { name := "natSums", fn := fun _ => fun
  | [d1, d2] => { results := [.lit (.bool false)], args := [d1, d2] }
  | _ => none }
def NatSumsWrongFalsely : Prop := natSumsRow.holds Try.pinned (OpenSpec.ofChange natSumsWrong)

/-- 'abacuslaw01.NatOrder': WHATEVER THE INPUT: true; the input reads as it did. -/
def natOrderSpec : ChangeSpec := { name := "natOrder", fn := fun _ => fun
  | [d1, d2, d3] => { results := [.lit (.bool true)], args := [d1, d2, d3] }
  | _ => none }
def natOrderRow : OpenClaim := { program := "ytnicfpilpafddaa", sum := "0fbb57ef4e7424568871704c7be1b1f6ba43b69f3e712d2c3429cc471758c8b0", func := "abacus/abacuslaw01.NatOrder", spec := "natOrder", inPlace := ["math/bits.Add64"], apart := false }
def NatOrderSaid : Prop := natOrderRow.holds Try.pinned (OpenSpec.ofChange natOrderSpec)

/-- ITS FALSE NEIGHBOUR: 'it returns false'. Refute it at one input. -/
def natOrderWrong : ChangeSpec := { name := "natOrder", fn := fun _ => fun
  | [d1, d2, d3] => { results := [.lit (.bool false)], args := [d1, d2, d3] }
  | _ => none }
def NatOrderWrongFalsely : Prop := natOrderRow.holds Try.pinned (OpenSpec.ofChange natOrderWrong)

/-- 'abacuslaw01.NatResidues': WHATEVER THE INPUT: true; the input reads as it did. -/
def natResiduesSpec : ChangeSpec := { name := "natResidues", fn := fun _ => fun
  | [d] => { results := [.lit (.bool true)], args := [d] }
  | _ => none }
def natResiduesRow : OpenClaim := { program := "ytnicfpilpafddaa", sum := "0fbb57ef4e7424568871704c7be1b1f6ba43b69f3e712d2c3429cc471758c8b0", func := "abacus/abacuslaw01.NatResidues", spec := "natResidues", inPlace := ["math/bits.Add64"], named := ["math/bits.divideError", "math/bits.overflowError"], apart := false }
def NatResiduesSaid : Prop := natResiduesRow.holds Try.pinned (OpenSpec.ofChange natResiduesSpec)

/-- ITS FALSE NEIGHBOUR: 'it returns false'. Refute it at one input. -/
def natResiduesWrong : ChangeSpec := { name := "natResidues", fn := fun _ => fun
  | [d] => { results := [.lit (.bool false)], args := [d] }
  | _ => none }
def NatResiduesWrongFalsely : Prop := natResiduesRow.holds Try.pinned (OpenSpec.ofChange natResiduesWrong)

/-- 'abacuslaw01.NatDivides': WHATEVER THE INPUT: true; the input reads as it did. -/
def natDividesSpec : ChangeSpec := { name := "natDivides", fn := fun _ => fun
  | [d1, d2] => { results := [.lit (.bool true)], args := [d1, d2] }
  | _ => none }
def natDividesRow : OpenClaim := { program := "ytnicfpilpafddaa", sum := "0fbb57ef4e7424568871704c7be1b1f6ba43b69f3e712d2c3429cc471758c8b0", func := "abacus/abacuslaw01.NatDivides", spec := "natDivides", inPlace := ["math/bits.Add64"], named := ["math/bits.divideError", "math/bits.overflowError"], apart := false }
def NatDividesSaid : Prop := natDividesRow.holds Try.pinned (OpenSpec.ofChange natDividesSpec)

/-- ITS FALSE NEIGHBOUR: 'it returns false'. Refute it at one input. -/
def natDividesWrong : ChangeSpec := { name := "natDivides", fn := fun _ => fun
  | [d1, d2] => { results := [.lit (.bool false)], args := [d1, d2] }
  | _ => none }
def NatDividesWrongFalsely : Prop := natDividesRow.holds Try.pinned (OpenSpec.ofChange natDividesWrong)

/- THE SECOND FORM. 'bulk': how many values and letters a reading holds, each counted each time it is reached (what is shared counts as often as it is met; a slice's spare places count too). A statement '..UptoSaid' is the law's where the arguments, and the package variables that the reading takes, are together of bulk at most 1048576: NARROWER than '..Said'. Prove '..Said' where nothing that the law and all that it calls make is longer than what came in: it says more and counts as full. Else prove '..UptoSaid'. A law counts once. -/
mutual
def uptoBulk {H : Type} : DataW H → Nat
  | .lit (.string bytes) => bytes.length + 1
  | .lit _ => 1
  | .nil => 1
  | .ptr d => uptoBulk d + 1
  | .slice elems spare => uptoBulkAll elems + uptoBulkAll spare + 1
  | .agg parts => uptoBulkAll parts + 1
  | .iface _ d => uptoBulk d + 1
  | .map entries => uptoBulkEntries entries + 1
  | .held _ => 1
def uptoBulkAll {H : Type} : List (DataW H) → Nat
  | [] => 0
  | d :: r => uptoBulk d + uptoBulkAll r
def uptoBulkEntries {H : Type} : List (Lit × DataW H) → Nat
  | [] => 0
  | x :: r => uptoBulkEntry x + uptoBulkEntries r
def uptoBulkEntry {H : Type} : Lit × DataW H → Nat
  | (.string bytes, d) => bytes.length + uptoBulk d + 1
  | (_, d) => uptoBulk d + 1
 end
def uptoSmall : (H : Type) → List (DataW H) → Bool := fun _ ds => decide (uptoBulkAll ds ≤ 1048576)
def OpenSpec.upto (s : _root_.Go.ChangeSpec) : _root_.Go.OpenSpec := { _root_.Go.OpenSpec.ofChange s with cond := some uptoSmall }

/-- 'abacuslaw01.NatRing', WHERE WHAT IT READS IS OF BULK AT MOST 1048576: true; the input reads as it did. -/
def natRingUptoRow : OpenClaim := { program := "ytnicfpilpafddaa", sum := "0fbb57ef4e7424568871704c7be1b1f6ba43b69f3e712d2c3429cc471758c8b0", func := "abacus/abacuslaw01.NatRing", spec := "natRing", inPlace := ["math/bits.Add64"], apart := false, narrowed := true }
def NatRingUptoSaid : Prop := natRingUptoRow.holds Try.pinned (OpenSpec.upto natRingSpec)

/-- 'abacuslaw01.NatSum', WHERE WHAT IT READS IS OF BULK AT MOST 1048576: true; the input reads as it did. -/
def natSumUptoRow : OpenClaim := { program := "ytnicfpilpafddaa", sum := "0fbb57ef4e7424568871704c7be1b1f6ba43b69f3e712d2c3429cc471758c8b0", func := "abacus/abacuslaw01.NatSum", spec := "natSum", inPlace := ["math/bits.Add64"], apart := false, narrowed := true }
def NatSumUptoSaid : Prop := natSumUptoRow.holds Try.pinned (OpenSpec.upto natSumSpec)

/-- 'abacuslaw01.NatSums', WHERE WHAT IT READS IS OF BULK AT MOST 1048576: true; the input reads as it did. -/
def natSumsUptoRow : OpenClaim := { program := "ytnicfpilpafddaa", sum := "0fbb57ef4e7424568871704c7be1b1f6ba43b69f3e712d2c3429cc471758c8b0", func := "abacus/abacuslaw01.NatSums", spec := "natSums", inPlace := ["math/bits.Add64", "math/bits.Sub64"], apart := false, narrowed := true }
def NatSumsUptoSaid : Prop := natSumsUptoRow.holds Try.pinned (OpenSpec.upto natSumsSpec)

/-- 'abacuslaw01.NatOrder', WHERE WHAT IT READS IS OF BULK AT MOST 1048576: true; the input reads as it did. -/
def natOrderUptoRow : OpenClaim := { program := "ytnicfpilpafddaa", sum := "0fbb57ef4e7424568871704c7be1b1f6ba43b69f3e712d2c3429cc471758c8b0", func := "abacus/abacuslaw01.NatOrder", spec := "natOrder", inPlace := ["math/bits.Add64"], apart := false, narrowed := true }
def NatOrderUptoSaid : Prop := natOrderUptoRow.holds Try.pinned (OpenSpec.upto natOrderSpec)

/-- 'abacuslaw01.NatResidues', WHERE WHAT IT READS IS OF BULK AT MOST 1048576: true; the input reads as it did. -/
def natResiduesUptoRow : OpenClaim := { program := "ytnicfpilpafddaa", sum := "0fbb57ef4e7424568871704c7be1b1f6ba43b69f3e712d2c3429cc471758c8b0", func := "abacus/abacuslaw01.NatResidues", spec := "natResidues", inPlace := ["math/bits.Add64"], named := ["math/bits.divideError", "math/bits.overflowError"], apart := false, narrowed := true }
def NatResiduesUptoSaid : Prop := natResiduesUptoRow.holds Try.pinned (OpenSpec.upto natResiduesSpec)

/-- 'abacuslaw01.NatDivides', WHERE WHAT IT READS IS OF BULK AT MOST 1048576: true; the input reads as it did. -/
def natDividesUptoRow : OpenClaim := { program := "ytnicfpilpafddaa", sum := "0fbb57ef4e7424568871704c7be1b1f6ba43b69f3e712d2c3429cc471758c8b0", func := "abacus/abacuslaw01.NatDivides", spec := "natDivides", inPlace := ["math/bits.Add64"], named := ["math/bits.divideError", "math/bits.overflowError"], apart := false, narrowed := true }
def NatDividesUptoSaid : Prop := natDividesUptoRow.holds Try.pinned (OpenSpec.upto natDividesSpec)

end Rows
end Go.Proofs.Ytnicfpilpafddaa
