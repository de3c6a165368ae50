/-
  NARROWER THAN 'FOR EVERY INPUT', by the rows' own cells (each row's printed sentence says how): NatDigits: laid · NatLimit: laid · NatShifts: laid · NatExact: laid · NatMemory: laid.
  DERIVED. THE GIVEN ROWS OF THIS SEAT. 5 by the template 'for every input the law returns true; each argument reads behind the call as it read before'; 0 by the template 'total and deterministic' (their statements: YtnicfpilpafddaaDoorTotals.lean).
  GIVEN WITH THE SEED: the statements are not yours to turn. If you find one false, say at which input.
  Laid BY PROGRAM, IN A SANDBOX (cutbox-rows.mjs): the forced cells as the released guide's own fill.sh prints them over the translation b1b2ed99100c4c30… (all of the seat's roots in one cut). By AI agents, Wed Nov 11 2026. No macro, syntax, notation, axiom, sorry.
-/
import Derived.Test.YtnicfpilpafddaaDoorChecked
import GoSem.Claim
import GoSem.ClaimJoined
import GoSem.ClaimMapViews
import Derived.JoinedTies
import Derived.KernelRfl
namespace Go.Proofs.YtnicfpilpafddaaDoor
/- THE CELL 'sum', in the pinned program and in every row, IS THE sha256 OF THE DUMP (.gsa) THAT YtnicfpilpafddaaDoorProg.lean LOADS. Nothing in Lean hashes anything: it is a label: what it is worth is what the hold of that sum in a sandbox is worth. -/
noncomputable def Tryd.pinned : Pinned := { name := "ytnicfpilpafddaadoor", sum := "b1b2ed99100c4c306fbde6b926d6e27aa0e231e966002553f002a857a9c19121", checked := Tryd.checked }
namespace Rows
def none {H : Type} : Left H := { results := [], args := [] }

/- WHAT THE LISTED PACKAGE-LEVEL VARIABLES READ AS WHEN THE CALL BEGINS. Each datum BY PROGRAM (the guide's laid-datum.mjs) off the statement by which the dump's own 'gosem.cut.vars' lays the variable. In a bare row this is a premise. The card (YtnicfpilpafddaaDoorCards.lean) ties it to the program's text. -/
def laid_math_bits_deBruijn64tab {H : Type} : DataW H := .agg [.lit (.int .u8 0), .lit (.int .u8 1), .lit (.int .u8 56), .lit (.int .u8 2), .lit (.int .u8 57), .lit (.int .u8 49), .lit (.int .u8 28), .lit (.int .u8 3), .lit (.int .u8 61), .lit (.int .u8 58), .lit (.int .u8 42), .lit (.int .u8 50), .lit (.int .u8 38), .lit (.int .u8 29), .lit (.int .u8 17), .lit (.int .u8 4), .lit (.int .u8 62), .lit (.int .u8 47), .lit (.int .u8 59), .lit (.int .u8 36), .lit (.int .u8 45), .lit (.int .u8 43), .lit (.int .u8 51), .lit (.int .u8 22), .lit (.int .u8 53), .lit (.int .u8 39), .lit (.int .u8 33), .lit (.int .u8 30), .lit (.int .u8 24), .lit (.int .u8 18), .lit (.int .u8 12), .lit (.int .u8 5), .lit (.int .u8 63), .lit (.int .u8 55), .lit (.int .u8 48), .lit (.int .u8 27), .lit (.int .u8 60), .lit (.int .u8 41), .lit (.int .u8 37), .lit (.int .u8 16), .lit (.int .u8 46), .lit (.int .u8 35), .lit (.int .u8 44), .lit (.int .u8 21), .lit (.int .u8 52), .lit (.int .u8 32), .lit (.int .u8 23), .lit (.int .u8 11), .lit (.int .u8 54), .lit (.int .u8 26), .lit (.int .u8 40), .lit (.int .u8 15), .lit (.int .u8 34), .lit (.int .u8 20), .lit (.int .u8 31), .lit (.int .u8 10), .lit (.int .u8 25), .lit (.int .u8 14), .lit (.int .u8 19), .lit (.int .u8 9), .lit (.int .u8 13), .lit (.int .u8 8), .lit (.int .u8 7), .lit (.int .u8 6)]

/-- 'abacuslaw01.NatDigits': WHATEVER THE INPUT: true; the input reads as it did. -/
def natDigitsSpec : ChangeSpec := { name := "natDigits", fn := fun _ => fun
  | [d] => { results := [.lit (.bool true)], args := [d] }
  | _ => none }
def natDigitsRow : OpenClaim := { program := "ytnicfpilpafddaadoor", sum := "b1b2ed99100c4c306fbde6b926d6e27aa0e231e966002553f002a857a9c19121", func := "abacus/abacuslaw01.NatDigits", spec := "natDigits", inPlace := ["math/bits.Add64"], named := ["math/bits.deBruijn64tab"], apart := false, laid := [("math/bits.deBruijn64tab", laid_math_bits_deBruijn64tab)] }
def NatDigitsSaid : Prop := natDigitsRow.holds Tryd.pinned (OpenSpec.ofChange natDigitsSpec)

/-- ITS FALSE NEIGHBOUR: 'it returns false'. Refute it at one input. -/
def natDigitsWrong : ChangeSpec := { name := "natDigits", fn := fun _ => fun
  | [d] => { results := [.lit (.bool false)], args := [d] }
  | _ => none }
def NatDigitsWrongFalsely : Prop := natDigitsRow.holds Tryd.pinned (OpenSpec.ofChange natDigitsWrong)

/-- 'abacuslaw01.NatLimit': WHATEVER THE INPUT: true; the input reads as it did. -/
def natLimitSpec : ChangeSpec := { name := "natLimit", fn := fun _ => fun
  | [d] => { results := [.lit (.bool true)], args := [d] }
  | _ => none }
def natLimitRow : OpenClaim := { program := "ytnicfpilpafddaadoor", sum := "b1b2ed99100c4c306fbde6b926d6e27aa0e231e966002553f002a857a9c19121", func := "abacus/abacuslaw01.NatLimit", spec := "natLimit", inPlace := ["math/bits.Add64", "math/bits.Sub64"], named := ["math/bits.deBruijn64tab"], apart := false, laid := [("math/bits.deBruijn64tab", laid_math_bits_deBruijn64tab)] }
def NatLimitSaid : Prop := natLimitRow.holds Tryd.pinned (OpenSpec.ofChange natLimitSpec)

/-- ITS FALSE NEIGHBOUR: 'it returns false'. Refute it at one input. -/
def natLimitWrong : ChangeSpec := { name := "natLimit", fn := fun _ => fun
  | [d] => { results := [.lit (.bool false)], args := [d] }
  | _ => none }
def NatLimitWrongFalsely : Prop := natLimitRow.holds Tryd.pinned (OpenSpec.ofChange natLimitWrong)

/-- 'abacuslaw01.NatShifts': WHATEVER THE INPUT: true; the input reads as it did. -/
def natShiftsSpec : ChangeSpec := { name := "natShifts", fn := fun _ => fun
  | [d1, d2] => { results := [.lit (.bool true)], args := [d1, d2] }
  | _ => none }
def natShiftsRow : OpenClaim := { program := "ytnicfpilpafddaadoor", sum := "b1b2ed99100c4c306fbde6b926d6e27aa0e231e966002553f002a857a9c19121", func := "abacus/abacuslaw01.NatShifts", spec := "natShifts", inPlace := ["math/bits.Add64", "math/bits.Sub64"], named := ["math/bits.deBruijn64tab"], apart := false, laid := [("math/bits.deBruijn64tab", laid_math_bits_deBruijn64tab)] }
def NatShiftsSaid : Prop := natShiftsRow.holds Tryd.pinned (OpenSpec.ofChange natShiftsSpec)

/-- ITS FALSE NEIGHBOUR: 'it returns false'. Refute it at one input. -/
def natShiftsWrong : ChangeSpec := { name := "natShifts", fn := fun _ => fun
  | [d1, d2] => { results := [.lit (.bool false)], args := [d1, d2] }
  | _ => none }
def NatShiftsWrongFalsely : Prop := natShiftsRow.holds Tryd.pinned (OpenSpec.ofChange natShiftsWrong)

/-- 'abacuslaw01.NatExact': WHATEVER THE INPUT: true; the input reads as it did. -/
def natExactSpec : ChangeSpec := { name := "natExact", fn := fun _ => fun
  | [d] => { results := [.lit (.bool true)], args := [d] }
  | _ => none }
def natExactRow : OpenClaim := { program := "ytnicfpilpafddaadoor", sum := "b1b2ed99100c4c306fbde6b926d6e27aa0e231e966002553f002a857a9c19121", func := "abacus/abacuslaw01.NatExact", spec := "natExact", inPlace := ["math/bits.Add64", "math/bits.Sub64"], named := ["math/bits.deBruijn64tab", "math/bits.divideError", "math/bits.overflowError"], apart := false, laid := [("math/bits.deBruijn64tab", laid_math_bits_deBruijn64tab)] }
def NatExactSaid : Prop := natExactRow.holds Tryd.pinned (OpenSpec.ofChange natExactSpec)

/-- ITS FALSE NEIGHBOUR: 'it returns false'. Refute it at one input. -/
def natExactWrong : ChangeSpec := { name := "natExact", fn := fun _ => fun
  | [d] => { results := [.lit (.bool false)], args := [d] }
  | _ => none }
def NatExactWrongFalsely : Prop := natExactRow.holds Tryd.pinned (OpenSpec.ofChange natExactWrong)

/-- 'abacuslaw01.NatMemory': WHATEVER THE INPUT: true; the input reads as it did. -/
def natMemorySpec : ChangeSpec := { name := "natMemory", fn := fun _ => fun
  | [d] => { results := [.lit (.bool true)], args := [d] }
  | _ => none }
def natMemoryRow : OpenClaim := { program := "ytnicfpilpafddaadoor", sum := "b1b2ed99100c4c306fbde6b926d6e27aa0e231e966002553f002a857a9c19121", func := "abacus/abacuslaw01.NatMemory", spec := "natMemory", inPlace := ["math/bits.Add64", "math/bits.Sub64"], named := ["math/bits.deBruijn64tab", "math/bits.divideError", "math/bits.overflowError"], apart := false, laid := [("math/bits.deBruijn64tab", laid_math_bits_deBruijn64tab)] }
def NatMemorySaid : Prop := natMemoryRow.holds Tryd.pinned (OpenSpec.ofChange natMemorySpec)

/-- ITS FALSE NEIGHBOUR: 'it returns false'. Refute it at one input. -/
def natMemoryWrong : ChangeSpec := { name := "natMemory", fn := fun _ => fun
  | [d] => { results := [.lit (.bool false)], args := [d] }
  | _ => none }
def NatMemoryWrongFalsely : Prop := natMemoryRow.holds Tryd.pinned (OpenSpec.ofChange natMemoryWrong)

/- THE SECOND FORM. 'bulk': how many values and letters a reading holds, each counted each time it is reached (what is shared counts as often as it is met; a slice's spare places count too). A statement '..UptoSaid' is the law's where the arguments, and the package variables that the reading takes, are together of bulk at most 1048576: NARROWER than '..Said'. Prove '..Said' where nothing that the law and all that it calls make is longer than what came in: it says more and counts as full. Else prove '..UptoSaid'. A law counts once. -/
mutual
def uptoBulk {H : Type} : DataW H → Nat
  | .lit (.string bytes) => bytes.length + 1
  | .lit _ => 1
  | .nil => 1
  | .ptr d => uptoBulk d + 1
  | .slice elems spare => uptoBulkAll elems + uptoBulkAll spare + 1
  | .agg parts => uptoBulkAll parts + 1
  | .iface _ d => uptoBulk d + 1
  | .map entries => uptoBulkEntries entries + 1
  | .held _ => 1
def uptoBulkAll {H : Type} : List (DataW H) → Nat
  | [] => 0
  | d :: r => uptoBulk d + uptoBulkAll r
def uptoBulkEntries {H : Type} : List (Lit × DataW H) → Nat
  | [] => 0
  | x :: r => uptoBulkEntry x + uptoBulkEntries r
def uptoBulkEntry {H : Type} : Lit × DataW H → Nat
  | (.string bytes, d) => bytes.length + uptoBulk d + 1
  | (_, d) => uptoBulk d + 1
 end
def uptoSmall : (H : Type) → List (DataW H) → Bool := fun _ ds => decide (uptoBulkAll ds ≤ 1048576)
def OpenSpec.upto (s : _root_.Go.ChangeSpec) : _root_.Go.OpenSpec := { _root_.Go.OpenSpec.ofChange s with cond := some uptoSmall }

/-- 'abacuslaw01.NatDigits', WHERE WHAT IT READS IS OF BULK AT MOST 1048576: true; the input reads as it did. -/
def natDigitsUptoRow : OpenClaim := { program := "ytnicfpilpafddaadoor", sum := "b1b2ed99100c4c306fbde6b926d6e27aa0e231e966002553f002a857a9c19121", func := "abacus/abacuslaw01.NatDigits", spec := "natDigits", inPlace := ["math/bits.Add64"], named := ["math/bits.deBruijn64tab"], apart := false, laid := [("math/bits.deBruijn64tab", laid_math_bits_deBruijn64tab)], narrowed := true }
def NatDigitsUptoSaid : Prop := natDigitsUptoRow.holds Tryd.pinned (OpenSpec.upto natDigitsSpec)

/-- 'abacuslaw01.NatLimit', WHERE WHAT IT READS IS OF BULK AT MOST 1048576: true; the input reads as it did. -/
def natLimitUptoRow : OpenClaim := { program := "ytnicfpilpafddaadoor", sum := "b1b2ed99100c4c306fbde6b926d6e27aa0e231e966002553f002a857a9c19121", func := "abacus/abacuslaw01.NatLimit", spec := "natLimit", inPlace := ["math/bits.Add64", "math/bits.Sub64"], named := ["math/bits.deBruijn64tab"], apart := false, laid := [("math/bits.deBruijn64tab", laid_math_bits_deBruijn64tab)], narrowed := true }
def NatLimitUptoSaid : Prop := natLimitUptoRow.holds Tryd.pinned (OpenSpec.upto natLimitSpec)

/-- 'abacuslaw01.NatShifts', WHERE WHAT IT READS IS OF BULK AT MOST 1048576: true; the input reads as it did. -/
def natShiftsUptoRow : OpenClaim := { program := "ytnicfpilpafddaadoor", sum := "b1b2ed99100c4c306fbde6b926d6e27aa0e231e966002553f002a857a9c19121", func := "abacus/abacuslaw01.NatShifts", spec := "natShifts", inPlace := ["math/bits.Add64", "math/bits.Sub64"], named := ["math/bits.deBruijn64tab"], apart := false, laid := [("math/bits.deBruijn64tab", laid_math_bits_deBruijn64tab)], narrowed := true }
def NatShiftsUptoSaid : Prop := natShiftsUptoRow.holds Tryd.pinned (OpenSpec.upto natShiftsSpec)

/-- 'abacuslaw01.NatExact', WHERE WHAT IT READS IS OF BULK AT MOST 1048576: true; the input reads as it did. -/
def natExactUptoRow : OpenClaim := { program := "ytnicfpilpafddaadoor", sum := "b1b2ed99100c4c306fbde6b926d6e27aa0e231e966002553f002a857a9c19121", func := "abacus/abacuslaw01.NatExact", spec := "natExact", inPlace := ["math/bits.Add64", "math/bits.Sub64"], named := ["math/bits.deBruijn64tab", "math/bits.divideError", "math/bits.overflowError"], apart := false, laid := [("math/bits.deBruijn64tab", laid_math_bits_deBruijn64tab)], narrowed := true }
def NatExactUptoSaid : Prop := natExactUptoRow.holds Tryd.pinned (OpenSpec.upto natExactSpec)

/-- 'abacuslaw01.NatMemory', WHERE WHAT IT READS IS OF BULK AT MOST 1048576: true; the input reads as it did. -/
def natMemoryUptoRow : OpenClaim := { program := "ytnicfpilpafddaadoor", sum := "b1b2ed99100c4c306fbde6b926d6e27aa0e231e966002553f002a857a9c19121", func := "abacus/abacuslaw01.NatMemory", spec := "natMemory", inPlace := ["math/bits.Add64", "math/bits.Sub64"], named := ["math/bits.deBruijn64tab", "math/bits.divideError", "math/bits.overflowError"], apart := false, laid := [("math/bits.deBruijn64tab", laid_math_bits_deBruijn64tab)], narrowed := true }
def NatMemoryUptoSaid : Prop := natMemoryUptoRow.holds Tryd.pinned (OpenSpec.upto natMemorySpec)

end Rows
end Go.Proofs.YtnicfpilpafddaaDoor
