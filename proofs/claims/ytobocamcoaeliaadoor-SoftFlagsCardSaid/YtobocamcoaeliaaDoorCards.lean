/-
  DERIVED. GIVEN WITH THE SEED: THE CARDS: each row of YtobocamcoaeliaaDoorRows.lean that lists a variable, with what it lists TIED to the program's text (the seventh form; the later family's looks); each row that meets fmt, with fmt's text TOLD by the authors' own Lean function (tested against real Go, not proved from fmt's source: count such statements apart). THE CARD IS WHAT COUNTS. Prove the row's statement (the work); the ties are given (YtobocamcoaeliaaDoorTie.lean); close each card by the builder's one call (the guide's Derived/Test/ToyasCard.lean, 'card_holds'). Laid BY PROGRAM, IN A SANDBOX (cutbox-door.mjs). By AI agents, Wed Nov 11 2026. No macro, syntax, notation, axiom, sorry.
-/
import Derived.Test.YtobocamcoaeliaaDoorRows
import GoSem.ClaimSeven
namespace Go.Proofs.YtobocamcoaeliaaDoor
namespace Rows

/-- THE TIED CARD OF 'abacuslaw05.SoftFlags'. -/
def softFlagsCard : Claim7 := { stood := { row := softFlagsRow, standIns := [], harness := (true, "a9abbedf520a6e96e280c8e75717c5aaaeffb60a5a1c88b272b094fff6b60900"), looks := false }, kinds := [], alts := [], laidByText := true, laidKinds := [.data], laidTests := true, laidLooks := .later }
def SoftFlagsCardSaid : Prop := Claim7.holds Tryd.pinned (.plain (OpenSpec.ofChange softFlagsSpec)) softFlagsCard

/-- THE TIED CARD OF 'abacuslaw06.RemainJoins'. -/
def remainJoinsCard : Claim7 := { stood := { row := remainJoinsRow, standIns := [], harness := (true, "a9abbedf520a6e96e280c8e75717c5aaaeffb60a5a1c88b272b094fff6b60900"), looks := false }, kinds := [], alts := [], laidByText := true, laidKinds := [.data], laidTests := true, laidLooks := .later }
def RemainJoinsCardSaid : Prop := Claim7.holds Tryd.pinned (.plain (OpenSpec.ofChange remainJoinsSpec)) remainJoinsCard

/-- THE SECOND FORM's CARD OF 'abacuslaw05.SoftFlags'. -/
def softFlagsUptoCard : Claim7 := { stood := { row := softFlagsUptoRow, standIns := [], harness := (true, "a9abbedf520a6e96e280c8e75717c5aaaeffb60a5a1c88b272b094fff6b60900"), looks := false }, kinds := [], alts := [], laidByText := true, laidKinds := [.data], laidTests := true, laidLooks := .later }
def SoftFlagsUptoCardSaid : Prop := Claim7.holds Tryd.pinned (.plain (OpenSpec.upto softFlagsSpec)) softFlagsUptoCard

/-- THE SECOND FORM's CARD OF 'abacuslaw06.RemainJoins'. -/
def remainJoinsUptoCard : Claim7 := { stood := { row := remainJoinsUptoRow, standIns := [], harness := (true, "a9abbedf520a6e96e280c8e75717c5aaaeffb60a5a1c88b272b094fff6b60900"), looks := false }, kinds := [], alts := [], laidByText := true, laidKinds := [.data], laidTests := true, laidLooks := .later }
def RemainJoinsUptoCardSaid : Prop := Claim7.holds Tryd.pinned (.plain (OpenSpec.upto remainJoinsSpec)) remainJoinsUptoCard
end Rows
end Go.Proofs.YtobocamcoaeliaaDoor
