/-
  DERIVED. GIVEN WITH THE SEED: THE CARDS: each row of YtogkhfalgiajkaaDoorRows.lean that lists a variable, with what it lists TIED to the program's text (the seventh form; the later family's looks); each row that meets fmt, with fmt's text TOLD by the authors' own Lean function (tested against real Go, not proved from fmt's source: count such statements apart). THE CARD IS WHAT COUNTS. Prove the row's statement (the work); the ties are given (YtogkhfalgiajkaaDoorTie.lean); close each card by the builder's one call (the guide's Derived/Test/ToyasCard.lean, 'card_holds'). Laid BY PROGRAM, IN A SANDBOX (cutbox-door.mjs). By AI agents, Wed Nov 11 2026. No macro, syntax, notation, axiom, sorry.
-/
import Derived.Test.YtogkhfalgiajkaaDoorRows
import GoSem.ClaimSeven
namespace Go.Proofs.YtogkhfalgiajkaaDoor
namespace Rows

/-- THE TIED CARD OF 'abacuslaw05.SoftFmas'. -/
def softFmasCard : Claim7 := { stood := { row := softFmasRow, standIns := [], harness := (true, "9a82a30188def1f1b6f329ddc5fad6931d31d0a8869040f5bbec608fe01d8440"), looks := false }, kinds := [], alts := [], laidByText := true, laidKinds := [.data], laidTests := true, laidLooks := .later }
def SoftFmasCardSaid : Prop := Claim7.holds Tryd.pinned (.plain (OpenSpec.ofChange softFmasSpec)) softFmasCard

/-- THE SECOND FORM's CARD OF 'abacuslaw05.SoftFmas'. -/
def softFmasUptoCard : Claim7 := { stood := { row := softFmasUptoRow, standIns := [], harness := (true, "9a82a30188def1f1b6f329ddc5fad6931d31d0a8869040f5bbec608fe01d8440"), looks := false }, kinds := [], alts := [], laidByText := true, laidKinds := [.data], laidTests := true, laidLooks := .later }
def SoftFmasUptoCardSaid : Prop := Claim7.holds Tryd.pinned (.plain (OpenSpec.upto softFmasSpec)) softFmasUptoCard
end Rows
end Go.Proofs.YtogkhfalgiajkaaDoor
