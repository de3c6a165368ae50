/-
  DERIVED. GIVEN WITH THE SEED: THE CARDS: each row of YtobocamcoaeliaaGreatDoorRows.lean that lists a variable, with what it lists TIED to the program's text (the seventh form; the later family's looks); each row that meets fmt, with fmt's text TOLD by the authors' own Lean function (tested against real Go, not proved from fmt's source: count such statements apart). THE CARD IS WHAT COUNTS. Prove the row's statement (the work); the ties are given (YtobocamcoaeliaaGreatDoorTie.lean); close each card by the builder's one call (the guide's Derived/Test/ToyasCard.lean, 'card_holds'). Laid BY PROGRAM, IN A SANDBOX (cutbox-door.mjs). By AI agents, Wed Nov 11 2026. No macro, syntax, notation, axiom, sorry.
-/
import Derived.Test.YtobocamcoaeliaaGreatDoorRows
import GoSem.ClaimSeven
namespace Go.Proofs.YtobocamcoaeliaaGreatDoor
namespace Rows

/-- THE TIED CARD OF 'abacuslaw05.SoftTolds'. -/
def softToldsCard : Claim7 := { stood := { row := softToldsRow, standIns := [], harness := (true, "01b2d03a96ee7c716b244cf74e35aa8b6c0aacffec65e6d2de777a5d41bdf745"), looks := false }, kinds := [], alts := [], laidByText := true, laidKinds := [.data], laidTests := true, laidLooks := .later }
def SoftToldsCardSaid : Prop := Claim7.holds Tryz.pinned (.plain (OpenSpec.ofChange softToldsSpec)) softToldsCard

/-- THE TIED CARD OF 'abacuslaw06.RemainAll'. -/
def remainAllCard : Claim7 := { stood := { row := remainAllRow, standIns := [], harness := (true, "01b2d03a96ee7c716b244cf74e35aa8b6c0aacffec65e6d2de777a5d41bdf745"), looks := false }, kinds := [], alts := [], laidByText := true, laidKinds := [.data], laidTests := true, laidLooks := .later }
def RemainAllCardSaid : Prop := Claim7.holds Tryz.pinned (.plain (OpenSpec.ofChange remainAllSpec)) remainAllCard

/-- THE SECOND FORM's CARD OF 'abacuslaw05.SoftTolds'. -/
def softToldsUptoCard : Claim7 := { stood := { row := softToldsUptoRow, standIns := [], harness := (true, "01b2d03a96ee7c716b244cf74e35aa8b6c0aacffec65e6d2de777a5d41bdf745"), looks := false }, kinds := [], alts := [], laidByText := true, laidKinds := [.data], laidTests := true, laidLooks := .later }
def SoftToldsUptoCardSaid : Prop := Claim7.holds Tryz.pinned (.plain (OpenSpec.upto softToldsSpec)) softToldsUptoCard

/-- THE SECOND FORM's CARD OF 'abacuslaw06.RemainAll'. -/
def remainAllUptoCard : Claim7 := { stood := { row := remainAllUptoRow, standIns := [], harness := (true, "01b2d03a96ee7c716b244cf74e35aa8b6c0aacffec65e6d2de777a5d41bdf745"), looks := false }, kinds := [], alts := [], laidByText := true, laidKinds := [.data], laidTests := true, laidLooks := .later }
def RemainAllUptoCardSaid : Prop := Claim7.holds Tryz.pinned (.plain (OpenSpec.upto remainAllSpec)) remainAllUptoCard
end Rows
end Go.Proofs.YtobocamcoaeliaaGreatDoor
