/-
  DERIVED. GIVEN WITH THE SEED: THE CARDS: each row of YtcacmhcekoeblaaDoorRows.lean that lists a variable, with what it lists TIED to the program's text (the seventh form; the later family's looks); each row that meets fmt, with fmt's text TOLD by the authors' own Lean function (tested against real Go, not proved from fmt's source: count such statements apart). THE CARD IS WHAT COUNTS. Prove the row's statement (the work); the ties are given (YtcacmhcekoeblaaDoorTie.lean); close each card by the builder's one call (the guide's Derived/Test/ToyasCard.lean, 'card_holds'). Laid BY PROGRAM, IN A SANDBOX (cutbox-door.mjs). By AI agents, Wed Nov 11 2026. No macro, syntax, notation, axiom, sorry.
-/
import Derived.Test.YtcacmhcekoeblaaDoorRows
import GoSem.ClaimSeven
namespace Go.Proofs.YtcacmhcekoeblaaDoor
namespace Rows

/-- THE TIED CARD OF 'abacustop.CoreRoots'. -/
def coreRootsCard : Claim7 := { stood := { row := coreRootsRow, standIns := [], harness := (true, "2d96a727ab156a14c0149fe46473123028b0c1487a657ccb7576a32b1d6c9b84"), looks := false }, kinds := [], alts := [], laidByText := true, laidKinds := [.data], laidTests := true, laidLooks := .later }
def CoreRootsCardSaid : Prop := Claim7.holds Tryd.pinned (.plain (OpenSpec.ofChange coreRootsSpec)) coreRootsCard

/-- THE TIED CARD OF 'abacustop.CoreLeft'. -/
def coreLeftCard : Claim7 := { stood := { row := coreLeftRow, standIns := [], harness := (true, "2d96a727ab156a14c0149fe46473123028b0c1487a657ccb7576a32b1d6c9b84"), looks := false }, kinds := [], alts := [], laidByText := true, laidKinds := [.data], laidTests := true, laidLooks := .later }
def CoreLeftCardSaid : Prop := Claim7.holds Tryd.pinned (.plain (OpenSpec.ofChange coreLeftSpec)) coreLeftCard

/-- THE SECOND FORM's CARD OF 'abacustop.CoreRoots'. -/
def coreRootsUptoCard : Claim7 := { stood := { row := coreRootsUptoRow, standIns := [], harness := (true, "2d96a727ab156a14c0149fe46473123028b0c1487a657ccb7576a32b1d6c9b84"), looks := false }, kinds := [], alts := [], laidByText := true, laidKinds := [.data], laidTests := true, laidLooks := .later }
def CoreRootsUptoCardSaid : Prop := Claim7.holds Tryd.pinned (.plain (OpenSpec.upto coreRootsSpec)) coreRootsUptoCard

/-- THE SECOND FORM's CARD OF 'abacustop.CoreLeft'. -/
def coreLeftUptoCard : Claim7 := { stood := { row := coreLeftUptoRow, standIns := [], harness := (true, "2d96a727ab156a14c0149fe46473123028b0c1487a657ccb7576a32b1d6c9b84"), looks := false }, kinds := [], alts := [], laidByText := true, laidKinds := [.data], laidTests := true, laidLooks := .later }
def CoreLeftUptoCardSaid : Prop := Claim7.holds Tryd.pinned (.plain (OpenSpec.upto coreLeftSpec)) coreLeftUptoCard
end Rows
end Go.Proofs.YtcacmhcekoeblaaDoor
