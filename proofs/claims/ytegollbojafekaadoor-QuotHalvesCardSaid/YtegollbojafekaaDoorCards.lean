/-
  DERIVED. GIVEN WITH THE SEED: THE CARDS: each row of YtegollbojafekaaDoorRows.lean that lists a variable, with what it lists TIED to the program's text (the seventh form; the later family's looks); each row that meets fmt, with fmt's text TOLD by the authors' own Lean function (tested against real Go, not proved from fmt's source: count such statements apart). THE CARD IS WHAT COUNTS. Prove the row's statement (the work); the ties are given (YtegollbojafekaaDoorTie.lean); close each card by the builder's one call (the guide's Derived/Test/ToyasCard.lean, 'card_holds'). Laid BY PROGRAM, IN A SANDBOX (cutbox-door.mjs). By AI agents, Wed Nov 11 2026. No macro, syntax, notation, axiom, sorry.
-/
import Derived.Test.YtegollbojafekaaDoorRows
import GoSem.ClaimSeven
namespace Go.Proofs.YtegollbojafekaaDoor
namespace Rows

/-- THE TIED CARD OF 'abacuslaw02.QuotSplits'. -/
def quotSplitsCard : Claim7 := { stood := { row := quotSplitsRow, standIns := [], harness := (true, "84c32994fdbf307d5a5912fc7563a0e45dccfed09e28dd93e72865e0895306bc"), looks := false }, kinds := [], alts := [], laidByText := true, laidKinds := [.data], laidTests := true, laidLooks := .later }
def QuotSplitsCardSaid : Prop := Claim7.holds Tryd.pinned (.plain (OpenSpec.ofChange quotSplitsSpec)) quotSplitsCard

/-- THE TIED CARD OF 'abacuslaw02.QuotDivides'. -/
def quotDividesCard : Claim7 := { stood := { row := quotDividesRow, standIns := [], harness := (true, "84c32994fdbf307d5a5912fc7563a0e45dccfed09e28dd93e72865e0895306bc"), looks := false }, kinds := [], alts := [], laidByText := true, laidKinds := [.data], laidTests := true, laidLooks := .later }
def QuotDividesCardSaid : Prop := Claim7.holds Tryd.pinned (.plain (OpenSpec.ofChange quotDividesSpec)) quotDividesCard

/-- THE TIED CARD OF 'abacuslaw02.QuotRoots'. -/
def quotRootsCard : Claim7 := { stood := { row := quotRootsRow, standIns := [], harness := (true, "84c32994fdbf307d5a5912fc7563a0e45dccfed09e28dd93e72865e0895306bc"), looks := false }, kinds := [], alts := [], laidByText := true, laidKinds := [.data], laidTests := true, laidLooks := .later }
def QuotRootsCardSaid : Prop := Claim7.holds Tryd.pinned (.plain (OpenSpec.ofChange quotRootsSpec)) quotRootsCard

/-- THE TIED CARD OF 'abacuslaw02.QuotSquares'. -/
def quotSquaresCard : Claim7 := { stood := { row := quotSquaresRow, standIns := [], harness := (true, "84c32994fdbf307d5a5912fc7563a0e45dccfed09e28dd93e72865e0895306bc"), looks := false }, kinds := [], alts := [], laidByText := true, laidKinds := [.data], laidTests := true, laidLooks := .later }
def QuotSquaresCardSaid : Prop := Claim7.holds Tryd.pinned (.plain (OpenSpec.ofChange quotSquaresSpec)) quotSquaresCard

/-- THE TIED CARD OF 'abacuslaw02.QuotPowers'. -/
def quotPowersCard : Claim7 := { stood := { row := quotPowersRow, standIns := [], harness := (true, "84c32994fdbf307d5a5912fc7563a0e45dccfed09e28dd93e72865e0895306bc"), looks := false }, kinds := [], alts := [], laidByText := true, laidKinds := [.data], laidTests := true, laidLooks := .later }
def QuotPowersCardSaid : Prop := Claim7.holds Tryd.pinned (.plain (OpenSpec.ofChange quotPowersSpec)) quotPowersCard

/-- THE TIED CARD OF 'abacuslaw02.QuotHalves'. -/
def quotHalvesCard : Claim7 := { stood := { row := quotHalvesRow, standIns := [], harness := (true, "84c32994fdbf307d5a5912fc7563a0e45dccfed09e28dd93e72865e0895306bc"), looks := false }, kinds := [], alts := [], laidByText := true, laidKinds := [.data], laidTests := true, laidLooks := .later }
def QuotHalvesCardSaid : Prop := Claim7.holds Tryd.pinned (.plain (OpenSpec.ofChange quotHalvesSpec)) quotHalvesCard

/-- THE TIED CARD OF 'abacuslaw02.QuotKeeps'. -/
def quotKeepsCard : Claim7 := { stood := { row := quotKeepsRow, standIns := [], harness := (true, "84c32994fdbf307d5a5912fc7563a0e45dccfed09e28dd93e72865e0895306bc"), looks := false }, kinds := [], alts := [], laidByText := true, laidKinds := [.data], laidTests := true, laidLooks := .later }
def QuotKeepsCardSaid : Prop := Claim7.holds Tryd.pinned (.plain (OpenSpec.ofChange quotKeepsSpec)) quotKeepsCard

/-- THE SECOND FORM's CARD OF 'abacuslaw02.QuotSplits'. -/
def quotSplitsUptoCard : Claim7 := { stood := { row := quotSplitsUptoRow, standIns := [], harness := (true, "84c32994fdbf307d5a5912fc7563a0e45dccfed09e28dd93e72865e0895306bc"), looks := false }, kinds := [], alts := [], laidByText := true, laidKinds := [.data], laidTests := true, laidLooks := .later }
def QuotSplitsUptoCardSaid : Prop := Claim7.holds Tryd.pinned (.plain (OpenSpec.upto quotSplitsSpec)) quotSplitsUptoCard

/-- THE SECOND FORM's CARD OF 'abacuslaw02.QuotDivides'. -/
def quotDividesUptoCard : Claim7 := { stood := { row := quotDividesUptoRow, standIns := [], harness := (true, "84c32994fdbf307d5a5912fc7563a0e45dccfed09e28dd93e72865e0895306bc"), looks := false }, kinds := [], alts := [], laidByText := true, laidKinds := [.data], laidTests := true, laidLooks := .later }
def QuotDividesUptoCardSaid : Prop := Claim7.holds Tryd.pinned (.plain (OpenSpec.upto quotDividesSpec)) quotDividesUptoCard

/-- THE SECOND FORM's CARD OF 'abacuslaw02.QuotRoots'. -/
def quotRootsUptoCard : Claim7 := { stood := { row := quotRootsUptoRow, standIns := [], harness := (true, "84c32994fdbf307d5a5912fc7563a0e45dccfed09e28dd93e72865e0895306bc"), looks := false }, kinds := [], alts := [], laidByText := true, laidKinds := [.data], laidTests := true, laidLooks := .later }
def QuotRootsUptoCardSaid : Prop := Claim7.holds Tryd.pinned (.plain (OpenSpec.upto quotRootsSpec)) quotRootsUptoCard

/-- THE SECOND FORM's CARD OF 'abacuslaw02.QuotSquares'. -/
def quotSquaresUptoCard : Claim7 := { stood := { row := quotSquaresUptoRow, standIns := [], harness := (true, "84c32994fdbf307d5a5912fc7563a0e45dccfed09e28dd93e72865e0895306bc"), looks := false }, kinds := [], alts := [], laidByText := true, laidKinds := [.data], laidTests := true, laidLooks := .later }
def QuotSquaresUptoCardSaid : Prop := Claim7.holds Tryd.pinned (.plain (OpenSpec.upto quotSquaresSpec)) quotSquaresUptoCard

/-- THE SECOND FORM's CARD OF 'abacuslaw02.QuotPowers'. -/
def quotPowersUptoCard : Claim7 := { stood := { row := quotPowersUptoRow, standIns := [], harness := (true, "84c32994fdbf307d5a5912fc7563a0e45dccfed09e28dd93e72865e0895306bc"), looks := false }, kinds := [], alts := [], laidByText := true, laidKinds := [.data], laidTests := true, laidLooks := .later }
def QuotPowersUptoCardSaid : Prop := Claim7.holds Tryd.pinned (.plain (OpenSpec.upto quotPowersSpec)) quotPowersUptoCard

/-- THE SECOND FORM's CARD OF 'abacuslaw02.QuotHalves'. -/
def quotHalvesUptoCard : Claim7 := { stood := { row := quotHalvesUptoRow, standIns := [], harness := (true, "84c32994fdbf307d5a5912fc7563a0e45dccfed09e28dd93e72865e0895306bc"), looks := false }, kinds := [], alts := [], laidByText := true, laidKinds := [.data], laidTests := true, laidLooks := .later }
def QuotHalvesUptoCardSaid : Prop := Claim7.holds Tryd.pinned (.plain (OpenSpec.upto quotHalvesSpec)) quotHalvesUptoCard

/-- THE SECOND FORM's CARD OF 'abacuslaw02.QuotKeeps'. -/
def quotKeepsUptoCard : Claim7 := { stood := { row := quotKeepsUptoRow, standIns := [], harness := (true, "84c32994fdbf307d5a5912fc7563a0e45dccfed09e28dd93e72865e0895306bc"), looks := false }, kinds := [], alts := [], laidByText := true, laidKinds := [.data], laidTests := true, laidLooks := .later }
def QuotKeepsUptoCardSaid : Prop := Claim7.holds Tryd.pinned (.plain (OpenSpec.upto quotKeepsSpec)) quotKeepsUptoCard
end Rows
end Go.Proofs.YtegollbojafekaaDoor
