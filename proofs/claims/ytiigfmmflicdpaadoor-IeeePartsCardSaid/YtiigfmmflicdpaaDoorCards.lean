/-
  DERIVED. GIVEN WITH THE SEED: THE CARDS: each row of YtiigfmmflicdpaaDoorRows.lean that lists a variable, with what it lists TIED to the program's text (the seventh form; the later family's looks); each row that meets fmt, with fmt's text TOLD by the authors' own Lean function (tested against real Go, not proved from fmt's source: count such statements apart). THE CARD IS WHAT COUNTS. Prove the row's statement (the work); the ties are given (YtiigfmmflicdpaaDoorTie.lean); close each card by the builder's one call (the guide's Derived/Test/ToyasCard.lean, 'card_holds'). Laid BY PROGRAM, IN A SANDBOX (cutbox-door.mjs). By AI agents, Wed Nov 11 2026. No macro, syntax, notation, axiom, sorry.
-/
import Derived.Test.YtiigfmmflicdpaaDoorRows
import GoSem.ClaimSeven
namespace Go.Proofs.YtiigfmmflicdpaaDoor
namespace Rows

/-- THE TIED CARD OF 'abacuslaw04.IeeeRising'. -/
def ieeeRisingCard : Claim7 := { stood := { row := ieeeRisingRow, standIns := [], harness := (true, "9d5fdfeb4c0de5dd2b4ecb5b0262984f718c786ad0741e4e0fc49c85597ff04d"), looks := false }, kinds := [], alts := [], laidByText := true, laidKinds := [.data], laidTests := true, laidLooks := .later }
def IeeeRisingCardSaid : Prop := Claim7.holds Tryd.pinned (.plain (OpenSpec.ofChange ieeeRisingSpec)) ieeeRisingCard

/-- THE TIED CARD OF 'abacuslaw04.IeeeParts'. -/
def ieeePartsCard : Claim7 := { stood := { row := ieeePartsRow, standIns := [], harness := (true, "9d5fdfeb4c0de5dd2b4ecb5b0262984f718c786ad0741e4e0fc49c85597ff04d"), looks := false }, kinds := [], alts := [], laidByText := true, laidKinds := [.data], laidTests := true, laidLooks := .later }
def IeeePartsCardSaid : Prop := Claim7.holds Tryd.pinned (.plain (OpenSpec.ofChange ieeePartsSpec)) ieeePartsCard

/-- THE TIED CARD OF 'abacuslaw04.IeeeRanks'. -/
def ieeeRanksCard : Claim7 := { stood := { row := ieeeRanksRow, standIns := [], harness := (true, "9d5fdfeb4c0de5dd2b4ecb5b0262984f718c786ad0741e4e0fc49c85597ff04d"), looks := false }, kinds := [], alts := [], laidByText := true, laidKinds := [.data], laidTests := true, laidLooks := .later }
def IeeeRanksCardSaid : Prop := Claim7.holds Tryd.pinned (.plain (OpenSpec.ofChange ieeeRanksSpec)) ieeeRanksCard

/-- THE TIED CARD OF 'abacuslaw04.IeeeOrder'. -/
def ieeeOrderCard : Claim7 := { stood := { row := ieeeOrderRow, standIns := [], harness := (true, "9d5fdfeb4c0de5dd2b4ecb5b0262984f718c786ad0741e4e0fc49c85597ff04d"), looks := false }, kinds := [], alts := [], laidByText := true, laidKinds := [.data], laidTests := true, laidLooks := .later }
def IeeeOrderCardSaid : Prop := Claim7.holds Tryd.pinned (.plain (OpenSpec.ofChange ieeeOrderSpec)) ieeeOrderCard

/-- THE TIED CARD OF 'abacuslaw04.IeeeNearest'. -/
def ieeeNearestCard : Claim7 := { stood := { row := ieeeNearestRow, standIns := [], harness := (true, "9d5fdfeb4c0de5dd2b4ecb5b0262984f718c786ad0741e4e0fc49c85597ff04d"), looks := false }, kinds := [], alts := [], laidByText := true, laidKinds := [.data], laidTests := true, laidLooks := .later }
def IeeeNearestCardSaid : Prop := Claim7.holds Tryd.pinned (.plain (OpenSpec.ofChange ieeeNearestSpec)) ieeeNearestCard

/-- THE TIED CARD OF 'abacuslaw04.IeeeScaled'. -/
def ieeeScaledCard : Claim7 := { stood := { row := ieeeScaledRow, standIns := [], harness := (true, "9d5fdfeb4c0de5dd2b4ecb5b0262984f718c786ad0741e4e0fc49c85597ff04d"), looks := false }, kinds := [], alts := [], laidByText := true, laidKinds := [.data], laidTests := true, laidLooks := .later }
def IeeeScaledCardSaid : Prop := Claim7.holds Tryd.pinned (.plain (OpenSpec.ofChange ieeeScaledSpec)) ieeeScaledCard

/-- THE TIED CARD OF 'abacuslaw04.IeeeWhole'. -/
def ieeeWholeCard : Claim7 := { stood := { row := ieeeWholeRow, standIns := [], harness := (true, "9d5fdfeb4c0de5dd2b4ecb5b0262984f718c786ad0741e4e0fc49c85597ff04d"), looks := false }, kinds := [], alts := [], laidByText := true, laidKinds := [.data], laidTests := true, laidLooks := .later }
def IeeeWholeCardSaid : Prop := Claim7.holds Tryd.pinned (.plain (OpenSpec.ofChange ieeeWholeSpec)) ieeeWholeCard

/-- THE TIED CARD OF 'abacuslaw04.IeeeExact'. -/
def ieeeExactCard : Claim7 := { stood := { row := ieeeExactRow, standIns := [], harness := (true, "9d5fdfeb4c0de5dd2b4ecb5b0262984f718c786ad0741e4e0fc49c85597ff04d"), looks := false }, kinds := [], alts := [], laidByText := true, laidKinds := [.data], laidTests := true, laidLooks := .later }
def IeeeExactCardSaid : Prop := Claim7.holds Tryd.pinned (.plain (OpenSpec.ofChange ieeeExactSpec)) ieeeExactCard

/-- THE TIED CARD OF 'abacuslaw04.IeeeMemory'. -/
def ieeeMemoryCard : Claim7 := { stood := { row := ieeeMemoryRow, standIns := [], harness := (true, "9d5fdfeb4c0de5dd2b4ecb5b0262984f718c786ad0741e4e0fc49c85597ff04d"), looks := false }, kinds := [], alts := [], laidByText := true, laidKinds := [.data], laidTests := true, laidLooks := .later }
def IeeeMemoryCardSaid : Prop := Claim7.holds Tryd.pinned (.plain (OpenSpec.ofChange ieeeMemorySpec)) ieeeMemoryCard

/-- THE SECOND FORM's CARD OF 'abacuslaw04.IeeeRising'. -/
def ieeeRisingUptoCard : Claim7 := { stood := { row := ieeeRisingUptoRow, standIns := [], harness := (true, "9d5fdfeb4c0de5dd2b4ecb5b0262984f718c786ad0741e4e0fc49c85597ff04d"), looks := false }, kinds := [], alts := [], laidByText := true, laidKinds := [.data], laidTests := true, laidLooks := .later }
def IeeeRisingUptoCardSaid : Prop := Claim7.holds Tryd.pinned (.plain (OpenSpec.upto ieeeRisingSpec)) ieeeRisingUptoCard

/-- THE SECOND FORM's CARD OF 'abacuslaw04.IeeeParts'. -/
def ieeePartsUptoCard : Claim7 := { stood := { row := ieeePartsUptoRow, standIns := [], harness := (true, "9d5fdfeb4c0de5dd2b4ecb5b0262984f718c786ad0741e4e0fc49c85597ff04d"), looks := false }, kinds := [], alts := [], laidByText := true, laidKinds := [.data], laidTests := true, laidLooks := .later }
def IeeePartsUptoCardSaid : Prop := Claim7.holds Tryd.pinned (.plain (OpenSpec.upto ieeePartsSpec)) ieeePartsUptoCard

/-- THE SECOND FORM's CARD OF 'abacuslaw04.IeeeRanks'. -/
def ieeeRanksUptoCard : Claim7 := { stood := { row := ieeeRanksUptoRow, standIns := [], harness := (true, "9d5fdfeb4c0de5dd2b4ecb5b0262984f718c786ad0741e4e0fc49c85597ff04d"), looks := false }, kinds := [], alts := [], laidByText := true, laidKinds := [.data], laidTests := true, laidLooks := .later }
def IeeeRanksUptoCardSaid : Prop := Claim7.holds Tryd.pinned (.plain (OpenSpec.upto ieeeRanksSpec)) ieeeRanksUptoCard

/-- THE SECOND FORM's CARD OF 'abacuslaw04.IeeeOrder'. -/
def ieeeOrderUptoCard : Claim7 := { stood := { row := ieeeOrderUptoRow, standIns := [], harness := (true, "9d5fdfeb4c0de5dd2b4ecb5b0262984f718c786ad0741e4e0fc49c85597ff04d"), looks := false }, kinds := [], alts := [], laidByText := true, laidKinds := [.data], laidTests := true, laidLooks := .later }
def IeeeOrderUptoCardSaid : Prop := Claim7.holds Tryd.pinned (.plain (OpenSpec.upto ieeeOrderSpec)) ieeeOrderUptoCard

/-- THE SECOND FORM's CARD OF 'abacuslaw04.IeeeNearest'. -/
def ieeeNearestUptoCard : Claim7 := { stood := { row := ieeeNearestUptoRow, standIns := [], harness := (true, "9d5fdfeb4c0de5dd2b4ecb5b0262984f718c786ad0741e4e0fc49c85597ff04d"), looks := false }, kinds := [], alts := [], laidByText := true, laidKinds := [.data], laidTests := true, laidLooks := .later }
def IeeeNearestUptoCardSaid : Prop := Claim7.holds Tryd.pinned (.plain (OpenSpec.upto ieeeNearestSpec)) ieeeNearestUptoCard

/-- THE SECOND FORM's CARD OF 'abacuslaw04.IeeeScaled'. -/
def ieeeScaledUptoCard : Claim7 := { stood := { row := ieeeScaledUptoRow, standIns := [], harness := (true, "9d5fdfeb4c0de5dd2b4ecb5b0262984f718c786ad0741e4e0fc49c85597ff04d"), looks := false }, kinds := [], alts := [], laidByText := true, laidKinds := [.data], laidTests := true, laidLooks := .later }
def IeeeScaledUptoCardSaid : Prop := Claim7.holds Tryd.pinned (.plain (OpenSpec.upto ieeeScaledSpec)) ieeeScaledUptoCard

/-- THE SECOND FORM's CARD OF 'abacuslaw04.IeeeWhole'. -/
def ieeeWholeUptoCard : Claim7 := { stood := { row := ieeeWholeUptoRow, standIns := [], harness := (true, "9d5fdfeb4c0de5dd2b4ecb5b0262984f718c786ad0741e4e0fc49c85597ff04d"), looks := false }, kinds := [], alts := [], laidByText := true, laidKinds := [.data], laidTests := true, laidLooks := .later }
def IeeeWholeUptoCardSaid : Prop := Claim7.holds Tryd.pinned (.plain (OpenSpec.upto ieeeWholeSpec)) ieeeWholeUptoCard

/-- THE SECOND FORM's CARD OF 'abacuslaw04.IeeeExact'. -/
def ieeeExactUptoCard : Claim7 := { stood := { row := ieeeExactUptoRow, standIns := [], harness := (true, "9d5fdfeb4c0de5dd2b4ecb5b0262984f718c786ad0741e4e0fc49c85597ff04d"), looks := false }, kinds := [], alts := [], laidByText := true, laidKinds := [.data], laidTests := true, laidLooks := .later }
def IeeeExactUptoCardSaid : Prop := Claim7.holds Tryd.pinned (.plain (OpenSpec.upto ieeeExactSpec)) ieeeExactUptoCard

/-- THE SECOND FORM's CARD OF 'abacuslaw04.IeeeMemory'. -/
def ieeeMemoryUptoCard : Claim7 := { stood := { row := ieeeMemoryUptoRow, standIns := [], harness := (true, "9d5fdfeb4c0de5dd2b4ecb5b0262984f718c786ad0741e4e0fc49c85597ff04d"), looks := false }, kinds := [], alts := [], laidByText := true, laidKinds := [.data], laidTests := true, laidLooks := .later }
def IeeeMemoryUptoCardSaid : Prop := Claim7.holds Tryd.pinned (.plain (OpenSpec.upto ieeeMemorySpec)) ieeeMemoryUptoCard
end Rows
end Go.Proofs.YtiigfmmflicdpaaDoor
