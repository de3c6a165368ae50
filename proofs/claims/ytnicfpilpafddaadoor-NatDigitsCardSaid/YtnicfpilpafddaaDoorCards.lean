/-
  DERIVED. GIVEN WITH THE SEED: THE CARDS: each row of YtnicfpilpafddaaDoorRows.lean that lists a variable, with what it lists TIED to the program's text (the seventh form; the later family's looks); each row that meets fmt, with fmt's text TOLD by the authors' own Lean function (tested against real Go, not proved from fmt's source: count such statements apart). THE CARD IS WHAT COUNTS. Prove the row's statement (the work); the ties are given (YtnicfpilpafddaaDoorTie.lean); close each card by the builder's one call (the guide's Derived/Test/ToyasCard.lean, 'card_holds'). Laid BY PROGRAM, IN A SANDBOX (cutbox-door.mjs). By AI agents, Wed Nov 11 2026. No macro, syntax, notation, axiom, sorry.
-/
import Derived.Test.YtnicfpilpafddaaDoorRows
import GoSem.ClaimSeven
namespace Go.Proofs.YtnicfpilpafddaaDoor
namespace Rows

/-- THE TIED CARD OF 'abacuslaw01.NatDigits'. -/
def natDigitsCard : Claim7 := { stood := { row := natDigitsRow, standIns := [], harness := (true, "9ff9a6499b8d963f62c1351f9c77a1a916866b57338c3a1b4a6b540b4c9f61ea"), looks := false }, kinds := [], alts := [], laidByText := true, laidKinds := [.data], laidTests := true, laidLooks := .later }
def NatDigitsCardSaid : Prop := Claim7.holds Tryd.pinned (.plain (OpenSpec.ofChange natDigitsSpec)) natDigitsCard

/-- THE TIED CARD OF 'abacuslaw01.NatLimit'. -/
def natLimitCard : Claim7 := { stood := { row := natLimitRow, standIns := [], harness := (true, "9ff9a6499b8d963f62c1351f9c77a1a916866b57338c3a1b4a6b540b4c9f61ea"), looks := false }, kinds := [], alts := [], laidByText := true, laidKinds := [.data], laidTests := true, laidLooks := .later }
def NatLimitCardSaid : Prop := Claim7.holds Tryd.pinned (.plain (OpenSpec.ofChange natLimitSpec)) natLimitCard

/-- THE TIED CARD OF 'abacuslaw01.NatShifts'. -/
def natShiftsCard : Claim7 := { stood := { row := natShiftsRow, standIns := [], harness := (true, "9ff9a6499b8d963f62c1351f9c77a1a916866b57338c3a1b4a6b540b4c9f61ea"), looks := false }, kinds := [], alts := [], laidByText := true, laidKinds := [.data], laidTests := true, laidLooks := .later }
def NatShiftsCardSaid : Prop := Claim7.holds Tryd.pinned (.plain (OpenSpec.ofChange natShiftsSpec)) natShiftsCard

/-- THE TIED CARD OF 'abacuslaw01.NatExact'. -/
def natExactCard : Claim7 := { stood := { row := natExactRow, standIns := [], harness := (true, "9ff9a6499b8d963f62c1351f9c77a1a916866b57338c3a1b4a6b540b4c9f61ea"), looks := false }, kinds := [], alts := [], laidByText := true, laidKinds := [.data], laidTests := true, laidLooks := .later }
def NatExactCardSaid : Prop := Claim7.holds Tryd.pinned (.plain (OpenSpec.ofChange natExactSpec)) natExactCard

/-- THE TIED CARD OF 'abacuslaw01.NatMemory'. -/
def natMemoryCard : Claim7 := { stood := { row := natMemoryRow, standIns := [], harness := (true, "9ff9a6499b8d963f62c1351f9c77a1a916866b57338c3a1b4a6b540b4c9f61ea"), looks := false }, kinds := [], alts := [], laidByText := true, laidKinds := [.data], laidTests := true, laidLooks := .later }
def NatMemoryCardSaid : Prop := Claim7.holds Tryd.pinned (.plain (OpenSpec.ofChange natMemorySpec)) natMemoryCard

/-- THE SECOND FORM's CARD OF 'abacuslaw01.NatDigits'. -/
def natDigitsUptoCard : Claim7 := { stood := { row := natDigitsUptoRow, standIns := [], harness := (true, "9ff9a6499b8d963f62c1351f9c77a1a916866b57338c3a1b4a6b540b4c9f61ea"), looks := false }, kinds := [], alts := [], laidByText := true, laidKinds := [.data], laidTests := true, laidLooks := .later }
def NatDigitsUptoCardSaid : Prop := Claim7.holds Tryd.pinned (.plain (OpenSpec.upto natDigitsSpec)) natDigitsUptoCard

/-- THE SECOND FORM's CARD OF 'abacuslaw01.NatLimit'. -/
def natLimitUptoCard : Claim7 := { stood := { row := natLimitUptoRow, standIns := [], harness := (true, "9ff9a6499b8d963f62c1351f9c77a1a916866b57338c3a1b4a6b540b4c9f61ea"), looks := false }, kinds := [], alts := [], laidByText := true, laidKinds := [.data], laidTests := true, laidLooks := .later }
def NatLimitUptoCardSaid : Prop := Claim7.holds Tryd.pinned (.plain (OpenSpec.upto natLimitSpec)) natLimitUptoCard

/-- THE SECOND FORM's CARD OF 'abacuslaw01.NatShifts'. -/
def natShiftsUptoCard : Claim7 := { stood := { row := natShiftsUptoRow, standIns := [], harness := (true, "9ff9a6499b8d963f62c1351f9c77a1a916866b57338c3a1b4a6b540b4c9f61ea"), looks := false }, kinds := [], alts := [], laidByText := true, laidKinds := [.data], laidTests := true, laidLooks := .later }
def NatShiftsUptoCardSaid : Prop := Claim7.holds Tryd.pinned (.plain (OpenSpec.upto natShiftsSpec)) natShiftsUptoCard

/-- THE SECOND FORM's CARD OF 'abacuslaw01.NatExact'. -/
def natExactUptoCard : Claim7 := { stood := { row := natExactUptoRow, standIns := [], harness := (true, "9ff9a6499b8d963f62c1351f9c77a1a916866b57338c3a1b4a6b540b4c9f61ea"), looks := false }, kinds := [], alts := [], laidByText := true, laidKinds := [.data], laidTests := true, laidLooks := .later }
def NatExactUptoCardSaid : Prop := Claim7.holds Tryd.pinned (.plain (OpenSpec.upto natExactSpec)) natExactUptoCard

/-- THE SECOND FORM's CARD OF 'abacuslaw01.NatMemory'. -/
def natMemoryUptoCard : Claim7 := { stood := { row := natMemoryUptoRow, standIns := [], harness := (true, "9ff9a6499b8d963f62c1351f9c77a1a916866b57338c3a1b4a6b540b4c9f61ea"), looks := false }, kinds := [], alts := [], laidByText := true, laidKinds := [.data], laidTests := true, laidLooks := .later }
def NatMemoryUptoCardSaid : Prop := Claim7.holds Tryd.pinned (.plain (OpenSpec.upto natMemorySpec)) natMemoryUptoCard
end Rows
end Go.Proofs.YtnicfpilpafddaaDoor
