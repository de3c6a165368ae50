/-
  DERIVED. GIVEN WITH THE SEED: THE CARDS: each row of YtceihajjpeoloaaDoorRows.lean that lists a variable, with what it lists TIED to the program's text (the seventh form; the later family's looks); each row that meets fmt, with fmt's text TOLD by the authors' own Lean function (tested against real Go, not proved from fmt's source: count such statements apart). THE CARD IS WHAT COUNTS. Prove the row's statement (the work); the ties are given (YtceihajjpeoloaaDoorTie.lean); close each card by the builder's one call (the guide's Derived/Test/ToyasCard.lean, 'card_holds'). Laid BY PROGRAM, IN A SANDBOX (cutbox-door.mjs). By AI agents, Wed Nov 11 2026. No macro, syntax, notation, axiom, sorry.
-/
import Derived.Test.YtceihajjpeoloaaDoorRows
import GoSem.ClaimSeven
namespace Go.Proofs.YtceihajjpeoloaaDoor
namespace Rows

/-- THE TIED CARD OF 'abacustop.CoreDivides'. -/
def coreDividesCard : Claim7 := { stood := { row := coreDividesRow, standIns := [], harness := (true, "7aa198f872ef41d089fab298d97291796865f7a07cb01a2fff804e702f6e2645"), looks := false }, kinds := [], alts := [], laidByText := true, laidKinds := [.data], laidTests := true, laidLooks := .later }
def CoreDividesCardSaid : Prop := Claim7.holds Tryd.pinned (.plain (OpenSpec.ofChange coreDividesSpec)) coreDividesCard

/-- THE TIED CARD OF 'abacuslaw05.SoftReckons'. -/
def softReckonsCard : Claim7 := { stood := { row := softReckonsRow, standIns := [], harness := (true, "7aa198f872ef41d089fab298d97291796865f7a07cb01a2fff804e702f6e2645"), looks := false }, kinds := [], alts := [], laidByText := true, laidKinds := [.data], laidTests := true, laidLooks := .later }
def SoftReckonsCardSaid : Prop := Claim7.holds Tryd.pinned (.plain (OpenSpec.ofChange softReckonsSpec)) softReckonsCard

/-- THE TIED CARD OF 'abacuslaw05.SoftFmas'. -/
def softFmasCard : Claim7 := { stood := { row := softFmasRow, standIns := [], harness := (true, "7aa198f872ef41d089fab298d97291796865f7a07cb01a2fff804e702f6e2645"), looks := false }, kinds := [], alts := [], laidByText := true, laidKinds := [.data], laidTests := true, laidLooks := .later }
def SoftFmasCardSaid : Prop := Claim7.holds Tryd.pinned (.plain (OpenSpec.ofChange softFmasSpec)) softFmasCard

/-- THE TIED CARD OF 'abacuslaw02.QuotRoots'. -/
def quotRootsCard : Claim7 := { stood := { row := quotRootsRow, standIns := [], harness := (true, "7aa198f872ef41d089fab298d97291796865f7a07cb01a2fff804e702f6e2645"), looks := false }, kinds := [], alts := [], laidByText := true, laidKinds := [.data], laidTests := true, laidLooks := .later }
def QuotRootsCardSaid : Prop := Claim7.holds Tryd.pinned (.plain (OpenSpec.ofChange quotRootsSpec)) quotRootsCard

/-- THE TIED CARD OF 'abacuslaw04.IeeeExact'. -/
def ieeeExactCard : Claim7 := { stood := { row := ieeeExactRow, standIns := [], harness := (true, "7aa198f872ef41d089fab298d97291796865f7a07cb01a2fff804e702f6e2645"), looks := false }, kinds := [], alts := [], laidByText := true, laidKinds := [.data], laidTests := true, laidLooks := .later }
def IeeeExactCardSaid : Prop := Claim7.holds Tryd.pinned (.plain (OpenSpec.ofChange ieeeExactSpec)) ieeeExactCard

/-- THE TIED CARD OF 'abacuslaw01.NatExact'. -/
def natExactCard : Claim7 := { stood := { row := natExactRow, standIns := [], harness := (true, "7aa198f872ef41d089fab298d97291796865f7a07cb01a2fff804e702f6e2645"), looks := false }, kinds := [], alts := [], laidByText := true, laidKinds := [.data], laidTests := true, laidLooks := .later }
def NatExactCardSaid : Prop := Claim7.holds Tryd.pinned (.plain (OpenSpec.ofChange natExactSpec)) natExactCard

/-- THE TIED CARD OF 'abacuslaw02.QuotDivides'. -/
def quotDividesCard : Claim7 := { stood := { row := quotDividesRow, standIns := [], harness := (true, "7aa198f872ef41d089fab298d97291796865f7a07cb01a2fff804e702f6e2645"), looks := false }, kinds := [], alts := [], laidByText := true, laidKinds := [.data], laidTests := true, laidLooks := .later }
def QuotDividesCardSaid : Prop := Claim7.holds Tryd.pinned (.plain (OpenSpec.ofChange quotDividesSpec)) quotDividesCard

/-- THE TIED CARD OF 'abacuslaw04.IeeeRising'. -/
def ieeeRisingCard : Claim7 := { stood := { row := ieeeRisingRow, standIns := [], harness := (true, "7aa198f872ef41d089fab298d97291796865f7a07cb01a2fff804e702f6e2645"), looks := false }, kinds := [], alts := [], laidByText := true, laidKinds := [.data], laidTests := true, laidLooks := .later }
def IeeeRisingCardSaid : Prop := Claim7.holds Tryd.pinned (.plain (OpenSpec.ofChange ieeeRisingSpec)) ieeeRisingCard

/-- THE SECOND FORM's CARD OF 'abacustop.CoreDivides'. -/
def coreDividesUptoCard : Claim7 := { stood := { row := coreDividesUptoRow, standIns := [], harness := (true, "7aa198f872ef41d089fab298d97291796865f7a07cb01a2fff804e702f6e2645"), looks := false }, kinds := [], alts := [], laidByText := true, laidKinds := [.data], laidTests := true, laidLooks := .later }
def CoreDividesUptoCardSaid : Prop := Claim7.holds Tryd.pinned (.plain (OpenSpec.upto coreDividesSpec)) coreDividesUptoCard

/-- THE SECOND FORM's CARD OF 'abacuslaw05.SoftReckons'. -/
def softReckonsUptoCard : Claim7 := { stood := { row := softReckonsUptoRow, standIns := [], harness := (true, "7aa198f872ef41d089fab298d97291796865f7a07cb01a2fff804e702f6e2645"), looks := false }, kinds := [], alts := [], laidByText := true, laidKinds := [.data], laidTests := true, laidLooks := .later }
def SoftReckonsUptoCardSaid : Prop := Claim7.holds Tryd.pinned (.plain (OpenSpec.upto softReckonsSpec)) softReckonsUptoCard

/-- THE SECOND FORM's CARD OF 'abacuslaw05.SoftFmas'. -/
def softFmasUptoCard : Claim7 := { stood := { row := softFmasUptoRow, standIns := [], harness := (true, "7aa198f872ef41d089fab298d97291796865f7a07cb01a2fff804e702f6e2645"), looks := false }, kinds := [], alts := [], laidByText := true, laidKinds := [.data], laidTests := true, laidLooks := .later }
def SoftFmasUptoCardSaid : Prop := Claim7.holds Tryd.pinned (.plain (OpenSpec.upto softFmasSpec)) softFmasUptoCard

/-- THE SECOND FORM's CARD OF 'abacuslaw02.QuotRoots'. -/
def quotRootsUptoCard : Claim7 := { stood := { row := quotRootsUptoRow, standIns := [], harness := (true, "7aa198f872ef41d089fab298d97291796865f7a07cb01a2fff804e702f6e2645"), looks := false }, kinds := [], alts := [], laidByText := true, laidKinds := [.data], laidTests := true, laidLooks := .later }
def QuotRootsUptoCardSaid : Prop := Claim7.holds Tryd.pinned (.plain (OpenSpec.upto quotRootsSpec)) quotRootsUptoCard

/-- THE SECOND FORM's CARD OF 'abacuslaw04.IeeeExact'. -/
def ieeeExactUptoCard : Claim7 := { stood := { row := ieeeExactUptoRow, standIns := [], harness := (true, "7aa198f872ef41d089fab298d97291796865f7a07cb01a2fff804e702f6e2645"), looks := false }, kinds := [], alts := [], laidByText := true, laidKinds := [.data], laidTests := true, laidLooks := .later }
def IeeeExactUptoCardSaid : Prop := Claim7.holds Tryd.pinned (.plain (OpenSpec.upto ieeeExactSpec)) ieeeExactUptoCard

/-- THE SECOND FORM's CARD OF 'abacuslaw01.NatExact'. -/
def natExactUptoCard : Claim7 := { stood := { row := natExactUptoRow, standIns := [], harness := (true, "7aa198f872ef41d089fab298d97291796865f7a07cb01a2fff804e702f6e2645"), looks := false }, kinds := [], alts := [], laidByText := true, laidKinds := [.data], laidTests := true, laidLooks := .later }
def NatExactUptoCardSaid : Prop := Claim7.holds Tryd.pinned (.plain (OpenSpec.upto natExactSpec)) natExactUptoCard

/-- THE SECOND FORM's CARD OF 'abacuslaw02.QuotDivides'. -/
def quotDividesUptoCard : Claim7 := { stood := { row := quotDividesUptoRow, standIns := [], harness := (true, "7aa198f872ef41d089fab298d97291796865f7a07cb01a2fff804e702f6e2645"), looks := false }, kinds := [], alts := [], laidByText := true, laidKinds := [.data], laidTests := true, laidLooks := .later }
def QuotDividesUptoCardSaid : Prop := Claim7.holds Tryd.pinned (.plain (OpenSpec.upto quotDividesSpec)) quotDividesUptoCard

/-- THE SECOND FORM's CARD OF 'abacuslaw04.IeeeRising'. -/
def ieeeRisingUptoCard : Claim7 := { stood := { row := ieeeRisingUptoRow, standIns := [], harness := (true, "7aa198f872ef41d089fab298d97291796865f7a07cb01a2fff804e702f6e2645"), looks := false }, kinds := [], alts := [], laidByText := true, laidKinds := [.data], laidTests := true, laidLooks := .later }
def IeeeRisingUptoCardSaid : Prop := Claim7.holds Tryd.pinned (.plain (OpenSpec.upto ieeeRisingSpec)) ieeeRisingUptoCard
end Rows
end Go.Proofs.YtceihajjpeoloaaDoor
