/-
  DERIVED. GIVEN WITH THE SEED: THE CARDS: each row of YtcdnoklokoplaaaDoorRows.lean that lists a variable, with what it lists TIED to the program's text (the seventh form; the later family's looks); each row that meets fmt, with fmt's text TOLD by the authors' own Lean function (tested against real Go, not proved from fmt's source: count such statements apart). THE CARD IS WHAT COUNTS. Prove the row's statement (the work); the ties are given (YtcdnoklokoplaaaDoorTie.lean); close each card by the builder's one call (the guide's Derived/Test/ToyasCard.lean, 'card_holds'). Laid BY PROGRAM, IN A SANDBOX (cutbox-door.mjs). By AI agents, Wed Nov 11 2026. No macro, syntax, notation, axiom, sorry.
-/
import Derived.Test.YtcdnoklokoplaaaDoorRows
import GoSem.ClaimSeven
namespace Go.Proofs.YtcdnoklokoplaaaDoor
namespace Rows

/-- THE TIED CARD OF 'abacuslaw05.SoftSterbenz'. -/
def softSterbenzCard : Claim7 := { stood := { row := softSterbenzRow, standIns := [], harness := (true, "df40cc5b78a1d93e95b3a2838138cf86008642d580ea724198e9cfc2629c3344"), looks := false }, kinds := [], alts := [], laidByText := true, laidKinds := [.data], laidTests := true, laidLooks := .later }
def SoftSterbenzCardSaid : Prop := Claim7.holds Tryd.pinned (.plain (OpenSpec.ofChange softSterbenzSpec)) softSterbenzCard

/-- THE TIED CARD OF 'abacuslaw05.SoftTwoSum'. -/
def softTwoSumCard : Claim7 := { stood := { row := softTwoSumRow, standIns := [], harness := (true, "df40cc5b78a1d93e95b3a2838138cf86008642d580ea724198e9cfc2629c3344"), looks := false }, kinds := [], alts := [], laidByText := true, laidKinds := [.data], laidTests := true, laidLooks := .later }
def SoftTwoSumCardSaid : Prop := Claim7.holds Tryd.pinned (.plain (OpenSpec.ofChange softTwoSumSpec)) softTwoSumCard

/-- THE TIED CARD OF 'abacuslaw05.SoftNearSum'. -/
def softNearSumCard : Claim7 := { stood := { row := softNearSumRow, standIns := [], harness := (true, "df40cc5b78a1d93e95b3a2838138cf86008642d580ea724198e9cfc2629c3344"), looks := false }, kinds := [], alts := [], laidByText := true, laidKinds := [.data], laidTests := true, laidLooks := .later }
def SoftNearSumCardSaid : Prop := Claim7.holds Tryd.pinned (.plain (OpenSpec.ofChange softNearSumSpec)) softNearSumCard

/-- THE TIED CARD OF 'abacuslaw05.SoftTwoProduct'. -/
def softTwoProductCard : Claim7 := { stood := { row := softTwoProductRow, standIns := [], harness := (true, "df40cc5b78a1d93e95b3a2838138cf86008642d580ea724198e9cfc2629c3344"), looks := false }, kinds := [], alts := [], laidByText := true, laidKinds := [.data], laidTests := true, laidLooks := .later }
def SoftTwoProductCardSaid : Prop := Claim7.holds Tryd.pinned (.plain (OpenSpec.ofChange softTwoProductSpec)) softTwoProductCard

/-- THE TIED CARD OF 'abacuslaw05.SoftNearProduct'. -/
def softNearProductCard : Claim7 := { stood := { row := softNearProductRow, standIns := [], harness := (true, "df40cc5b78a1d93e95b3a2838138cf86008642d580ea724198e9cfc2629c3344"), looks := false }, kinds := [], alts := [], laidByText := true, laidKinds := [.data], laidTests := true, laidLooks := .later }
def SoftNearProductCardSaid : Prop := Claim7.holds Tryd.pinned (.plain (OpenSpec.ofChange softNearProductSpec)) softNearProductCard

/-- THE TIED CARD OF 'abacuslaw05.SoftNearRoot'. -/
def softNearRootCard : Claim7 := { stood := { row := softNearRootRow, standIns := [], harness := (true, "df40cc5b78a1d93e95b3a2838138cf86008642d580ea724198e9cfc2629c3344"), looks := false }, kinds := [], alts := [], laidByText := true, laidKinds := [.data], laidTests := true, laidLooks := .later }
def SoftNearRootCardSaid : Prop := Claim7.holds Tryd.pinned (.plain (OpenSpec.ofChange softNearRootSpec)) softNearRootCard

/-- THE TIED CARD OF 'abacuslaw05.SoftFmas'. -/
def softFmasCard : Claim7 := { stood := { row := softFmasRow, standIns := [], harness := (true, "df40cc5b78a1d93e95b3a2838138cf86008642d580ea724198e9cfc2629c3344"), looks := false }, kinds := [], alts := [], laidByText := true, laidKinds := [.data], laidTests := true, laidLooks := .later }
def SoftFmasCardSaid : Prop := Claim7.holds Tryd.pinned (.plain (OpenSpec.ofChange softFmasSpec)) softFmasCard

/-- THE TIED CARD OF 'abacuslaw05.SoftNearQuotient'. -/
def softNearQuotientCard : Claim7 := { stood := { row := softNearQuotientRow, standIns := [], harness := (true, "df40cc5b78a1d93e95b3a2838138cf86008642d580ea724198e9cfc2629c3344"), looks := false }, kinds := [], alts := [], laidByText := true, laidKinds := [.data], laidTests := true, laidLooks := .later }
def SoftNearQuotientCardSaid : Prop := Claim7.holds Tryd.pinned (.plain (OpenSpec.ofChange softNearQuotientSpec)) softNearQuotientCard

/-- THE TIED CARD OF 'abacuslaw05.SoftReckons'. -/
def softReckonsCard : Claim7 := { stood := { row := softReckonsRow, standIns := [], harness := (true, "df40cc5b78a1d93e95b3a2838138cf86008642d580ea724198e9cfc2629c3344"), looks := false }, kinds := [], alts := [], laidByText := true, laidKinds := [.data], laidTests := true, laidLooks := .later }
def SoftReckonsCardSaid : Prop := Claim7.holds Tryd.pinned (.plain (OpenSpec.ofChange softReckonsSpec)) softReckonsCard

/-- THE TIED CARD OF 'abacuslaw05.SoftSigns'. -/
def softSignsCard : Claim7 := { stood := { row := softSignsRow, standIns := [], harness := (true, "df40cc5b78a1d93e95b3a2838138cf86008642d580ea724198e9cfc2629c3344"), looks := false }, kinds := [], alts := [], laidByText := true, laidKinds := [.data], laidTests := true, laidLooks := .later }
def SoftSignsCardSaid : Prop := Claim7.holds Tryd.pinned (.plain (OpenSpec.ofChange softSignsSpec)) softSignsCard

/-- THE TIED CARD OF 'abacuslaw05.SoftFlags'. -/
def softFlagsCard : Claim7 := { stood := { row := softFlagsRow, standIns := [], harness := (true, "df40cc5b78a1d93e95b3a2838138cf86008642d580ea724198e9cfc2629c3344"), looks := false }, kinds := [], alts := [], laidByText := true, laidKinds := [.data], laidTests := true, laidLooks := .later }
def SoftFlagsCardSaid : Prop := Claim7.holds Tryd.pinned (.plain (OpenSpec.ofChange softFlagsSpec)) softFlagsCard

/-- THE SECOND FORM's CARD OF 'abacuslaw05.SoftSterbenz'. -/
def softSterbenzUptoCard : Claim7 := { stood := { row := softSterbenzUptoRow, standIns := [], harness := (true, "df40cc5b78a1d93e95b3a2838138cf86008642d580ea724198e9cfc2629c3344"), looks := false }, kinds := [], alts := [], laidByText := true, laidKinds := [.data], laidTests := true, laidLooks := .later }
def SoftSterbenzUptoCardSaid : Prop := Claim7.holds Tryd.pinned (.plain (OpenSpec.upto softSterbenzSpec)) softSterbenzUptoCard

/-- THE SECOND FORM's CARD OF 'abacuslaw05.SoftTwoSum'. -/
def softTwoSumUptoCard : Claim7 := { stood := { row := softTwoSumUptoRow, standIns := [], harness := (true, "df40cc5b78a1d93e95b3a2838138cf86008642d580ea724198e9cfc2629c3344"), looks := false }, kinds := [], alts := [], laidByText := true, laidKinds := [.data], laidTests := true, laidLooks := .later }
def SoftTwoSumUptoCardSaid : Prop := Claim7.holds Tryd.pinned (.plain (OpenSpec.upto softTwoSumSpec)) softTwoSumUptoCard

/-- THE SECOND FORM's CARD OF 'abacuslaw05.SoftNearSum'. -/
def softNearSumUptoCard : Claim7 := { stood := { row := softNearSumUptoRow, standIns := [], harness := (true, "df40cc5b78a1d93e95b3a2838138cf86008642d580ea724198e9cfc2629c3344"), looks := false }, kinds := [], alts := [], laidByText := true, laidKinds := [.data], laidTests := true, laidLooks := .later }
def SoftNearSumUptoCardSaid : Prop := Claim7.holds Tryd.pinned (.plain (OpenSpec.upto softNearSumSpec)) softNearSumUptoCard

/-- THE SECOND FORM's CARD OF 'abacuslaw05.SoftTwoProduct'. -/
def softTwoProductUptoCard : Claim7 := { stood := { row := softTwoProductUptoRow, standIns := [], harness := (true, "df40cc5b78a1d93e95b3a2838138cf86008642d580ea724198e9cfc2629c3344"), looks := false }, kinds := [], alts := [], laidByText := true, laidKinds := [.data], laidTests := true, laidLooks := .later }
def SoftTwoProductUptoCardSaid : Prop := Claim7.holds Tryd.pinned (.plain (OpenSpec.upto softTwoProductSpec)) softTwoProductUptoCard

/-- THE SECOND FORM's CARD OF 'abacuslaw05.SoftNearProduct'. -/
def softNearProductUptoCard : Claim7 := { stood := { row := softNearProductUptoRow, standIns := [], harness := (true, "df40cc5b78a1d93e95b3a2838138cf86008642d580ea724198e9cfc2629c3344"), looks := false }, kinds := [], alts := [], laidByText := true, laidKinds := [.data], laidTests := true, laidLooks := .later }
def SoftNearProductUptoCardSaid : Prop := Claim7.holds Tryd.pinned (.plain (OpenSpec.upto softNearProductSpec)) softNearProductUptoCard

/-- THE SECOND FORM's CARD OF 'abacuslaw05.SoftNearRoot'. -/
def softNearRootUptoCard : Claim7 := { stood := { row := softNearRootUptoRow, standIns := [], harness := (true, "df40cc5b78a1d93e95b3a2838138cf86008642d580ea724198e9cfc2629c3344"), looks := false }, kinds := [], alts := [], laidByText := true, laidKinds := [.data], laidTests := true, laidLooks := .later }
def SoftNearRootUptoCardSaid : Prop := Claim7.holds Tryd.pinned (.plain (OpenSpec.upto softNearRootSpec)) softNearRootUptoCard

/-- THE SECOND FORM's CARD OF 'abacuslaw05.SoftFmas'. -/
def softFmasUptoCard : Claim7 := { stood := { row := softFmasUptoRow, standIns := [], harness := (true, "df40cc5b78a1d93e95b3a2838138cf86008642d580ea724198e9cfc2629c3344"), looks := false }, kinds := [], alts := [], laidByText := true, laidKinds := [.data], laidTests := true, laidLooks := .later }
def SoftFmasUptoCardSaid : Prop := Claim7.holds Tryd.pinned (.plain (OpenSpec.upto softFmasSpec)) softFmasUptoCard

/-- THE SECOND FORM's CARD OF 'abacuslaw05.SoftNearQuotient'. -/
def softNearQuotientUptoCard : Claim7 := { stood := { row := softNearQuotientUptoRow, standIns := [], harness := (true, "df40cc5b78a1d93e95b3a2838138cf86008642d580ea724198e9cfc2629c3344"), looks := false }, kinds := [], alts := [], laidByText := true, laidKinds := [.data], laidTests := true, laidLooks := .later }
def SoftNearQuotientUptoCardSaid : Prop := Claim7.holds Tryd.pinned (.plain (OpenSpec.upto softNearQuotientSpec)) softNearQuotientUptoCard

/-- THE SECOND FORM's CARD OF 'abacuslaw05.SoftReckons'. -/
def softReckonsUptoCard : Claim7 := { stood := { row := softReckonsUptoRow, standIns := [], harness := (true, "df40cc5b78a1d93e95b3a2838138cf86008642d580ea724198e9cfc2629c3344"), looks := false }, kinds := [], alts := [], laidByText := true, laidKinds := [.data], laidTests := true, laidLooks := .later }
def SoftReckonsUptoCardSaid : Prop := Claim7.holds Tryd.pinned (.plain (OpenSpec.upto softReckonsSpec)) softReckonsUptoCard

/-- THE SECOND FORM's CARD OF 'abacuslaw05.SoftSigns'. -/
def softSignsUptoCard : Claim7 := { stood := { row := softSignsUptoRow, standIns := [], harness := (true, "df40cc5b78a1d93e95b3a2838138cf86008642d580ea724198e9cfc2629c3344"), looks := false }, kinds := [], alts := [], laidByText := true, laidKinds := [.data], laidTests := true, laidLooks := .later }
def SoftSignsUptoCardSaid : Prop := Claim7.holds Tryd.pinned (.plain (OpenSpec.upto softSignsSpec)) softSignsUptoCard

/-- THE SECOND FORM's CARD OF 'abacuslaw05.SoftFlags'. -/
def softFlagsUptoCard : Claim7 := { stood := { row := softFlagsUptoRow, standIns := [], harness := (true, "df40cc5b78a1d93e95b3a2838138cf86008642d580ea724198e9cfc2629c3344"), looks := false }, kinds := [], alts := [], laidByText := true, laidKinds := [.data], laidTests := true, laidLooks := .later }
def SoftFlagsUptoCardSaid : Prop := Claim7.holds Tryd.pinned (.plain (OpenSpec.upto softFlagsSpec)) softFlagsUptoCard
end Rows
end Go.Proofs.YtcdnoklokoplaaaDoor
