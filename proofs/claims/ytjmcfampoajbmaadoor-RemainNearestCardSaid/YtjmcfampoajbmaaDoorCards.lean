/-
  DERIVED. GIVEN WITH THE SEED: THE CARDS: each row of YtjmcfampoajbmaaDoorRows.lean that lists a variable, with what it lists TIED to the program's text (the seventh form; the later family's looks); each row that meets fmt, with fmt's text TOLD by the authors' own Lean function (tested against real Go, not proved from fmt's source: count such statements apart). THE CARD IS WHAT COUNTS. Prove the row's statement (the work); the ties are given (YtjmcfampoajbmaaDoorTie.lean); close each card by the builder's one call (the guide's Derived/Test/ToyasCard.lean, 'card_holds'). Laid BY PROGRAM, IN A SANDBOX (cutbox-door.mjs). By AI agents, Wed Nov 11 2026. No macro, syntax, notation, axiom, sorry.
-/
import Derived.Test.YtjmcfampoajbmaaDoorRows
import GoSem.ClaimSeven
namespace Go.Proofs.YtjmcfampoajbmaaDoor
namespace Rows

/-- THE TIED CARD OF 'abacuslaw06.RemainSteps'. -/
def remainStepsCard : Claim7 := { stood := { row := remainStepsRow, standIns := [], harness := (true, "6b9518c6294ea50d58cc6dfed7754f689a4d857d4fdd83e2417a7589d712a1b3"), looks := false }, kinds := [], alts := [], laidByText := true, laidKinds := [.data], laidTests := true, laidLooks := .later }
def RemainStepsCardSaid : Prop := Claim7.holds Tryd.pinned (.plain (OpenSpec.ofChange remainStepsSpec)) remainStepsCard

/-- THE TIED CARD OF 'abacuslaw06.RemainNearest'. -/
def remainNearestCard : Claim7 := { stood := { row := remainNearestRow, standIns := [], harness := (true, "6b9518c6294ea50d58cc6dfed7754f689a4d857d4fdd83e2417a7589d712a1b3"), looks := false }, kinds := [], alts := [], laidByText := true, laidKinds := [.data], laidTests := true, laidLooks := .later }
def RemainNearestCardSaid : Prop := Claim7.holds Tryd.pinned (.plain (OpenSpec.ofChange remainNearestSpec)) remainNearestCard

/-- THE TIED CARD OF 'abacuslaw06.RemainWraps'. -/
def remainWrapsCard : Claim7 := { stood := { row := remainWrapsRow, standIns := [], harness := (true, "6b9518c6294ea50d58cc6dfed7754f689a4d857d4fdd83e2417a7589d712a1b3"), looks := false }, kinds := [], alts := [], laidByText := true, laidKinds := [.data], laidTests := true, laidLooks := .later }
def RemainWrapsCardSaid : Prop := Claim7.holds Tryd.pinned (.plain (OpenSpec.ofChange remainWrapsSpec)) remainWrapsCard

/-- THE TIED CARD OF 'abacuslaw06.RemainCentres'. -/
def remainCentresCard : Claim7 := { stood := { row := remainCentresRow, standIns := [], harness := (true, "6b9518c6294ea50d58cc6dfed7754f689a4d857d4fdd83e2417a7589d712a1b3"), looks := false }, kinds := [], alts := [], laidByText := true, laidKinds := [.data], laidTests := true, laidLooks := .later }
def RemainCentresCardSaid : Prop := Claim7.holds Tryd.pinned (.plain (OpenSpec.ofChange remainCentresSpec)) remainCentresCard

/-- THE TIED CARD OF 'abacuslaw06.RemainFirst'. -/
def remainFirstCard : Claim7 := { stood := { row := remainFirstRow, standIns := [], harness := (true, "6b9518c6294ea50d58cc6dfed7754f689a4d857d4fdd83e2417a7589d712a1b3"), looks := false }, kinds := [], alts := [], laidByText := true, laidKinds := [.data], laidTests := true, laidLooks := .later }
def RemainFirstCardSaid : Prop := Claim7.holds Tryd.pinned (.plain (OpenSpec.ofChange remainFirstSpec)) remainFirstCard

/-- THE TIED CARD OF 'abacuslaw06.RemainFloors'. -/
def remainFloorsCard : Claim7 := { stood := { row := remainFloorsRow, standIns := [], harness := (true, "6b9518c6294ea50d58cc6dfed7754f689a4d857d4fdd83e2417a7589d712a1b3"), looks := false }, kinds := [], alts := [], laidByText := true, laidKinds := [.data], laidTests := true, laidLooks := .later }
def RemainFloorsCardSaid : Prop := Claim7.holds Tryd.pinned (.plain (OpenSpec.ofChange remainFloorsSpec)) remainFloorsCard

/-- THE TIED CARD OF 'abacuslaw06.RemainJoins'. -/
def remainJoinsCard : Claim7 := { stood := { row := remainJoinsRow, standIns := [], harness := (true, "6b9518c6294ea50d58cc6dfed7754f689a4d857d4fdd83e2417a7589d712a1b3"), looks := false }, kinds := [], alts := [], laidByText := true, laidKinds := [.data], laidTests := true, laidLooks := .later }
def RemainJoinsCardSaid : Prop := Claim7.holds Tryd.pinned (.plain (OpenSpec.ofChange remainJoinsSpec)) remainJoinsCard

/-- THE SECOND FORM's CARD OF 'abacuslaw06.RemainSteps'. -/
def remainStepsUptoCard : Claim7 := { stood := { row := remainStepsUptoRow, standIns := [], harness := (true, "6b9518c6294ea50d58cc6dfed7754f689a4d857d4fdd83e2417a7589d712a1b3"), looks := false }, kinds := [], alts := [], laidByText := true, laidKinds := [.data], laidTests := true, laidLooks := .later }
def RemainStepsUptoCardSaid : Prop := Claim7.holds Tryd.pinned (.plain (OpenSpec.upto remainStepsSpec)) remainStepsUptoCard

/-- THE SECOND FORM's CARD OF 'abacuslaw06.RemainNearest'. -/
def remainNearestUptoCard : Claim7 := { stood := { row := remainNearestUptoRow, standIns := [], harness := (true, "6b9518c6294ea50d58cc6dfed7754f689a4d857d4fdd83e2417a7589d712a1b3"), looks := false }, kinds := [], alts := [], laidByText := true, laidKinds := [.data], laidTests := true, laidLooks := .later }
def RemainNearestUptoCardSaid : Prop := Claim7.holds Tryd.pinned (.plain (OpenSpec.upto remainNearestSpec)) remainNearestUptoCard

/-- THE SECOND FORM's CARD OF 'abacuslaw06.RemainWraps'. -/
def remainWrapsUptoCard : Claim7 := { stood := { row := remainWrapsUptoRow, standIns := [], harness := (true, "6b9518c6294ea50d58cc6dfed7754f689a4d857d4fdd83e2417a7589d712a1b3"), looks := false }, kinds := [], alts := [], laidByText := true, laidKinds := [.data], laidTests := true, laidLooks := .later }
def RemainWrapsUptoCardSaid : Prop := Claim7.holds Tryd.pinned (.plain (OpenSpec.upto remainWrapsSpec)) remainWrapsUptoCard

/-- THE SECOND FORM's CARD OF 'abacuslaw06.RemainCentres'. -/
def remainCentresUptoCard : Claim7 := { stood := { row := remainCentresUptoRow, standIns := [], harness := (true, "6b9518c6294ea50d58cc6dfed7754f689a4d857d4fdd83e2417a7589d712a1b3"), looks := false }, kinds := [], alts := [], laidByText := true, laidKinds := [.data], laidTests := true, laidLooks := .later }
def RemainCentresUptoCardSaid : Prop := Claim7.holds Tryd.pinned (.plain (OpenSpec.upto remainCentresSpec)) remainCentresUptoCard

/-- THE SECOND FORM's CARD OF 'abacuslaw06.RemainFirst'. -/
def remainFirstUptoCard : Claim7 := { stood := { row := remainFirstUptoRow, standIns := [], harness := (true, "6b9518c6294ea50d58cc6dfed7754f689a4d857d4fdd83e2417a7589d712a1b3"), looks := false }, kinds := [], alts := [], laidByText := true, laidKinds := [.data], laidTests := true, laidLooks := .later }
def RemainFirstUptoCardSaid : Prop := Claim7.holds Tryd.pinned (.plain (OpenSpec.upto remainFirstSpec)) remainFirstUptoCard

/-- THE SECOND FORM's CARD OF 'abacuslaw06.RemainFloors'. -/
def remainFloorsUptoCard : Claim7 := { stood := { row := remainFloorsUptoRow, standIns := [], harness := (true, "6b9518c6294ea50d58cc6dfed7754f689a4d857d4fdd83e2417a7589d712a1b3"), looks := false }, kinds := [], alts := [], laidByText := true, laidKinds := [.data], laidTests := true, laidLooks := .later }
def RemainFloorsUptoCardSaid : Prop := Claim7.holds Tryd.pinned (.plain (OpenSpec.upto remainFloorsSpec)) remainFloorsUptoCard

/-- THE SECOND FORM's CARD OF 'abacuslaw06.RemainJoins'. -/
def remainJoinsUptoCard : Claim7 := { stood := { row := remainJoinsUptoRow, standIns := [], harness := (true, "6b9518c6294ea50d58cc6dfed7754f689a4d857d4fdd83e2417a7589d712a1b3"), looks := false }, kinds := [], alts := [], laidByText := true, laidKinds := [.data], laidTests := true, laidLooks := .later }
def RemainJoinsUptoCardSaid : Prop := Claim7.holds Tryd.pinned (.plain (OpenSpec.upto remainJoinsSpec)) remainJoinsUptoCard
end Rows
end Go.Proofs.YtjmcfampoajbmaaDoor
