/-
  DERIVED. GIVEN WITH THE SEED: THE CARDS: each row of YtalkmbmhmbnadaaDoorRows.lean that lists a variable, with what it lists TIED to the program's text (the seventh form; the later family's looks); each row that meets fmt, with fmt's text TOLD by the authors' own Lean function (tested against real Go, not proved from fmt's source: count such statements apart). THE CARD IS WHAT COUNTS. Prove the row's statement (the work); the ties are given (YtalkmbmhmbnadaaDoorTie.lean); close each card by the builder's one call (the guide's Derived/Test/ToyasCard.lean, 'card_holds'). Laid BY PROGRAM, IN A SANDBOX (cutbox-door.mjs). By AI agents, Wed Nov 11 2026. No macro, syntax, notation, axiom, sorry.
-/
import Derived.Test.YtalkmbmhmbnadaaDoorRows
import GoSem.ClaimSeven
namespace Go.Proofs.YtalkmbmhmbnadaaDoor
namespace Rows

/-- THE TIED CARD OF 'abacuslaw01.NatExact'. -/
def natExactCard : Claim7 := { stood := { row := natExactRow, standIns := [], harness := (true, "7595c86f0597dbbce2271235924cdfb24408efabc828883a689da388f80a8e25"), looks := false }, kinds := [], alts := [], laidByText := true, laidKinds := [.data], laidTests := true, laidLooks := .later }
def NatExactCardSaid : Prop := Claim7.holds Tryd.pinned (.plain (OpenSpec.ofChange natExactSpec)) natExactCard

/-- THE TIED CARD OF 'abacuslaw02.QuotPowers'. -/
def quotPowersCard : Claim7 := { stood := { row := quotPowersRow, standIns := [], harness := (true, "7595c86f0597dbbce2271235924cdfb24408efabc828883a689da388f80a8e25"), looks := false }, kinds := [], alts := [], laidByText := true, laidKinds := [.data], laidTests := true, laidLooks := .later }
def QuotPowersCardSaid : Prop := Claim7.holds Tryd.pinned (.plain (OpenSpec.ofChange quotPowersSpec)) quotPowersCard

/-- THE TIED CARD OF 'abacuslaw02.QuotKeeps'. -/
def quotKeepsCard : Claim7 := { stood := { row := quotKeepsRow, standIns := [], harness := (true, "7595c86f0597dbbce2271235924cdfb24408efabc828883a689da388f80a8e25"), looks := false }, kinds := [], alts := [], laidByText := true, laidKinds := [.data], laidTests := true, laidLooks := .later }
def QuotKeepsCardSaid : Prop := Claim7.holds Tryd.pinned (.plain (OpenSpec.ofChange quotKeepsSpec)) quotKeepsCard

/-- THE TIED CARD OF 'abacuslaw04.IeeeExact'. -/
def ieeeExactCard : Claim7 := { stood := { row := ieeeExactRow, standIns := [], harness := (true, "7595c86f0597dbbce2271235924cdfb24408efabc828883a689da388f80a8e25"), looks := false }, kinds := [], alts := [], laidByText := true, laidKinds := [.data], laidTests := true, laidLooks := .later }
def IeeeExactCardSaid : Prop := Claim7.holds Tryd.pinned (.plain (OpenSpec.ofChange ieeeExactSpec)) ieeeExactCard

/-- THE TIED CARD OF 'abacuslaw05.SoftFlags'. -/
def softFlagsCard : Claim7 := { stood := { row := softFlagsRow, standIns := [], harness := (true, "7595c86f0597dbbce2271235924cdfb24408efabc828883a689da388f80a8e25"), looks := false }, kinds := [], alts := [], goes := true, laidByText := true, laidKinds := [.data], laidTests := true, laidLooks := .later }
def SoftFlagsCardSaid : Prop := Claim7.holds Tryd.pinned (.plain (OpenSpec.ofChange softFlagsSpec)) softFlagsCard

/-- THE TIED CARD OF 'abacuslaw07.GatherOrder'. -/
def gatherOrderCard : Claim7 := { stood := { row := gatherOrderRow, standIns := [], harness := (true, "7595c86f0597dbbce2271235924cdfb24408efabc828883a689da388f80a8e25"), looks := false }, kinds := [], alts := [], goes := true, laidByText := true, laidKinds := [.data], laidTests := true, laidLooks := .later }
def GatherOrderCardSaid : Prop := Claim7.holds Tryd.pinned (.plain (OpenSpec.ofChange gatherOrderSpec)) gatherOrderCard

/-- THE TIED CARD OF 'abacuslaw06.RemainJoins'. -/
def remainJoinsCard : Claim7 := { stood := { row := remainJoinsRow, standIns := [], harness := (true, "7595c86f0597dbbce2271235924cdfb24408efabc828883a689da388f80a8e25"), looks := false }, kinds := [], alts := [], goes := true, laidByText := true, laidKinds := [.data], laidTests := true, laidLooks := .later }
def RemainJoinsCardSaid : Prop := Claim7.holds Tryd.pinned (.plain (OpenSpec.ofChange remainJoinsSpec)) remainJoinsCard

/-- THE TIED CARD OF 'abacustop.CoreRoots'. -/
def coreRootsCard : Claim7 := { stood := { row := coreRootsRow, standIns := [], harness := (true, "7595c86f0597dbbce2271235924cdfb24408efabc828883a689da388f80a8e25"), looks := false }, kinds := [], alts := [], laidByText := true, laidKinds := [.data], laidTests := true, laidLooks := .later }
def CoreRootsCardSaid : Prop := Claim7.holds Tryd.pinned (.plain (OpenSpec.ofChange coreRootsSpec)) coreRootsCard

/-- THE TIED CARD OF 'abacustop.CoreLeft'. -/
def coreLeftCard : Claim7 := { stood := { row := coreLeftRow, standIns := [], harness := (true, "7595c86f0597dbbce2271235924cdfb24408efabc828883a689da388f80a8e25"), looks := false }, kinds := [], alts := [], laidByText := true, laidKinds := [.data], laidTests := true, laidLooks := .later }
def CoreLeftCardSaid : Prop := Claim7.holds Tryd.pinned (.plain (OpenSpec.ofChange coreLeftSpec)) coreLeftCard

/-- THE SECOND FORM's CARD OF 'abacuslaw01.NatExact'. -/
def natExactUptoCard : Claim7 := { stood := { row := natExactUptoRow, standIns := [], harness := (true, "7595c86f0597dbbce2271235924cdfb24408efabc828883a689da388f80a8e25"), looks := false }, kinds := [], alts := [], laidByText := true, laidKinds := [.data], laidTests := true, laidLooks := .later }
def NatExactUptoCardSaid : Prop := Claim7.holds Tryd.pinned (.plain (OpenSpec.upto natExactSpec)) natExactUptoCard

/-- THE SECOND FORM's CARD OF 'abacuslaw02.QuotPowers'. -/
def quotPowersUptoCard : Claim7 := { stood := { row := quotPowersUptoRow, standIns := [], harness := (true, "7595c86f0597dbbce2271235924cdfb24408efabc828883a689da388f80a8e25"), looks := false }, kinds := [], alts := [], laidByText := true, laidKinds := [.data], laidTests := true, laidLooks := .later }
def QuotPowersUptoCardSaid : Prop := Claim7.holds Tryd.pinned (.plain (OpenSpec.upto quotPowersSpec)) quotPowersUptoCard

/-- THE SECOND FORM's CARD OF 'abacuslaw02.QuotKeeps'. -/
def quotKeepsUptoCard : Claim7 := { stood := { row := quotKeepsUptoRow, standIns := [], harness := (true, "7595c86f0597dbbce2271235924cdfb24408efabc828883a689da388f80a8e25"), looks := false }, kinds := [], alts := [], laidByText := true, laidKinds := [.data], laidTests := true, laidLooks := .later }
def QuotKeepsUptoCardSaid : Prop := Claim7.holds Tryd.pinned (.plain (OpenSpec.upto quotKeepsSpec)) quotKeepsUptoCard

/-- THE SECOND FORM's CARD OF 'abacuslaw04.IeeeExact'. -/
def ieeeExactUptoCard : Claim7 := { stood := { row := ieeeExactUptoRow, standIns := [], harness := (true, "7595c86f0597dbbce2271235924cdfb24408efabc828883a689da388f80a8e25"), looks := false }, kinds := [], alts := [], laidByText := true, laidKinds := [.data], laidTests := true, laidLooks := .later }
def IeeeExactUptoCardSaid : Prop := Claim7.holds Tryd.pinned (.plain (OpenSpec.upto ieeeExactSpec)) ieeeExactUptoCard

/-- THE SECOND FORM's CARD OF 'abacuslaw05.SoftFlags'. -/
def softFlagsUptoCard : Claim7 := { stood := { row := softFlagsUptoRow, standIns := [], harness := (true, "7595c86f0597dbbce2271235924cdfb24408efabc828883a689da388f80a8e25"), looks := false }, kinds := [], alts := [], goes := true, laidByText := true, laidKinds := [.data], laidTests := true, laidLooks := .later }
def SoftFlagsUptoCardSaid : Prop := Claim7.holds Tryd.pinned (.plain (OpenSpec.upto softFlagsSpec)) softFlagsUptoCard

/-- THE SECOND FORM's CARD OF 'abacuslaw07.GatherOrder'. -/
def gatherOrderUptoCard : Claim7 := { stood := { row := gatherOrderUptoRow, standIns := [], harness := (true, "7595c86f0597dbbce2271235924cdfb24408efabc828883a689da388f80a8e25"), looks := false }, kinds := [], alts := [], goes := true, laidByText := true, laidKinds := [.data], laidTests := true, laidLooks := .later }
def GatherOrderUptoCardSaid : Prop := Claim7.holds Tryd.pinned (.plain (OpenSpec.upto gatherOrderSpec)) gatherOrderUptoCard

/-- THE SECOND FORM's CARD OF 'abacuslaw06.RemainJoins'. -/
def remainJoinsUptoCard : Claim7 := { stood := { row := remainJoinsUptoRow, standIns := [], harness := (true, "7595c86f0597dbbce2271235924cdfb24408efabc828883a689da388f80a8e25"), looks := false }, kinds := [], alts := [], goes := true, laidByText := true, laidKinds := [.data], laidTests := true, laidLooks := .later }
def RemainJoinsUptoCardSaid : Prop := Claim7.holds Tryd.pinned (.plain (OpenSpec.upto remainJoinsSpec)) remainJoinsUptoCard

/-- THE SECOND FORM's CARD OF 'abacustop.CoreRoots'. -/
def coreRootsUptoCard : Claim7 := { stood := { row := coreRootsUptoRow, standIns := [], harness := (true, "7595c86f0597dbbce2271235924cdfb24408efabc828883a689da388f80a8e25"), looks := false }, kinds := [], alts := [], laidByText := true, laidKinds := [.data], laidTests := true, laidLooks := .later }
def CoreRootsUptoCardSaid : Prop := Claim7.holds Tryd.pinned (.plain (OpenSpec.upto coreRootsSpec)) coreRootsUptoCard

/-- THE SECOND FORM's CARD OF 'abacustop.CoreLeft'. -/
def coreLeftUptoCard : Claim7 := { stood := { row := coreLeftUptoRow, standIns := [], harness := (true, "7595c86f0597dbbce2271235924cdfb24408efabc828883a689da388f80a8e25"), looks := false }, kinds := [], alts := [], laidByText := true, laidKinds := [.data], laidTests := true, laidLooks := .later }
def CoreLeftUptoCardSaid : Prop := Claim7.holds Tryd.pinned (.plain (OpenSpec.upto coreLeftSpec)) coreLeftUptoCard
end Rows
end Go.Proofs.YtalkmbmhmbnadaaDoor
