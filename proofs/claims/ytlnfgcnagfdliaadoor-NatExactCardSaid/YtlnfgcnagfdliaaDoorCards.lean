/-
  DERIVED. GIVEN WITH THE SEED: THE CARDS: each row of YtlnfgcnagfdliaaDoorRows.lean that lists a variable, with what it lists TIED to the program's text (the seventh form; the later family's looks); each row that meets fmt, with fmt's text TOLD by the authors' own Lean function (tested against real Go, not proved from fmt's source: count such statements apart). THE CARD IS WHAT COUNTS. Prove the row's statement (the work); the ties are given (YtlnfgcnagfdliaaDoorTie.lean); close each card by the builder's one call (the guide's Derived/Test/ToyasCard.lean, 'card_holds'). Laid BY PROGRAM, IN A SANDBOX (cutbox-door.mjs). By AI agents, Wed Nov 11 2026. No macro, syntax, notation, axiom, sorry.
-/
import Derived.Test.YtlnfgcnagfdliaaDoorRows
import GoSem.ClaimSeven
namespace Go.Proofs.YtlnfgcnagfdliaaDoor
namespace Rows

/-- THE TIED CARD OF 'abacuslaw01.NatExact'. -/
def natExactCard : Claim7 := { stood := { row := natExactRow, standIns := [], harness := (true, "ef31074e79d20c874b876abb6bc67c70483acf5ca72f8b63474f312c67932309"), looks := false }, kinds := [], alts := [], laidByText := true, laidKinds := [.data], laidTests := true, laidLooks := .later }
def NatExactCardSaid : Prop := Claim7.holds Tryd.pinned (.plain (OpenSpec.ofChange natExactSpec)) natExactCard

/-- THE TIED CARD OF 'abacuslaw01.NatMemory'. -/
def natMemoryCard : Claim7 := { stood := { row := natMemoryRow, standIns := [], harness := (true, "ef31074e79d20c874b876abb6bc67c70483acf5ca72f8b63474f312c67932309"), looks := false }, kinds := [], alts := [], laidByText := true, laidKinds := [.data], laidTests := true, laidLooks := .later }
def NatMemoryCardSaid : Prop := Claim7.holds Tryd.pinned (.plain (OpenSpec.ofChange natMemorySpec)) natMemoryCard

/-- THE TIED CARD OF 'abacuslaw02.QuotKeeps'. -/
def quotKeepsCard : Claim7 := { stood := { row := quotKeepsRow, standIns := [], harness := (true, "ef31074e79d20c874b876abb6bc67c70483acf5ca72f8b63474f312c67932309"), looks := false }, kinds := [], alts := [], laidByText := true, laidKinds := [.data], laidTests := true, laidLooks := .later }
def QuotKeepsCardSaid : Prop := Claim7.holds Tryd.pinned (.plain (OpenSpec.ofChange quotKeepsSpec)) quotKeepsCard

/-- THE TIED CARD OF 'abacuslaw04.IeeeExact'. -/
def ieeeExactCard : Claim7 := { stood := { row := ieeeExactRow, standIns := [], harness := (true, "ef31074e79d20c874b876abb6bc67c70483acf5ca72f8b63474f312c67932309"), looks := false }, kinds := [], alts := [], laidByText := true, laidKinds := [.data], laidTests := true, laidLooks := .later }
def IeeeExactCardSaid : Prop := Claim7.holds Tryd.pinned (.plain (OpenSpec.ofChange ieeeExactSpec)) ieeeExactCard

/-- THE TIED CARD OF 'abacuslaw04.IeeeMemory'. -/
def ieeeMemoryCard : Claim7 := { stood := { row := ieeeMemoryRow, standIns := [], harness := (true, "ef31074e79d20c874b876abb6bc67c70483acf5ca72f8b63474f312c67932309"), looks := false }, kinds := [], alts := [], laidByText := true, laidKinds := [.data], laidTests := true, laidLooks := .later }
def IeeeMemoryCardSaid : Prop := Claim7.holds Tryd.pinned (.plain (OpenSpec.ofChange ieeeMemorySpec)) ieeeMemoryCard

/-- THE SECOND FORM's CARD OF 'abacuslaw01.NatExact'. -/
def natExactUptoCard : Claim7 := { stood := { row := natExactUptoRow, standIns := [], harness := (true, "ef31074e79d20c874b876abb6bc67c70483acf5ca72f8b63474f312c67932309"), looks := false }, kinds := [], alts := [], laidByText := true, laidKinds := [.data], laidTests := true, laidLooks := .later }
def NatExactUptoCardSaid : Prop := Claim7.holds Tryd.pinned (.plain (OpenSpec.upto natExactSpec)) natExactUptoCard

/-- THE SECOND FORM's CARD OF 'abacuslaw01.NatMemory'. -/
def natMemoryUptoCard : Claim7 := { stood := { row := natMemoryUptoRow, standIns := [], harness := (true, "ef31074e79d20c874b876abb6bc67c70483acf5ca72f8b63474f312c67932309"), looks := false }, kinds := [], alts := [], laidByText := true, laidKinds := [.data], laidTests := true, laidLooks := .later }
def NatMemoryUptoCardSaid : Prop := Claim7.holds Tryd.pinned (.plain (OpenSpec.upto natMemorySpec)) natMemoryUptoCard

/-- THE SECOND FORM's CARD OF 'abacuslaw02.QuotKeeps'. -/
def quotKeepsUptoCard : Claim7 := { stood := { row := quotKeepsUptoRow, standIns := [], harness := (true, "ef31074e79d20c874b876abb6bc67c70483acf5ca72f8b63474f312c67932309"), looks := false }, kinds := [], alts := [], laidByText := true, laidKinds := [.data], laidTests := true, laidLooks := .later }
def QuotKeepsUptoCardSaid : Prop := Claim7.holds Tryd.pinned (.plain (OpenSpec.upto quotKeepsSpec)) quotKeepsUptoCard

/-- THE SECOND FORM's CARD OF 'abacuslaw04.IeeeExact'. -/
def ieeeExactUptoCard : Claim7 := { stood := { row := ieeeExactUptoRow, standIns := [], harness := (true, "ef31074e79d20c874b876abb6bc67c70483acf5ca72f8b63474f312c67932309"), looks := false }, kinds := [], alts := [], laidByText := true, laidKinds := [.data], laidTests := true, laidLooks := .later }
def IeeeExactUptoCardSaid : Prop := Claim7.holds Tryd.pinned (.plain (OpenSpec.upto ieeeExactSpec)) ieeeExactUptoCard

/-- THE SECOND FORM's CARD OF 'abacuslaw04.IeeeMemory'. -/
def ieeeMemoryUptoCard : Claim7 := { stood := { row := ieeeMemoryUptoRow, standIns := [], harness := (true, "ef31074e79d20c874b876abb6bc67c70483acf5ca72f8b63474f312c67932309"), looks := false }, kinds := [], alts := [], laidByText := true, laidKinds := [.data], laidTests := true, laidLooks := .later }
def IeeeMemoryUptoCardSaid : Prop := Claim7.holds Tryd.pinned (.plain (OpenSpec.upto ieeeMemorySpec)) ieeeMemoryUptoCard
end Rows
end Go.Proofs.YtlnfgcnagfdliaaDoor
