/-
  DERIVED. GIVEN WITH THE SEED: THE CARDS: each row of YtlcoibhbdgdfcaaGreatDoorRows.lean that lists a variable, with what it lists TIED to the program's text (the seventh form; the later family's looks); each row that meets fmt, with fmt's text TOLD by the authors' own Lean function (tested against real Go, not proved from fmt's source: count such statements apart). THE CARD IS WHAT COUNTS. Prove the row's statement (the work); the ties are given (YtlcoibhbdgdfcaaGreatDoorTie.lean); close each card by the builder's one call (the guide's Derived/Test/ToyasCard.lean, 'card_holds'). Laid BY PROGRAM, IN A SANDBOX (cutbox-door.mjs). By AI agents, Wed Nov 11 2026. No macro, syntax, notation, axiom, sorry.
-/
import Derived.Test.YtlcoibhbdgdfcaaGreatDoorRows
import GoSem.ClaimSeven
namespace Go.Proofs.YtlcoibhbdgdfcaaGreatDoor
namespace Rows

/-- THE TIED CARD OF 'ogivetop.CoreSlots'. -/
def coreSlotsCard : Claim7 := { stood := { row := coreSlotsRow, standIns := [], harness := (true, "f703caca02bf17105432e1330cd4fc0a760926e6bf2cae4062b452618c1d17fe"), looks := true }, kinds := [], alts := [], laidByText := true, laidKinds := [.data], laidTests := true, laidLooks := .later }
def CoreSlotsCardSaid : Prop := Claim7.holds Tryz.pinned (.plain (OpenSpec.ofChange coreSlotsSpec)) coreSlotsCard

/-- THE TIED CARD OF 'ogivetop.CoreLumps'. -/
def coreLumpsCard : Claim7 := { stood := { row := coreLumpsRow, standIns := [], harness := (true, "f703caca02bf17105432e1330cd4fc0a760926e6bf2cae4062b452618c1d17fe"), looks := true }, kinds := [], alts := [], laidByText := true, laidKinds := [.data], laidTests := true, laidLooks := .later }
def CoreLumpsCardSaid : Prop := Claim7.holds Tryz.pinned (.plain (OpenSpec.ofChange coreLumpsSpec)) coreLumpsCard

/-- THE TIED CARD OF 'ogivetop.CoreCoins'. -/
def coreCoinsCard : Claim7 := { stood := { row := coreCoinsRow, standIns := [], harness := (true, "f703caca02bf17105432e1330cd4fc0a760926e6bf2cae4062b452618c1d17fe"), looks := true }, kinds := [], alts := [], laidByText := true, laidKinds := [.data], laidTests := true, laidLooks := .later }
def CoreCoinsCardSaid : Prop := Claim7.holds Tryz.pinned (.plain (OpenSpec.ofChange coreCoinsSpec)) coreCoinsCard

/-- THE TIED CARD OF 'ogivetop.CoreBytes'. -/
def coreBytesCard : Claim7 := { stood := { row := coreBytesRow, standIns := [], harness := (true, "f703caca02bf17105432e1330cd4fc0a760926e6bf2cae4062b452618c1d17fe"), looks := true }, kinds := [], alts := [], laidByText := true, laidKinds := [.data], laidTests := true, laidLooks := .later }
def CoreBytesCardSaid : Prop := Claim7.holds Tryz.pinned (.plain (OpenSpec.ofChange coreBytesSpec)) coreBytesCard

/-- THE SECOND FORM's CARD OF 'ogivetop.CoreSlots'. -/
def coreSlotsUptoCard : Claim7 := { stood := { row := coreSlotsUptoRow, standIns := [], harness := (true, "f703caca02bf17105432e1330cd4fc0a760926e6bf2cae4062b452618c1d17fe"), looks := true }, kinds := [], alts := [], laidByText := true, laidKinds := [.data], laidTests := true, laidLooks := .later }
def CoreSlotsUptoCardSaid : Prop := Claim7.holds Tryz.pinned (.plain (OpenSpec.upto coreSlotsSpec)) coreSlotsUptoCard

/-- THE SECOND FORM's CARD OF 'ogivetop.CoreLumps'. -/
def coreLumpsUptoCard : Claim7 := { stood := { row := coreLumpsUptoRow, standIns := [], harness := (true, "f703caca02bf17105432e1330cd4fc0a760926e6bf2cae4062b452618c1d17fe"), looks := true }, kinds := [], alts := [], laidByText := true, laidKinds := [.data], laidTests := true, laidLooks := .later }
def CoreLumpsUptoCardSaid : Prop := Claim7.holds Tryz.pinned (.plain (OpenSpec.upto coreLumpsSpec)) coreLumpsUptoCard

/-- THE SECOND FORM's CARD OF 'ogivetop.CoreCoins'. -/
def coreCoinsUptoCard : Claim7 := { stood := { row := coreCoinsUptoRow, standIns := [], harness := (true, "f703caca02bf17105432e1330cd4fc0a760926e6bf2cae4062b452618c1d17fe"), looks := true }, kinds := [], alts := [], laidByText := true, laidKinds := [.data], laidTests := true, laidLooks := .later }
def CoreCoinsUptoCardSaid : Prop := Claim7.holds Tryz.pinned (.plain (OpenSpec.upto coreCoinsSpec)) coreCoinsUptoCard

/-- THE SECOND FORM's CARD OF 'ogivetop.CoreBytes'. -/
def coreBytesUptoCard : Claim7 := { stood := { row := coreBytesUptoRow, standIns := [], harness := (true, "f703caca02bf17105432e1330cd4fc0a760926e6bf2cae4062b452618c1d17fe"), looks := true }, kinds := [], alts := [], laidByText := true, laidKinds := [.data], laidTests := true, laidLooks := .later }
def CoreBytesUptoCardSaid : Prop := Claim7.holds Tryz.pinned (.plain (OpenSpec.upto coreBytesSpec)) coreBytesUptoCard
end Rows
end Go.Proofs.YtlcoibhbdgdfcaaGreatDoor
