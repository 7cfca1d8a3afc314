/-
  DERIVED. GIVEN WITH THE SEED: THE CARDS: each row of YtmehcfocfljoeaaGreatDoorRows.lean that lists a variable, with what it lists TIED to the program's text (the seventh form; the later family's looks); each row that meets fmt, with fmt's text TOLD by the authors' own Lean function (tested against real Go, not proved from fmt's source: count such statements apart). THE CARD IS WHAT COUNTS. Prove the row's statement (the work); the ties are given (YtmehcfocfljoeaaGreatDoorTie.lean); close each card by the builder's one call (the guide's Derived/Test/ToyasCard.lean, 'card_holds'). Laid BY PROGRAM, IN A SANDBOX (cutbox-door.mjs). By AI agents, Wed Nov 11 2026. No macro, syntax, notation, axiom, sorry.
-/
import Derived.Test.YtmehcfocfljoeaaGreatDoorRows
import GoSem.ClaimSeven
namespace Go.Proofs.YtmehcfocfljoeaaGreatDoor
namespace Rows

/-- THE TIED CARD OF 'ogivelaw24.SlotsErrors'. -/
def slotsErrorsCard : Claim7 := { stood := { row := slotsErrorsRow, standIns := [], harness := (true, "f3ce7e70ce650ccf48eb6c42d38814ce83742f677f6233107784a31fec17839d"), looks := true }, kinds := [], alts := [], laidByText := true, laidKinds := [.data], laidTests := true, laidLooks := .later }
def SlotsErrorsCardSaid : Prop := Claim7.holds Tryz.pinned (.plain (OpenSpec.ofChange slotsErrorsSpec)) slotsErrorsCard

/-- THE TIED CARD OF 'ogivelaw25.ScriptLimits'. -/
def scriptLimitsCard : Claim7 := { stood := { row := scriptLimitsRow, standIns := [], harness := (true, "f3ce7e70ce650ccf48eb6c42d38814ce83742f677f6233107784a31fec17839d"), looks := true }, kinds := [], alts := [], laidByText := true, laidKinds := [.data, .data, .data, .data, .data, .sentinel, .sentinel, .pinned], laidTests := true, laidLooks := .later }
def ScriptLimitsCardSaid : Prop := Claim7.holds Tryz.pinned (.plain (OpenSpec.ofChange scriptLimitsSpec)) scriptLimitsCard

/-- THE SECOND FORM's CARD OF 'ogivelaw24.SlotsErrors'. -/
def slotsErrorsUptoCard : Claim7 := { stood := { row := slotsErrorsUptoRow, standIns := [], harness := (true, "f3ce7e70ce650ccf48eb6c42d38814ce83742f677f6233107784a31fec17839d"), looks := true }, kinds := [], alts := [], laidByText := true, laidKinds := [.data], laidTests := true, laidLooks := .later }
def SlotsErrorsUptoCardSaid : Prop := Claim7.holds Tryz.pinned (.plain (OpenSpec.upto slotsErrorsSpec)) slotsErrorsUptoCard

/-- THE SECOND FORM's CARD OF 'ogivelaw25.ScriptLimits'. -/
def scriptLimitsUptoCard : Claim7 := { stood := { row := scriptLimitsUptoRow, standIns := [], harness := (true, "f3ce7e70ce650ccf48eb6c42d38814ce83742f677f6233107784a31fec17839d"), looks := true }, kinds := [], alts := [], laidByText := true, laidKinds := [.data, .data, .data, .data, .data, .sentinel, .sentinel, .pinned], laidTests := true, laidLooks := .later }
def ScriptLimitsUptoCardSaid : Prop := Claim7.holds Tryz.pinned (.plain (OpenSpec.upto scriptLimitsSpec)) scriptLimitsUptoCard
end Rows
end Go.Proofs.YtmehcfocfljoeaaGreatDoor
