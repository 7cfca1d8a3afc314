/-
  DERIVED. GIVEN WITH THE SEED: THE CARDS: each row of YthoolcpcmhhkpaaGreatDoorRows.lean that lists a variable, with what it lists TIED to the program's text (the seventh form; the later family's looks); each row that meets fmt, with fmt's text TOLD by the authors' own Lean function (tested against real Go, not proved from fmt's source: count such statements apart). THE CARD IS WHAT COUNTS. Prove the row's statement (the work); the ties are given (YthoolcpcmhhkpaaGreatDoorTie.lean); close each card by the builder's one call (the guide's Derived/Test/ToyasCard.lean, 'card_holds'). Laid BY PROGRAM, IN A SANDBOX (cutbox-door.mjs). By AI agents, Wed Nov 11 2026. No macro, syntax, notation, axiom, sorry.
-/
import Derived.Test.YthoolcpcmhhkpaaGreatDoorRows
import GoSem.ClaimSeven
namespace Go.Proofs.YthoolcpcmhhkpaaGreatDoor
namespace Rows

/-- THE TIED CARD OF 'ogivelaw23.SuiteTurned'. -/
def suiteTurnedCard : Claim7 := { stood := { row := suiteTurnedRow, standIns := [], harness := (true, "3aeb61ea2d5501a0022f634544c4f8a8725ae065700c5340d8747fc76cfc5edc"), looks := true }, kinds := [], alts := [], laidByText := true, laidKinds := [.data], laidTests := true, laidLooks := .later }
def SuiteTurnedCardSaid : Prop := Claim7.holds Tryz.pinned (.plain (OpenSpec.ofChange suiteTurnedSpec)) suiteTurnedCard

/-- THE TIED CARD OF 'ogivelaw23.SuiteDoes'. -/
def suiteDoesCard : Claim7 := { stood := { row := suiteDoesRow, standIns := [], harness := (true, "3aeb61ea2d5501a0022f634544c4f8a8725ae065700c5340d8747fc76cfc5edc"), looks := true }, kinds := [], alts := [], laidByText := true, laidKinds := [.data], laidTests := true, laidLooks := .later }
def SuiteDoesCardSaid : Prop := Claim7.holds Tryz.pinned (.plain (OpenSpec.ofChange suiteDoesSpec)) suiteDoesCard

/-- THE TIED CARD OF 'ogivelaw23.SuiteJoins'. -/
def suiteJoinsCard : Claim7 := { stood := { row := suiteJoinsRow, standIns := [], harness := (true, "3aeb61ea2d5501a0022f634544c4f8a8725ae065700c5340d8747fc76cfc5edc"), looks := true }, kinds := [], alts := [], laidByText := true, laidKinds := [.data], laidTests := true, laidLooks := .later }
def SuiteJoinsCardSaid : Prop := Claim7.holds Tryz.pinned (.plain (OpenSpec.ofChange suiteJoinsSpec)) suiteJoinsCard

/-- THE TIED CARD OF 'ogivelaw23.SuiteBytes'. -/
def suiteBytesCard : Claim7 := { stood := { row := suiteBytesRow, standIns := [], harness := (true, "3aeb61ea2d5501a0022f634544c4f8a8725ae065700c5340d8747fc76cfc5edc"), looks := true }, kinds := [], alts := [], laidByText := true, laidKinds := [.data], laidTests := true, laidLooks := .later }
def SuiteBytesCardSaid : Prop := Claim7.holds Tryz.pinned (.plain (OpenSpec.ofChange suiteBytesSpec)) suiteBytesCard

/-- THE TIED CARD OF 'ogivelaw23.SuiteConfigs'. -/
def suiteConfigsCard : Claim7 := { stood := { row := suiteConfigsRow, standIns := [], harness := (true, "3aeb61ea2d5501a0022f634544c4f8a8725ae065700c5340d8747fc76cfc5edc"), looks := true }, kinds := [], alts := [], laidByText := true, laidKinds := [.data], laidTests := true, laidLooks := .later }
def SuiteConfigsCardSaid : Prop := Claim7.holds Tryz.pinned (.plain (OpenSpec.ofChange suiteConfigsSpec)) suiteConfigsCard

/-- THE TIED CARD OF 'ogivetop.CoreBytes'. -/
def coreBytesCard : Claim7 := { stood := { row := coreBytesRow, standIns := [], harness := (true, "3aeb61ea2d5501a0022f634544c4f8a8725ae065700c5340d8747fc76cfc5edc"), looks := true }, kinds := [], alts := [], laidByText := true, laidKinds := [.data], laidTests := true, laidLooks := .later }
def CoreBytesCardSaid : Prop := Claim7.holds Tryz.pinned (.plain (OpenSpec.ofChange coreBytesSpec)) coreBytesCard

/-- THE SECOND FORM's CARD OF 'ogivelaw23.SuiteTurned'. -/
def suiteTurnedUptoCard : Claim7 := { stood := { row := suiteTurnedUptoRow, standIns := [], harness := (true, "3aeb61ea2d5501a0022f634544c4f8a8725ae065700c5340d8747fc76cfc5edc"), looks := true }, kinds := [], alts := [], laidByText := true, laidKinds := [.data], laidTests := true, laidLooks := .later }
def SuiteTurnedUptoCardSaid : Prop := Claim7.holds Tryz.pinned (.plain (OpenSpec.upto suiteTurnedSpec)) suiteTurnedUptoCard

/-- THE SECOND FORM's CARD OF 'ogivelaw23.SuiteDoes'. -/
def suiteDoesUptoCard : Claim7 := { stood := { row := suiteDoesUptoRow, standIns := [], harness := (true, "3aeb61ea2d5501a0022f634544c4f8a8725ae065700c5340d8747fc76cfc5edc"), looks := true }, kinds := [], alts := [], laidByText := true, laidKinds := [.data], laidTests := true, laidLooks := .later }
def SuiteDoesUptoCardSaid : Prop := Claim7.holds Tryz.pinned (.plain (OpenSpec.upto suiteDoesSpec)) suiteDoesUptoCard

/-- THE SECOND FORM's CARD OF 'ogivelaw23.SuiteJoins'. -/
def suiteJoinsUptoCard : Claim7 := { stood := { row := suiteJoinsUptoRow, standIns := [], harness := (true, "3aeb61ea2d5501a0022f634544c4f8a8725ae065700c5340d8747fc76cfc5edc"), looks := true }, kinds := [], alts := [], laidByText := true, laidKinds := [.data], laidTests := true, laidLooks := .later }
def SuiteJoinsUptoCardSaid : Prop := Claim7.holds Tryz.pinned (.plain (OpenSpec.upto suiteJoinsSpec)) suiteJoinsUptoCard

/-- THE SECOND FORM's CARD OF 'ogivelaw23.SuiteBytes'. -/
def suiteBytesUptoCard : Claim7 := { stood := { row := suiteBytesUptoRow, standIns := [], harness := (true, "3aeb61ea2d5501a0022f634544c4f8a8725ae065700c5340d8747fc76cfc5edc"), looks := true }, kinds := [], alts := [], laidByText := true, laidKinds := [.data], laidTests := true, laidLooks := .later }
def SuiteBytesUptoCardSaid : Prop := Claim7.holds Tryz.pinned (.plain (OpenSpec.upto suiteBytesSpec)) suiteBytesUptoCard

/-- THE SECOND FORM's CARD OF 'ogivelaw23.SuiteConfigs'. -/
def suiteConfigsUptoCard : Claim7 := { stood := { row := suiteConfigsUptoRow, standIns := [], harness := (true, "3aeb61ea2d5501a0022f634544c4f8a8725ae065700c5340d8747fc76cfc5edc"), looks := true }, kinds := [], alts := [], laidByText := true, laidKinds := [.data], laidTests := true, laidLooks := .later }
def SuiteConfigsUptoCardSaid : Prop := Claim7.holds Tryz.pinned (.plain (OpenSpec.upto suiteConfigsSpec)) suiteConfigsUptoCard

/-- THE SECOND FORM's CARD OF 'ogivetop.CoreBytes'. -/
def coreBytesUptoCard : Claim7 := { stood := { row := coreBytesUptoRow, standIns := [], harness := (true, "3aeb61ea2d5501a0022f634544c4f8a8725ae065700c5340d8747fc76cfc5edc"), looks := true }, kinds := [], alts := [], laidByText := true, laidKinds := [.data], laidTests := true, laidLooks := .later }
def CoreBytesUptoCardSaid : Prop := Claim7.holds Tryz.pinned (.plain (OpenSpec.upto coreBytesSpec)) coreBytesUptoCard
end Rows
end Go.Proofs.YthoolcpcmhhkpaaGreatDoor
