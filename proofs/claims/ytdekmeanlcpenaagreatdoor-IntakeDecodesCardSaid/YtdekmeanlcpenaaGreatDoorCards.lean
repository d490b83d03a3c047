/-
  DERIVED. GIVEN WITH THE SEED: THE CARDS: each row of YtdekmeanlcpenaaGreatDoorRows.lean that lists a variable, with what it lists TIED to the program's text (the seventh form; the later family's looks); each row that meets fmt, with fmt's text TOLD by the authors' own Lean function (tested against real Go, not proved from fmt's source: count such statements apart). THE CARD IS WHAT COUNTS. Prove the row's statement (the work); the ties are given (YtdekmeanlcpenaaGreatDoorTie.lean); close each card by the builder's one call (the guide's Derived/Test/ToyasCard.lean, 'card_holds'). Laid BY PROGRAM, IN A SANDBOX (cutbox-door.mjs). By AI agents, Wed Nov 11 2026. No macro, syntax, notation, axiom, sorry.
-/
import Derived.Test.YtdekmeanlcpenaaGreatDoorRows
import GoSem.ClaimSeven
namespace Go.Proofs.YtdekmeanlcpenaaGreatDoor
namespace Rows

/-- THE TIED CARD OF 'freightlaw17.RestorePicks'. -/
def restorePicksCard : Claim7 := { stood := { row := restorePicksRow, standIns := [], harness := (true, "77ec33d7c4b608a9c9831498d3c51b8cd9e3586456ecc2ea6e2cab7d46afc6c9"), looks := true }, kinds := [], alts := [], goes := true, laidByText := true, laidKinds := [.data, .handle, .pinned], laidTests := true, laidLooks := .later }
def RestorePicksCardSaid : Prop := Claim7.holds Tryz.pinned (.plain (OpenSpec.ofChange restorePicksSpec)) restorePicksCard

/-- THE TIED CARD OF 'freightlaw17.RestoreNothing'. -/
def restoreNothingCard : Claim7 := { stood := { row := restoreNothingRow, standIns := [], harness := (true, "77ec33d7c4b608a9c9831498d3c51b8cd9e3586456ecc2ea6e2cab7d46afc6c9"), looks := true }, kinds := [], alts := [], goes := true, laidByText := true, laidKinds := [.data, .handle, .pinned], laidTests := true, laidLooks := .later }
def RestoreNothingCardSaid : Prop := Claim7.holds Tryz.pinned (.plain (OpenSpec.ofChange restoreNothingSpec)) restoreNothingCard

/-- THE TIED CARD OF 'freightlaw16.IntakeEncodes'. -/
def intakeEncodesCard : Claim7 := { stood := { row := intakeEncodesRow, standIns := [], harness := (true, "77ec33d7c4b608a9c9831498d3c51b8cd9e3586456ecc2ea6e2cab7d46afc6c9"), looks := true }, kinds := [], alts := [], goes := true, laidByText := true, laidKinds := [.data, .handle, .pinned], laidTests := true, laidLooks := .later }
def IntakeEncodesCardSaid : Prop := Claim7.holds Tryz.pinned (.plain (OpenSpec.ofChange intakeEncodesSpec)) intakeEncodesCard

/-- THE TIED CARD OF 'freightlaw16.IntakeDecodes'. -/
def intakeDecodesCard : Claim7 := { stood := { row := intakeDecodesRow, standIns := [], harness := (true, "77ec33d7c4b608a9c9831498d3c51b8cd9e3586456ecc2ea6e2cab7d46afc6c9"), looks := true }, kinds := [], alts := [], goes := true, laidByText := true, laidKinds := [.data, .handle, .pinned], laidTests := true, laidLooks := .later }
def IntakeDecodesCardSaid : Prop := Claim7.holds Tryz.pinned (.plain (OpenSpec.ofChange intakeDecodesSpec)) intakeDecodesCard

/-- THE TIED CARD OF 'freightlaw16.IntakeForm'. -/
def intakeFormCard : Claim7 := { stood := { row := intakeFormRow, standIns := [], harness := (true, "77ec33d7c4b608a9c9831498d3c51b8cd9e3586456ecc2ea6e2cab7d46afc6c9"), looks := true }, kinds := [], alts := [], goes := true, laidByText := true, laidKinds := [.data, .handle, .pinned], laidTests := true, laidLooks := .later }
def IntakeFormCardSaid : Prop := Claim7.holds Tryz.pinned (.plain (OpenSpec.ofChange intakeFormSpec)) intakeFormCard

/-- THE SECOND FORM's CARD OF 'freightlaw17.RestorePicks'. -/
def restorePicksUptoCard : Claim7 := { stood := { row := restorePicksUptoRow, standIns := [], harness := (true, "77ec33d7c4b608a9c9831498d3c51b8cd9e3586456ecc2ea6e2cab7d46afc6c9"), looks := true }, kinds := [], alts := [], goes := true, laidByText := true, laidKinds := [.data, .handle, .pinned], laidTests := true, laidLooks := .later }
def RestorePicksUptoCardSaid : Prop := Claim7.holds Tryz.pinned (.plain (OpenSpec.upto restorePicksSpec)) restorePicksUptoCard

/-- THE SECOND FORM's CARD OF 'freightlaw17.RestoreNothing'. -/
def restoreNothingUptoCard : Claim7 := { stood := { row := restoreNothingUptoRow, standIns := [], harness := (true, "77ec33d7c4b608a9c9831498d3c51b8cd9e3586456ecc2ea6e2cab7d46afc6c9"), looks := true }, kinds := [], alts := [], goes := true, laidByText := true, laidKinds := [.data, .handle, .pinned], laidTests := true, laidLooks := .later }
def RestoreNothingUptoCardSaid : Prop := Claim7.holds Tryz.pinned (.plain (OpenSpec.upto restoreNothingSpec)) restoreNothingUptoCard

/-- THE SECOND FORM's CARD OF 'freightlaw16.IntakeEncodes'. -/
def intakeEncodesUptoCard : Claim7 := { stood := { row := intakeEncodesUptoRow, standIns := [], harness := (true, "77ec33d7c4b608a9c9831498d3c51b8cd9e3586456ecc2ea6e2cab7d46afc6c9"), looks := true }, kinds := [], alts := [], goes := true, laidByText := true, laidKinds := [.data, .handle, .pinned], laidTests := true, laidLooks := .later }
def IntakeEncodesUptoCardSaid : Prop := Claim7.holds Tryz.pinned (.plain (OpenSpec.upto intakeEncodesSpec)) intakeEncodesUptoCard

/-- THE SECOND FORM's CARD OF 'freightlaw16.IntakeDecodes'. -/
def intakeDecodesUptoCard : Claim7 := { stood := { row := intakeDecodesUptoRow, standIns := [], harness := (true, "77ec33d7c4b608a9c9831498d3c51b8cd9e3586456ecc2ea6e2cab7d46afc6c9"), looks := true }, kinds := [], alts := [], goes := true, laidByText := true, laidKinds := [.data, .handle, .pinned], laidTests := true, laidLooks := .later }
def IntakeDecodesUptoCardSaid : Prop := Claim7.holds Tryz.pinned (.plain (OpenSpec.upto intakeDecodesSpec)) intakeDecodesUptoCard

/-- THE SECOND FORM's CARD OF 'freightlaw16.IntakeForm'. -/
def intakeFormUptoCard : Claim7 := { stood := { row := intakeFormUptoRow, standIns := [], harness := (true, "77ec33d7c4b608a9c9831498d3c51b8cd9e3586456ecc2ea6e2cab7d46afc6c9"), looks := true }, kinds := [], alts := [], goes := true, laidByText := true, laidKinds := [.data, .handle, .pinned], laidTests := true, laidLooks := .later }
def IntakeFormUptoCardSaid : Prop := Claim7.holds Tryz.pinned (.plain (OpenSpec.upto intakeFormSpec)) intakeFormUptoCard
end Rows
end Go.Proofs.YtdekmeanlcpenaaGreatDoor
