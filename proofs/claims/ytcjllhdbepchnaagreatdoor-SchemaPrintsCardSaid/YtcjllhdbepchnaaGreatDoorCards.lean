/-
  DERIVED. GIVEN WITH THE SEED: THE CARDS: each row of YtcjllhdbepchnaaGreatDoorRows.lean that lists a variable, with what it lists TIED to the program's text (the seventh form; the later family's looks); each row that meets fmt, with fmt's text TOLD by the authors' own Lean function (tested against real Go, not proved from fmt's source: count such statements apart). THE CARD IS WHAT COUNTS. Prove the row's statement (the work); the ties are given (YtcjllhdbepchnaaGreatDoorTie.lean); close each card by the builder's one call (the guide's Derived/Test/ToyasCard.lean, 'card_holds'). Laid BY PROGRAM, IN A SANDBOX (cutbox-door.mjs). By AI agents, Wed Nov 11 2026. No macro, syntax, notation, axiom, sorry.
-/
import Derived.Test.YtcjllhdbepchnaaGreatDoorRows
import GoSem.ClaimSeven
namespace Go.Proofs.YtcjllhdbepchnaaGreatDoor
namespace Rows

/-- THE TIED CARD OF 'dovetaillaw12.FitChecks'. -/
def fitChecksCard : Claim7 := { stood := { row := fitChecksRow, standIns := [], harness := (true, "36172030bc4e72005ef0e384487d9a14f2521f2c63b7f3e5ff1e0a9627ea2447"), looks := true }, kinds := [], alts := [], laidByText := true, laidKinds := [.data, .data, .data, .data, .handle, .sentinel, .sentinel, .pinned], laidTests := true, laidLooks := .later }
def FitChecksCardSaid : Prop := Claim7.holds Tryz.pinned (.plain (OpenSpec.ofChange fitChecksSpec)) fitChecksCard

/-- THE TIED CARD OF 'dovetaillaw12.FitFields'. -/
def fitFieldsCard : Claim7 := { stood := { row := fitFieldsRow, standIns := [], harness := (true, "36172030bc4e72005ef0e384487d9a14f2521f2c63b7f3e5ff1e0a9627ea2447"), looks := true }, kinds := [], alts := [], laidByText := true, laidKinds := [.data, .data, .data, .data, .handle, .sentinel, .sentinel, .pinned], laidTests := true, laidLooks := .later }
def FitFieldsCardSaid : Prop := Claim7.holds Tryz.pinned (.plain (OpenSpec.ofChange fitFieldsSpec)) fitFieldsCard

/-- THE TIED CARD OF 'dovetaillaw12.FitTurns'. -/
def fitTurnsCard : Claim7 := { stood := { row := fitTurnsRow, standIns := [], harness := (true, "36172030bc4e72005ef0e384487d9a14f2521f2c63b7f3e5ff1e0a9627ea2447"), looks := true }, kinds := [], alts := [], laidByText := true, laidKinds := [.data, .data, .data, .data, .handle, .sentinel, .sentinel, .pinned], laidTests := true, laidLooks := .later }
def FitTurnsCardSaid : Prop := Claim7.holds Tryz.pinned (.plain (OpenSpec.ofChange fitTurnsSpec)) fitTurnsCard

/-- THE TIED CARD OF 'dovetaillaw11.SchemaChecks'. -/
def schemaChecksCard : Claim7 := { stood := { row := schemaChecksRow, standIns := [], harness := (true, "36172030bc4e72005ef0e384487d9a14f2521f2c63b7f3e5ff1e0a9627ea2447"), looks := true }, kinds := [], alts := [], laidByText := true, laidKinds := [.data, .data, .data, .data, .handle, .sentinel, .sentinel, .pinned], laidTests := true, laidLooks := .later }
def SchemaChecksCardSaid : Prop := Claim7.holds Tryz.pinned (.plain (OpenSpec.ofChange schemaChecksSpec)) schemaChecksCard

/-- THE TIED CARD OF 'dovetaillaw11.SchemaPrints'. -/
def schemaPrintsCard : Claim7 := { stood := { row := schemaPrintsRow, standIns := [], harness := (true, "36172030bc4e72005ef0e384487d9a14f2521f2c63b7f3e5ff1e0a9627ea2447"), looks := true }, kinds := [], alts := [], laidByText := true, laidKinds := [.data, .data, .data, .data, .handle, .sentinel, .sentinel, .pinned], laidTests := true, laidLooks := .later }
def SchemaPrintsCardSaid : Prop := Claim7.holds Tryz.pinned (.plain (OpenSpec.ofChange schemaPrintsSpec)) schemaPrintsCard

/-- THE SECOND FORM's CARD OF 'dovetaillaw12.FitChecks'. -/
def fitChecksUptoCard : Claim7 := { stood := { row := fitChecksUptoRow, standIns := [], harness := (true, "36172030bc4e72005ef0e384487d9a14f2521f2c63b7f3e5ff1e0a9627ea2447"), looks := true }, kinds := [], alts := [], laidByText := true, laidKinds := [.data, .data, .data, .data, .handle, .sentinel, .sentinel, .pinned], laidTests := true, laidLooks := .later }
def FitChecksUptoCardSaid : Prop := Claim7.holds Tryz.pinned (.plain (OpenSpec.upto fitChecksSpec)) fitChecksUptoCard

/-- THE SECOND FORM's CARD OF 'dovetaillaw12.FitFields'. -/
def fitFieldsUptoCard : Claim7 := { stood := { row := fitFieldsUptoRow, standIns := [], harness := (true, "36172030bc4e72005ef0e384487d9a14f2521f2c63b7f3e5ff1e0a9627ea2447"), looks := true }, kinds := [], alts := [], laidByText := true, laidKinds := [.data, .data, .data, .data, .handle, .sentinel, .sentinel, .pinned], laidTests := true, laidLooks := .later }
def FitFieldsUptoCardSaid : Prop := Claim7.holds Tryz.pinned (.plain (OpenSpec.upto fitFieldsSpec)) fitFieldsUptoCard

/-- THE SECOND FORM's CARD OF 'dovetaillaw12.FitTurns'. -/
def fitTurnsUptoCard : Claim7 := { stood := { row := fitTurnsUptoRow, standIns := [], harness := (true, "36172030bc4e72005ef0e384487d9a14f2521f2c63b7f3e5ff1e0a9627ea2447"), looks := true }, kinds := [], alts := [], laidByText := true, laidKinds := [.data, .data, .data, .data, .handle, .sentinel, .sentinel, .pinned], laidTests := true, laidLooks := .later }
def FitTurnsUptoCardSaid : Prop := Claim7.holds Tryz.pinned (.plain (OpenSpec.upto fitTurnsSpec)) fitTurnsUptoCard

/-- THE SECOND FORM's CARD OF 'dovetaillaw11.SchemaChecks'. -/
def schemaChecksUptoCard : Claim7 := { stood := { row := schemaChecksUptoRow, standIns := [], harness := (true, "36172030bc4e72005ef0e384487d9a14f2521f2c63b7f3e5ff1e0a9627ea2447"), looks := true }, kinds := [], alts := [], laidByText := true, laidKinds := [.data, .data, .data, .data, .handle, .sentinel, .sentinel, .pinned], laidTests := true, laidLooks := .later }
def SchemaChecksUptoCardSaid : Prop := Claim7.holds Tryz.pinned (.plain (OpenSpec.upto schemaChecksSpec)) schemaChecksUptoCard

/-- THE SECOND FORM's CARD OF 'dovetaillaw11.SchemaPrints'. -/
def schemaPrintsUptoCard : Claim7 := { stood := { row := schemaPrintsUptoRow, standIns := [], harness := (true, "36172030bc4e72005ef0e384487d9a14f2521f2c63b7f3e5ff1e0a9627ea2447"), looks := true }, kinds := [], alts := [], laidByText := true, laidKinds := [.data, .data, .data, .data, .handle, .sentinel, .sentinel, .pinned], laidTests := true, laidLooks := .later }
def SchemaPrintsUptoCardSaid : Prop := Claim7.holds Tryz.pinned (.plain (OpenSpec.upto schemaPrintsSpec)) schemaPrintsUptoCard
end Rows
end Go.Proofs.YtcjllhdbepchnaaGreatDoor
