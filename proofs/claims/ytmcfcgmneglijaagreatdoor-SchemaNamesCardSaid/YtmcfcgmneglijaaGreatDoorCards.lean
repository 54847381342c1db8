/-
  DERIVED. GIVEN WITH THE SEED: THE CARDS: each row of YtmcfcgmneglijaaGreatDoorRows.lean that lists a variable, with what it lists TIED to the program's text (the seventh form; the later family's looks); each row that meets fmt, with fmt's text TOLD by the authors' own Lean function (tested against real Go, not proved from fmt's source: count such statements apart). THE CARD IS WHAT COUNTS. Prove the row's statement (the work); the ties are given (YtmcfcgmneglijaaGreatDoorTie.lean); close each card by the builder's one call (the guide's Derived/Test/ToyasCard.lean, 'card_holds'). Laid BY PROGRAM, IN A SANDBOX (cutbox-door.mjs). By AI agents, Wed Nov 11 2026. No macro, syntax, notation, axiom, sorry.
-/
import Derived.Test.YtmcfcgmneglijaaGreatDoorRows
import GoSem.ClaimSeven
namespace Go.Proofs.YtmcfcgmneglijaaGreatDoor
namespace Rows

/-- THE TIED CARD OF 'dovetaillaw11.SchemaNames'. -/
def schemaNamesCard : Claim7 := { stood := { row := schemaNamesRow, standIns := [], harness := (true, "a78460170e98693d5737c69868c130bf34382e33ef28da4820790751fee5647b"), looks := true }, kinds := [], alts := [], laidByText := true, laidKinds := [.data, .data, .data, .data, .sentinel, .sentinel, .pinned], laidTests := true, laidLooks := .later }
def SchemaNamesCardSaid : Prop := Claim7.holds Tryz.pinned (.plain (OpenSpec.ofChange schemaNamesSpec)) schemaNamesCard

/-- THE TIED CARD OF 'dovetaillaw11.SchemaChecks'. -/
def schemaChecksCard : Claim7 := { stood := { row := schemaChecksRow, standIns := [], harness := (true, "a78460170e98693d5737c69868c130bf34382e33ef28da4820790751fee5647b"), looks := true }, kinds := [], alts := [], laidByText := true, laidKinds := [.data, .data, .data, .data, .handle, .sentinel, .sentinel, .pinned], laidTests := true, laidLooks := .later }
def SchemaChecksCardSaid : Prop := Claim7.holds Tryz.pinned (.plain (OpenSpec.ofChange schemaChecksSpec)) schemaChecksCard

/-- THE TIED CARD OF 'dovetaillaw11.SchemaPrints'. -/
def schemaPrintsCard : Claim7 := { stood := { row := schemaPrintsRow, standIns := [], harness := (true, "a78460170e98693d5737c69868c130bf34382e33ef28da4820790751fee5647b"), looks := true }, kinds := [], alts := [], laidByText := true, laidKinds := [.data, .data, .data, .data, .handle, .sentinel, .sentinel, .pinned], laidTests := true, laidLooks := .later }
def SchemaPrintsCardSaid : Prop := Claim7.holds Tryz.pinned (.plain (OpenSpec.ofChange schemaPrintsSpec)) schemaPrintsCard

/-- THE TIED CARD OF 'dovetaillaw11.SchemaRoom'. -/
def schemaRoomCard : Claim7 := { stood := { row := schemaRoomRow, standIns := [], harness := (true, "a78460170e98693d5737c69868c130bf34382e33ef28da4820790751fee5647b"), looks := true }, kinds := [], alts := [], laidByText := true, laidKinds := [.data, .data, .data, .data, .handle, .sentinel, .sentinel, .pinned], laidTests := true, laidLooks := .later }
def SchemaRoomCardSaid : Prop := Claim7.holds Tryz.pinned (.plain (OpenSpec.ofChange schemaRoomSpec)) schemaRoomCard

/-- THE SECOND FORM's CARD OF 'dovetaillaw11.SchemaNames'. -/
def schemaNamesUptoCard : Claim7 := { stood := { row := schemaNamesUptoRow, standIns := [], harness := (true, "a78460170e98693d5737c69868c130bf34382e33ef28da4820790751fee5647b"), looks := true }, kinds := [], alts := [], laidByText := true, laidKinds := [.data, .data, .data, .data, .sentinel, .sentinel, .pinned], laidTests := true, laidLooks := .later }
def SchemaNamesUptoCardSaid : Prop := Claim7.holds Tryz.pinned (.plain (OpenSpec.upto schemaNamesSpec)) schemaNamesUptoCard

/-- THE SECOND FORM's CARD OF 'dovetaillaw11.SchemaChecks'. -/
def schemaChecksUptoCard : Claim7 := { stood := { row := schemaChecksUptoRow, standIns := [], harness := (true, "a78460170e98693d5737c69868c130bf34382e33ef28da4820790751fee5647b"), looks := true }, kinds := [], alts := [], laidByText := true, laidKinds := [.data, .data, .data, .data, .handle, .sentinel, .sentinel, .pinned], laidTests := true, laidLooks := .later }
def SchemaChecksUptoCardSaid : Prop := Claim7.holds Tryz.pinned (.plain (OpenSpec.upto schemaChecksSpec)) schemaChecksUptoCard

/-- THE SECOND FORM's CARD OF 'dovetaillaw11.SchemaPrints'. -/
def schemaPrintsUptoCard : Claim7 := { stood := { row := schemaPrintsUptoRow, standIns := [], harness := (true, "a78460170e98693d5737c69868c130bf34382e33ef28da4820790751fee5647b"), looks := true }, kinds := [], alts := [], laidByText := true, laidKinds := [.data, .data, .data, .data, .handle, .sentinel, .sentinel, .pinned], laidTests := true, laidLooks := .later }
def SchemaPrintsUptoCardSaid : Prop := Claim7.holds Tryz.pinned (.plain (OpenSpec.upto schemaPrintsSpec)) schemaPrintsUptoCard

/-- THE SECOND FORM's CARD OF 'dovetaillaw11.SchemaRoom'. -/
def schemaRoomUptoCard : Claim7 := { stood := { row := schemaRoomUptoRow, standIns := [], harness := (true, "a78460170e98693d5737c69868c130bf34382e33ef28da4820790751fee5647b"), looks := true }, kinds := [], alts := [], laidByText := true, laidKinds := [.data, .data, .data, .data, .handle, .sentinel, .sentinel, .pinned], laidTests := true, laidLooks := .later }
def SchemaRoomUptoCardSaid : Prop := Claim7.holds Tryz.pinned (.plain (OpenSpec.upto schemaRoomSpec)) schemaRoomUptoCard
end Rows
end Go.Proofs.YtmcfcgmneglijaaGreatDoor
