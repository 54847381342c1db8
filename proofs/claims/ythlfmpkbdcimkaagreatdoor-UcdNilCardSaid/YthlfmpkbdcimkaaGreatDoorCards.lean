/-
  DERIVED. GIVEN WITH THE SEED: THE CARDS: each row of YthlfmpkbdcimkaaGreatDoorRows.lean that lists a variable, with what it lists TIED to the program's text (the seventh form; the later family's looks); each row that meets fmt, with fmt's text TOLD by the authors' own Lean function (tested against real Go, not proved from fmt's source: count such statements apart). THE CARD IS WHAT COUNTS. Prove the row's statement (the work); the ties are given (YthlfmpkbdcimkaaGreatDoorTie.lean); close each card by the builder's one call (the guide's Derived/Test/ToyasCard.lean, 'card_holds'). Laid BY PROGRAM, IN A SANDBOX (cutbox-door.mjs). By AI agents, Wed Nov 11 2026. No macro, syntax, notation, axiom, sorry.
-/
import Derived.Test.YthlfmpkbdcimkaaGreatDoorRows
import GoSem.ClaimSeven
namespace Go.Proofs.YthlfmpkbdcimkaaGreatDoor
namespace Rows

/-- THE TIED CARD OF 'dovetaillaw04.UcdPrints'. -/
def ucdPrintsCard : Claim7 := { stood := { row := ucdPrintsRow, standIns := [], harness := (true, "e60dc2c1fcfee98deea33c706efd017490578705b79f662e4dd7dedfdb44edbc"), looks := true }, kinds := [], alts := [], laidByText := true, laidKinds := [.data, .data, .data, .data, .sentinel, .sentinel, .pinned, .pinned], laidTests := true, laidLooks := .later }
def UcdPrintsCardSaid : Prop := Claim7.holds Tryz.pinned (.plain (OpenSpec.ofChange ucdPrintsSpec)) ucdPrintsCard

/-- THE TIED CARD OF 'dovetaillaw04.UcdAgain'. -/
def ucdAgainCard : Claim7 := { stood := { row := ucdAgainRow, standIns := [], harness := (true, "e60dc2c1fcfee98deea33c706efd017490578705b79f662e4dd7dedfdb44edbc"), looks := true }, kinds := [], alts := [], laidByText := true, laidKinds := [.data, .data, .data, .data, .sentinel, .sentinel, .pinned, .pinned], laidTests := true, laidLooks := .later }
def UcdAgainCardSaid : Prop := Claim7.holds Tryz.pinned (.plain (OpenSpec.ofChange ucdAgainSpec)) ucdAgainCard

/-- THE TIED CARD OF 'dovetaillaw04.UcdNil'. -/
def ucdNilCard : Claim7 := { stood := { row := ucdNilRow, standIns := [], harness := (true, "e60dc2c1fcfee98deea33c706efd017490578705b79f662e4dd7dedfdb44edbc"), looks := true }, kinds := [], alts := [], laidByText := true, laidKinds := [.data, .data, .data, .data, .sentinel, .sentinel, .pinned, .pinned], laidTests := true, laidLooks := .later }
def UcdNilCardSaid : Prop := Claim7.holds Tryz.pinned (.plain (OpenSpec.ofChange ucdNilSpec)) ucdNilCard

/-- THE TIED CARD OF 'dovetaillaw04.UcdNames'. -/
def ucdNamesCard : Claim7 := { stood := { row := ucdNamesRow, standIns := [], harness := (true, "e60dc2c1fcfee98deea33c706efd017490578705b79f662e4dd7dedfdb44edbc"), looks := true }, kinds := [], alts := [], laidByText := true, laidKinds := [.data, .data, .data, .data, .sentinel, .sentinel, .pinned, .pinned], laidTests := true, laidLooks := .later }
def UcdNamesCardSaid : Prop := Claim7.holds Tryz.pinned (.plain (OpenSpec.ofChange ucdNamesSpec)) ucdNamesCard

/-- THE SECOND FORM's CARD OF 'dovetaillaw04.UcdPrints'. -/
def ucdPrintsUptoCard : Claim7 := { stood := { row := ucdPrintsUptoRow, standIns := [], harness := (true, "e60dc2c1fcfee98deea33c706efd017490578705b79f662e4dd7dedfdb44edbc"), looks := true }, kinds := [], alts := [], laidByText := true, laidKinds := [.data, .data, .data, .data, .sentinel, .sentinel, .pinned, .pinned], laidTests := true, laidLooks := .later }
def UcdPrintsUptoCardSaid : Prop := Claim7.holds Tryz.pinned (.plain (OpenSpec.upto ucdPrintsSpec)) ucdPrintsUptoCard

/-- THE SECOND FORM's CARD OF 'dovetaillaw04.UcdAgain'. -/
def ucdAgainUptoCard : Claim7 := { stood := { row := ucdAgainUptoRow, standIns := [], harness := (true, "e60dc2c1fcfee98deea33c706efd017490578705b79f662e4dd7dedfdb44edbc"), looks := true }, kinds := [], alts := [], laidByText := true, laidKinds := [.data, .data, .data, .data, .sentinel, .sentinel, .pinned, .pinned], laidTests := true, laidLooks := .later }
def UcdAgainUptoCardSaid : Prop := Claim7.holds Tryz.pinned (.plain (OpenSpec.upto ucdAgainSpec)) ucdAgainUptoCard

/-- THE SECOND FORM's CARD OF 'dovetaillaw04.UcdNil'. -/
def ucdNilUptoCard : Claim7 := { stood := { row := ucdNilUptoRow, standIns := [], harness := (true, "e60dc2c1fcfee98deea33c706efd017490578705b79f662e4dd7dedfdb44edbc"), looks := true }, kinds := [], alts := [], laidByText := true, laidKinds := [.data, .data, .data, .data, .sentinel, .sentinel, .pinned, .pinned], laidTests := true, laidLooks := .later }
def UcdNilUptoCardSaid : Prop := Claim7.holds Tryz.pinned (.plain (OpenSpec.upto ucdNilSpec)) ucdNilUptoCard

/-- THE SECOND FORM's CARD OF 'dovetaillaw04.UcdNames'. -/
def ucdNamesUptoCard : Claim7 := { stood := { row := ucdNamesUptoRow, standIns := [], harness := (true, "e60dc2c1fcfee98deea33c706efd017490578705b79f662e4dd7dedfdb44edbc"), looks := true }, kinds := [], alts := [], laidByText := true, laidKinds := [.data, .data, .data, .data, .sentinel, .sentinel, .pinned, .pinned], laidTests := true, laidLooks := .later }
def UcdNamesUptoCardSaid : Prop := Claim7.holds Tryz.pinned (.plain (OpenSpec.upto ucdNamesSpec)) ucdNamesUptoCard
end Rows
end Go.Proofs.YthlfmpkbdcimkaaGreatDoor
