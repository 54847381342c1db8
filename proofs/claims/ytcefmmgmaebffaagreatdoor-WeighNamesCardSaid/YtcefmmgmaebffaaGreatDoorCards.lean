/-
  DERIVED. GIVEN WITH THE SEED: THE CARDS: each row of YtcefmmgmaebffaaGreatDoorRows.lean that lists a variable, with what it lists TIED to the program's text (the seventh form; the later family's looks); each row that meets fmt, with fmt's text TOLD by the authors' own Lean function (tested against real Go, not proved from fmt's source: count such statements apart). THE CARD IS WHAT COUNTS. Prove the row's statement (the work); the ties are given (YtcefmmgmaebffaaGreatDoorTie.lean); close each card by the builder's one call (the guide's Derived/Test/ToyasCard.lean, 'card_holds'). Laid BY PROGRAM, IN A SANDBOX (cutbox-door.mjs). By AI agents, Wed Nov 11 2026. No macro, syntax, notation, axiom, sorry.
-/
import Derived.Test.YtcefmmgmaebffaaGreatDoorRows
import GoSem.ClaimSeven
namespace Go.Proofs.YtcefmmgmaebffaaGreatDoor
namespace Rows

/-- THE TIED CARD OF 'dovetaillaw08.WeighNames'. -/
def weighNamesCard : Claim7 := { stood := { row := weighNamesRow, standIns := [], harness := (true, "944ea9215c97dda54051db52c0e34463731e2b43d1b7dc6d4e6d2120f1ab7141"), looks := true }, kinds := [], alts := [], laidByText := true, laidKinds := [.data, .data, .data, .data, .sentinel, .sentinel, .pinned, .pinned], laidTests := true, laidLooks := .later }
def WeighNamesCardSaid : Prop := Claim7.holds Tryz.pinned (.plain (OpenSpec.ofChange weighNamesSpec)) weighNamesCard

/-- THE SECOND FORM's CARD OF 'dovetaillaw08.WeighNames'. -/
def weighNamesUptoCard : Claim7 := { stood := { row := weighNamesUptoRow, standIns := [], harness := (true, "944ea9215c97dda54051db52c0e34463731e2b43d1b7dc6d4e6d2120f1ab7141"), looks := true }, kinds := [], alts := [], laidByText := true, laidKinds := [.data, .data, .data, .data, .sentinel, .sentinel, .pinned, .pinned], laidTests := true, laidLooks := .later }
def WeighNamesUptoCardSaid : Prop := Claim7.holds Tryz.pinned (.plain (OpenSpec.upto weighNamesSpec)) weighNamesUptoCard
end Rows
end Go.Proofs.YtcefmmgmaebffaaGreatDoor
