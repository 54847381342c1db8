/-
  DERIVED. GIVEN WITH THE SEED: THE CARDS: each row of YtpggkhecpgbchaaGreatDoorRows.lean that lists a variable, with what it lists TIED to the program's text (the seventh form; the later family's looks); each row that meets fmt, with fmt's text TOLD by the authors' own Lean function (tested against real Go, not proved from fmt's source: count such statements apart). THE CARD IS WHAT COUNTS. Prove the row's statement (the work); the ties are given (YtpggkhecpgbchaaGreatDoorTie.lean); close each card by the builder's one call (the guide's Derived/Test/ToyasCard.lean, 'card_holds'). Laid BY PROGRAM, IN A SANDBOX (cutbox-door.mjs). By AI agents, Wed Nov 11 2026. No macro, syntax, notation, axiom, sorry.
-/
import Derived.Test.YtpggkhecpgbchaaGreatDoorRows
import GoSem.ClaimSeven
namespace Go.Proofs.YtpggkhecpgbchaaGreatDoor
namespace Rows

/-- THE TIED CARD OF 'dovetaillaw16.SpanNames'. -/
def spanNamesCard : Claim7 := { stood := { row := spanNamesRow, standIns := [], harness := (true, "a3a7c0ff3f5c92f47395b7c13fc4dc137830935db3c143866fde2168083e008f"), looks := true }, kinds := [], alts := [], laidByText := true, laidKinds := [.data, .data, .data, .data, .handle, .sentinel, .sentinel, .pinned, .pinned], laidTests := true, laidLooks := .later }
def SpanNamesCardSaid : Prop := Claim7.holds Tryz.pinned (.plain (OpenSpec.ofChange spanNamesSpec)) spanNamesCard

/-- THE SECOND FORM's CARD OF 'dovetaillaw16.SpanNames'. -/
def spanNamesUptoCard : Claim7 := { stood := { row := spanNamesUptoRow, standIns := [], harness := (true, "a3a7c0ff3f5c92f47395b7c13fc4dc137830935db3c143866fde2168083e008f"), looks := true }, kinds := [], alts := [], laidByText := true, laidKinds := [.data, .data, .data, .data, .handle, .sentinel, .sentinel, .pinned, .pinned], laidTests := true, laidLooks := .later }
def SpanNamesUptoCardSaid : Prop := Claim7.holds Tryz.pinned (.plain (OpenSpec.upto spanNamesSpec)) spanNamesUptoCard
end Rows
end Go.Proofs.YtpggkhecpgbchaaGreatDoor
