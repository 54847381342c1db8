/-
  DERIVED. GIVEN WITH THE SEED: THE CARDS: each row of YtebkeoakdijiiaaGreatDoorRows.lean that lists a variable, with what it lists TIED to the program's text (the seventh form; the later family's looks); each row that meets fmt, with fmt's text TOLD by the authors' own Lean function (tested against real Go, not proved from fmt's source: count such statements apart). THE CARD IS WHAT COUNTS. Prove the row's statement (the work); the ties are given (YtebkeoakdijiiaaGreatDoorTie.lean); close each card by the builder's one call (the guide's Derived/Test/ToyasCard.lean, 'card_holds'). Laid BY PROGRAM, IN A SANDBOX (cutbox-door.mjs). By AI agents, Wed Nov 11 2026. No macro, syntax, notation, axiom, sorry.
-/
import Derived.Test.YtebkeoakdijiiaaGreatDoorRows
import GoSem.ClaimSeven
namespace Go.Proofs.YtebkeoakdijiiaaGreatDoor
namespace Rows

/-- THE TIED CARD OF 'dovetaillaw20.SpaceNames'. -/
def spaceNamesCard : Claim7 := { stood := { row := spaceNamesRow, standIns := [], harness := (true, "0175cc1897a6ad90d7be8f72cf12b2415ab0fae34f0e59275ec09e5b915955a7"), looks := true }, kinds := [], alts := [], laidByText := true, laidKinds := [.data, .data, .data, .data, .handle, .sentinel, .sentinel, .pinned, .pinned], laidTests := true, laidLooks := .later }
def SpaceNamesCardSaid : Prop := Claim7.holds Tryz.pinned (.plain (OpenSpec.ofChange spaceNamesSpec)) spaceNamesCard

/-- THE SECOND FORM's CARD OF 'dovetaillaw20.SpaceNames'. -/
def spaceNamesUptoCard : Claim7 := { stood := { row := spaceNamesUptoRow, standIns := [], harness := (true, "0175cc1897a6ad90d7be8f72cf12b2415ab0fae34f0e59275ec09e5b915955a7"), looks := true }, kinds := [], alts := [], laidByText := true, laidKinds := [.data, .data, .data, .data, .handle, .sentinel, .sentinel, .pinned, .pinned], laidTests := true, laidLooks := .later }
def SpaceNamesUptoCardSaid : Prop := Claim7.holds Tryz.pinned (.plain (OpenSpec.upto spaceNamesSpec)) spaceNamesUptoCard
end Rows
end Go.Proofs.YtebkeoakdijiiaaGreatDoor
