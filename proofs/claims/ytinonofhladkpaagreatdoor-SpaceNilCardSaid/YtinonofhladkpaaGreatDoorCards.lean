/-
  DERIVED. GIVEN WITH THE SEED: THE CARDS: each row of YtinonofhladkpaaGreatDoorRows.lean that lists a variable, with what it lists TIED to the program's text (the seventh form; the later family's looks); each row that meets fmt, with fmt's text TOLD by the authors' own Lean function (tested against real Go, not proved from fmt's source: count such statements apart). THE CARD IS WHAT COUNTS. Prove the row's statement (the work); the ties are given (YtinonofhladkpaaGreatDoorTie.lean); close each card by the builder's one call (the guide's Derived/Test/ToyasCard.lean, 'card_holds'). Laid BY PROGRAM, IN A SANDBOX (cutbox-door.mjs). By AI agents, Wed Nov 11 2026. No macro, syntax, notation, axiom, sorry.
-/
import Derived.Test.YtinonofhladkpaaGreatDoorRows
import GoSem.ClaimSeven
namespace Go.Proofs.YtinonofhladkpaaGreatDoor
namespace Rows

/-- THE TIED CARD OF 'dovetaillaw20.SpaceNil'. -/
def spaceNilCard : Claim7 := { stood := { row := spaceNilRow, standIns := [], harness := (true, "d4ec75e4608a71c8955a9ece46ae2f0e9426ebd78313df0d1065aeb2d318f089"), looks := true }, kinds := [], alts := [], laidByText := true, laidKinds := [.data, .data, .data, .data, .handle, .sentinel, .sentinel, .sentinel, .data, .pinned, .pinned], laidTests := true, laidLooks := .later }
def SpaceNilCardSaid : Prop := Claim7.holds Tryz.pinned (.plain (OpenSpec.ofChange spaceNilSpec)) spaceNilCard

/-- THE SECOND FORM's CARD OF 'dovetaillaw20.SpaceNil'. -/
def spaceNilUptoCard : Claim7 := { stood := { row := spaceNilUptoRow, standIns := [], harness := (true, "d4ec75e4608a71c8955a9ece46ae2f0e9426ebd78313df0d1065aeb2d318f089"), looks := true }, kinds := [], alts := [], laidByText := true, laidKinds := [.data, .data, .data, .data, .handle, .sentinel, .sentinel, .sentinel, .data, .pinned, .pinned], laidTests := true, laidLooks := .later }
def SpaceNilUptoCardSaid : Prop := Claim7.holds Tryz.pinned (.plain (OpenSpec.upto spaceNilSpec)) spaceNilUptoCard
end Rows
end Go.Proofs.YtinonofhladkpaaGreatDoor
