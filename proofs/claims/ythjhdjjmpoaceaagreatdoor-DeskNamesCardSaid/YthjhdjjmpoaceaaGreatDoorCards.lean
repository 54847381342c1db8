/-
  DERIVED. GIVEN WITH THE SEED: THE CARDS: each row of YthjhdjjmpoaceaaGreatDoorRows.lean that lists a variable, with what it lists TIED to the program's text (the seventh form; the later family's looks); each row that meets fmt, with fmt's text TOLD by the authors' own Lean function (tested against real Go, not proved from fmt's source: count such statements apart). THE CARD IS WHAT COUNTS. Prove the row's statement (the work); the ties are given (YthjhdjjmpoaceaaGreatDoorTie.lean); close each card by the builder's one call (the guide's Derived/Test/ToyasCard.lean, 'card_holds'). Laid BY PROGRAM, IN A SANDBOX (cutbox-door.mjs). By AI agents, Wed Nov 11 2026. No macro, syntax, notation, axiom, sorry.
-/
import Derived.Test.YthjhdjjmpoaceaaGreatDoorRows
import GoSem.ClaimSeven
namespace Go.Proofs.YthjhdjjmpoaceaaGreatDoor
namespace Rows

/-- THE TIED CARD OF 'dovetaillaw22.DeskNames'. -/
def deskNamesCard : Claim7 := { stood := { row := deskNamesRow, standIns := [], harness := (true, "f3147189c119526f119c59ef80982094058e491cc7f88735403e555579506798"), looks := true }, kinds := [], alts := [], laidByText := true, laidKinds := [.pinned, .data, .sentinel, .sentinel, .data, .data, .data, .pinned, .handle, .data, .sentinel], laidTests := true, laidLooks := .later }
def DeskNamesCardSaid : Prop := Claim7.holds Tryz.pinned (.plain (OpenSpec.ofChange deskNamesSpec)) deskNamesCard

/-- THE SECOND FORM's CARD OF 'dovetaillaw22.DeskNames'. -/
def deskNamesUptoCard : Claim7 := { stood := { row := deskNamesUptoRow, standIns := [], harness := (true, "f3147189c119526f119c59ef80982094058e491cc7f88735403e555579506798"), looks := true }, kinds := [], alts := [], laidByText := true, laidKinds := [.pinned, .data, .sentinel, .sentinel, .data, .data, .data, .pinned, .handle, .data, .sentinel], laidTests := true, laidLooks := .later }
def DeskNamesUptoCardSaid : Prop := Claim7.holds Tryz.pinned (.plain (OpenSpec.upto deskNamesSpec)) deskNamesUptoCard
end Rows
end Go.Proofs.YthjhdjjmpoaceaaGreatDoor
