/-
  DERIVED. GIVEN WITH THE SEED: THE CARDS: each row of YtokbkninlbkhjaaGreatDoorRows.lean that lists a variable, with what it lists TIED to the program's text (the seventh form; the later family's looks); each row that meets fmt, with fmt's text TOLD by the authors' own Lean function (tested against real Go, not proved from fmt's source: count such statements apart). THE CARD IS WHAT COUNTS. Prove the row's statement (the work); the ties are given (YtokbkninlbkhjaaGreatDoorTie.lean); close each card by the builder's one call (the guide's Derived/Test/ToyasCard.lean, 'card_holds'). Laid BY PROGRAM, IN A SANDBOX (cutbox-door.mjs). By AI agents, Wed Nov 11 2026. No macro, syntax, notation, axiom, sorry.
-/
import Derived.Test.YtokbkninlbkhjaaGreatDoorRows
import GoSem.ClaimSeven
namespace Go.Proofs.YtokbkninlbkhjaaGreatDoor
namespace Rows

/-- THE TIED CARD OF 'dovetaillaw21.ImageNames'. -/
def imageNamesCard : Claim7 := { stood := { row := imageNamesRow, standIns := [], harness := (true, "4780376d115d218d480f9fee06db2782799416df51ccb21e9fa4b68f97566f6a"), looks := true }, kinds := [], alts := [], laidByText := true, laidKinds := [.data, .data, .data, .data, .handle, .sentinel, .sentinel, .data, .pinned, .pinned], laidTests := true, laidLooks := .later }
def ImageNamesCardSaid : Prop := Claim7.holds Tryz.pinned (.plain (OpenSpec.ofChange imageNamesSpec)) imageNamesCard

/-- THE SECOND FORM's CARD OF 'dovetaillaw21.ImageNames'. -/
def imageNamesUptoCard : Claim7 := { stood := { row := imageNamesUptoRow, standIns := [], harness := (true, "4780376d115d218d480f9fee06db2782799416df51ccb21e9fa4b68f97566f6a"), looks := true }, kinds := [], alts := [], laidByText := true, laidKinds := [.data, .data, .data, .data, .handle, .sentinel, .sentinel, .data, .pinned, .pinned], laidTests := true, laidLooks := .later }
def ImageNamesUptoCardSaid : Prop := Claim7.holds Tryz.pinned (.plain (OpenSpec.upto imageNamesSpec)) imageNamesUptoCard
end Rows
end Go.Proofs.YtokbkninlbkhjaaGreatDoor
