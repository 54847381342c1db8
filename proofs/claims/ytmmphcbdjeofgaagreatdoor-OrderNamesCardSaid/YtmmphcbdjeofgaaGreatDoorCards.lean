/-
  DERIVED. GIVEN WITH THE SEED: THE CARDS: each row of YtmmphcbdjeofgaaGreatDoorRows.lean that lists a variable, with what it lists TIED to the program's text (the seventh form; the later family's looks); each row that meets fmt, with fmt's text TOLD by the authors' own Lean function (tested against real Go, not proved from fmt's source: count such statements apart). THE CARD IS WHAT COUNTS. Prove the row's statement (the work); the ties are given (YtmmphcbdjeofgaaGreatDoorTie.lean); close each card by the builder's one call (the guide's Derived/Test/ToyasCard.lean, 'card_holds'). Laid BY PROGRAM, IN A SANDBOX (cutbox-door.mjs). By AI agents, Wed Nov 11 2026. No macro, syntax, notation, axiom, sorry.
-/
import Derived.Test.YtmmphcbdjeofgaaGreatDoorRows
import GoSem.ClaimSeven
namespace Go.Proofs.YtmmphcbdjeofgaaGreatDoor
namespace Rows

/-- THE TIED CARD OF 'dovetaillaw13.OrderNames'. -/
def orderNamesCard : Claim7 := { stood := { row := orderNamesRow, standIns := [], harness := (true, "09cbd7279c9be89e1c5dbab73252860a2b01a9ced97f0b4a9d73a72db7944120"), looks := true }, kinds := [], alts := [], laidByText := true, laidKinds := [.data, .data, .data, .data, .sentinel, .sentinel, .pinned, .pinned], laidTests := true, laidLooks := .later }
def OrderNamesCardSaid : Prop := Claim7.holds Tryz.pinned (.plain (OpenSpec.ofChange orderNamesSpec)) orderNamesCard

/-- THE SECOND FORM's CARD OF 'dovetaillaw13.OrderNames'. -/
def orderNamesUptoCard : Claim7 := { stood := { row := orderNamesUptoRow, standIns := [], harness := (true, "09cbd7279c9be89e1c5dbab73252860a2b01a9ced97f0b4a9d73a72db7944120"), looks := true }, kinds := [], alts := [], laidByText := true, laidKinds := [.data, .data, .data, .data, .sentinel, .sentinel, .pinned, .pinned], laidTests := true, laidLooks := .later }
def OrderNamesUptoCardSaid : Prop := Claim7.holds Tryz.pinned (.plain (OpenSpec.upto orderNamesSpec)) orderNamesUptoCard
end Rows
end Go.Proofs.YtmmphcbdjeofgaaGreatDoor
