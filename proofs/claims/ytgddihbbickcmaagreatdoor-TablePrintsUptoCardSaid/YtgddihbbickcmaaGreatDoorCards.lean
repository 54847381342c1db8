/-
  DERIVED. GIVEN WITH THE SEED: THE CARDS: each row of YtgddihbbickcmaaGreatDoorRows.lean that lists a variable, with what it lists TIED to the program's text (the seventh form; the later family's looks); each row that meets fmt, with fmt's text TOLD by the authors' own Lean function (tested against real Go, not proved from fmt's source: count such statements apart). THE CARD IS WHAT COUNTS. Prove the row's statement (the work); the ties are given (YtgddihbbickcmaaGreatDoorTie.lean); close each card by the builder's one call (the guide's Derived/Test/ToyasCard.lean, 'card_holds'). Laid BY PROGRAM, IN A SANDBOX (cutbox-door.mjs). By AI agents, Wed Nov 11 2026. No macro, syntax, notation, axiom, sorry.
-/
import Derived.Test.YtgddihbbickcmaaGreatDoorRows
import GoSem.ClaimSeven
namespace Go.Proofs.YtgddihbbickcmaaGreatDoor
namespace Rows

/-- THE TIED CARD OF 'dovetaillaw06.TablePrints'. -/
def tablePrintsCard : Claim7 := { stood := { row := tablePrintsRow, standIns := [], harness := (true, "ec00f03a81898a4ffda71df3581cca4c35020ee258859479881a80fe2b758c2c"), looks := true }, kinds := [], alts := [], laidByText := true, laidKinds := [.data, .data, .data, .data, .sentinel, .sentinel, .pinned, .pinned], laidTests := true, laidLooks := .later }
def TablePrintsCardSaid : Prop := Claim7.holds Tryz.pinned (.plain (OpenSpec.ofChange tablePrintsSpec)) tablePrintsCard

/-- THE SECOND FORM's CARD OF 'dovetaillaw06.TablePrints'. -/
def tablePrintsUptoCard : Claim7 := { stood := { row := tablePrintsUptoRow, standIns := [], harness := (true, "ec00f03a81898a4ffda71df3581cca4c35020ee258859479881a80fe2b758c2c"), looks := true }, kinds := [], alts := [], laidByText := true, laidKinds := [.data, .data, .data, .data, .sentinel, .sentinel, .pinned, .pinned], laidTests := true, laidLooks := .later }
def TablePrintsUptoCardSaid : Prop := Claim7.holds Tryz.pinned (.plain (OpenSpec.upto tablePrintsSpec)) tablePrintsUptoCard
end Rows
end Go.Proofs.YtgddihbbickcmaaGreatDoor
