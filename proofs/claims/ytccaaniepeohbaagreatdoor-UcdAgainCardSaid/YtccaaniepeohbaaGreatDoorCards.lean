/-
  DERIVED. GIVEN WITH THE SEED: THE CARDS: each row of YtccaaniepeohbaaGreatDoorRows.lean that lists a variable, with what it lists TIED to the program's text (the seventh form; the later family's looks); each row that meets fmt, with fmt's text TOLD by the authors' own Lean function (tested against real Go, not proved from fmt's source: count such statements apart). THE CARD IS WHAT COUNTS. Prove the row's statement (the work); the ties are given (YtccaaniepeohbaaGreatDoorTie.lean); close each card by the builder's one call (the guide's Derived/Test/ToyasCard.lean, 'card_holds'). Laid BY PROGRAM, IN A SANDBOX (cutbox-door.mjs). By AI agents, Wed Nov 11 2026. No macro, syntax, notation, axiom, sorry.
-/
import Derived.Test.YtccaaniepeohbaaGreatDoorRows
import GoSem.ClaimSeven
namespace Go.Proofs.YtccaaniepeohbaaGreatDoor
namespace Rows

/-- THE TIED CARD OF 'dovetaillaw04.UcdPrints'. -/
def ucdPrintsCard : Claim7 := { stood := { row := ucdPrintsRow, standIns := [], harness := (true, "95ca0c835006f39bc74e459b81c7525de52d77a59e449adefe61b612964971a3"), looks := true }, kinds := [], alts := [], laidByText := true, laidKinds := [.data, .data, .data, .data, .sentinel, .sentinel, .pinned, .pinned], laidTests := true, laidLooks := .later }
def UcdPrintsCardSaid : Prop := Claim7.holds Tryz.pinned (.plain (OpenSpec.ofChange ucdPrintsSpec)) ucdPrintsCard

/-- THE TIED CARD OF 'dovetaillaw04.UcdAgain'. -/
def ucdAgainCard : Claim7 := { stood := { row := ucdAgainRow, standIns := [], harness := (true, "95ca0c835006f39bc74e459b81c7525de52d77a59e449adefe61b612964971a3"), looks := true }, kinds := [], alts := [], laidByText := true, laidKinds := [.data, .data, .data, .data, .sentinel, .sentinel, .pinned, .pinned], laidTests := true, laidLooks := .later }
def UcdAgainCardSaid : Prop := Claim7.holds Tryz.pinned (.plain (OpenSpec.ofChange ucdAgainSpec)) ucdAgainCard

/-- THE SECOND FORM's CARD OF 'dovetaillaw04.UcdPrints'. -/
def ucdPrintsUptoCard : Claim7 := { stood := { row := ucdPrintsUptoRow, standIns := [], harness := (true, "95ca0c835006f39bc74e459b81c7525de52d77a59e449adefe61b612964971a3"), looks := true }, kinds := [], alts := [], laidByText := true, laidKinds := [.data, .data, .data, .data, .sentinel, .sentinel, .pinned, .pinned], laidTests := true, laidLooks := .later }
def UcdPrintsUptoCardSaid : Prop := Claim7.holds Tryz.pinned (.plain (OpenSpec.upto ucdPrintsSpec)) ucdPrintsUptoCard

/-- THE SECOND FORM's CARD OF 'dovetaillaw04.UcdAgain'. -/
def ucdAgainUptoCard : Claim7 := { stood := { row := ucdAgainUptoRow, standIns := [], harness := (true, "95ca0c835006f39bc74e459b81c7525de52d77a59e449adefe61b612964971a3"), looks := true }, kinds := [], alts := [], laidByText := true, laidKinds := [.data, .data, .data, .data, .sentinel, .sentinel, .pinned, .pinned], laidTests := true, laidLooks := .later }
def UcdAgainUptoCardSaid : Prop := Claim7.holds Tryz.pinned (.plain (OpenSpec.upto ucdAgainSpec)) ucdAgainUptoCard
end Rows
end Go.Proofs.YtccaaniepeohbaaGreatDoor
