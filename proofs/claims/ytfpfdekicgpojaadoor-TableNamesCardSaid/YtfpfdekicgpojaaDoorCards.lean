/-
  DERIVED. GIVEN WITH THE SEED: THE CARDS: each row of YtfpfdekicgpojaaDoorRows.lean that lists a variable, with what it lists TIED to the program's text (the seventh form; the later family's looks); each row that meets fmt, with fmt's text TOLD by the authors' own Lean function (tested against real Go, not proved from fmt's source: count such statements apart). THE CARD IS WHAT COUNTS. Prove the row's statement (the work); the ties are given (YtfpfdekicgpojaaDoorTie.lean); close each card by the builder's one call (the guide's Derived/Test/ToyasCard.lean, 'card_holds'). Laid BY PROGRAM, IN A SANDBOX (cutbox-door.mjs). By AI agents, Wed Nov 11 2026. No macro, syntax, notation, axiom, sorry.
-/
import Derived.Test.YtfpfdekicgpojaaDoorRows
import GoSem.ClaimSeven
namespace Go.Proofs.YtfpfdekicgpojaaDoor
namespace Rows

/-- THE TIED CARD OF 'dovetaillaw06.TableImplied'. -/
def tableImpliedCard : Claim7 := { stood := { row := tableImpliedRow, standIns := [], harness := (true, "7b5a995ba2778964b199b41d2d400f58a64b6fb7002b25332ad7d8648adcd16c"), looks := true }, kinds := [], alts := [], laidByText := true, laidKinds := [.data, .data, .data, .data, .sentinel, .sentinel, .pinned, .pinned], laidTests := true, laidLooks := .later }
def TableImpliedCardSaid : Prop := Claim7.holds Tryd.pinned (.plain (OpenSpec.ofChange tableImpliedSpec)) tableImpliedCard

/-- THE TIED CARD OF 'dovetaillaw06.TableNames'. -/
def tableNamesCard : Claim7 := { stood := { row := tableNamesRow, standIns := [], harness := (true, "7b5a995ba2778964b199b41d2d400f58a64b6fb7002b25332ad7d8648adcd16c"), looks := true }, kinds := [], alts := [], laidByText := true, laidKinds := [.data, .data, .data, .data, .sentinel, .sentinel, .pinned, .pinned], laidTests := true, laidLooks := .later }
def TableNamesCardSaid : Prop := Claim7.holds Tryd.pinned (.plain (OpenSpec.ofChange tableNamesSpec)) tableNamesCard

/-- THE SECOND FORM's CARD OF 'dovetaillaw06.TableImplied'. -/
def tableImpliedUptoCard : Claim7 := { stood := { row := tableImpliedUptoRow, standIns := [], harness := (true, "7b5a995ba2778964b199b41d2d400f58a64b6fb7002b25332ad7d8648adcd16c"), looks := true }, kinds := [], alts := [], laidByText := true, laidKinds := [.data, .data, .data, .data, .sentinel, .sentinel, .pinned, .pinned], laidTests := true, laidLooks := .later }
def TableImpliedUptoCardSaid : Prop := Claim7.holds Tryd.pinned (.plain (OpenSpec.upto tableImpliedSpec)) tableImpliedUptoCard

/-- THE SECOND FORM's CARD OF 'dovetaillaw06.TableNames'. -/
def tableNamesUptoCard : Claim7 := { stood := { row := tableNamesUptoRow, standIns := [], harness := (true, "7b5a995ba2778964b199b41d2d400f58a64b6fb7002b25332ad7d8648adcd16c"), looks := true }, kinds := [], alts := [], laidByText := true, laidKinds := [.data, .data, .data, .data, .sentinel, .sentinel, .pinned, .pinned], laidTests := true, laidLooks := .later }
def TableNamesUptoCardSaid : Prop := Claim7.holds Tryd.pinned (.plain (OpenSpec.upto tableNamesSpec)) tableNamesUptoCard
end Rows
end Go.Proofs.YtfpfdekicgpojaaDoor
