/-
  DERIVED. GIVEN WITH THE SEED: THE CARDS: each row of YtkecgbcfkbafpaaDoorRows.lean that lists a variable, with what it lists TIED to the program's text (the seventh form; the later family's looks); each row that meets fmt, with fmt's text TOLD by the authors' own Lean function (tested against real Go, not proved from fmt's source: count such statements apart). THE CARD IS WHAT COUNTS. Prove the row's statement (the work); the ties are given (YtkecgbcfkbafpaaDoorTie.lean); close each card by the builder's one call (the guide's Derived/Test/ToyasCard.lean, 'card_holds'). Laid BY PROGRAM, IN A SANDBOX (cutbox-door.mjs). By AI agents, Wed Nov 11 2026. No macro, syntax, notation, axiom, sorry.
-/
import Derived.Test.YtkecgbcfkbafpaaDoorRows
import GoSem.ClaimSeven
namespace Go.Proofs.YtkecgbcfkbafpaaDoor
namespace Rows

/-- THE TIED CARD OF 'dovetaillaw06.TableImplied'. -/
def tableImpliedCard : Claim7 := { stood := { row := tableImpliedRow, standIns := [], harness := (true, "a23b67ab3cf9aee0f8decfcbf96bfa8f3ccaa60c8c87e0928b6c09ff31f2e2c7"), looks := true }, kinds := [], alts := [], laidByText := true, laidKinds := [.data, .data, .data, .data, .sentinel, .sentinel, .pinned, .pinned], laidTests := true, laidLooks := .later }
def TableImpliedCardSaid : Prop := Claim7.holds Tryd.pinned (.plain (OpenSpec.ofChange tableImpliedSpec)) tableImpliedCard

/-- THE SECOND FORM's CARD OF 'dovetaillaw06.TableImplied'. -/
def tableImpliedUptoCard : Claim7 := { stood := { row := tableImpliedUptoRow, standIns := [], harness := (true, "a23b67ab3cf9aee0f8decfcbf96bfa8f3ccaa60c8c87e0928b6c09ff31f2e2c7"), looks := true }, kinds := [], alts := [], laidByText := true, laidKinds := [.data, .data, .data, .data, .sentinel, .sentinel, .pinned, .pinned], laidTests := true, laidLooks := .later }
def TableImpliedUptoCardSaid : Prop := Claim7.holds Tryd.pinned (.plain (OpenSpec.upto tableImpliedSpec)) tableImpliedUptoCard
end Rows
end Go.Proofs.YtkecgbcfkbafpaaDoor
