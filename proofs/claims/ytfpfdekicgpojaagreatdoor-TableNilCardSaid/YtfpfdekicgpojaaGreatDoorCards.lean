/-
  DERIVED. GIVEN WITH THE SEED: THE CARDS: each row of YtfpfdekicgpojaaGreatDoorRows.lean that lists a variable, with what it lists TIED to the program's text (the seventh form; the later family's looks); each row that meets fmt, with fmt's text TOLD by the authors' own Lean function (tested against real Go, not proved from fmt's source: count such statements apart). THE CARD IS WHAT COUNTS. Prove the row's statement (the work); the ties are given (YtfpfdekicgpojaaGreatDoorTie.lean); close each card by the builder's one call (the guide's Derived/Test/ToyasCard.lean, 'card_holds'). Laid BY PROGRAM, IN A SANDBOX (cutbox-door.mjs). By AI agents, Wed Nov 11 2026. No macro, syntax, notation, axiom, sorry.
-/
import Derived.Test.YtfpfdekicgpojaaGreatDoorRows
import GoSem.ClaimSeven
namespace Go.Proofs.YtfpfdekicgpojaaGreatDoor
namespace Rows

/-- THE TIED CARD OF 'dovetaillaw06.TablePrints'. -/
def tablePrintsCard : Claim7 := { stood := { row := tablePrintsRow, standIns := [], harness := (true, "19244c0eb920b970c80a894c3bc6f94b326721953642f1464c8c354532db5925"), looks := true }, kinds := [], alts := [], laidByText := true, laidKinds := [.data, .data, .data, .data, .sentinel, .sentinel, .pinned, .pinned], laidTests := true, laidLooks := .later }
def TablePrintsCardSaid : Prop := Claim7.holds Tryz.pinned (.plain (OpenSpec.ofChange tablePrintsSpec)) tablePrintsCard

/-- THE TIED CARD OF 'dovetaillaw06.TableNil'. -/
def tableNilCard : Claim7 := { stood := { row := tableNilRow, standIns := [], harness := (true, "19244c0eb920b970c80a894c3bc6f94b326721953642f1464c8c354532db5925"), looks := true }, kinds := [], alts := [], laidByText := true, laidKinds := [.data, .data, .data, .data, .sentinel, .sentinel, .pinned, .pinned], laidTests := true, laidLooks := .later }
def TableNilCardSaid : Prop := Claim7.holds Tryz.pinned (.plain (OpenSpec.ofChange tableNilSpec)) tableNilCard

/-- THE TIED CARD OF 'dovetaillaw06.TableAgain'. -/
def tableAgainCard : Claim7 := { stood := { row := tableAgainRow, standIns := [], harness := (true, "19244c0eb920b970c80a894c3bc6f94b326721953642f1464c8c354532db5925"), looks := true }, kinds := [], alts := [], laidByText := true, laidKinds := [.data, .data, .data, .data, .sentinel, .sentinel, .pinned, .pinned], laidTests := true, laidLooks := .later }
def TableAgainCardSaid : Prop := Claim7.holds Tryz.pinned (.plain (OpenSpec.ofChange tableAgainSpec)) tableAgainCard

/-- THE SECOND FORM's CARD OF 'dovetaillaw06.TablePrints'. -/
def tablePrintsUptoCard : Claim7 := { stood := { row := tablePrintsUptoRow, standIns := [], harness := (true, "19244c0eb920b970c80a894c3bc6f94b326721953642f1464c8c354532db5925"), looks := true }, kinds := [], alts := [], laidByText := true, laidKinds := [.data, .data, .data, .data, .sentinel, .sentinel, .pinned, .pinned], laidTests := true, laidLooks := .later }
def TablePrintsUptoCardSaid : Prop := Claim7.holds Tryz.pinned (.plain (OpenSpec.upto tablePrintsSpec)) tablePrintsUptoCard

/-- THE SECOND FORM's CARD OF 'dovetaillaw06.TableNil'. -/
def tableNilUptoCard : Claim7 := { stood := { row := tableNilUptoRow, standIns := [], harness := (true, "19244c0eb920b970c80a894c3bc6f94b326721953642f1464c8c354532db5925"), looks := true }, kinds := [], alts := [], laidByText := true, laidKinds := [.data, .data, .data, .data, .sentinel, .sentinel, .pinned, .pinned], laidTests := true, laidLooks := .later }
def TableNilUptoCardSaid : Prop := Claim7.holds Tryz.pinned (.plain (OpenSpec.upto tableNilSpec)) tableNilUptoCard

/-- THE SECOND FORM's CARD OF 'dovetaillaw06.TableAgain'. -/
def tableAgainUptoCard : Claim7 := { stood := { row := tableAgainUptoRow, standIns := [], harness := (true, "19244c0eb920b970c80a894c3bc6f94b326721953642f1464c8c354532db5925"), looks := true }, kinds := [], alts := [], laidByText := true, laidKinds := [.data, .data, .data, .data, .sentinel, .sentinel, .pinned, .pinned], laidTests := true, laidLooks := .later }
def TableAgainUptoCardSaid : Prop := Claim7.holds Tryz.pinned (.plain (OpenSpec.upto tableAgainSpec)) tableAgainUptoCard
end Rows
end Go.Proofs.YtfpfdekicgpojaaGreatDoor
