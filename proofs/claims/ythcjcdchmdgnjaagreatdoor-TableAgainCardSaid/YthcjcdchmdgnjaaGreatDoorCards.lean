/-
  DERIVED. GIVEN WITH THE SEED: THE CARDS: each row of YthcjcdchmdgnjaaGreatDoorRows.lean that lists a variable, with what it lists TIED to the program's text (the seventh form; the later family's looks); each row that meets fmt, with fmt's text TOLD by the authors' own Lean function (tested against real Go, not proved from fmt's source: count such statements apart). THE CARD IS WHAT COUNTS. Prove the row's statement (the work); the ties are given (YthcjcdchmdgnjaaGreatDoorTie.lean); close each card by the builder's one call (the guide's Derived/Test/ToyasCard.lean, 'card_holds'). Laid BY PROGRAM, IN A SANDBOX (cutbox-door.mjs). By AI agents, Wed Nov 11 2026. No macro, syntax, notation, axiom, sorry.
-/
import Derived.Test.YthcjcdchmdgnjaaGreatDoorRows
import GoSem.ClaimSeven
namespace Go.Proofs.YthcjcdchmdgnjaaGreatDoor
namespace Rows

/-- THE TIED CARD OF 'dovetaillaw06.TableAgain'. -/
def tableAgainCard : Claim7 := { stood := { row := tableAgainRow, standIns := [], harness := (true, "b4394f35e3c0202fc78cd47562ca147b6479deb51e9d9708869943f7546032bf"), looks := true }, kinds := [], alts := [], laidByText := true, laidKinds := [.data, .data, .data, .data, .sentinel, .sentinel, .pinned, .pinned], laidTests := true, laidLooks := .later }
def TableAgainCardSaid : Prop := Claim7.holds Tryz.pinned (.plain (OpenSpec.ofChange tableAgainSpec)) tableAgainCard

/-- THE SECOND FORM's CARD OF 'dovetaillaw06.TableAgain'. -/
def tableAgainUptoCard : Claim7 := { stood := { row := tableAgainUptoRow, standIns := [], harness := (true, "b4394f35e3c0202fc78cd47562ca147b6479deb51e9d9708869943f7546032bf"), looks := true }, kinds := [], alts := [], laidByText := true, laidKinds := [.data, .data, .data, .data, .sentinel, .sentinel, .pinned, .pinned], laidTests := true, laidLooks := .later }
def TableAgainUptoCardSaid : Prop := Claim7.holds Tryz.pinned (.plain (OpenSpec.upto tableAgainSpec)) tableAgainUptoCard
end Rows
end Go.Proofs.YthcjcdchmdgnjaaGreatDoor
