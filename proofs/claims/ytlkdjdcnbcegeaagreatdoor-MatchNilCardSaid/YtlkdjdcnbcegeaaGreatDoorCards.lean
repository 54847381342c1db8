/-
  DERIVED. GIVEN WITH THE SEED: THE CARDS: each row of YtlkdjdcnbcegeaaGreatDoorRows.lean that lists a variable, with what it lists TIED to the program's text (the seventh form; the later family's looks); each row that meets fmt, with fmt's text TOLD by the authors' own Lean function (tested against real Go, not proved from fmt's source: count such statements apart). THE CARD IS WHAT COUNTS. Prove the row's statement (the work); the ties are given (YtlkdjdcnbcegeaaGreatDoorTie.lean); close each card by the builder's one call (the guide's Derived/Test/ToyasCard.lean, 'card_holds'). Laid BY PROGRAM, IN A SANDBOX (cutbox-door.mjs). By AI agents, Wed Nov 11 2026. No macro, syntax, notation, axiom, sorry.
-/
import Derived.Test.YtlkdjdcnbcegeaaGreatDoorRows
import GoSem.ClaimSeven
namespace Go.Proofs.YtlkdjdcnbcegeaaGreatDoor
namespace Rows

/-- THE TIED CARD OF 'dovetaillaw07.MatchSteps'. -/
def matchStepsCard : Claim7 := { stood := { row := matchStepsRow, standIns := [], harness := (true, "309311fd923791d67b2cf44d8cff04836fbd863fde2c8f98efd4d2ee280c877f"), looks := true }, kinds := [], alts := [], laidByText := true, laidKinds := [.data, .data, .data, .data, .sentinel, .sentinel, .pinned, .pinned], laidTests := true, laidLooks := .later }
def MatchStepsCardSaid : Prop := Claim7.holds Tryz.pinned (.plain (OpenSpec.ofChange matchStepsSpec)) matchStepsCard

/-- THE TIED CARD OF 'dovetaillaw07.MatchCovers'. -/
def matchCoversCard : Claim7 := { stood := { row := matchCoversRow, standIns := [], harness := (true, "309311fd923791d67b2cf44d8cff04836fbd863fde2c8f98efd4d2ee280c877f"), looks := true }, kinds := [], alts := [], laidByText := true, laidKinds := [.data, .data, .data, .data, .sentinel, .sentinel, .pinned, .pinned], laidTests := true, laidLooks := .later }
def MatchCoversCardSaid : Prop := Claim7.holds Tryz.pinned (.plain (OpenSpec.ofChange matchCoversSpec)) matchCoversCard

/-- THE TIED CARD OF 'dovetaillaw07.MatchNil'. -/
def matchNilCard : Claim7 := { stood := { row := matchNilRow, standIns := [], harness := (true, "309311fd923791d67b2cf44d8cff04836fbd863fde2c8f98efd4d2ee280c877f"), looks := true }, kinds := [], alts := [], laidByText := true, laidKinds := [.data, .data, .data, .data, .sentinel, .sentinel, .pinned, .pinned], laidTests := true, laidLooks := .later }
def MatchNilCardSaid : Prop := Claim7.holds Tryz.pinned (.plain (OpenSpec.ofChange matchNilSpec)) matchNilCard

/-- THE TIED CARD OF 'dovetaillaw07.MatchSame'. -/
def matchSameCard : Claim7 := { stood := { row := matchSameRow, standIns := [], harness := (true, "309311fd923791d67b2cf44d8cff04836fbd863fde2c8f98efd4d2ee280c877f"), looks := true }, kinds := [], alts := [], laidByText := true, laidKinds := [.data, .data, .data, .data, .sentinel, .sentinel, .pinned, .pinned], laidTests := true, laidLooks := .later }
def MatchSameCardSaid : Prop := Claim7.holds Tryz.pinned (.plain (OpenSpec.ofChange matchSameSpec)) matchSameCard

/-- THE TIED CARD OF 'dovetaillaw07.MatchSingles'. -/
def matchSinglesCard : Claim7 := { stood := { row := matchSinglesRow, standIns := [], harness := (true, "309311fd923791d67b2cf44d8cff04836fbd863fde2c8f98efd4d2ee280c877f"), looks := true }, kinds := [], alts := [], laidByText := true, laidKinds := [.data, .data, .data, .data, .sentinel, .sentinel, .pinned, .pinned], laidTests := true, laidLooks := .later }
def MatchSinglesCardSaid : Prop := Claim7.holds Tryz.pinned (.plain (OpenSpec.ofChange matchSinglesSpec)) matchSinglesCard

/-- THE TIED CARD OF 'dovetaillaw07.MatchTails'. -/
def matchTailsCard : Claim7 := { stood := { row := matchTailsRow, standIns := [], harness := (true, "309311fd923791d67b2cf44d8cff04836fbd863fde2c8f98efd4d2ee280c877f"), looks := true }, kinds := [], alts := [], laidByText := true, laidKinds := [.data, .data, .data, .data, .sentinel, .sentinel, .pinned, .pinned], laidTests := true, laidLooks := .later }
def MatchTailsCardSaid : Prop := Claim7.holds Tryz.pinned (.plain (OpenSpec.ofChange matchTailsSpec)) matchTailsCard

/-- THE SECOND FORM's CARD OF 'dovetaillaw07.MatchSteps'. -/
def matchStepsUptoCard : Claim7 := { stood := { row := matchStepsUptoRow, standIns := [], harness := (true, "309311fd923791d67b2cf44d8cff04836fbd863fde2c8f98efd4d2ee280c877f"), looks := true }, kinds := [], alts := [], laidByText := true, laidKinds := [.data, .data, .data, .data, .sentinel, .sentinel, .pinned, .pinned], laidTests := true, laidLooks := .later }
def MatchStepsUptoCardSaid : Prop := Claim7.holds Tryz.pinned (.plain (OpenSpec.upto matchStepsSpec)) matchStepsUptoCard

/-- THE SECOND FORM's CARD OF 'dovetaillaw07.MatchCovers'. -/
def matchCoversUptoCard : Claim7 := { stood := { row := matchCoversUptoRow, standIns := [], harness := (true, "309311fd923791d67b2cf44d8cff04836fbd863fde2c8f98efd4d2ee280c877f"), looks := true }, kinds := [], alts := [], laidByText := true, laidKinds := [.data, .data, .data, .data, .sentinel, .sentinel, .pinned, .pinned], laidTests := true, laidLooks := .later }
def MatchCoversUptoCardSaid : Prop := Claim7.holds Tryz.pinned (.plain (OpenSpec.upto matchCoversSpec)) matchCoversUptoCard

/-- THE SECOND FORM's CARD OF 'dovetaillaw07.MatchNil'. -/
def matchNilUptoCard : Claim7 := { stood := { row := matchNilUptoRow, standIns := [], harness := (true, "309311fd923791d67b2cf44d8cff04836fbd863fde2c8f98efd4d2ee280c877f"), looks := true }, kinds := [], alts := [], laidByText := true, laidKinds := [.data, .data, .data, .data, .sentinel, .sentinel, .pinned, .pinned], laidTests := true, laidLooks := .later }
def MatchNilUptoCardSaid : Prop := Claim7.holds Tryz.pinned (.plain (OpenSpec.upto matchNilSpec)) matchNilUptoCard

/-- THE SECOND FORM's CARD OF 'dovetaillaw07.MatchSame'. -/
def matchSameUptoCard : Claim7 := { stood := { row := matchSameUptoRow, standIns := [], harness := (true, "309311fd923791d67b2cf44d8cff04836fbd863fde2c8f98efd4d2ee280c877f"), looks := true }, kinds := [], alts := [], laidByText := true, laidKinds := [.data, .data, .data, .data, .sentinel, .sentinel, .pinned, .pinned], laidTests := true, laidLooks := .later }
def MatchSameUptoCardSaid : Prop := Claim7.holds Tryz.pinned (.plain (OpenSpec.upto matchSameSpec)) matchSameUptoCard

/-- THE SECOND FORM's CARD OF 'dovetaillaw07.MatchSingles'. -/
def matchSinglesUptoCard : Claim7 := { stood := { row := matchSinglesUptoRow, standIns := [], harness := (true, "309311fd923791d67b2cf44d8cff04836fbd863fde2c8f98efd4d2ee280c877f"), looks := true }, kinds := [], alts := [], laidByText := true, laidKinds := [.data, .data, .data, .data, .sentinel, .sentinel, .pinned, .pinned], laidTests := true, laidLooks := .later }
def MatchSinglesUptoCardSaid : Prop := Claim7.holds Tryz.pinned (.plain (OpenSpec.upto matchSinglesSpec)) matchSinglesUptoCard

/-- THE SECOND FORM's CARD OF 'dovetaillaw07.MatchTails'. -/
def matchTailsUptoCard : Claim7 := { stood := { row := matchTailsUptoRow, standIns := [], harness := (true, "309311fd923791d67b2cf44d8cff04836fbd863fde2c8f98efd4d2ee280c877f"), looks := true }, kinds := [], alts := [], laidByText := true, laidKinds := [.data, .data, .data, .data, .sentinel, .sentinel, .pinned, .pinned], laidTests := true, laidLooks := .later }
def MatchTailsUptoCardSaid : Prop := Claim7.holds Tryz.pinned (.plain (OpenSpec.upto matchTailsSpec)) matchTailsUptoCard
end Rows
end Go.Proofs.YtlkdjdcnbcegeaaGreatDoor
