/-
  DERIVED. GIVEN WITH THE SEED: THE CARDS: each row of YthpfiipghjmefaaDoorRows.lean that lists a variable, with what it lists TIED to the program's text (the seventh form; the later family's looks); each row that meets fmt, with fmt's text TOLD by the authors' own Lean function (tested against real Go, not proved from fmt's source: count such statements apart). THE CARD IS WHAT COUNTS. Prove the row's statement (the work); the ties are given (YthpfiipghjmefaaDoorTie.lean); close each card by the builder's one call (the guide's Derived/Test/ToyasCard.lean, 'card_holds'). Laid BY PROGRAM, IN A SANDBOX (cutbox-door.mjs). By AI agents, Wed Nov 11 2026. No macro, syntax, notation, axiom, sorry.
-/
import Derived.Test.YthpfiipghjmefaaDoorRows
import GoSem.ClaimSeven
namespace Go.Proofs.YthpfiipghjmefaaDoor
namespace Rows

/-- THE TIED CARD OF 'dovetaillaw05.NormalNil'. -/
def normalNilCard : Claim7 := { stood := { row := normalNilRow, standIns := [], harness := (true, "ea7c946a884a163a9ca035956ae2acbf16d93f5fa1745926e41d374a37acf17c"), looks := true }, kinds := [], alts := [], laidByText := true, laidKinds := [.data, .data, .data, .data, .sentinel, .sentinel, .pinned, .pinned], laidTests := true, laidLooks := .later }
def NormalNilCardSaid : Prop := Claim7.holds Tryd.pinned (.plain (OpenSpec.ofChange normalNilSpec)) normalNilCard

/-- THE SECOND FORM's CARD OF 'dovetaillaw05.NormalNil'. -/
def normalNilUptoCard : Claim7 := { stood := { row := normalNilUptoRow, standIns := [], harness := (true, "ea7c946a884a163a9ca035956ae2acbf16d93f5fa1745926e41d374a37acf17c"), looks := true }, kinds := [], alts := [], laidByText := true, laidKinds := [.data, .data, .data, .data, .sentinel, .sentinel, .pinned, .pinned], laidTests := true, laidLooks := .later }
def NormalNilUptoCardSaid : Prop := Claim7.holds Tryd.pinned (.plain (OpenSpec.upto normalNilSpec)) normalNilUptoCard
end Rows
end Go.Proofs.YthpfiipghjmefaaDoor
