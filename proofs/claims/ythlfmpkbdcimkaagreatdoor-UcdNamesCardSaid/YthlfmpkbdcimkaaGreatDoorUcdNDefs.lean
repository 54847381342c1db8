/-
  Calls on the way of UcdNames: what they find, what they answer, what they leave.
-/
import Derived.Test.YthlfmpkbdcimkaaGreatDoorRows
import Derived.Test.YthlfmpkbdcimkaaGreatDoorEvMem
import Derived.Test.YthlfmpkbdcimkaaGreatDoorEvMarks
import Derived.Test.YthlfmpkbdcimkaaGreatDoorEvZE
namespace Go.Proofs.YthlfmpkbdcimkaaGreatDoor.ucdNames
open Go.RowKit
set_option linter.unusedVariables false

noncomputable def base : Ev.T Ev.AObj := Ev.laidMem Tryz.prog (Rows.ucdNamesRow.laid.filter fun x => x.2.handleName?.isNone)
noncomputable def sums0 : Ev.Sums := Ev.walkSum 15 (fun _ _ _ => none) Tryz.prog 100000 60
noncomputable def st0 : Ev.Step := { f := 13, l := [.string ⟨#[48]⟩], next := 64, out := .tuple #[.pointer none, .int .i64 (40), .int .i64 (1)], next' := 75, inp := [], res := [] }
noncomputable def st1 : Ev.Step := { f := 13, l := [.string ⟨#[48, 48, 52, 49, 59, 48, 59, 48, 48, 52, 49]⟩], next := 75, out := .tuple #[.pointer none, .int .i64 (42), .int .i64 (1)], next' := 102, inp := [], res := [] }
noncomputable def st2 : Ev.Step := { f := 13, l := [.string ⟨#[48, 51, 48, 49, 59, 50, 51, 48, 59, 10, 48, 48, 69, 49, 59, 48, 59, 48, 48, 54, 49, 32, 48, 51, 48, 49, 10, 49, 69, 65, 70, 59, 48, 59, 48, 49, 48, 51, 32, 48, 51, 48, 49, 10, 48, 49, 48, 51, 59, 48, 59, 48, 48, 54, 49, 32, 48, 51, 48, 54]⟩], next := 102, out := .tuple #[.pointer (some ⟨107, 0, none⟩), .int .i64 (0), .int .i64 (0)], next' := 197, inp := [], res := [
    (106, .map [⟨.int .i64 (769), .agg #[.int .i64 (769), .int .i64 (230), .slice none 0 0], 0⟩, ⟨.int .i64 (225), .agg #[.int .i64 (225), .int .i64 (0), .slice (some ⟨138, 0, none⟩) 2 2], 1⟩, ⟨.int .i64 (7855), .agg #[.int .i64 (7855), .int .i64 (0), .slice (some ⟨162, 0, none⟩) 2 2], 2⟩, ⟨.int .i64 (259), .agg #[.int .i64 (259), .int .i64 (0), .slice (some ⟨181, 0, none⟩) 2 2], 3⟩] 4), 
    (107, Ev.rowO [.map (some 106)] 1 52 false), 
    (138, Ev.rowO [.int .i64 (97), .int .i64 (769)] 2 3 true), 
    (162, Ev.rowO [.int .i64 (259), .int .i64 (769)] 2 3 true), 
    (181, Ev.rowO [.int .i64 (97), .int .i64 (774)] 2 3 true)] }
noncomputable def st3 : Ev.Step := { f := 13, l := [.string ⟨#[48, 51, 48, 49, 59, 49, 59, 10, 48, 51, 48, 49, 59, 49, 59]⟩], next := 197, out := .tuple #[.pointer none, .int .i64 (41), .int .i64 (2)], next' := 224, inp := [
    (106, .map [⟨.int .i64 (769), .agg #[.int .i64 (769), .int .i64 (230), .slice none 0 0], 0⟩, ⟨.int .i64 (225), .agg #[.int .i64 (225), .int .i64 (0), .slice (some ⟨138, 0, none⟩) 2 2], 1⟩, ⟨.int .i64 (7855), .agg #[.int .i64 (7855), .int .i64 (0), .slice (some ⟨162, 0, none⟩) 2 2], 2⟩, ⟨.int .i64 (259), .agg #[.int .i64 (259), .int .i64 (0), .slice (some ⟨181, 0, none⟩) 2 2], 3⟩] 4), 
    (107, Ev.rowO [.map (some 106)] 1 52 false), 
    (138, Ev.rowO [.int .i64 (97), .int .i64 (769)] 2 3 true), 
    (162, Ev.rowO [.int .i64 (259), .int .i64 (769)] 2 3 true), 
    (181, Ev.rowO [.int .i64 (97), .int .i64 (774)] 2 3 true)], res := [
    (106, .map [⟨.int .i64 (769), .agg #[.int .i64 (769), .int .i64 (230), .slice none 0 0], 0⟩, ⟨.int .i64 (225), .agg #[.int .i64 (225), .int .i64 (0), .slice (some ⟨138, 0, none⟩) 2 2], 1⟩, ⟨.int .i64 (7855), .agg #[.int .i64 (7855), .int .i64 (0), .slice (some ⟨162, 0, none⟩) 2 2], 2⟩, ⟨.int .i64 (259), .agg #[.int .i64 (259), .int .i64 (0), .slice (some ⟨181, 0, none⟩) 2 2], 3⟩] 4), 
    (107, Ev.rowO [.map (some 106)] 1 52 false), 
    (138, Ev.rowO [.int .i64 (97), .int .i64 (769)] 2 3 true), 
    (162, Ev.rowO [.int .i64 (259), .int .i64 (769)] 2 3 true), 
    (181, Ev.rowO [.int .i64 (97), .int .i64 (774)] 2 3 true)] }
noncomputable def st4 : Ev.Step := { f := 9, l := [.slice (some ⟨258, 0, none⟩) 4 4], next := 259, out := .tuple #[.string ⟨#[48, 48, 69, 49, 59, 48, 59, 48, 48, 54, 49, 32, 48, 51, 48, 49, 10, 48, 49, 48, 51, 59, 48, 59, 48, 48, 54, 49, 32, 48, 51, 48, 54, 10, 48, 51, 48, 49, 59, 50, 51, 48, 59, 10, 49, 69, 65, 70, 59, 48, 59, 48, 49, 48, 51, 32, 48, 51, 48, 49]⟩, .int .i64 (0)], next' := 310, inp := [
    (106, .map [⟨.int .i64 (769), .agg #[.int .i64 (769), .int .i64 (230), .slice none 0 0], 0⟩, ⟨.int .i64 (225), .agg #[.int .i64 (225), .int .i64 (0), .slice (some ⟨138, 0, none⟩) 2 2], 1⟩, ⟨.int .i64 (7855), .agg #[.int .i64 (7855), .int .i64 (0), .slice (some ⟨162, 0, none⟩) 2 2], 2⟩, ⟨.int .i64 (259), .agg #[.int .i64 (259), .int .i64 (0), .slice (some ⟨181, 0, none⟩) 2 2], 3⟩] 4), 
    (107, Ev.rowO [.map (some 106)] 1 52 false), 
    (138, Ev.rowO [.int .i64 (97), .int .i64 (769)] 2 3 true), 
    (162, Ev.rowO [.int .i64 (259), .int .i64 (769)] 2 3 true), 
    (181, Ev.rowO [.int .i64 (97), .int .i64 (774)] 2 3 true), 
    (255, Ev.rowO [.int .i64 (97), .int .i64 (769)] 2 3 true), 
    (256, Ev.rowO [.int .i64 (97), .int .i64 (774)] 2 3 true), 
    (257, Ev.rowO [.int .i64 (259), .int .i64 (769)] 2 3 true), 
    (258, Ev.rowO [.int .i64 (225), .int .i64 (0), .slice (some ⟨255, 0, none⟩) 2 2, .int .i64 (259), .int .i64 (0), .slice (some ⟨256, 0, none⟩) 2 2, .int .i64 (769), .int .i64 (230), .slice none 0 0, .int .i64 (7855), .int .i64 (0), .slice (some ⟨257, 0, none⟩) 2 2] 12 39 true)], res := [
    (106, .map [⟨.int .i64 (769), .agg #[.int .i64 (769), .int .i64 (230), .slice none 0 0], 0⟩, ⟨.int .i64 (225), .agg #[.int .i64 (225), .int .i64 (0), .slice (some ⟨138, 0, none⟩) 2 2], 1⟩, ⟨.int .i64 (7855), .agg #[.int .i64 (7855), .int .i64 (0), .slice (some ⟨162, 0, none⟩) 2 2], 2⟩, ⟨.int .i64 (259), .agg #[.int .i64 (259), .int .i64 (0), .slice (some ⟨181, 0, none⟩) 2 2], 3⟩] 4), 
    (107, Ev.rowO [.map (some 106)] 1 52 false), 
    (138, Ev.rowO [.int .i64 (97), .int .i64 (769)] 2 3 true), 
    (162, Ev.rowO [.int .i64 (259), .int .i64 (769)] 2 3 true), 
    (181, Ev.rowO [.int .i64 (97), .int .i64 (774)] 2 3 true), 
    (255, Ev.rowO [.int .i64 (97), .int .i64 (769)] 2 3 true), 
    (256, Ev.rowO [.int .i64 (97), .int .i64 (774)] 2 3 true), 
    (257, Ev.rowO [.int .i64 (259), .int .i64 (769)] 2 3 true), 
    (258, Ev.rowO [.int .i64 (225), .int .i64 (0), .slice (some ⟨255, 0, none⟩) 2 2, .int .i64 (259), .int .i64 (0), .slice (some ⟨256, 0, none⟩) 2 2, .int .i64 (769), .int .i64 (230), .slice none 0 0, .int .i64 (7855), .int .i64 (0), .slice (some ⟨257, 0, none⟩) 2 2] 12 39 true)] }
end Go.Proofs.YthlfmpkbdcimkaaGreatDoor.ucdNames
