/-
  Calls on the way of UcdNil: what they find, what they answer, what they leave.
-/
import Derived.Test.YthlfmpkbdcimkaaGreatDoorRows
import Derived.Test.YthlfmpkbdcimkaaGreatDoorEvMem
import Derived.Test.YthlfmpkbdcimkaaGreatDoorEvMarks
import Derived.Test.YthlfmpkbdcimkaaGreatDoorEvZE
namespace Go.Proofs.YthlfmpkbdcimkaaGreatDoor.ucdNil
open Go.RowKit
set_option linter.unusedVariables false

noncomputable def base : Ev.T Ev.AObj := Ev.laidMem Tryz.prog (Rows.ucdNilRow.laid.filter fun x => x.2.handleName?.isNone)
noncomputable def sums0 : Ev.Sums := Ev.walkSum 15 (fun _ _ _ => none) Tryz.prog 100000 60
noncomputable def st0 : Ev.Step := { f := 13, l := [.string ⟨#[48, 51, 48, 49, 59, 50, 51, 48, 59, 10, 48, 48, 69, 49, 59, 48, 59, 48, 48, 54, 49, 32, 48, 51, 48, 49, 10, 49, 69, 65, 70, 59, 48, 59, 48, 49, 48, 51, 32, 48, 51, 48, 49, 10, 48, 49, 48, 51, 59, 48, 59, 48, 48, 54, 49, 32, 48, 51, 48, 54]⟩], next := 64, out := .tuple #[.pointer (some ⟨69, 0, none⟩), .int .i64 (0), .int .i64 (0)], next' := 159, inp := [], res := [
    (68, .map [⟨.int .i64 (769), .agg #[.int .i64 (769), .int .i64 (230), .slice none 0 0], 0⟩, ⟨.int .i64 (225), .agg #[.int .i64 (225), .int .i64 (0), .slice (some ⟨100, 0, none⟩) 2 2], 1⟩, ⟨.int .i64 (7855), .agg #[.int .i64 (7855), .int .i64 (0), .slice (some ⟨124, 0, none⟩) 2 2], 2⟩, ⟨.int .i64 (259), .agg #[.int .i64 (259), .int .i64 (0), .slice (some ⟨143, 0, none⟩) 2 2], 3⟩] 4), 
    (69, Ev.rowO [.map (some 68)] 1 52 false), 
    (100, Ev.rowO [.int .i64 (97), .int .i64 (769)] 2 3 true), 
    (124, Ev.rowO [.int .i64 (259), .int .i64 (769)] 2 3 true), 
    (143, Ev.rowO [.int .i64 (97), .int .i64 (774)] 2 3 true)] }
noncomputable def st1 : Ev.Step := { f := 13, l := [.string ⟨#[48, 51, 48, 49, 59, 49, 59, 10, 48, 51, 48, 49, 59, 49, 59]⟩], next := 159, out := .tuple #[.pointer none, .int .i64 (41), .int .i64 (2)], next' := 186, inp := [
    (68, .map [⟨.int .i64 (769), .agg #[.int .i64 (769), .int .i64 (230), .slice none 0 0], 0⟩, ⟨.int .i64 (225), .agg #[.int .i64 (225), .int .i64 (0), .slice (some ⟨100, 0, none⟩) 2 2], 1⟩, ⟨.int .i64 (7855), .agg #[.int .i64 (7855), .int .i64 (0), .slice (some ⟨124, 0, none⟩) 2 2], 2⟩, ⟨.int .i64 (259), .agg #[.int .i64 (259), .int .i64 (0), .slice (some ⟨143, 0, none⟩) 2 2], 3⟩] 4), 
    (69, Ev.rowO [.map (some 68)] 1 52 false), 
    (100, Ev.rowO [.int .i64 (97), .int .i64 (769)] 2 3 true), 
    (124, Ev.rowO [.int .i64 (259), .int .i64 (769)] 2 3 true), 
    (143, Ev.rowO [.int .i64 (97), .int .i64 (774)] 2 3 true)], res := [
    (68, .map [⟨.int .i64 (769), .agg #[.int .i64 (769), .int .i64 (230), .slice none 0 0], 0⟩, ⟨.int .i64 (225), .agg #[.int .i64 (225), .int .i64 (0), .slice (some ⟨100, 0, none⟩) 2 2], 1⟩, ⟨.int .i64 (7855), .agg #[.int .i64 (7855), .int .i64 (0), .slice (some ⟨124, 0, none⟩) 2 2], 2⟩, ⟨.int .i64 (259), .agg #[.int .i64 (259), .int .i64 (0), .slice (some ⟨143, 0, none⟩) 2 2], 3⟩] 4), 
    (69, Ev.rowO [.map (some 68)] 1 52 false), 
    (100, Ev.rowO [.int .i64 (97), .int .i64 (769)] 2 3 true), 
    (124, Ev.rowO [.int .i64 (259), .int .i64 (769)] 2 3 true), 
    (143, Ev.rowO [.int .i64 (97), .int .i64 (774)] 2 3 true)] }
noncomputable def st2 : Ev.Step := { f := 9, l := [.slice (some ⟨220, 0, none⟩) 4 4], next := 221, out := .tuple #[.string ⟨#[48, 48, 69, 49, 59, 48, 59, 48, 48, 54, 49, 32, 48, 51, 48, 49, 10, 48, 49, 48, 51, 59, 48, 59, 48, 48, 54, 49, 32, 48, 51, 48, 54, 10, 48, 51, 48, 49, 59, 50, 51, 48, 59, 10, 49, 69, 65, 70, 59, 48, 59, 48, 49, 48, 51, 32, 48, 51, 48, 49]⟩, .int .i64 (0)], next' := 272, inp := [
    (68, .map [⟨.int .i64 (769), .agg #[.int .i64 (769), .int .i64 (230), .slice none 0 0], 0⟩, ⟨.int .i64 (225), .agg #[.int .i64 (225), .int .i64 (0), .slice (some ⟨100, 0, none⟩) 2 2], 1⟩, ⟨.int .i64 (7855), .agg #[.int .i64 (7855), .int .i64 (0), .slice (some ⟨124, 0, none⟩) 2 2], 2⟩, ⟨.int .i64 (259), .agg #[.int .i64 (259), .int .i64 (0), .slice (some ⟨143, 0, none⟩) 2 2], 3⟩] 4), 
    (69, Ev.rowO [.map (some 68)] 1 52 false), 
    (100, Ev.rowO [.int .i64 (97), .int .i64 (769)] 2 3 true), 
    (124, Ev.rowO [.int .i64 (259), .int .i64 (769)] 2 3 true), 
    (143, Ev.rowO [.int .i64 (97), .int .i64 (774)] 2 3 true), 
    (217, Ev.rowO [.int .i64 (97), .int .i64 (769)] 2 3 true), 
    (218, Ev.rowO [.int .i64 (97), .int .i64 (774)] 2 3 true), 
    (219, Ev.rowO [.int .i64 (259), .int .i64 (769)] 2 3 true), 
    (220, Ev.rowO [.int .i64 (225), .int .i64 (0), .slice (some ⟨217, 0, none⟩) 2 2, .int .i64 (259), .int .i64 (0), .slice (some ⟨218, 0, none⟩) 2 2, .int .i64 (769), .int .i64 (230), .slice none 0 0, .int .i64 (7855), .int .i64 (0), .slice (some ⟨219, 0, none⟩) 2 2] 12 39 true)], res := [
    (68, .map [⟨.int .i64 (769), .agg #[.int .i64 (769), .int .i64 (230), .slice none 0 0], 0⟩, ⟨.int .i64 (225), .agg #[.int .i64 (225), .int .i64 (0), .slice (some ⟨100, 0, none⟩) 2 2], 1⟩, ⟨.int .i64 (7855), .agg #[.int .i64 (7855), .int .i64 (0), .slice (some ⟨124, 0, none⟩) 2 2], 2⟩, ⟨.int .i64 (259), .agg #[.int .i64 (259), .int .i64 (0), .slice (some ⟨143, 0, none⟩) 2 2], 3⟩] 4), 
    (69, Ev.rowO [.map (some 68)] 1 52 false), 
    (100, Ev.rowO [.int .i64 (97), .int .i64 (769)] 2 3 true), 
    (124, Ev.rowO [.int .i64 (259), .int .i64 (769)] 2 3 true), 
    (143, Ev.rowO [.int .i64 (97), .int .i64 (774)] 2 3 true), 
    (217, Ev.rowO [.int .i64 (97), .int .i64 (769)] 2 3 true), 
    (218, Ev.rowO [.int .i64 (97), .int .i64 (774)] 2 3 true), 
    (219, Ev.rowO [.int .i64 (259), .int .i64 (769)] 2 3 true), 
    (220, Ev.rowO [.int .i64 (225), .int .i64 (0), .slice (some ⟨217, 0, none⟩) 2 2, .int .i64 (259), .int .i64 (0), .slice (some ⟨218, 0, none⟩) 2 2, .int .i64 (769), .int .i64 (230), .slice none 0 0, .int .i64 (7855), .int .i64 (0), .slice (some ⟨219, 0, none⟩) 2 2] 12 39 true)] }
noncomputable def st3 : Ev.Step := { f := 15, l := [.pointer none], next := 298, out := .slice none 0 0, next' := 298, inp := [
    (68, .map [⟨.int .i64 (769), .agg #[.int .i64 (769), .int .i64 (230), .slice none 0 0], 0⟩, ⟨.int .i64 (225), .agg #[.int .i64 (225), .int .i64 (0), .slice (some ⟨100, 0, none⟩) 2 2], 1⟩, ⟨.int .i64 (7855), .agg #[.int .i64 (7855), .int .i64 (0), .slice (some ⟨124, 0, none⟩) 2 2], 2⟩, ⟨.int .i64 (259), .agg #[.int .i64 (259), .int .i64 (0), .slice (some ⟨143, 0, none⟩) 2 2], 3⟩] 4), 
    (69, Ev.rowO [.map (some 68)] 1 52 false), 
    (100, Ev.rowO [.int .i64 (97), .int .i64 (769)] 2 3 true), 
    (124, Ev.rowO [.int .i64 (259), .int .i64 (769)] 2 3 true), 
    (143, Ev.rowO [.int .i64 (97), .int .i64 (774)] 2 3 true), 
    (217, Ev.rowO [.int .i64 (97), .int .i64 (769)] 2 3 true), 
    (218, Ev.rowO [.int .i64 (97), .int .i64 (774)] 2 3 true), 
    (219, Ev.rowO [.int .i64 (259), .int .i64 (769)] 2 3 true), 
    (220, Ev.rowO [.int .i64 (225), .int .i64 (0), .slice (some ⟨217, 0, none⟩) 2 2, .int .i64 (259), .int .i64 (0), .slice (some ⟨218, 0, none⟩) 2 2, .int .i64 (769), .int .i64 (230), .slice none 0 0, .int .i64 (7855), .int .i64 (0), .slice (some ⟨219, 0, none⟩) 2 2] 12 39 true), 
    (272, Ev.rowO [.int .i64 (7855), .int .i64 (0), .slice (some ⟨124, 0, none⟩) 2 2] 3 39 false), 
    (273, Ev.rowO [.int .i64 (259), .int .i64 (0), .slice (some ⟨143, 0, none⟩) 2 2] 3 39 false), 
    (274, Ev.rowO [.int .i64 (0), .int .i64 (0), .slice none 0 0] 3 39 false), 
    (275, Ev.rowO [.int .i64 (97)] 1 3 false), 
    (277, Ev.rowO [.int .i64 (0), .int .i64 (0), .slice none 0 0] 3 39 false), 
    (278, Ev.rowO [.int .i64 (774)] 1 3 false), 
    (279, Ev.rowO [.int .i64 (97), .int .i64 (774)] 2 3 true), 
    (281, Ev.rowO [.int .i64 (769), .int .i64 (230), .slice none 0 0] 3 39 false), 
    (282, Ev.rowO [.int .i64 (769)] 1 3 false), 
    (283, Ev.rowO [.int .i64 (97), .int .i64 (774), .int .i64 (769)] 3 3 true), 
    (284, Ev.rowO [.int .i64 (97), .int .i64 (774), .int .i64 (769)] 3 3 false), 
    (285, Ev.rowO [.int .i64 (4352), .int .i64 (4449)] 2 3 false), 
    (286, Ev.rowO [.int .i64 (4520)] 1 3 false), 
    (287, Ev.rowO [.int .i64 (4352), .int .i64 (4449), .int .i64 (4520)] 3 3 true), 
    (288, Ev.rowO [.int .i64 (0), .int .i64 (0), .slice none 0 0] 3 39 false), 
    (289, Ev.rowO [.int .i64 (4352)] 1 3 false), 
    (291, Ev.rowO [.int .i64 (0), .int .i64 (0), .slice none 0 0] 3 39 false), 
    (292, Ev.rowO [.int .i64 (4449)] 1 3 false), 
    (294, Ev.rowO [.int .i64 (0), .int .i64 (0), .slice none 0 0] 3 39 false), 
    (295, Ev.rowO [.int .i64 (4520)] 1 3 false), 
    (296, Ev.rowO [.int .i64 (4352), .int .i64 (4449), .int .i64 (4520)] 3 3 true), 
    (297, Ev.rowO [.int .i64 (4352), .int .i64 (4449), .int .i64 (4520)] 3 3 false)], res := [
    (68, .map [⟨.int .i64 (769), .agg #[.int .i64 (769), .int .i64 (230), .slice none 0 0], 0⟩, ⟨.int .i64 (225), .agg #[.int .i64 (225), .int .i64 (0), .slice (some ⟨100, 0, none⟩) 2 2], 1⟩, ⟨.int .i64 (7855), .agg #[.int .i64 (7855), .int .i64 (0), .slice (some ⟨124, 0, none⟩) 2 2], 2⟩, ⟨.int .i64 (259), .agg #[.int .i64 (259), .int .i64 (0), .slice (some ⟨143, 0, none⟩) 2 2], 3⟩] 4), 
    (69, Ev.rowO [.map (some 68)] 1 52 false), 
    (100, Ev.rowO [.int .i64 (97), .int .i64 (769)] 2 3 true), 
    (124, Ev.rowO [.int .i64 (259), .int .i64 (769)] 2 3 true), 
    (143, Ev.rowO [.int .i64 (97), .int .i64 (774)] 2 3 true), 
    (217, Ev.rowO [.int .i64 (97), .int .i64 (769)] 2 3 true), 
    (218, Ev.rowO [.int .i64 (97), .int .i64 (774)] 2 3 true), 
    (219, Ev.rowO [.int .i64 (259), .int .i64 (769)] 2 3 true), 
    (220, Ev.rowO [.int .i64 (225), .int .i64 (0), .slice (some ⟨217, 0, none⟩) 2 2, .int .i64 (259), .int .i64 (0), .slice (some ⟨218, 0, none⟩) 2 2, .int .i64 (769), .int .i64 (230), .slice none 0 0, .int .i64 (7855), .int .i64 (0), .slice (some ⟨219, 0, none⟩) 2 2] 12 39 true), 
    (272, Ev.rowO [.int .i64 (7855), .int .i64 (0), .slice (some ⟨124, 0, none⟩) 2 2] 3 39 false), 
    (273, Ev.rowO [.int .i64 (259), .int .i64 (0), .slice (some ⟨143, 0, none⟩) 2 2] 3 39 false), 
    (274, Ev.rowO [.int .i64 (0), .int .i64 (0), .slice none 0 0] 3 39 false), 
    (275, Ev.rowO [.int .i64 (97)] 1 3 false), 
    (277, Ev.rowO [.int .i64 (0), .int .i64 (0), .slice none 0 0] 3 39 false), 
    (278, Ev.rowO [.int .i64 (774)] 1 3 false), 
    (279, Ev.rowO [.int .i64 (97), .int .i64 (774)] 2 3 true), 
    (281, Ev.rowO [.int .i64 (769), .int .i64 (230), .slice none 0 0] 3 39 false), 
    (282, Ev.rowO [.int .i64 (769)] 1 3 false), 
    (283, Ev.rowO [.int .i64 (97), .int .i64 (774), .int .i64 (769)] 3 3 true), 
    (284, Ev.rowO [.int .i64 (97), .int .i64 (774), .int .i64 (769)] 3 3 false), 
    (285, Ev.rowO [.int .i64 (4352), .int .i64 (4449)] 2 3 false), 
    (286, Ev.rowO [.int .i64 (4520)] 1 3 false), 
    (287, Ev.rowO [.int .i64 (4352), .int .i64 (4449), .int .i64 (4520)] 3 3 true), 
    (288, Ev.rowO [.int .i64 (0), .int .i64 (0), .slice none 0 0] 3 39 false), 
    (289, Ev.rowO [.int .i64 (4352)] 1 3 false), 
    (291, Ev.rowO [.int .i64 (0), .int .i64 (0), .slice none 0 0] 3 39 false), 
    (292, Ev.rowO [.int .i64 (4449)] 1 3 false), 
    (294, Ev.rowO [.int .i64 (0), .int .i64 (0), .slice none 0 0] 3 39 false), 
    (295, Ev.rowO [.int .i64 (4520)] 1 3 false), 
    (296, Ev.rowO [.int .i64 (4352), .int .i64 (4449), .int .i64 (4520)] 3 3 true), 
    (297, Ev.rowO [.int .i64 (4352), .int .i64 (4449), .int .i64 (4520)] 3 3 false)] }
end Go.Proofs.YthlfmpkbdcimkaaGreatDoor.ucdNil
