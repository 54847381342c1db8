/-
  Calls on the way of UcdPrints: what they find, what they answer, what they leave.
-/
import Derived.Test.YtccaaniepeohbaaGreatDoorRows
import Derived.Test.YtccaaniepeohbaaGreatDoorKAK
import Derived.Test.YtccaaniepeohbaaGreatDoorKAS
namespace Go.Proofs.YtccaaniepeohbaaGreatDoor.ucdPrints
open Go.RowKit
set_option linter.unusedVariables false

noncomputable def base : Ev.T Ev.AObj := Ev.laidMem Tryz.prog (Rows.ucdPrintsRow.laid.filter fun x => x.2.handleName?.isNone)
noncomputable def sums0 : Ev.Sums := Ev.walkSum 13 (fun _ _ _ => none) Tryz.prog 100000 60
noncomputable def st0 : Ev.Step := {
  f := 11, l := [.string ⟨#[48, 51, 48, 49, 59, 50, 51, 48, 59, 10, 48, 48, 69, 49, 59, 48, 59, 48, 48, 54, 49, 32, 48, 51, 48, 49, 10, 49, 69, 65, 70, 59, 48, 59, 48, 49, 48, 51, 32, 48, 51, 48, 49, 10, 48, 49, 48, 51, 59, 48, 59, 48, 48, 54, 49, 32, 48, 51, 48, 54]⟩], next := 64, out := .tuple #[.pointer (some ⟨69, 0, none⟩), .int .i64 (0), .int .i64 (0)], next' := 159, inp := [], res := [
    (68, .map [⟨.int .i64 (769), .agg #[.int .i64 (769), .int .i64 (230), .slice none 0 0], 0⟩, ⟨.int .i64 (225), .agg #[.int .i64 (225), .int .i64 (0), .slice (some ⟨100, 0, none⟩) 2 2], 1⟩, ⟨.int .i64 (7855), .agg #[.int .i64 (7855), .int .i64 (0), .slice (some ⟨124, 0, none⟩) 2 2], 2⟩, ⟨.int .i64 (259), .agg #[.int .i64 (259), .int .i64 (0), .slice (some ⟨143, 0, none⟩) 2 2], 3⟩] 4), 
    (69, Ev.rowO [.map (some 68)] 1 52 false), 
    (100, Ev.rowO [.int .i64 (97), .int .i64 (769)] 2 3 true), 
    (124, Ev.rowO [.int .i64 (259), .int .i64 (769)] 2 3 true), 
    (143, Ev.rowO [.int .i64 (97), .int .i64 (774)] 2 3 true)] }
noncomputable def st1 : Ev.Step := {
  f := 11, l := [.string ⟨#[48, 51, 48, 49, 59, 49, 59, 10, 48, 51, 48, 49, 59, 49, 59]⟩], next := 159, out := .tuple #[.pointer none, .int .i64 (41), .int .i64 (2)], next' := 186, inp := [
    (68, .map [⟨.int .i64 (769), .agg #[.int .i64 (769), .int .i64 (230), .slice none 0 0], 0⟩, ⟨.int .i64 (225), .agg #[.int .i64 (225), .int .i64 (0), .slice (some ⟨100, 0, none⟩) 2 2], 1⟩, ⟨.int .i64 (7855), .agg #[.int .i64 (7855), .int .i64 (0), .slice (some ⟨124, 0, none⟩) 2 2], 2⟩, ⟨.int .i64 (259), .agg #[.int .i64 (259), .int .i64 (0), .slice (some ⟨143, 0, none⟩) 2 2], 3⟩] 4), 
    (69, Ev.rowO [.map (some 68)] 1 52 false), 
    (100, Ev.rowO [.int .i64 (97), .int .i64 (769)] 2 3 true), 
    (124, Ev.rowO [.int .i64 (259), .int .i64 (769)] 2 3 true), 
    (143, Ev.rowO [.int .i64 (97), .int .i64 (774)] 2 3 true)], res := [
    (68, .map [⟨.int .i64 (769), .agg #[.int .i64 (769), .int .i64 (230), .slice none 0 0], 0⟩, ⟨.int .i64 (225), .agg #[.int .i64 (225), .int .i64 (0), .slice (some ⟨100, 0, none⟩) 2 2], 1⟩, ⟨.int .i64 (7855), .agg #[.int .i64 (7855), .int .i64 (0), .slice (some ⟨124, 0, none⟩) 2 2], 2⟩, ⟨.int .i64 (259), .agg #[.int .i64 (259), .int .i64 (0), .slice (some ⟨143, 0, none⟩) 2 2], 3⟩] 4), 
    (69, Ev.rowO [.map (some 68)] 1 52 false), 
    (100, Ev.rowO [.int .i64 (97), .int .i64 (769)] 2 3 true), 
    (124, Ev.rowO [.int .i64 (259), .int .i64 (769)] 2 3 true), 
    (143, Ev.rowO [.int .i64 (97), .int .i64 (774)] 2 3 true)] }
noncomputable def st2 : Ev.Step := {
  f := 7, l := [.slice (some ⟨220, 0, none⟩) 4 4], next := 221, out := .tuple #[.string ⟨#[48, 48, 69, 49, 59, 48, 59, 48, 48, 54, 49, 32, 48, 51, 48, 49, 10, 48, 49, 48, 51, 59, 48, 59, 48, 48, 54, 49, 32, 48, 51, 48, 54, 10, 48, 51, 48, 49, 59, 50, 51, 48, 59, 10, 49, 69, 65, 70, 59, 48, 59, 48, 49, 48, 51, 32, 48, 51, 48, 49]⟩, .int .i64 (0)], next' := 272, inp := [
    (68, .map [⟨.int .i64 (769), .agg #[.int .i64 (769), .int .i64 (230), .slice none 0 0], 0⟩, ⟨.int .i64 (225), .agg #[.int .i64 (225), .int .i64 (0), .slice (some ⟨100, 0, none⟩) 2 2], 1⟩, ⟨.int .i64 (7855), .agg #[.int .i64 (7855), .int .i64 (0), .slice (some ⟨124, 0, none⟩) 2 2], 2⟩, ⟨.int .i64 (259), .agg #[.int .i64 (259), .int .i64 (0), .slice (some ⟨143, 0, none⟩) 2 2], 3⟩] 4), 
    (69, Ev.rowO [.map (some 68)] 1 52 false), 
    (100, Ev.rowO [.int .i64 (97), .int .i64 (769)] 2 3 true), 
    (124, Ev.rowO [.int .i64 (259), .int .i64 (769)] 2 3 true), 
    (143, Ev.rowO [.int .i64 (97), .int .i64 (774)] 2 3 true), 
    (217, Ev.rowO [.int .i64 (97), .int .i64 (769)] 2 3 true), 
    (218, Ev.rowO [.int .i64 (97), .int .i64 (774)] 2 3 true), 
    (219, Ev.rowO [.int .i64 (259), .int .i64 (769)] 2 3 true), 
    (220, Ev.rowO [.int .i64 (225), .int .i64 (0), .slice (some ⟨217, 0, none⟩) 2 2, .int .i64 (259), .int .i64 (0), .slice (some ⟨218, 0, none⟩) 2 2, .int .i64 (769), .int .i64 (230), .slice none 0 0, .int .i64 (7855), .int .i64 (0), .slice (some ⟨219, 0, none⟩) 2 2] 12 36 true)], res := [
    (68, .map [⟨.int .i64 (769), .agg #[.int .i64 (769), .int .i64 (230), .slice none 0 0], 0⟩, ⟨.int .i64 (225), .agg #[.int .i64 (225), .int .i64 (0), .slice (some ⟨100, 0, none⟩) 2 2], 1⟩, ⟨.int .i64 (7855), .agg #[.int .i64 (7855), .int .i64 (0), .slice (some ⟨124, 0, none⟩) 2 2], 2⟩, ⟨.int .i64 (259), .agg #[.int .i64 (259), .int .i64 (0), .slice (some ⟨143, 0, none⟩) 2 2], 3⟩] 4), 
    (69, Ev.rowO [.map (some 68)] 1 52 false), 
    (100, Ev.rowO [.int .i64 (97), .int .i64 (769)] 2 3 true), 
    (124, Ev.rowO [.int .i64 (259), .int .i64 (769)] 2 3 true), 
    (143, Ev.rowO [.int .i64 (97), .int .i64 (774)] 2 3 true), 
    (217, Ev.rowO [.int .i64 (97), .int .i64 (769)] 2 3 true), 
    (218, Ev.rowO [.int .i64 (97), .int .i64 (774)] 2 3 true), 
    (219, Ev.rowO [.int .i64 (259), .int .i64 (769)] 2 3 true), 
    (220, Ev.rowO [.int .i64 (225), .int .i64 (0), .slice (some ⟨217, 0, none⟩) 2 2, .int .i64 (259), .int .i64 (0), .slice (some ⟨218, 0, none⟩) 2 2, .int .i64 (769), .int .i64 (230), .slice none 0 0, .int .i64 (7855), .int .i64 (0), .slice (some ⟨219, 0, none⟩) 2 2] 12 36 true)] }
noncomputable def sums1 : Ev.Sums := Ev.stepSum base st0 sums0
noncomputable def sums2 : Ev.Sums := Ev.stepSum base st1 sums1
noncomputable def sums3 : Ev.Sums := Ev.stepSum base st2 sums2
end Go.Proofs.YtccaaniepeohbaaGreatDoor.ucdPrints
