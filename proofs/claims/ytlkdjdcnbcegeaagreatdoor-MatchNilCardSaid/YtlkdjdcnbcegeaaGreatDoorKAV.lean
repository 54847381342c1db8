/-
  Calls on the way of MatchNil: what they find, what they answer, what they leave.
-/
import Derived.Test.YtlkdjdcnbcegeaaGreatDoorRows
import Derived.Test.YtlkdjdcnbcegeaaGreatDoorKAM
import Derived.Test.YtlkdjdcnbcegeaaGreatDoorKAU
namespace Go.Proofs.YtlkdjdcnbcegeaaGreatDoor.matchNil
open Go.RowKit
set_option linter.unusedVariables false

noncomputable def base : Ev.T Ev.AObj := Ev.laidMem Tryz.prog (Rows.matchNilRow.laid.filter fun x => x.2.handleName?.isNone)
noncomputable def sums0 : Ev.Sums := fun _ _ _ => none
noncomputable def st0 : Ev.Step := {
  f := 27, l := [.string ⟨#[48, 51, 48, 49, 59, 50, 51, 48, 59, 10, 48, 51, 48, 54, 59, 50, 51, 48, 59, 10, 48, 51, 50, 51, 59, 50, 50, 48, 59, 10, 48, 51, 50, 52, 59, 50, 50, 48, 59]⟩], next := 64, out := .tuple #[.pointer (some ⟨69, 0, none⟩), .int .i64 (0), .int .i64 (0)], next' := 121, inp := [], res := [
    (68, .map [⟨.int .i64 (769), .agg #[.int .i64 (769), .int .i64 (230), .slice none 0 0], 0⟩, ⟨.int .i64 (774), .agg #[.int .i64 (774), .int .i64 (230), .slice none 0 0], 1⟩, ⟨.int .i64 (803), .agg #[.int .i64 (803), .int .i64 (220), .slice none 0 0], 2⟩, ⟨.int .i64 (804), .agg #[.int .i64 (804), .int .i64 (220), .slice none 0 0], 3⟩] 4), 
    (69, Ev.rowO [.map (some 68)] 1 107 false)] }
noncomputable def st1 : Ev.Step := {
  f := 28, l := [.string ⟨#[48, 48, 54, 49, 59, 91, 46, 49, 48, 48, 48, 46, 48, 48, 50, 48, 46, 48, 48, 48, 50, 93, 10, 48, 48, 54, 49, 32, 48, 51, 48, 49, 59, 91, 46, 49, 48, 48, 49, 46, 48, 48, 50, 48, 46, 48, 48, 48, 50, 93, 10, 48, 51, 50, 52, 59, 91, 46, 48, 48, 48, 48, 46, 48, 48, 50, 49, 46, 48, 48, 48, 50, 93, 10, 48, 51, 48, 54, 59, 91, 46, 48, 48, 48, 48, 46, 48, 48, 50, 50, 46, 48, 48, 48, 50, 93, 10, 48, 51, 48, 49, 59, 91, 46, 48, 48, 48, 48, 46, 48, 48, 50, 51, 46, 48, 48, 48, 50, 93]⟩], next := 121, out := .tuple #[.pointer (some ⟨123, 0, none⟩), .int .i64 (0), .int .i64 (0)], next' := 239, inp := [
    (68, .map [⟨.int .i64 (769), .agg #[.int .i64 (769), .int .i64 (230), .slice none 0 0], 0⟩, ⟨.int .i64 (774), .agg #[.int .i64 (774), .int .i64 (230), .slice none 0 0], 1⟩, ⟨.int .i64 (803), .agg #[.int .i64 (803), .int .i64 (220), .slice none 0 0], 2⟩, ⟨.int .i64 (804), .agg #[.int .i64 (804), .int .i64 (220), .slice none 0 0], 3⟩] 4), 
    (69, Ev.rowO [.map (some 68)] 1 107 false)], res := [
    (68, .map [⟨.int .i64 (769), .agg #[.int .i64 (769), .int .i64 (230), .slice none 0 0], 0⟩, ⟨.int .i64 (774), .agg #[.int .i64 (774), .int .i64 (230), .slice none 0 0], 1⟩, ⟨.int .i64 (803), .agg #[.int .i64 (803), .int .i64 (220), .slice none 0 0], 2⟩, ⟨.int .i64 (804), .agg #[.int .i64 (804), .int .i64 (220), .slice none 0 0], 3⟩] 4), 
    (69, Ev.rowO [.map (some 68)] 1 107 false), 
    (121, .map [⟨.agg #[.int .i64 (1), .int .i64 (97), .int .i64 (0), .int .i64 (0), .int .i64 (0), .int .i64 (0), .int .i64 (0), .int .i64 (0), .int .i64 (0)], .slice (some ⟨139, 0, none⟩) 1 1, 0⟩, ⟨.agg #[.int .i64 (2), .int .i64 (97), .int .i64 (769), .int .i64 (0), .int .i64 (0), .int .i64 (0), .int .i64 (0), .int .i64 (0), .int .i64 (0)], .slice (some ⟨165, 0, none⟩) 1 1, 1⟩, ⟨.agg #[.int .i64 (1), .int .i64 (804), .int .i64 (0), .int .i64 (0), .int .i64 (0), .int .i64 (0), .int .i64 (0), .int .i64 (0), .int .i64 (0)], .slice (some ⟨187, 0, none⟩) 1 1, 2⟩, ⟨.agg #[.int .i64 (1), .int .i64 (774), .int .i64 (0), .int .i64 (0), .int .i64 (0), .int .i64 (0), .int .i64 (0), .int .i64 (0), .int .i64 (0)], .slice (some ⟨209, 0, none⟩) 1 1, 3⟩, ⟨.agg #[.int .i64 (1), .int .i64 (769), .int .i64 (0), .int .i64 (0), .int .i64 (0), .int .i64 (0), .int .i64 (0), .int .i64 (0), .int .i64 (0)], .slice (some ⟨231, 0, none⟩) 1 1, 4⟩] 5), 
    (122, .map [⟨.int .i64 (97), .int .i64 (2), 0⟩, ⟨.int .i64 (804), .int .i64 (1), 1⟩, ⟨.int .i64 (774), .int .i64 (1), 2⟩, ⟨.int .i64 (769), .int .i64 (1), 3⟩] 4), 
    (123, Ev.rowO [.map (some 121), .map (some 122)] 2 101 false), 
    (139, Ev.rowO [.bool false, .int .i64 (4096), .int .i64 (32), .int .i64 (2)] 4 54 true), 
    (165, Ev.rowO [.bool false, .int .i64 (4097), .int .i64 (32), .int .i64 (2)] 4 54 true), 
    (187, Ev.rowO [.bool false, .int .i64 (0), .int .i64 (33), .int .i64 (2)] 4 54 true), 
    (209, Ev.rowO [.bool false, .int .i64 (0), .int .i64 (34), .int .i64 (2)] 4 54 true), 
    (231, Ev.rowO [.bool false, .int .i64 (0), .int .i64 (35), .int .i64 (2)] 4 54 true)] }
noncomputable def st2 : Ev.Step := {
  f := 16, l := [.pointer (some ⟨69, 0, none⟩), .pointer (some ⟨123, 0, none⟩), .slice (some ⟨239, 0, none⟩) 3 3], next := 240, out := .slice (some ⟨288, 0, none⟩) 2 2, next' := 289, inp := [
    (68, .map [⟨.int .i64 (769), .agg #[.int .i64 (769), .int .i64 (230), .slice none 0 0], 0⟩, ⟨.int .i64 (774), .agg #[.int .i64 (774), .int .i64 (230), .slice none 0 0], 1⟩, ⟨.int .i64 (803), .agg #[.int .i64 (803), .int .i64 (220), .slice none 0 0], 2⟩, ⟨.int .i64 (804), .agg #[.int .i64 (804), .int .i64 (220), .slice none 0 0], 3⟩] 4), 
    (69, Ev.rowO [.map (some 68)] 1 107 false), 
    (121, .map [⟨.agg #[.int .i64 (1), .int .i64 (97), .int .i64 (0), .int .i64 (0), .int .i64 (0), .int .i64 (0), .int .i64 (0), .int .i64 (0), .int .i64 (0)], .slice (some ⟨139, 0, none⟩) 1 1, 0⟩, ⟨.agg #[.int .i64 (2), .int .i64 (97), .int .i64 (769), .int .i64 (0), .int .i64 (0), .int .i64 (0), .int .i64 (0), .int .i64 (0), .int .i64 (0)], .slice (some ⟨165, 0, none⟩) 1 1, 1⟩, ⟨.agg #[.int .i64 (1), .int .i64 (804), .int .i64 (0), .int .i64 (0), .int .i64 (0), .int .i64 (0), .int .i64 (0), .int .i64 (0), .int .i64 (0)], .slice (some ⟨187, 0, none⟩) 1 1, 2⟩, ⟨.agg #[.int .i64 (1), .int .i64 (774), .int .i64 (0), .int .i64 (0), .int .i64 (0), .int .i64 (0), .int .i64 (0), .int .i64 (0), .int .i64 (0)], .slice (some ⟨209, 0, none⟩) 1 1, 3⟩, ⟨.agg #[.int .i64 (1), .int .i64 (769), .int .i64 (0), .int .i64 (0), .int .i64 (0), .int .i64 (0), .int .i64 (0), .int .i64 (0), .int .i64 (0)], .slice (some ⟨231, 0, none⟩) 1 1, 4⟩] 5), 
    (122, .map [⟨.int .i64 (97), .int .i64 (2), 0⟩, ⟨.int .i64 (804), .int .i64 (1), 1⟩, ⟨.int .i64 (774), .int .i64 (1), 2⟩, ⟨.int .i64 (769), .int .i64 (1), 3⟩] 4), 
    (123, Ev.rowO [.map (some 121), .map (some 122)] 2 101 false), 
    (139, Ev.rowO [.bool false, .int .i64 (4096), .int .i64 (32), .int .i64 (2)] 4 54 true), 
    (165, Ev.rowO [.bool false, .int .i64 (4097), .int .i64 (32), .int .i64 (2)] 4 54 true), 
    (187, Ev.rowO [.bool false, .int .i64 (0), .int .i64 (33), .int .i64 (2)] 4 54 true), 
    (209, Ev.rowO [.bool false, .int .i64 (0), .int .i64 (34), .int .i64 (2)] 4 54 true), 
    (231, Ev.rowO [.bool false, .int .i64 (0), .int .i64 (35), .int .i64 (2)] 4 54 true), 
    (239, Ev.rowO [.int .i64 (97), .int .i64 (804), .int .i64 (769)] 3 3 false)], res := [
    (68, .map [⟨.int .i64 (769), .agg #[.int .i64 (769), .int .i64 (230), .slice none 0 0], 0⟩, ⟨.int .i64 (774), .agg #[.int .i64 (774), .int .i64 (230), .slice none 0 0], 1⟩, ⟨.int .i64 (803), .agg #[.int .i64 (803), .int .i64 (220), .slice none 0 0], 2⟩, ⟨.int .i64 (804), .agg #[.int .i64 (804), .int .i64 (220), .slice none 0 0], 3⟩] 4), 
    (69, Ev.rowO [.map (some 68)] 1 107 false), 
    (121, .map [⟨.agg #[.int .i64 (1), .int .i64 (97), .int .i64 (0), .int .i64 (0), .int .i64 (0), .int .i64 (0), .int .i64 (0), .int .i64 (0), .int .i64 (0)], .slice (some ⟨139, 0, none⟩) 1 1, 0⟩, ⟨.agg #[.int .i64 (2), .int .i64 (97), .int .i64 (769), .int .i64 (0), .int .i64 (0), .int .i64 (0), .int .i64 (0), .int .i64 (0), .int .i64 (0)], .slice (some ⟨165, 0, none⟩) 1 1, 1⟩, ⟨.agg #[.int .i64 (1), .int .i64 (804), .int .i64 (0), .int .i64 (0), .int .i64 (0), .int .i64 (0), .int .i64 (0), .int .i64 (0), .int .i64 (0)], .slice (some ⟨187, 0, none⟩) 1 1, 2⟩, ⟨.agg #[.int .i64 (1), .int .i64 (774), .int .i64 (0), .int .i64 (0), .int .i64 (0), .int .i64 (0), .int .i64 (0), .int .i64 (0), .int .i64 (0)], .slice (some ⟨209, 0, none⟩) 1 1, 3⟩, ⟨.agg #[.int .i64 (1), .int .i64 (769), .int .i64 (0), .int .i64 (0), .int .i64 (0), .int .i64 (0), .int .i64 (0), .int .i64 (0), .int .i64 (0)], .slice (some ⟨231, 0, none⟩) 1 1, 4⟩] 5), 
    (122, .map [⟨.int .i64 (97), .int .i64 (2), 0⟩, ⟨.int .i64 (804), .int .i64 (1), 1⟩, ⟨.int .i64 (774), .int .i64 (1), 2⟩, ⟨.int .i64 (769), .int .i64 (1), 3⟩] 4), 
    (123, Ev.rowO [.map (some 121), .map (some 122)] 2 101 false), 
    (139, Ev.rowO [.bool false, .int .i64 (4096), .int .i64 (32), .int .i64 (2)] 4 54 true), 
    (165, Ev.rowO [.bool false, .int .i64 (4097), .int .i64 (32), .int .i64 (2)] 4 54 true), 
    (187, Ev.rowO [.bool false, .int .i64 (0), .int .i64 (33), .int .i64 (2)] 4 54 true), 
    (209, Ev.rowO [.bool false, .int .i64 (0), .int .i64 (34), .int .i64 (2)] 4 54 true), 
    (231, Ev.rowO [.bool false, .int .i64 (0), .int .i64 (35), .int .i64 (2)] 4 54 true), 
    (239, Ev.rowO [.int .i64 (97), .int .i64 (804), .int .i64 (769)] 3 3 false), 
    (272, Ev.rowO [.int .i64 (97), .int .i64 (769)] 2 3 true), 
    (286, Ev.rowO [.int .i64 (804)] 1 3 true), 
    (288, Ev.rowO [.slice (some ⟨272, 0, none⟩) 2 2, .slice (some ⟨286, 0, none⟩) 1 1] 2 24 true)] }
noncomputable def st3 : Ev.Step := {
  f := 16, l := [.pointer (some ⟨69, 0, none⟩), .pointer (some ⟨123, 0, none⟩), .slice (some ⟨289, 0, none⟩) 3 3], next := 290, out := .slice (some ⟨349, 0, none⟩) 3 3, next' := 350, inp := [
    (68, .map [⟨.int .i64 (769), .agg #[.int .i64 (769), .int .i64 (230), .slice none 0 0], 0⟩, ⟨.int .i64 (774), .agg #[.int .i64 (774), .int .i64 (230), .slice none 0 0], 1⟩, ⟨.int .i64 (803), .agg #[.int .i64 (803), .int .i64 (220), .slice none 0 0], 2⟩, ⟨.int .i64 (804), .agg #[.int .i64 (804), .int .i64 (220), .slice none 0 0], 3⟩] 4), 
    (69, Ev.rowO [.map (some 68)] 1 107 false), 
    (121, .map [⟨.agg #[.int .i64 (1), .int .i64 (97), .int .i64 (0), .int .i64 (0), .int .i64 (0), .int .i64 (0), .int .i64 (0), .int .i64 (0), .int .i64 (0)], .slice (some ⟨139, 0, none⟩) 1 1, 0⟩, ⟨.agg #[.int .i64 (2), .int .i64 (97), .int .i64 (769), .int .i64 (0), .int .i64 (0), .int .i64 (0), .int .i64 (0), .int .i64 (0), .int .i64 (0)], .slice (some ⟨165, 0, none⟩) 1 1, 1⟩, ⟨.agg #[.int .i64 (1), .int .i64 (804), .int .i64 (0), .int .i64 (0), .int .i64 (0), .int .i64 (0), .int .i64 (0), .int .i64 (0), .int .i64 (0)], .slice (some ⟨187, 0, none⟩) 1 1, 2⟩, ⟨.agg #[.int .i64 (1), .int .i64 (774), .int .i64 (0), .int .i64 (0), .int .i64 (0), .int .i64 (0), .int .i64 (0), .int .i64 (0), .int .i64 (0)], .slice (some ⟨209, 0, none⟩) 1 1, 3⟩, ⟨.agg #[.int .i64 (1), .int .i64 (769), .int .i64 (0), .int .i64 (0), .int .i64 (0), .int .i64 (0), .int .i64 (0), .int .i64 (0), .int .i64 (0)], .slice (some ⟨231, 0, none⟩) 1 1, 4⟩] 5), 
    (122, .map [⟨.int .i64 (97), .int .i64 (2), 0⟩, ⟨.int .i64 (804), .int .i64 (1), 1⟩, ⟨.int .i64 (774), .int .i64 (1), 2⟩, ⟨.int .i64 (769), .int .i64 (1), 3⟩] 4), 
    (123, Ev.rowO [.map (some 121), .map (some 122)] 2 101 false), 
    (139, Ev.rowO [.bool false, .int .i64 (4096), .int .i64 (32), .int .i64 (2)] 4 54 true), 
    (165, Ev.rowO [.bool false, .int .i64 (4097), .int .i64 (32), .int .i64 (2)] 4 54 true), 
    (187, Ev.rowO [.bool false, .int .i64 (0), .int .i64 (33), .int .i64 (2)] 4 54 true), 
    (209, Ev.rowO [.bool false, .int .i64 (0), .int .i64 (34), .int .i64 (2)] 4 54 true), 
    (231, Ev.rowO [.bool false, .int .i64 (0), .int .i64 (35), .int .i64 (2)] 4 54 true), 
    (239, Ev.rowO [.int .i64 (97), .int .i64 (804), .int .i64 (769)] 3 3 false), 
    (272, Ev.rowO [.int .i64 (97), .int .i64 (769)] 2 3 true), 
    (286, Ev.rowO [.int .i64 (804)] 1 3 true), 
    (288, Ev.rowO [.slice (some ⟨272, 0, none⟩) 2 2, .slice (some ⟨286, 0, none⟩) 1 1] 2 24 true), 
    (289, Ev.rowO [.int .i64 (97), .int .i64 (774), .int .i64 (769)] 3 3 false)], res := [
    (68, .map [⟨.int .i64 (769), .agg #[.int .i64 (769), .int .i64 (230), .slice none 0 0], 0⟩, ⟨.int .i64 (774), .agg #[.int .i64 (774), .int .i64 (230), .slice none 0 0], 1⟩, ⟨.int .i64 (803), .agg #[.int .i64 (803), .int .i64 (220), .slice none 0 0], 2⟩, ⟨.int .i64 (804), .agg #[.int .i64 (804), .int .i64 (220), .slice none 0 0], 3⟩] 4), 
    (69, Ev.rowO [.map (some 68)] 1 107 false), 
    (121, .map [⟨.agg #[.int .i64 (1), .int .i64 (97), .int .i64 (0), .int .i64 (0), .int .i64 (0), .int .i64 (0), .int .i64 (0), .int .i64 (0), .int .i64 (0)], .slice (some ⟨139, 0, none⟩) 1 1, 0⟩, ⟨.agg #[.int .i64 (2), .int .i64 (97), .int .i64 (769), .int .i64 (0), .int .i64 (0), .int .i64 (0), .int .i64 (0), .int .i64 (0), .int .i64 (0)], .slice (some ⟨165, 0, none⟩) 1 1, 1⟩, ⟨.agg #[.int .i64 (1), .int .i64 (804), .int .i64 (0), .int .i64 (0), .int .i64 (0), .int .i64 (0), .int .i64 (0), .int .i64 (0), .int .i64 (0)], .slice (some ⟨187, 0, none⟩) 1 1, 2⟩, ⟨.agg #[.int .i64 (1), .int .i64 (774), .int .i64 (0), .int .i64 (0), .int .i64 (0), .int .i64 (0), .int .i64 (0), .int .i64 (0), .int .i64 (0)], .slice (some ⟨209, 0, none⟩) 1 1, 3⟩, ⟨.agg #[.int .i64 (1), .int .i64 (769), .int .i64 (0), .int .i64 (0), .int .i64 (0), .int .i64 (0), .int .i64 (0), .int .i64 (0), .int .i64 (0)], .slice (some ⟨231, 0, none⟩) 1 1, 4⟩] 5), 
    (122, .map [⟨.int .i64 (97), .int .i64 (2), 0⟩, ⟨.int .i64 (804), .int .i64 (1), 1⟩, ⟨.int .i64 (774), .int .i64 (1), 2⟩, ⟨.int .i64 (769), .int .i64 (1), 3⟩] 4), 
    (123, Ev.rowO [.map (some 121), .map (some 122)] 2 101 false), 
    (139, Ev.rowO [.bool false, .int .i64 (4096), .int .i64 (32), .int .i64 (2)] 4 54 true), 
    (165, Ev.rowO [.bool false, .int .i64 (4097), .int .i64 (32), .int .i64 (2)] 4 54 true), 
    (187, Ev.rowO [.bool false, .int .i64 (0), .int .i64 (33), .int .i64 (2)] 4 54 true), 
    (209, Ev.rowO [.bool false, .int .i64 (0), .int .i64 (34), .int .i64 (2)] 4 54 true), 
    (231, Ev.rowO [.bool false, .int .i64 (0), .int .i64 (35), .int .i64 (2)] 4 54 true), 
    (239, Ev.rowO [.int .i64 (97), .int .i64 (804), .int .i64 (769)] 3 3 false), 
    (272, Ev.rowO [.int .i64 (97), .int .i64 (769)] 2 3 true), 
    (286, Ev.rowO [.int .i64 (804)] 1 3 true), 
    (288, Ev.rowO [.slice (some ⟨272, 0, none⟩) 2 2, .slice (some ⟨286, 0, none⟩) 1 1] 2 24 true), 
    (289, Ev.rowO [.int .i64 (97), .int .i64 (774), .int .i64 (769)] 3 3 false), 
    (309, Ev.rowO [.int .i64 (97)] 1 3 true), 
    (329, Ev.rowO [.int .i64 (774)] 1 3 true), 
    (347, Ev.rowO [.int .i64 (769)] 1 3 true), 
    (349, Ev.rowO [.slice (some ⟨309, 0, none⟩) 1 1, .slice (some ⟨329, 0, none⟩) 1 1, .slice (some ⟨347, 0, none⟩) 1 1] 3 24 true)] }
noncomputable def st4 : Ev.Step := {
  f := 17, l := [.pointer (some ⟨69, 0, none⟩), .pointer (some ⟨123, 0, none⟩), .slice (some ⟨350, 0, none⟩) 3 3], next := 351, out := .slice (some ⟨411, 0, none⟩) 2 2, next' := 412, inp := [
    (68, .map [⟨.int .i64 (769), .agg #[.int .i64 (769), .int .i64 (230), .slice none 0 0], 0⟩, ⟨.int .i64 (774), .agg #[.int .i64 (774), .int .i64 (230), .slice none 0 0], 1⟩, ⟨.int .i64 (803), .agg #[.int .i64 (803), .int .i64 (220), .slice none 0 0], 2⟩, ⟨.int .i64 (804), .agg #[.int .i64 (804), .int .i64 (220), .slice none 0 0], 3⟩] 4), 
    (69, Ev.rowO [.map (some 68)] 1 107 false), 
    (121, .map [⟨.agg #[.int .i64 (1), .int .i64 (97), .int .i64 (0), .int .i64 (0), .int .i64 (0), .int .i64 (0), .int .i64 (0), .int .i64 (0), .int .i64 (0)], .slice (some ⟨139, 0, none⟩) 1 1, 0⟩, ⟨.agg #[.int .i64 (2), .int .i64 (97), .int .i64 (769), .int .i64 (0), .int .i64 (0), .int .i64 (0), .int .i64 (0), .int .i64 (0), .int .i64 (0)], .slice (some ⟨165, 0, none⟩) 1 1, 1⟩, ⟨.agg #[.int .i64 (1), .int .i64 (804), .int .i64 (0), .int .i64 (0), .int .i64 (0), .int .i64 (0), .int .i64 (0), .int .i64 (0), .int .i64 (0)], .slice (some ⟨187, 0, none⟩) 1 1, 2⟩, ⟨.agg #[.int .i64 (1), .int .i64 (774), .int .i64 (0), .int .i64 (0), .int .i64 (0), .int .i64 (0), .int .i64 (0), .int .i64 (0), .int .i64 (0)], .slice (some ⟨209, 0, none⟩) 1 1, 3⟩, ⟨.agg #[.int .i64 (1), .int .i64 (769), .int .i64 (0), .int .i64 (0), .int .i64 (0), .int .i64 (0), .int .i64 (0), .int .i64 (0), .int .i64 (0)], .slice (some ⟨231, 0, none⟩) 1 1, 4⟩] 5), 
    (122, .map [⟨.int .i64 (97), .int .i64 (2), 0⟩, ⟨.int .i64 (804), .int .i64 (1), 1⟩, ⟨.int .i64 (774), .int .i64 (1), 2⟩, ⟨.int .i64 (769), .int .i64 (1), 3⟩] 4), 
    (123, Ev.rowO [.map (some 121), .map (some 122)] 2 101 false), 
    (139, Ev.rowO [.bool false, .int .i64 (4096), .int .i64 (32), .int .i64 (2)] 4 54 true), 
    (165, Ev.rowO [.bool false, .int .i64 (4097), .int .i64 (32), .int .i64 (2)] 4 54 true), 
    (187, Ev.rowO [.bool false, .int .i64 (0), .int .i64 (33), .int .i64 (2)] 4 54 true), 
    (209, Ev.rowO [.bool false, .int .i64 (0), .int .i64 (34), .int .i64 (2)] 4 54 true), 
    (231, Ev.rowO [.bool false, .int .i64 (0), .int .i64 (35), .int .i64 (2)] 4 54 true), 
    (239, Ev.rowO [.int .i64 (97), .int .i64 (804), .int .i64 (769)] 3 3 false), 
    (272, Ev.rowO [.int .i64 (97), .int .i64 (769)] 2 3 true), 
    (286, Ev.rowO [.int .i64 (804)] 1 3 true), 
    (288, Ev.rowO [.slice (some ⟨272, 0, none⟩) 2 2, .slice (some ⟨286, 0, none⟩) 1 1] 2 24 true), 
    (289, Ev.rowO [.int .i64 (97), .int .i64 (774), .int .i64 (769)] 3 3 false), 
    (309, Ev.rowO [.int .i64 (97)] 1 3 true), 
    (329, Ev.rowO [.int .i64 (774)] 1 3 true), 
    (347, Ev.rowO [.int .i64 (769)] 1 3 true), 
    (349, Ev.rowO [.slice (some ⟨309, 0, none⟩) 1 1, .slice (some ⟨329, 0, none⟩) 1 1, .slice (some ⟨347, 0, none⟩) 1 1] 3 24 true), 
    (350, Ev.rowO [.int .i64 (97), .int .i64 (804), .int .i64 (769)] 3 3 false)], res := [
    (68, .map [⟨.int .i64 (769), .agg #[.int .i64 (769), .int .i64 (230), .slice none 0 0], 0⟩, ⟨.int .i64 (774), .agg #[.int .i64 (774), .int .i64 (230), .slice none 0 0], 1⟩, ⟨.int .i64 (803), .agg #[.int .i64 (803), .int .i64 (220), .slice none 0 0], 2⟩, ⟨.int .i64 (804), .agg #[.int .i64 (804), .int .i64 (220), .slice none 0 0], 3⟩] 4), 
    (69, Ev.rowO [.map (some 68)] 1 107 false), 
    (121, .map [⟨.agg #[.int .i64 (1), .int .i64 (97), .int .i64 (0), .int .i64 (0), .int .i64 (0), .int .i64 (0), .int .i64 (0), .int .i64 (0), .int .i64 (0)], .slice (some ⟨139, 0, none⟩) 1 1, 0⟩, ⟨.agg #[.int .i64 (2), .int .i64 (97), .int .i64 (769), .int .i64 (0), .int .i64 (0), .int .i64 (0), .int .i64 (0), .int .i64 (0), .int .i64 (0)], .slice (some ⟨165, 0, none⟩) 1 1, 1⟩, ⟨.agg #[.int .i64 (1), .int .i64 (804), .int .i64 (0), .int .i64 (0), .int .i64 (0), .int .i64 (0), .int .i64 (0), .int .i64 (0), .int .i64 (0)], .slice (some ⟨187, 0, none⟩) 1 1, 2⟩, ⟨.agg #[.int .i64 (1), .int .i64 (774), .int .i64 (0), .int .i64 (0), .int .i64 (0), .int .i64 (0), .int .i64 (0), .int .i64 (0), .int .i64 (0)], .slice (some ⟨209, 0, none⟩) 1 1, 3⟩, ⟨.agg #[.int .i64 (1), .int .i64 (769), .int .i64 (0), .int .i64 (0), .int .i64 (0), .int .i64 (0), .int .i64 (0), .int .i64 (0), .int .i64 (0)], .slice (some ⟨231, 0, none⟩) 1 1, 4⟩] 5), 
    (122, .map [⟨.int .i64 (97), .int .i64 (2), 0⟩, ⟨.int .i64 (804), .int .i64 (1), 1⟩, ⟨.int .i64 (774), .int .i64 (1), 2⟩, ⟨.int .i64 (769), .int .i64 (1), 3⟩] 4), 
    (123, Ev.rowO [.map (some 121), .map (some 122)] 2 101 false), 
    (139, Ev.rowO [.bool false, .int .i64 (4096), .int .i64 (32), .int .i64 (2)] 4 54 true), 
    (165, Ev.rowO [.bool false, .int .i64 (4097), .int .i64 (32), .int .i64 (2)] 4 54 true), 
    (187, Ev.rowO [.bool false, .int .i64 (0), .int .i64 (33), .int .i64 (2)] 4 54 true), 
    (209, Ev.rowO [.bool false, .int .i64 (0), .int .i64 (34), .int .i64 (2)] 4 54 true), 
    (231, Ev.rowO [.bool false, .int .i64 (0), .int .i64 (35), .int .i64 (2)] 4 54 true), 
    (239, Ev.rowO [.int .i64 (97), .int .i64 (804), .int .i64 (769)] 3 3 false), 
    (272, Ev.rowO [.int .i64 (97), .int .i64 (769)] 2 3 true), 
    (286, Ev.rowO [.int .i64 (804)] 1 3 true), 
    (288, Ev.rowO [.slice (some ⟨272, 0, none⟩) 2 2, .slice (some ⟨286, 0, none⟩) 1 1] 2 24 true), 
    (289, Ev.rowO [.int .i64 (97), .int .i64 (774), .int .i64 (769)] 3 3 false), 
    (309, Ev.rowO [.int .i64 (97)] 1 3 true), 
    (329, Ev.rowO [.int .i64 (774)] 1 3 true), 
    (347, Ev.rowO [.int .i64 (769)] 1 3 true), 
    (349, Ev.rowO [.slice (some ⟨309, 0, none⟩) 1 1, .slice (some ⟨329, 0, none⟩) 1 1, .slice (some ⟨347, 0, none⟩) 1 1] 3 24 true), 
    (350, Ev.rowO [.int .i64 (97), .int .i64 (804), .int .i64 (769)] 3 3 false), 
    (411, Ev.rowO [.bool false, .int .i64 (4097), .int .i64 (32), .int .i64 (2), .bool false, .int .i64 (0), .int .i64 (33), .int .i64 (2)] 8 54 true)] }
noncomputable def sums1 : Ev.Sums := Ev.stepSum base st0 sums0
noncomputable def sums2 : Ev.Sums := Ev.stepSum base st1 sums1
noncomputable def sums3 : Ev.Sums := Ev.stepSum base st2 sums2
noncomputable def sums4 : Ev.Sums := Ev.stepSum base st3 sums3
noncomputable def sums5 : Ev.Sums := Ev.stepSum base st4 sums4
end Go.Proofs.YtlkdjdcnbcegeaaGreatDoor.matchNil
