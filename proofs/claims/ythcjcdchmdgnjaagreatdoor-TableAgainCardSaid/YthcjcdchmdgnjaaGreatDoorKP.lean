/-
  strings.Cut and strings.Split, as table.entry calls them.
-/
import Derived.Test.YthcjcdchmdgnjaaGreatDoorKO
namespace Go.Proofs.YthcjcdchmdgnjaaGreatDoor
open Go.RowKit Go.WideShapes Go.Lib
set_option linter.unusedVariables false
set_option linter.unusedSimpArgs false
theorem cutCall_ok (x : EN) (hs : (txt x.text).size < 4294967281) (m : Int) (w : World) (hm : w.cell? ⟨lays145_ren.g 1, 0, none⟩ = some (.int .i64 m)) :
    Calls Tryz.prog 34 #[.string (txt x.text), .string (txt [59])] w (Ret (.tuple #[.string (txt (Lib.join (x.pts.map fun p => hexW p.toNat) [32])), .string (txt (elsText x.els)), .bool true]) w) := by
  refine (Any.strings_Cut lays145 (txt x.text) (txt [59]) m w hs hm).mono ?_
  rintro e w' ⟨rfl, n, rfl⟩
  rw [cut_entry]
  exact ⟨rfl, (Below.refl _ w).trans ⟨rfl, rfl, rfl, Nat.le_refl _, fun _ _ => rfl⟩⟩
theorem splitCall_ok (x : List UInt8) (r : List (List UInt8)) (h : ∀ y ∈ x :: r, (32 : UInt8) ∉ y) (hs : (txt (Lib.join (x :: r) [32])).size < 4294967281) (m : Int) (w : World) (hm : w.cell? ⟨lays146_ren.g 1, 0, none⟩ = some (.int .i64 m)) :
    Calls Tryz.prog 18 #[.string (txt (Lib.join (x :: r) [32])), .string (txt [32])] w fun e w' => e = .returned (.slice (some ⟨w.heap.size, 0, none⟩) (r.length + 1) (r.length + 1)) ∧ w' = w.alloc (.cells (((x :: r).map txt).map Value.string).toArray 9) := by
  have hj := split_join 32 r x h
  refine (Any.strings_Split lays146 (by kernel_rfl) (txt (Lib.join (x :: r) [32])) (txt [32]) m w hs hm (by decide)).mono ?_
  rintro e w' ⟨rfl, rfl⟩
  rw [hj.1, hj.2]
  exact ⟨rfl, rfl⟩
end Go.Proofs.YthcjcdchmdgnjaaGreatDoor
