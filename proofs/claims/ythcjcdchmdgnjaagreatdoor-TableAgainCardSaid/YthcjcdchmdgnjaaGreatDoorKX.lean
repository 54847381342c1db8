/-
  ref06.element.
-/
import Derived.Test.YthcjcdchmdgnjaaGreatDoorKU
namespace Go.Proofs.YthcjcdchmdgnjaaGreatDoor
open Go.RowKit Go.WideShapes
set_option linter.unusedVariables false
/-- An element's box. -/
def ElS (w : World) (B : Nat) (v : Bool) (p s t : Int) (W : World) : Prop := Below w.heap.size w W ∧ B < W.heap.size ∧ W.cell? ⟨B, 0, none⟩ = some (.bool v) ∧ W.cell? ⟨B, 1, none⟩ = some (.int .i64 p) ∧ W.cell? ⟨B, 2, none⟩ = some (.int .i64 s) ∧ W.cell? ⟨B, 3, none⟩ = some (.int .i64 t)
theorem ElS.new (w : World) (v : Bool) (p s t : Int) (T : TypeId) : ElS w w.heap.size v p s t (w.alloc (.cells #[.bool v, .int .i64 p, .int .i64 s, .int .i64 t] T)) := by
  have h := World.alloc_heap_new w (.cells #[.bool v, .int .i64 p, .int .i64 s, .int .i64 t] T)
  refine ⟨below_a1 _ _, by simp, ?_, ?_, ?_, ?_⟩ <;> (simp only [World.cell?, h]; rfl)
theorem ElS.below {w W W' : World} {B : Nat} {v : Bool} {p s t : Int} (h : ElS w B v p s t W) (hb : Below W.heap.size W W') : ElS w B v p s t W' := by
  obtain ⟨h1, h2, h3, h4, h5, h6⟩ := h
  exact ⟨h1.trans (hb.mono h1.size), Nat.lt_of_lt_of_le h2 hb.size, (hb.cell h2).trans h3, (hb.cell h2).trans h4, (hb.cell h2).trans h5, (hb.cell h2).trans h6⟩
theorem ElS.drew {w W : World} {B : Nat} {v : Bool} {p s t : Int} (h : ElS w B v p s t W) : ElS w B v p s t W.drew := h.below (Below.refl _ _).drew
end Go.Proofs.YthcjcdchmdgnjaaGreatDoor
