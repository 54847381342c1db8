/-
  A block of one cell.
-/
import Derived.Test.YtcjllhdbepchnaaGreatDoorLF
namespace Go.Proofs.YtcjllhdbepchnaaGreatDoor
open Go.RowKit Go.WideShapes
set_option linter.unusedVariables false
/-- A box of one cell. -/
def BoxAt (w : World) (T : Nat) (v : Value) (ty : TypeId) : Prop := w.heap[T]? = some (.cells #[v] ty (0, 0))
theorem BoxAt.cell {w : World} {T : Nat} {v : Value} {ty : TypeId} (h : BoxAt w T v ty) : w.cell? ⟨T, 0, none⟩ = some v := by simp [World.cell?, show w.heap[T]? = _ from h]
theorem BoxAt.free {w : World} {T : Nat} {v : Value} {ty : TypeId} (h : BoxAt w T v ty) : w.frozen? ⟨T, 0, none⟩ = false := by simp [World.frozen?, show w.heap[T]? = _ from h]
theorem BoxAt.lt {w : World} {T : Nat} {v : Value} {ty : TypeId} (h : BoxAt w T v ty) : T < w.heap.size := (Array.getElem?_eq_some_iff.1 h).1
theorem BoxAt.set {w : World} {T : Nat} {v u : Value} {ty : TypeId} (h : BoxAt w T v ty) : BoxAt (w.setCell ⟨T, 0, none⟩ u) T u ty := by
  unfold BoxAt at *; simp [World.setCell, Array.getElem?_modify, h]
theorem BoxAt.of {w w' : World} {T : Nat} {v : Value} {ty : TypeId} (h : BoxAt w T v ty) (hh : w'.heap[T]? = w.heap[T]?) : BoxAt w' T v ty := hh.trans h
theorem BoxAt.below {w w' : World} {T B : Nat} {v : Value} {ty : TypeId} (h : BoxAt w T v ty) (hb : Below B w w') (hT : T < B) : BoxAt w' T v ty := h.of (hb.block T hT)
theorem BoxAt.new (w : World) (T : Nat) (v : Value) (ty : TypeId) (hT : T = w.heap.size) : BoxAt (w.alloc (.cells #[v] ty)) T v ty := by subst hT; exact World.alloc_heap_new w _
end Go.Proofs.YtcjllhdbepchnaaGreatDoor
