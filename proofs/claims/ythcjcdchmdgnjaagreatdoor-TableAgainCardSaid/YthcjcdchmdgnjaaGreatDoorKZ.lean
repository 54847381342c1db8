/-
  ref06.may: may an entry be printed?
-/
import Derived.Test.YthcjcdchmdgnjaaGreatDoorKX
import Derived.Test.YthcjcdchmdgnjaaGreatDoorKY
namespace Go.Proofs.YthcjcdchmdgnjaaGreatDoor
open Go.RowKit Go.WideShapes
set_option linter.unusedVariables false
/-- An entry's box. -/
def EBox (W : World) (B : Nat) (v1 v2 : Value) : Prop := W.heap[B]? = some (.cells #[v1, v2] 36 (0, 0))
section
variable {W W' : World} {B : Nat} {v1 v2 : Value}
theorem EBox.cells (h : EBox W B v1 v2) : W.cell? ⟨B, 0, none⟩ = some v1 ∧ W.cell? ⟨B, 1, none⟩ = some v2 := by simp [World.cell?, show W.heap[B]? = _ from h]
theorem EBox.lt (h : EBox W B v1 v2) : B < W.heap.size := (Array.getElem?_eq_some_iff.1 h).1
theorem EBox.below (h : EBox W B v1 v2) {N : Nat} (hb : Below N W W') (hN : B < N) : EBox W' B v1 v2 := (hb.block _ hN).trans h
theorem EBox.new (W : World) (v1 v2 : Value) : EBox (W.alloc (.cells #[v1, v2] 36)) W.heap.size v1 v2 := World.alloc_heap_new W _
end
theorem all_take_succ {α : Type} {p : α → Bool} {l : List α} {k : Nat} (hk : k < l.length) (h : (l.take k).all p = true) (hp : p l[k] = true) : (l.take (k + 1)).all p = true := by
  rw [List.take_succ_eq_append_getElem hk, List.all_append, h]; simp [hp]
theorem all_bad {α : Type} {p : α → Bool} {l : List α} {k : Nat} (hk : k < l.length) (hp : p l[k] = false) : l.all p = false := by
  rw [List.all_eq_false]
  exact ⟨l[k], List.getElem_mem hk, by simp [hp]⟩
theorem may_pts {x : EN} (h : x.pts.all pointB = false) : x.may = false := by simp [EN.may, h]
theorem may_els {x : EN} (h : x.els.all rightB = false) : x.may = false := by simp [EN.may, h]
theorem may_len {x : EN} (h : ¬ (1 ≤ x.pts.length ∧ x.pts.length ≤ 8 ∧ 1 ≤ x.els.length ∧ x.els.length ≤ 16)) : x.may = false := by simp only [EN.may, decide_eq_false h, Bool.false_and]
theorem may_ok {x : EN} (h : 1 ≤ x.pts.length ∧ x.pts.length ≤ 8 ∧ 1 ≤ x.els.length ∧ x.els.length ≤ 16) (h1 : x.pts.all pointB = true) (h2 : x.els.all rightB = true) : x.may = true := by simp only [EN.may, decide_eq_true h, h1, h2, Bool.true_and]
end Go.Proofs.YthcjcdchmdgnjaaGreatDoor
