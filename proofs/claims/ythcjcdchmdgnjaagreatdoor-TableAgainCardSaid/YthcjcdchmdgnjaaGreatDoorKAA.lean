/-
  ref06.text: an entry's line.
-/
import Derived.Test.YthcjcdchmdgnjaaGreatDoorKZ
namespace Go.Proofs.YthcjcdchmdgnjaaGreatDoor
open Go.RowKit Go.WideShapes
set_option linter.unusedVariables false
theorem join_take_one {sep : List UInt8} {xs : List (List UInt8)} (h : 0 < xs.length) : Lib.join (xs.take 1) sep = xs[0] := by
  match xs, h with
  | y :: r, _ => simp [Lib.join_one]
theorem join_take_succ {sep : List UInt8} {xs : List (List UInt8)} {k : Nat} (hk : 0 < k) (h : k < xs.length) : Lib.join (xs.take (k + 1)) sep = Lib.join (xs.take k) sep ++ sep ++ xs[k] := by
  match xs, k, hk, h with
  | y :: r, k + 1, _, h =>
    have h' : k < r.length := by simpa using h
    rw [List.take_succ_cons, List.take_succ_cons, Lib.join_cons, Lib.join_cons, Lib.joinTail_take_succ sep r k r[k] (List.getElem?_eq_getElem h')]
    simp [List.append_assoc]
theorem flat_take_succ {α : Type} {f : α → List UInt8} {l : List α} {k : Nat} (hk : k < l.length) : ((l.take (k + 1)).map f).flatten = ((l.take k).map f).flatten ++ f l[k] := by
  rw [List.take_succ_eq_append_getElem hk, List.map_append, List.flatten_append, List.map_singleton, List.flatten_singleton]
/-- The points' text. -/
def ptsText (l : List Int) : List UInt8 := Lib.join (l.map fun p => hexW p.toNat) [32]
theorem ptsText_len {l : List Int} (h : l.all pointB = true) : (ptsText l).length ≤ l.length * 7 := by
  have g1 := join_len [32] 6 (l.map fun p => hexW p.toNat) fun y hy => by
    obtain ⟨p, hp, rfl⟩ := List.mem_map.1 hy
    obtain ⟨q1, q2⟩ := pointB_of (List.all_eq_true.1 h p hp)
    exact hexW_few (by omega)
  rw [List.length_map] at g1
  exact g1
theorem ptsText_one {l : List Int} (h : 0 < l.length) : ptsText (l.take 1) = hexW l[0].toNat := by
  unfold ptsText
  rw [List.map_take, join_take_one (by simpa using h)]
  simp
theorem ptsText_succ {l : List Int} {k : Nat} (hk : 0 < k) (h : k < l.length) : ptsText (l.take (k + 1)) = ptsText (l.take k) ++ [32] ++ hexW l[k].toNat := by
  unfold ptsText
  rw [List.map_take, join_take_succ hk (by simpa using h), ← List.map_take]
  simp
theorem elsText_len {l : List EL} (h : l.all rightB = true) : ((l.map EL.text).flatten).length ≤ l.length * 17 := by
  have g2 := flat_len 17 (l.map EL.text) fun y hy => by
    obtain ⟨e, he, rfl⟩ := List.mem_map.1 hy
    exact Nat.le_of_eq (elText_len (List.all_eq_true.1 h e he))
  rw [List.length_map] at g2
  exact g2
theorem may_of {x : EN} (h : x.may = true) : (1 ≤ x.pts.length ∧ x.pts.length ≤ 8 ∧ 1 ≤ x.els.length ∧ x.els.length ≤ 16) ∧ x.pts.all pointB = true ∧ x.els.all rightB = true := by
  unfold EN.may at h
  simp only [Bool.and_eq_true, decide_eq_true_eq] at h
  exact ⟨h.1.1, h.1.2, h.2⟩
theorem all_take {α : Type} {p : α → Bool} {l : List α} (h : l.all p = true) (k : Nat) : (l.take k).all p = true := List.all_eq_true.2 fun x hx => List.all_eq_true.1 h x (List.mem_of_mem_take hx)
end Go.Proofs.YthcjcdchmdgnjaaGreatDoor
