/-
  Texts cut at a byte, in plain words.
-/
import Derived.Test.YthcjcdchmdgnjaaGreatDoorKK
import Derived.Lib.Split
import Derived.Lib.CountLaws
import Derived.Lib.Join
namespace Go.Proofs.YthcjcdchmdgnjaaGreatDoor
open Go.Lib
set_option linter.unusedVariables false
set_option linter.unusedSimpArgs false
theorem index_one (c : UInt8) : ∀ (A B : List UInt8), c ∉ A → Lib.index (A ++ c :: B) [c] = A.length
  | [], B, _ => by simp [Lib.index, List.isPrefixOf]
  | a :: A, B, h => by
    have h1 : ¬ c = a := fun e => h (by simp [e])
    have ih := index_one c A B (fun m => h (by simp [m]))
    rw [List.cons_append, Lib.index, ih]
    have h2 : ¬ ((A.length : Int) == -1) = true := by rw [beq_iff_eq]; omega
    simp [List.isPrefixOf, h1]
theorem index_none (c : UInt8) : ∀ (A : List UInt8), c ∉ A → Lib.index A [c] = -1
  | [], _ => rfl
  | a :: A, h => by
    have h1 : ¬ c = a := fun e => h (by simp [e])
    have ih := index_none c A (fun m => h (by simp [m]))
    rw [Lib.index, ih]
    simp [List.isPrefixOf, h1]
theorem cut_one (c : UInt8) (A B : List UInt8) (h : c ∉ A) : Lib.cut (A ++ c :: B) [c] = (A, B, true) := by
  rw [Lib.cut, index_one c A B h, if_pos (by omega)]
  simp
theorem join_more (c : UInt8) (x y : List UInt8) (r : List (List UInt8)) : Lib.join (x :: y :: r) [c] = x ++ c :: Lib.join (y :: r) [c] := by
  simp [Lib.join, List.intercalate, List.intersperse]
theorem txt_tail (A B : List UInt8) (c : UInt8) : (txt (A ++ c :: B)).extract (A.length + 1) (txt (A ++ c :: B)).size = txt B := by
  rw [txt_cut, txt_size]
  congr 1
  rw [List.drop_append, List.drop_eq_nil_of_le (by omega)]
  simp
  exact List.take_of_length_le (by omega)
theorem split_join (c : UInt8) : ∀ (r : List (List UInt8)) (x : List UInt8), (∀ y ∈ x :: r, c ∉ y) →
    Lib.countB (txt (Lib.join (x :: r) [c])) (txt [c]) = r.length ∧ Lib.splitB (txt [c]) 0 r.length (txt (Lib.join (x :: r) [c])) = (x :: r).map txt
  | [], x, h => by
    have h1 : Lib.indexB (txt (Lib.join [x] [c])) (txt [c]) = -1 := by
      show Lib.index (txt (Lib.join [x] [c])).data.toList (txt [c]).data.toList = -1
      rw [txt_list, txt_list, show Lib.join [x] [c] = x by simp [Lib.join, List.intercalate, List.intersperse]]
      exact index_none c x (h x (by simp))
    refine ⟨Lib.countB_miss _ _ h1, ?_⟩
    rw [Lib.splitB_miss _ _ _ _ h1]
    simp [Lib.join, List.intercalate, List.intersperse]
  | y :: r, x, h => by
    have ih := split_join c r y (fun z hz => h z (by simp at hz ⊢; exact Or.inr hz))
    have h1 : Lib.indexB (txt (Lib.join (x :: y :: r) [c])) (txt [c]) = x.length := by
      show Lib.index (txt (Lib.join (x :: y :: r) [c])).data.toList (txt [c]).data.toList = x.length
      rw [txt_list, txt_list, join_more]
      exact index_one c x _ (h x (by simp))
    have hs : (txt [c]).size = 1 := rfl
    have ht : (txt (Lib.join (x :: y :: r) [c])).extract (x.length + (txt [c]).size) (txt (Lib.join (x :: y :: r) [c])).size = txt (Lib.join (y :: r) [c]) := by
      rw [hs, join_more]; exact txt_tail _ _ _
    constructor
    · rw [Lib.countB_hit _ _ _ (by omega) h1, ht, ih.1, List.length_cons]; omega
    · rw [List.length_cons, Lib.splitB_hit _ _ _ _ _ h1, ht, ih.2]
      rw [List.map_cons]
      congr 1
      rw [join_more, txt_cut]
      simp
end Go.Proofs.YthcjcdchmdgnjaaGreatDoor
