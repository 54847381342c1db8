/-
  strings.Join on a row of one's own.
-/
import Derived.Test.YthcjcdchmdgnjaaGreatDoorKAB
import Derived.Test.YthcjcdchmdgnjaaGreatDoorKAK
namespace Go.Proofs.YthcjcdchmdgnjaaGreatDoor
open Go.RowKit Go.WideShapes
set_option linter.unusedVariables false
/-- Texts as values. -/
def strsV (xs : List (List UInt8)) : List Value := xs.map fun x => .string (txt x)
theorem strsV_len (xs : List (List UInt8)) : (strsV xs).length = xs.length := by simp [strsV]
theorem strsV_snoc (xs : List (List UInt8)) (x : List UInt8) : strsV (xs ++ [x]) = strsV xs ++ [.string (txt x)] := by simp [strsV]
theorem str_info : (Tryz.prog.info? 9).map (fun i => (i.zero, i.size, i.bytes)) = some (some (.string ⟨#[]⟩), 1, 16) := by kernel_rfl
theorem joined_any (xs : List (List UInt8)) (sep : List UInt8) (v : Value) (N : Nat) (w : World) (ho : w.ownsRow N 9 1 v xs.length (strsV xs)) (hn : xs.length ≤ 1000000) (hl : (Lib.join xs sep).length ≤ 140737488355328) :
    Calls Tryz.prog 13 #[v, .string (txt sep)] w (Ret (.string (txt (Lib.join xs sep))) w) := by
  have hmap : (xs.map txt).map (·.data.toList) = xs := by
    rw [List.map_map]
    exact (List.map_congr_left (fun x _ => by simp [txt])).trans (List.map_id _)
  rcases ho.2 with ⟨rfl, h0⟩ | ⟨g, cap, cur, rfl, hb, hg, hc, hm, hs, ht⟩
  · obtain rfl : xs = [] := List.eq_nil_of_length_eq_zero h0
    refine (Any.strings_Join_none lays156 extra156 none 0 (txt sep) w).mono ?_
    rintro e w' ⟨rfl, rfl⟩
    exact ⟨rfl, Below.refl _ _⟩
  · have hlen : (xs.map txt).length = xs.length := List.length_map _
    have hJ := Any.strings_Join lays156 extra156 g 0 cap (xs.map txt) (txt sep) w (fun j x hj => by
      have hjl : j < xs.length := by have := (List.getElem?_eq_some_iff.1 hj).1; rwa [hlen] at this
      have h9 := ho.cellAt j (by omega)
      rw [Nat.zero_add, h9]
      simp only [List.getElem?_map] at hj
      simp only [strsV, List.getElem?_map]
      cases hx : xs[j]? with
      | none => rw [hx] at hj; simp at hj
      | some y => rw [hx] at hj; simp at hj; subst hj; rfl) (Array.getElem?_eq_some_iff.1 hg).1 (by rw [hlen]; omega) (by rw [hlen]; exact hc) (by rw [hmap, txt_list]; exact hl)
    rw [hlen] at hJ
    refine hJ.mono ?_
    rintro e w' ⟨rfl, hb'⟩
    refine ⟨?_, hb'⟩
    rw [hmap, txt_list]; rfl
end Go.Proofs.YthcjcdchmdgnjaaGreatDoor
