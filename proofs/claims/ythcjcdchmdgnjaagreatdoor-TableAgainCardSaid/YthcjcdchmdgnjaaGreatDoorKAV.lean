/-
  What it means that entries have a text.
-/
import Derived.Test.YthcjcdchmdgnjaaGreatDoorKV
import Derived.Test.YthcjcdchmdgnjaaGreatDoorKAI
import Derived.Test.YthcjcdchmdgnjaaGreatDoorKAJ
import Derived.Test.YthcjcdchmdgnjaaGreatDoorKAU
namespace Go.Proofs.YthcjcdchmdgnjaaGreatDoor
open Go.RowKit Go.WideShapes
set_option linter.unusedVariables false
set_option linter.unusedSimpArgs false
theorem tabMay_step {l : List EN} (h : (List.range l.length).all (tabMay l) = true) {i : Nat} (hi : i < l.length) : l[i].may = true ∧ ∀ j (hj : j + 1 = i), ahead (l[j]'(by omega)).pts l[i].pts < 0 := by
  have h1 := List.all_eq_true.1 h i (by simpa using hi)
  unfold tabMay at h1
  rw [List.getElem?_eq_getElem hi] at h1
  simp only [Bool.and_eq_true, Bool.or_eq_true, decide_eq_true_eq] at h1
  refine ⟨h1.1, fun j hj => ?_⟩
  rcases h1.2 with h2 | h2
  · omega
  · subst hj
    rw [show j + 1 - 1 = j by omega, List.getElem?_eq_getElem (by omega)] at h2
    exact of_decide_eq_true h2
theorem tab_rising {l : List EN} (h : (List.range l.length).all (tabMay l) = true) : l.Pairwise (fun x y => ahead x.pts y.pts < 0) := by
  rw [List.pairwise_iff_getElem]
  have key : ∀ (d i : Nat) (hd : i + d + 1 < l.length), ahead (l[i]'(by omega)).pts (l[i + d + 1]).pts < 0 := by
    intro d
    induction d with
    | zero => intro i hd; exact (tabMay_step h hd).2 i rfl
    | succ d ih =>
      intro i hd
      exact ahead_trans _ _ _ (ih i (by omega)) ((tabMay_step h hd).2 (i + d + 1) rfl)
  intro i j hi hj hij
  obtain ⟨d, rfl⟩ : ∃ d, j = i + d + 1 := ⟨j - i - 1, by omega⟩
  exact key d i hj
structure TabFine (l : List EN) : Prop where
  may : ∀ x ∈ l, x.may = true
  rise : l.Pairwise (fun x y => ahead x.pts y.pts < 0)
  nd : (l.map EN.pts).Nodup
  len : l.length ≤ 4096
  sz : (txt (tabText l)).size ≤ 65536
  out : tabOut l = tabText l
theorem tab_fine {l : List EN} (h : tabWhy l = 0) : TabFine l := by
  have ho : tabOut l = tabText l := by unfold tabOut; rw [if_pos h]
  unfold tabWhy at h
  split at h
  · omega
  · next hl =>
    split at h
    · next ha =>
      split at h
      · omega
      · next hs =>
        refine ⟨fun x hx => ?_, tab_rising ha, ?_, by omega, by rw [txt_size]; omega, ho⟩
        · obtain ⟨i, hi, rfl⟩ := List.getElem_of_mem hx
          exact (tabMay_step ha hi).1
        · rw [List.Nodup, List.pairwise_map]
          exact (tab_rising ha).imp fun {a b} h e => by rw [e, ahead_refl2] at h; omega
    · omega
theorem tab_not {l : List EN} (h : tabWhy l ≠ 0) : tabOut l = [] ∧ (tabWhy l = 1 ∨ tabWhy l = 2) := by
  refine ⟨by unfold tabOut; rw [if_neg h], ?_⟩
  unfold tabWhy at h ⊢
  split
  · exact Or.inr rfl
  · split
    · split
      · exact Or.inr rfl
      · next h1 h2 h3 => rw [if_neg h1, if_pos h2, if_neg h3] at h; exact absurd rfl h
    · exact Or.inl rfl
end Go.Proofs.YthcjcdchmdgnjaaGreatDoor
