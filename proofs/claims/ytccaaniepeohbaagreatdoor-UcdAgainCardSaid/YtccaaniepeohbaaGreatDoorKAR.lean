/-
  What it means that marks have a text.
-/
import Derived.Test.YtccaaniepeohbaaGreatDoorKX
import Derived.Test.YtccaaniepeohbaaGreatDoorKAD
import Derived.Test.YtccaaniepeohbaaGreatDoorKAQ
import Derived.Test.YtccaaniepeohbaaGreatDoorKAC
namespace Go.Proofs.YtccaaniepeohbaaGreatDoor
open Go.RowKit Go.WideShapes
set_option linter.unusedVariables false
set_option linter.unusedSimpArgs false
theorem ucd_rising {l : List MK} (h : (List.range l.length).all (mkMay l) = true) : l.Pairwise (fun x y => x.pt < y.pt) := by
  rw [List.pairwise_iff_getElem]
  have step : ∀ j (hj : j + 1 < l.length), l[j].pt < l[j + 1].pt := by
    intro j hj
    have h1 := List.all_eq_true.1 h (j + 1) (List.mem_range.2 hj)
    rw [mkMay_succ hj, Bool.and_eq_true] at h1
    exact of_decide_eq_true h1.2
  have key : ∀ (d i : Nat) (hd : i + d + 1 < l.length), (l[i]'(by omega)).pt < (l[i + d + 1]).pt := by
    intro d
    induction d with
    | zero => intro i hd; exact step i hd
    | succ d ih =>
      intro i hd
      have h1 := ih i (by omega)
      have h2 := step (i + d + 1) hd
      exact Int.lt_trans h1 h2
  intro i j hi hj hij
  obtain ⟨d, rfl⟩ : ∃ d, j = i + d + 1 := ⟨j - i - 1, by omega⟩
  exact key d i hj
theorem unmet_sum {l : List MK} (hn : (l.map MK.pt).Nodup) : unmet (partsOf l) [] (l.map MK.pt) = (l.map fun x => x.parts.length).sum := by
  have key : ∀ k : List MK, (∀ x ∈ k, x ∈ l) → unmet (partsOf l) [] (k.map MK.pt) = (k.map fun x : MK => x.parts.length).sum := by
    intro k
    induction k with
    | nil => intro _; rfl
    | cons x r ih =>
      intro h
      rw [List.map_cons, List.map_cons, List.sum_cons, unmet, ih fun y hy => h y (by simp [hy])]
      obtain ⟨i, hi, hx⟩ := List.getElem_of_mem (h x (by simp))
      rw [partsOf_at hn (i := i) (by rw [List.getElem?_eq_getElem hi, hx])]
      simp
  exact key l fun _ h => h
theorem parts_text (x : MK) : x.parts.length ≤ x.text.length := by
  have := pts_atleast x.parts
  unfold MK.text
  rw [List.length_append]
  omega
theorem parts_sum (l : List MK) : (l.map fun x => x.parts.length).sum ≤ (ucdText l).length := by
  refine Nat.le_trans ?_ (join_lens (l.map MK.text) [10])
  induction l with
  | nil => simp [Lib.lens]
  | cons x r ih =>
    have := parts_text x
    simp only [Lib.lens, List.map_cons, List.sum_cons] at ih ⊢
    omega
theorem text_le {l : List MK} {x : MK} (h : x ∈ l) : x.text.length ≤ (ucdText l).length := by
  refine Nat.le_trans ?_ (join_lens (l.map MK.text) [10])
  induction l with
  | nil => simp at h
  | cons y r ih =>
    simp only [Lib.lens, List.map_cons, List.sum_cons] at ih ⊢
    rcases List.mem_cons.1 h with rfl | h
    · omega
    · have := ih h; omega
structure UcdFine (l : List MK) : Prop where
  may : ∀ x ∈ l, x.may = true
  rise : l.Pairwise (fun x y => x.pt < y.pt)
  nd : (l.map MK.pt).Nodup
  len : l.length ≤ 4096
  sz : (txt (ucdText l)).size ≤ 65536
  out : ucdOut l = ucdText l
  un : unmet (partsOf l) [] (l.map MK.pt) ≤ 100000
  pa : ∀ p, (partsOf l p).length ≤ 100000
  pl : ∀ x ∈ l, x.parts.length ≤ 100000
  pt : ∀ x ∈ l, 0 ≤ x.pt ∧ x.pt ≤ 1114111
  ts : ∀ x ∈ l, (txt x.text).size < 4294967281
theorem ucd_fine {l : List MK} (h : ucdWhy l = 0) : UcdFine l := by
  have ho : ucdOut l = ucdText l := by unfold ucdOut; rw [if_pos h]
  unfold ucdWhy at h
  split at h
  · omega
  · next hl =>
    split at h
    · next ha =>
      split at h
      · omega
      · next hs =>
        have hr := ucd_rising ha
        have hn : (l.map MK.pt).Nodup := by
          rw [List.Nodup, List.pairwise_map]
          exact hr.imp fun {a b} h e => by rw [e] at h; omega
        have hm : ∀ x ∈ l, x.may = true := fun x hx => by
          obtain ⟨i, hi, rfl⟩ := List.getElem_of_mem hx
          exact all_mk ha hi
        have hp : ∀ x ∈ l, x.parts.length ≤ 65536 := fun x hx => by
          have h1 := parts_text x
          have h2 := text_le hx
          omega
        refine ⟨hm, hr, hn, by omega, by rw [txt_size]; omega, ho, ?_, fun p => ?_, fun x hx => by have := hp x hx; omega, fun x hx => fits_point (may_of (hm x hx)).1, fun x hx => ?_⟩
        · rw [unmet_sum hn]
          have := parts_sum l
          omega
        · unfold partsOf
          split
          · next x hx => have := hp x (List.mem_of_find?_eq_some hx); omega
          · simp
        · rw [txt_size]
          have := text_le hx
          omega
    · omega
theorem ucd_not {l : List MK} (h : ucdWhy l ≠ 0) : ucdOut l = [] ∧ (ucdWhy l = 1 ∨ ucdWhy l = 2) := by
  refine ⟨by unfold ucdOut; rw [if_neg h], ?_⟩
  unfold ucdWhy at h ⊢
  split
  · exact Or.inr rfl
  · split
    · split
      · exact Or.inr rfl
      · next h1 h2 h3 => rw [if_neg h1, if_pos h2, if_neg h3] at h; exact absurd rfl h
    · exact Or.inl rfl
end Go.Proofs.YtccaaniepeohbaaGreatDoor
