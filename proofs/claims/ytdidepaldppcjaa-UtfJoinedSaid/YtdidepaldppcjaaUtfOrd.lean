/-
  Plain law on UTF-8: texts of points stand by bytes as the points do.
-/
import Derived.Test.YtdidepaldppcjaaUtfPlain
namespace Go.Proofs.Ytdidepaldppcjaa
def ltN : List Nat → List Nat → Bool
  | _, [] => false
  | [], _ :: _ => true
  | a :: x, b :: y => decide (a < b) || (decide (a = b) && ltN x y)
theorem ltN_bytes (x y : List UInt8) : Op.bytesLess x y = ltN (x.map (·.toNat)) (y.map (·.toNat)) := by
  induction x generalizing y with
  | nil => cases y <;> rfl
  | cons a x ih =>
    cases y with
    | nil => rfl
    | cons b y =>
      simp only [Op.bytesLess, List.map_cons, ltN, ih]
      congr 1
      congr 1
      rw [Bool.eq_iff_iff]; simp [UInt8.toNat_inj]
theorem ltN_prefix (p a b : List Nat) : ltN (p ++ a) (p ++ b) = ltN a b := by
  induction p with
  | nil => rfl
  | cons c p ih => simp [ltN, ih]
theorem ltN_irrefl (a : List Nat) : ltN a a = false := by
  induction a with
  | nil => rfl
  | cons c a ih => simp [ltN, ih]
theorem ltN_asymm {a b : List Nat} (h : ltN a b = true) : ltN b a = false := by
  induction a generalizing b with
  | nil => cases b <;> simp_all [ltN]
  | cons c a ih =>
    cases b with
    | nil => simp [ltN] at h
    | cons d b =>
      simp only [ltN, Bool.or_eq_true, Bool.and_eq_true, decide_eq_true_eq] at h
      simp only [ltN, Bool.or_eq_false_iff, Bool.and_eq_false_iff, decide_eq_false_iff_not]
      rcases h with h | ⟨h, h'⟩
      · exact ⟨by omega, .inl (by omega)⟩
      · exact ⟨by omega, .inr (ih h')⟩
theorem ltN_char {x y : Nat} (h : x < y) (A B : List Nat) : ltN (charB x ++ A) (charB y ++ B) = true := by
  have HX : x < 128 ∨ (128 ≤ x ∧ x < 2048) ∨ (2048 ≤ x ∧ x < 65536) ∨ 65536 ≤ x := by omega
  have HY : y < 128 ∨ (128 ≤ y ∧ y < 2048) ∨ (2048 ≤ y ∧ y < 65536) ∨ 65536 ≤ y := by omega
  have one : ∀ (a b : Nat) (p q : List Nat), a < b → ltN (a :: p) (b :: q) = true := by
    intro a b p q h; simp [ltN, h]
  have two : ∀ (a b : Nat) (p q : List Nat), (a < b ∨ (a = b ∧ ltN p q = true)) → ltN (a :: p) (b :: q) = true := by
    intro a b p q h; simpa [ltN] using h
  rcases HX with hx | ⟨hx, hx'⟩ | ⟨hx, hx'⟩ | hx <;> rcases HY with hy | ⟨hy, hy'⟩ | ⟨hy, hy'⟩ | hy
  all_goals
    first
      | omega
      | (rw [charB_1 hx, charB_1 hy]; exact one _ _ _ _ h)
      | (rw [charB_1 hx, charB_2 hy hy']; exact one _ _ _ _ (by omega))
      | (rw [charB_1 hx, charB_3 hy hy']; exact one _ _ _ _ (by omega))
      | (rw [charB_1 hx, charB_4 hy]; exact one _ _ _ _ (by omega))
      | (rw [charB_2 hx hx', charB_3 hy hy']; exact one _ _ _ _ (by omega))
      | (rw [charB_2 hx hx', charB_4 hy]; exact one _ _ _ _ (by omega))
      | (rw [charB_3 hx hx', charB_4 hy]; exact one _ _ _ _ (by omega))
      | (rw [charB_2 hx hx', charB_2 hy hy']; simp only [List.cons_append, List.nil_append, ltN, Bool.or_eq_true, Bool.and_eq_true, decide_eq_true_eq]; omega)
      | (rw [charB_3 hx hx', charB_3 hy hy']; simp only [List.cons_append, List.nil_append, ltN, Bool.or_eq_true, Bool.and_eq_true, decide_eq_true_eq]; omega)
      | (rw [charB_4 hx, charB_4 hy]; simp only [List.cons_append, List.nil_append, ltN, Bool.or_eq_true, Bool.and_eq_true, decide_eq_true_eq]; omega)
/-- How two lists of points stand, the first k being alike. -/
theorem text_order {xs ys : List Int} (hx : ∀ p ∈ xs, isPt p = true) (hy : ∀ p ∈ ys, isPt p = true) {k : Nat} (he : ∀ j, j < k → xs[j]? = ys[j]?) (h1 : k < ys.length) (h2 : k ≤ xs.length)
    (h : k = xs.length ∨ ∃ hk : k < xs.length, xs[k] < ys[k]) : ltN (textB xs) (textB ys) = true := by
  have hp : xs.take k = ys.take k := by
    apply List.ext_getElem?
    intro i
    rw [List.getElem?_take, List.getElem?_take]
    split
    · exact he i ‹_›
    · rfl
  rw [← List.take_append_drop k xs, ← List.take_append_drop k ys, hp, textB_append, textB_append, ltN_prefix, List.drop_eq_getElem_cons h1]
  have hy0 := isPt_bounds' (hy ys[k] (List.getElem_mem h1))
  have hpos := charB_pos ys[k].toNat
  rcases h with rfl | ⟨hk, hlt⟩
  · rw [List.drop_of_length_le (Nat.le_refl _)]
    simp only [textB, List.flatMap_nil, List.flatMap_cons]
    cases hc : charB (ys[xs.length]).toNat with
    | nil => rw [hc] at hpos; simp at hpos
    | cons a l => simp [ltN]
  · rw [List.drop_eq_getElem_cons hk]
    have hx0 := isPt_bounds' (hx xs[k] (List.getElem_mem hk))
    simp only [textB, List.flatMap_cons]
    exact ltN_char (by omega) _ _
theorem less_of {s t : ByteArray} (h : ltN (bytesOf s) (bytesOf t) = true) :
    Op.bytesLess s.toList t.toList = true ∧ Op.bytesLess t.toList s.toList = false ∧ (s.toList == t.toList) = false ∧ (t.toList == s.toList) = false := by
  have hne : s.data.toList ≠ t.data.toList := fun e => by rw [bytesOf, bytesOf, e, ltN_irrefl] at h; cases h
  refine ⟨?_, ?_, ?_, ?_⟩
  · rw [ByteArray.toList_eq, ByteArray.toList_eq, ltN_bytes]; exact h
  · rw [ByteArray.toList_eq, ByteArray.toList_eq, ltN_bytes]; exact ltN_asymm h
  · rw [ByteArray.toList_eq, ByteArray.toList_eq]; exact beq_eq_false_iff_ne.2 hne
  · rw [ByteArray.toList_eq, ByteArray.toList_eq]; exact beq_eq_false_iff_ne.2 (Ne.symm hne)
theorem same_of {s t : ByteArray} (h : bytesOf s = bytesOf t) : Op.bytesLess s.toList t.toList = false ∧ (s.toList == t.toList) = true := by
  have e : s = t := by rw [← strOf_bytes s, h, strOf_bytes]
  subst e
  refine ⟨?_, by simp⟩
  rw [ByteArray.toList_eq, ltN_bytes]; exact ltN_irrefl _
end Go.Proofs.Ytdidepaldppcjaa
