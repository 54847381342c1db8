/-
  An element's text, cut up.
-/
import Derived.Test.YthcjcdchmdgnjaaGreatDoorKJ
import Derived.Test.YthcjcdchmdgnjaaGreatDoorKA
import Derived.Laws.Strings3
import Derived.Laws.DeepStrings4
namespace Go.Proofs.YthcjcdchmdgnjaaGreatDoor
open Go.RowKit Go.WideShapes
set_option linter.unusedVariables false
set_option linter.unusedSimpArgs false
theorem txt_cut (l : List UInt8) (i j : Nat) : (txt l).extract i j = txt ((l.drop i).take (j - i)) :=
  ByteArray.ext (Array.toList_inj.1 (by rw [Lib.extract_data, txt_list, txt_list]))
/-- The weights have four digits. -/
def EL.four (e : EL) : Bool := decide (0 ≤ e.p ∧ e.p ≤ 65535 ∧ 0 ≤ e.s ∧ e.s ≤ 65535 ∧ 0 ≤ e.t ∧ e.t ≤ 65535)
theorem hexW_of4 {n : Nat} (h : n ≤ 65535) : ∃ a b c d, hexW n = [a, b, c, d] := by
  have h1 : (hexW n).length = 4 := by
    rw [hexW_len]
    have := hexN_le (n := n) (k := 4) (by omega) (Nat.div_eq_of_lt (by omega))
    omega
  match hexW n, h1 with
  | [a, b, c, d], _ => exact ⟨a, b, c, d, rfl⟩
/-- All that the code looks at. -/
structure ElCut (e : EL) (S X R : ByteArray) : Prop where
  big : 17 ≤ S.size
  x17 : X.size = 17
  hx : S.extract 0 17 = X
  hr : S.extract 17 S.size = R
  rs : R.size = S.size - 17
  p : X.extract 2 6 = txt (hexW e.p.toNat)
  s : X.extract 7 11 = txt (hexW e.s.toNat)
  t : X.extract 12 16 = txt (hexW e.t.toNat)
  b0 : ∀ h : 0 < X.size, (X[0]'h).toNat = 91
  b1 : ∀ h : 1 < X.size, (X[1]'h).toNat = if e.v then 42 else 46
  b6 : ∀ h : 6 < X.size, (X[6]'h).toNat = 46
  b11 : ∀ h : 11 < X.size, (X[11]'h).toNat = 46
  b16 : ∀ h : 16 < X.size, (X[16]'h).toNat = 93
theorem elCut {e : EL} (h : e.four = true) (l : List UInt8) : ElCut e (txt (e.text ++ l)) (txt e.text) (txt l) := by
  simp only [EL.four, decide_eq_true_eq] at h
  obtain ⟨a0, a1, a2, a3, ha⟩ := hexW_of4 (n := e.p.toNat) (by omega)
  obtain ⟨b0, b1, b2, b3, hb⟩ := hexW_of4 (n := e.s.toNat) (by omega)
  obtain ⟨c0, c1, c2, c3, hc⟩ := hexW_of4 (n := e.t.toNat) (by omega)
  have ht : e.text = [91, if e.v then 42 else 46, a0, a1, a2, a3, 46, b0, b1, b2, b3, 46, c0, c1, c2, c3, 93] := by rw [EL.text, ha, hb, hc]; rfl
  constructor
  all_goals rw [ht]
  · rw [txt_size]; simp
  · rw [txt_size]; rfl
  · rw [txt_cut]; simp
  · rw [txt_cut, txt_size]
    congr 1
    rw [List.drop_append_of_le_length (by simp)]
    simp
  · rw [txt_size, txt_size]; simp
  · rw [txt_cut, ha]; rfl
  · rw [txt_cut, hb]; rfl
  · rw [txt_cut, hc]; rfl
  · intro h; rfl
  · intro h
    show (if e.v then (42 : UInt8) else 46).toNat = _
    cases e.v <;> rfl
  · intro h; rfl
  · intro h; rfl
  · intro h; rfl
end Go.Proofs.YthcjcdchmdgnjaaGreatDoor
