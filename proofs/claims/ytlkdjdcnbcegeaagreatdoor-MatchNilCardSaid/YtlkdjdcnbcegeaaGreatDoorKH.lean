/-
  Marks and their text, in plain words.
-/
import Derived.Test.YtlkdjdcnbcegeaaGreatDoorKG
import Derived.Lib.ItoaNum
namespace Go.Proofs.YtlkdjdcnbcegeaaGreatDoor
set_option linter.unusedVariables false
/-- A mark. -/
structure MK where
  pt : Int
  cls : Int
  parts : List Int
def sylB (p : Int) : Bool := decide (44032 ≤ p ∧ p ≤ 55203)
def fitsB (p : Int) : Bool := pointB p && !sylB p
def MK.may (m : MK) : Bool := fitsB m.pt && decide (0 ≤ m.cls ∧ m.cls ≤ 254) && m.parts.all fitsB
def MK.head (m : MK) : List UInt8 := hexW m.pt.toNat ++ [59] ++ Lib.decDigits m.cls.toNat ++ [59]
def MK.text (m : MK) : List UInt8 := m.head ++ ptsText m.parts
def mkMay (l : List MK) (i : Nat) : Bool := match l[i]? with
  | none => true
  | some x => x.may && (decide (i = 0) || (match l[i - 1]? with
    | none => true
    | some y => decide (y.pt < x.pt)))
def ucdText (l : List MK) : List UInt8 := Lib.join (l.map MK.text) [10]
def ucdWhy (l : List MK) : Int := if 4096 < l.length then 2 else if (List.range l.length).all (mkMay l) then (if 65536 < (ucdText l).length then 2 else 0) else 1
def ucdOut (l : List MK) : List UInt8 := if ucdWhy l = 0 then ucdText l else []
theorem fits_point {p : Int} (h : fitsB p = true) : 0 ≤ p ∧ p ≤ 1114111 := by
  unfold fitsB at h
  rw [Bool.and_eq_true] at h
  exact pointB_of h.1
theorem fits_all {l : List Int} (h : l.all fitsB = true) : l.all pointB = true := List.all_eq_true.2 fun x hx => by
  have := List.all_eq_true.1 h x hx
  unfold fitsB at this
  rw [Bool.and_eq_true] at this
  exact this.1
theorem mkMay_zero {l : List MK} (h : 0 < l.length) : mkMay l 0 = l[0].may := by simp [mkMay, h]
theorem mkMay_succ {l : List MK} {j : Nat} (h : j + 1 < l.length) : mkMay l (j + 1) = (l[j + 1].may && decide (l[j].pt < l[j + 1].pt)) := by
  simp [mkMay, h, show j < l.length by omega]
theorem mk_may {l : List MK} {k : Nat} (hk : k < l.length) (hm : mkMay l k = true) : l[k].may = true := by
  cases k with
  | zero => rwa [mkMay_zero hk] at hm
  | succ j => rw [mkMay_succ hk, Bool.and_eq_true] at hm; exact hm.1
theorem mk_not {l : List MK} {k : Nat} (hk : k < l.length) (hm : l[k].may = false) : mkMay l k = false := by
  cases k with
  | zero => rw [mkMay_zero hk]; exact hm
  | succ j => rw [mkMay_succ hk, hm]; rfl
theorem why_many {l : List MK} (h : 4096 < l.length) : ucdWhy l = 2 ∧ ucdOut l = [] := by
  have : ucdWhy l = 2 := by simp [ucdWhy, h]
  exact ⟨this, by simp [ucdOut, this]⟩
theorem why_bad {l : List MK} (h : ¬ 4096 < l.length) {k : Nat} (hk : k < l.length) (hp : mkMay l k = false) : ucdWhy l = 1 ∧ ucdOut l = [] := by
  have h1 : (List.range l.length).all (mkMay l) = false := by
    rw [List.all_eq_false]
    exact ⟨k, List.mem_range.2 hk, by simp [hp]⟩
  have : ucdWhy l = 1 := by simp only [ucdWhy, if_neg h, h1]; simp
  exact ⟨this, by simp [ucdOut, this]⟩
theorem why_long {l : List MK} (h : ¬ 4096 < l.length) (hm : (List.range l.length).all (mkMay l) = true) (hl : 65536 < (ucdText l).length) : ucdWhy l = 2 ∧ ucdOut l = [] := by
  have : ucdWhy l = 2 := by simp only [ucdWhy, if_neg h, hm, if_true, if_pos hl]
  exact ⟨this, by simp [ucdOut, this]⟩
theorem why_ok {l : List MK} (h : ¬ 4096 < l.length) (hm : (List.range l.length).all (mkMay l) = true) (hl : ¬ 65536 < (ucdText l).length) : ucdWhy l = 0 ∧ ucdOut l = ucdText l := by
  have : ucdWhy l = 0 := by simp only [ucdWhy, if_neg h, hm, if_true, if_neg hl]
  exact ⟨this, by simp [ucdOut, this]⟩
theorem all_mk {l : List MK} (hm : (List.range l.length).all (mkMay l) = true) {k : Nat} (hk : k < l.length) : l[k].may = true := mk_may hk (List.all_eq_true.1 hm k (List.mem_range.2 hk))
theorem may_of {m : MK} (h : m.may = true) : fitsB m.pt = true ∧ (0 ≤ m.cls ∧ m.cls ≤ 254) ∧ m.parts.all fitsB = true := by
  unfold MK.may at h
  simp only [Bool.and_eq_true, decide_eq_true_eq] at h
  exact ⟨h.1.1, h.1.2, h.2⟩
theorem dec_three {u : Nat} (h : u ≤ 254) : 1 ≤ (Lib.decDigits u).length ∧ (Lib.decDigits u).length ≤ 3 := by
  rw [Lib.decDigits]
  split
  · simp
  · rw [Lib.decDigits]
    split
    · simp
    · rw [Lib.decDigits]
      split
      · simp
      · omega
theorem head_len {m : MK} (h : m.may = true) : 7 ≤ m.head.length ∧ m.head.length ≤ 11 := by
  obtain ⟨h1, h2, _⟩ := may_of h
  obtain ⟨p1, p2⟩ := fits_point h1
  have a := hexW_four m.pt.toNat
  have b := hexW_few (n := m.pt.toNat) (by omega)
  have c := dec_three (u := m.cls.toNat) (by omega)
  unfold MK.head
  simp only [List.length_append, List.length_singleton]
  omega
theorem join_ge (sep : List UInt8) (q : Nat) : ∀ l : List (List UInt8), (∀ x ∈ l, q ≤ x.length) → l.length * (q + sep.length) ≤ (Lib.join l sep).length + sep.length
  | [], _ => by simp [Lib.join_nil]
  | x :: r, h => by
    rw [Lib.join_cons, List.length_append]
    have h1 := h x (by simp)
    have h2 : r.length * (q + sep.length) ≤ (Lib.joinTail sep r).length := by
      rw [Lib.joinTail_length]
      have h3 : r.length * q ≤ Lib.lens r := by
        have : ∀ r : List (List UInt8), (∀ x ∈ r, q ≤ x.length) → r.length * q ≤ Lib.lens r := by
          intro r
          induction r with
          | nil => intro _; simp [Lib.lens]
          | cons y r ih =>
            intro hr
            have g1 := ih fun x hx => hr x (by simp [hx])
            have g2 := hr y (by simp)
            simp only [Lib.lens, List.map_cons, List.sum_cons] at g1 ⊢
            rw [List.length_cons, Nat.succ_mul]
            omega
        exact this r fun x hx => h x (by simp [hx])
      rw [Nat.mul_add, Nat.mul_comm sep.length]
      omega
    rw [List.length_cons, Nat.succ_mul]
    omega
theorem pts_ge (l : List Int) : l.length * 5 ≤ (ptsText l).length + 1 := by
  have := join_ge [32] 4 (l.map fun p => hexW p.toNat) fun y hy => by
    obtain ⟨p, _, rfl⟩ := List.mem_map.1 hy
    exact hexW_four _
  rw [List.length_map] at this
  exact this
/-- The text of the first k marks. -/
def ucdHead (l : List MK) (k : Nat) : List UInt8 := Lib.join ((l.take k).map MK.text) [10]
theorem ucdHead_one {l : List MK} (h : 0 < l.length) : ucdHead l 1 = l[0].text := by
  unfold ucdHead
  rw [List.map_take, join_take_one (by simpa using h)]; simp
theorem ucdHead_succ {l : List MK} {k : Nat} (hk : 0 < k) (h : k < l.length) : ucdHead l (k + 1) = ucdHead l k ++ [10] ++ l[k].text := by
  unfold ucdHead
  rw [List.map_take, join_take_succ hk (by simpa using h), ← List.map_take]; simp
theorem ucdHead_all (l : List MK) : ucdHead l l.length = ucdText l := by unfold ucdHead ucdText; rw [List.take_length]
theorem ucdHead_mono {l : List MK} {k : Nat} (hk : k ≤ l.length) : (ucdHead l k).length ≤ (ucdText l).length := by
  obtain ⟨d, hd⟩ : ∃ d, l.length = k + d := ⟨l.length - k, by omega⟩
  rw [← ucdHead_all, hd]
  clear hk
  induction d with
  | zero => exact Nat.le_refl _
  | succ d ih =>
    have ih' : (ucdHead l k).length ≤ (ucdHead l (k + d)).length := by
      rcases Nat.eq_zero_or_pos d with rfl | h0
      · exact Nat.le_refl _
      · clear ih
        have : ∀ e, k + e ≤ l.length → (ucdHead l k).length ≤ (ucdHead l (k + e)).length := by
          intro e
          induction e with
          | zero => intro _; exact Nat.le_refl _
          | succ e ihe =>
            intro he
            have h1 := ihe (by omega)
            rcases Nat.eq_zero_or_pos (k + e) with h0 | h0
            · have : k = 0 := by omega
              subst this
              simp [ucdHead, Lib.join_nil]
            · rw [show k + (e + 1) = k + e + 1 by omega, ucdHead_succ h0 (by omega), List.length_append, List.length_append]
              omega
        exact this d (by omega)
    rcases Nat.eq_zero_or_pos (k + d) with h0 | h0
    · have : k = 0 := by omega
      subst this
      simp [ucdHead, Lib.join_nil]
    · rw [show k + (d + 1) = k + d + 1 by omega, ucdHead_succ h0 (by omega), List.length_append, List.length_append]
      omega
end Go.Proofs.YtlkdjdcnbcegeaaGreatDoor
