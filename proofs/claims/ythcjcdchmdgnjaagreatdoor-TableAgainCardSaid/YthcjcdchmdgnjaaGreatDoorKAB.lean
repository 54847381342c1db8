/-
  ref06.Print: the text of entries, or why there is none.
-/
import Derived.Test.YthcjcdchmdgnjaaGreatDoorKAA
import Derived.Lib.AppendStr
import Derived.Deep.RegionLaw
namespace Go.Proofs.YthcjcdchmdgnjaaGreatDoor
open Go.RowKit Go.WideShapes
set_option linter.unusedVariables false
theorem own_below {w w' : World} {base n size : Nat} {e : TypeId} {v : Value} {xs : List Value} (h : w.ownsRow base e size v n xs) (hb : Below w.heap.size w w') : w'.ownsRow base e size v n xs :=
  h.kept (row := none) ⟨hb.os, hb.tape, hb.output, hb.size, fun i hi _ => hb.block i hi⟩ (by cases v.ownBlock <;> simp)
theorem strCells_append (a b : List UInt8) : Lib.strCells (txt (a ++ b)) = Lib.strCells (txt a) ++ Lib.strCells (txt b) := by simp [Lib.strCells, txt]
theorem strCells_u8s (a : List UInt8) : Lib.strCells (txt a) = u8s (a.map UInt8.toNat) := by simp [Lib.strCells, txt, u8s]
theorem strOf_txt (a : List UInt8) : strOf (a.map UInt8.toNat) = txt a := by simp [strOf, txt, Function.comp_def]
theorem tabMay_zero {l : List EN} (h : 0 < l.length) : tabMay l 0 = l[0].may := by simp [tabMay, h]
theorem tabMay_succ {l : List EN} {j : Nat} (h : j + 1 < l.length) : tabMay l (j + 1) = (l[j + 1].may && decide (ahead l[j].pts l[j + 1].pts < 0)) := by
  simp [tabMay, h, show j < l.length by omega]
theorem range_succ {p : Nat → Bool} {k : Nat} (h : (List.range k).all p = true) (hp : p k = true) : (List.range (k + 1)).all p = true := by
  rw [List.range_succ, List.all_append, h]; simp [hp]
theorem why_many {l : List EN} (h : 4096 < l.length) : tabWhy l = 2 ∧ tabOut l = [] := by
  have : tabWhy l = 2 := by simp [tabWhy, h]
  exact ⟨this, by simp [tabOut, this]⟩
theorem why_bad {l : List EN} (h : ¬ 4096 < l.length) {k : Nat} (hk : k < l.length) (hp : tabMay l k = false) : tabWhy l = 1 ∧ tabOut l = [] := by
  have h1 : (List.range l.length).all (tabMay l) = false := by
    rw [List.all_eq_false]
    exact ⟨k, List.mem_range.2 hk, by simp [hp]⟩
  have : tabWhy l = 1 := by simp only [tabWhy, if_neg h, h1]; simp
  exact ⟨this, by simp [tabOut, this]⟩
theorem why_long {l : List EN} (h : ¬ 4096 < l.length) (hm : (List.range l.length).all (tabMay l) = true) (hl : 65536 < (tabText l).length) : tabWhy l = 2 ∧ tabOut l = [] := by
  have : tabWhy l = 2 := by simp only [tabWhy, if_neg h, hm, if_true, if_pos hl]
  exact ⟨this, by simp [tabOut, this]⟩
theorem why_ok {l : List EN} (h : ¬ 4096 < l.length) (hm : (List.range l.length).all (tabMay l) = true) (hl : ¬ 65536 < (tabText l).length) : tabWhy l = 0 ∧ tabOut l = tabText l := by
  have : tabWhy l = 0 := by simp only [tabWhy, if_neg h, hm, if_true, if_neg hl]
  exact ⟨this, by simp [tabOut, this]⟩
theorem all_may {l : List EN} (hm : (List.range l.length).all (tabMay l) = true) {k : Nat} (hk : k < l.length) : l[k].may = true := by
  have h1 := List.all_eq_true.1 hm k (List.mem_range.2 hk)
  cases k with
  | zero => rwa [tabMay_zero hk] at h1
  | succ j => rw [tabMay_succ hk, Bool.and_eq_true] at h1; exact h1.1
/-- The text of the first k entries. -/
def tabHead (l : List EN) (k : Nat) : List UInt8 := Lib.join ((l.take k).map EN.text) [10]
theorem tabHead_one {l : List EN} (h : 0 < l.length) : tabHead l 1 = l[0].text := by
  unfold tabHead
  rw [List.map_take, join_take_one (by simpa using h)]; simp
theorem tabHead_succ {l : List EN} {k : Nat} (hk : 0 < k) (h : k < l.length) : tabHead l (k + 1) = tabHead l k ++ [10] ++ l[k].text := by
  unfold tabHead
  rw [List.map_take, join_take_succ hk (by simpa using h), ← List.map_take]; simp
theorem tabHead_all (l : List EN) : tabHead l l.length = tabText l := by unfold tabHead tabText; rw [List.take_length]
theorem tabHead_len {l : List EN} (hm : (List.range l.length).all (tabMay l) = true) (k : Nat) : (tabHead l k).length ≤ (l.take k).length * 330 := by
  have g1 := join_len [10] 329 ((l.take k).map EN.text) fun y hy => by
    obtain ⟨x, hx, rfl⟩ := List.mem_map.1 hy
    obtain ⟨i, hi, rfl⟩ := List.getElem_of_mem (List.mem_of_mem_take hx)
    exact enText_few (all_may hm hi)
  rw [List.length_map] at g1
  exact g1
/-- An entry's cells. -/
theorem EntriesAt.at_ {w : World} {B : Nat} {l : List EN} {b o : Nat} (h : EntriesAt w B l (some ⟨b, o, none⟩)) {i : Nat} (hi : i < l.length) : b < B ∧ ∃ v1 v2, w.cell? ⟨b, o + i * 2, none⟩ = some v1 ∧ w.cell? ⟨b, o + i * 2 + 1, none⟩ = some v2 ∧ EntAt w B l[i] v1 v2 := by
  obtain ⟨b', o', v1, v2, e, hb, h1, h2, h3⟩ := h.get hi
  injection e with e
  injection e with e1 e2
  subst e1 e2
  exact ⟨hb, v1, v2, by rw [Nat.mul_comm]; exact h1, by rw [Nat.mul_comm]; exact h2, h3⟩
theorem EntriesAt.some {w : World} {B : Nat} {l : List EN} {A : Option Addr} (h : EntriesAt w B l A) (hl : 0 < l.length) : ∃ b o, A = some ⟨b, o, none⟩ := by
  obtain ⟨b, o, _, _, e, _⟩ := h.get hl
  exact ⟨b, o, e⟩
/-- What comes back. -/
def PrtPost (l : List EN) (w : World) (e : Ending) (w' : World) : Prop := e = .returned (.tuple #[.string (txt (tabOut l)), .int .i64 (tabWhy l)]) ∧ Below w.heap.size w w'
theorem PrtPost.of {l : List EN} {w w' : World} {s : ByteArray} {c : Int} (h : c = tabWhy l) (h2 : s = txt (tabOut l)) (hb : Below w.heap.size w w') : PrtPost l w (.returned (.tuple #[.string s, .int .i64 c])) w' := ⟨by rw [h, h2], hb⟩
end Go.Proofs.YthcjcdchmdgnjaaGreatDoor
