/-
  Values as trees, and how they lie in memory.
-/
import Derived.Test.YtcjllhdbepchnaaGreatDoorLF
import Derived.Deep.AppendLies
import Derived.OwnWalk
import Derived.Deep.RegionLaw
import Derived.Test.YtcjllhdbepchnaaGreatDoorLT
import Derived.Stop.Asserts
import Derived.Handy
/-! Values as trees, and how they lie in memory. -/
namespace Go.Proofs.YtcjllhdbepchnaaGreatDoor
open Go.RowKit
set_option linter.unusedVariables false
mutual
/-- What reads as the value of a part, in blocks of S. -/
def ValueAt (w : World) (S : Nat → Prop) : PT → Value → Prop
  | .mk k y b m r l, v =>
    if k = 0 then v = .nilIface
    else if k = 1 then v = .iface 124 (.agg #[.bool y])
    else if k = 2 then v = .iface 126 (.agg #[.bool b, .string m]) ∧ m.size ≤ maxLen
    else if k = 7 then ∃ a c, v = .iface 109 (.agg #[.slice a l.length c]) ∧ l.length ≤ c ∧ c ≤ maxLen ∧ ValuesAt w S l a
    else v = .iface 128 (.agg #[.int .u8 k, .string r]) ∧ r.size ≤ maxLen ∧ k < 256
/-- Values that lie one behind the other. -/
def ValuesAt (w : World) (S : Nat → Prop) : List PT → Option Addr → Prop
  | [], _ => True
  | t :: l, a => ∃ b o u, a = some ⟨b, o, none⟩ ∧ S b ∧ w.cell? ⟨b, o, none⟩ = some u ∧ ValueAt w S t u ∧ ValuesAt w S l (some ⟨b, o + 1, none⟩)
end
section
variable {w w' : World} {S S' : Nat → Prop}
mutual
theorem ValueAt.keep (hk : ∀ p : Addr, S p.block → w'.cell? p = w.cell? p) : ∀ (t : PT) (v : Value), ValueAt w S t v → ValueAt w' S t v
  | .mk k y b m r l, v, h => by
    unfold ValueAt at h ⊢
    by_cases k0 : k = 0
    · rw [if_pos k0] at h ⊢; exact h
    · rw [if_neg k0] at h ⊢
      by_cases k1 : k = 1
      · rw [if_pos k1] at h ⊢; exact h
      · rw [if_neg k1] at h ⊢
        by_cases k2 : k = 2
        · rw [if_pos k2] at h ⊢; exact h
        · rw [if_neg k2] at h ⊢
          by_cases k7 : k = 7
          · rw [if_pos k7] at h ⊢
            obtain ⟨a, c, e, h1, h2, h3⟩ := h
            exact ⟨a, c, e, h1, h2, ValuesAt.keep hk l a h3⟩
          · rw [if_neg k7] at h ⊢; exact h
theorem ValuesAt.keep (hk : ∀ p : Addr, S p.block → w'.cell? p = w.cell? p) : ∀ (l : List PT) (a : Option Addr), ValuesAt w S l a → ValuesAt w' S l a
  | [], _, _ => trivial
  | t :: l, a, h => by
    obtain ⟨b, o, u, e, hb, hc, h1, h2⟩ := h
    exact ⟨b, o, u, e, hb, (hk _ hb).trans hc, ValueAt.keep hk t u h1, ValuesAt.keep hk l _ h2⟩
end
mutual
theorem ValueAt.more (hB : ∀ b, S b → S' b) : ∀ (t : PT) (v : Value), ValueAt w S t v → ValueAt w S' t v
  | .mk k y b m r l, v, h => by
    unfold ValueAt at h ⊢
    by_cases k0 : k = 0
    · rw [if_pos k0] at h ⊢; exact h
    · rw [if_neg k0] at h ⊢
      by_cases k1 : k = 1
      · rw [if_pos k1] at h ⊢; exact h
      · rw [if_neg k1] at h ⊢
        by_cases k2 : k = 2
        · rw [if_pos k2] at h ⊢; exact h
        · rw [if_neg k2] at h ⊢
          by_cases k7 : k = 7
          · rw [if_pos k7] at h ⊢
            obtain ⟨a, c, e, h1, h2, h3⟩ := h
            exact ⟨a, c, e, h1, h2, ValuesAt.more hB l a h3⟩
          · rw [if_neg k7] at h ⊢; exact h
theorem ValuesAt.more (hB : ∀ b, S b → S' b) : ∀ (l : List PT) (a : Option Addr), ValuesAt w S l a → ValuesAt w S' l a
  | [], _, _ => trivial
  | t :: l, a, h => by
    obtain ⟨b, o, u, e, hb, hc, h1, h2⟩ := h
    exact ⟨b, o, u, e, hB b hb, hc, ValueAt.more hB t u h1, ValuesAt.more hB l _ h2⟩
end
theorem ValueAt.below {B : Nat} {t : PT} {v : Value} (h : ValueAt w (· < B) t v) (hb : Below B w w') : ValueAt w' (· < B) t v := ValueAt.keep (fun _ hp => hb.cell hp) t v h
theorem ValuesAt.below {B : Nat} {l : List PT} {a : Option Addr} (h : ValuesAt w (· < B) l a) (hb : Below B w w') : ValuesAt w' (· < B) l a := ValuesAt.keep (fun _ hp => hb.cell hp) l a h
theorem ValueAt.wide {B B' : Nat} {t : PT} {v : Value} (h : ValueAt w (· < B) t v) (hB : B ≤ B') : ValueAt w (· < B') t v := ValueAt.more (fun b hb => Nat.lt_of_lt_of_le hb hB) _ _ h
theorem ValuesAt.wide {B B' : Nat} {l : List PT} {a : Option Addr} (h : ValuesAt w (· < B) l a) (hB : B ≤ B') : ValuesAt w (· < B') l a := ValuesAt.more (fun b hb => Nat.lt_of_lt_of_le hb hB) _ _ h
/-- The value at a place. -/
theorem ValuesAt.get : ∀ {l : List PT} {a : Option Addr}, ValuesAt w S l a → ∀ {i : Nat} (hi : i < l.length), ∃ b o u, a = some ⟨b, o, none⟩ ∧ S b ∧ w.cell? ⟨b, o + i, none⟩ = some u ∧ ValueAt w S l[i] u
  | [], _, _, i, hi => absurd hi (Nat.not_lt_zero i)
  | t :: l, a, h, i, hi => by
    obtain ⟨b, o, u, e, hb, hc, h1, h2⟩ := h
    cases i with
    | zero => exact ⟨b, o, u, e, hb, hc, h1⟩
    | succ i =>
      have hi' : i < l.length := by simpa using hi
      obtain ⟨b', o', u', e', hb', hc', h1'⟩ := ValuesAt.get h2 hi'
      simp only [Option.some.injEq, Addr.mk.injEq, and_true] at e'
      obtain ⟨rfl, rfl⟩ := e'
      exact ⟨b, o, u', e, hb, by rw [show o + (i + 1) = o + 1 + i by omega]; exact hc', h1'⟩
theorem ValuesAt.of_get : ∀ {l : List PT} {b o : Nat}, (l = [] ∨ S b) → (∀ i (hi : i < l.length), ∃ u, w.cell? ⟨b, o + i, none⟩ = some u ∧ ValueAt w S l[i] u) → ValuesAt w S l (some ⟨b, o, none⟩)
  | [], _, _, _, _ => trivial
  | t :: l, b, o, hb, h => by
    have hb' : S b := hb.resolve_left (by simp)
    obtain ⟨u, h1, h2⟩ := h 0 (by simp)
    refine ⟨b, o, u, rfl, hb', by simpa using h1, by simpa using h2, ValuesAt.of_get (.inr hb') fun i hi => ?_⟩
    obtain ⟨u, h1, h2⟩ := h (i + 1) (by simpa using hi)
    exact ⟨u, by rw [show o + 1 + i = o + (i + 1) by omega]; exact h1, by simpa using h2⟩
/-- By kind. -/
theorem ValueAt.null {t : PT} {v : Value} (hk : t.kind = 0) : ValueAt w S t v ↔ v = .nilIface := by
  cases t; simp only [PT.kind] at hk; subst hk; simp [ValueAt]
theorem ValueAt.truth {t : PT} {v : Value} (hk : t.kind = 1) : ValueAt w S t v ↔ v = .iface 124 (.agg #[.bool t.yes]) := by
  cases t; simp only [PT.kind] at hk; subst hk; simp [ValueAt, PT.yes]
theorem ValueAt.whole {t : PT} {v : Value} (hk : t.kind = 2) : ValueAt w S t v ↔ v = .iface 126 (.agg #[.bool t.bel, .string t.mag]) ∧ t.mag.size ≤ maxLen := by
  cases t; simp only [PT.kind] at hk; subst hk; simp [ValueAt, PT.bel, PT.mag]
theorem ValueAt.tuple {t : PT} {v : Value} (hk : t.kind = 7) : ValueAt w S t v ↔ ∃ a c, v = .iface 109 (.agg #[.slice a t.items.length c]) ∧ t.items.length ≤ c ∧ c ≤ maxLen ∧ ValuesAt w S t.items a := by
  cases t; simp only [PT.kind] at hk; subst hk; simp [ValueAt, PT.items]
theorem ValueAt.row {t : PT} {v : Value} (h0 : t.kind ≠ 0) (h1 : t.kind ≠ 1) (h2 : t.kind ≠ 2) (h7 : t.kind ≠ 7) : ValueAt w S t v ↔ v = .iface 128 (.agg #[.int .u8 t.kind, .string t.raw]) ∧ t.raw.size ≤ maxLen ∧ t.kind < 256 := by
  cases t; simp only [PT.kind] at h0 h1 h2 h7; simp [ValueAt, PT.kind, PT.raw, h0, h1, h2, h7]
theorem ValueAt.one {t : PT} {v : Value} (h : ValueAt w S t v) : v.oneCell' = true := by
  cases t
  unfold ValueAt at h
  split at h
  · subst h; rfl
  · split at h
    · subst h; rfl
    · split at h
      · obtain ⟨rfl, _⟩ := h; rfl
      · split at h
        · obtain ⟨a, c, rfl, _⟩ := h; rfl
        · obtain ⟨rfl, _⟩ := h; rfl
end
end Go.Proofs.YtcjllhdbepchnaaGreatDoor

/-! value.may: may a part be? (Parts that are no tuples.) -/
namespace Go.Proofs.YtcjllhdbepchnaaGreatDoor
open Go.RowKit Go.WideShapes
set_option linter.unusedVariables false
theorem toList_nil {m : ByteArray} : m.toList = [] ↔ m.size = 0 := by
  rw [ByteArray.toList_eq]; cases m with | mk d => cases d with | mk l => simp [ByteArray.size]
theorem toList_emp {m : ByteArray} : m.toList.isEmpty = (m.size == 0) := by
  rw [ByteArray.toList_eq]; cases m with | mk d => cases d with | mk l => cases l <;> simp [ByteArray.size]
theorem len_nil {l : List PT} : ((l.length : Int) == 0) = l.isEmpty := by cases l <;> simp; omega
set_option maxRecDepth 100000 in
set_option maxHeartbeats 1000000 in
theorem vmay_0 (y b : Bool) (m r : ByteArray) (l : List PT) (a : Option Addr) (c : Nat) (w : World) (hm : m.size ≤ maxLen) (hr : r.size ≤ maxLen) :
    Calls Tryz.prog 41 #[.agg (partCells (.mk 0 y b m r l) a c).toArray] w (Ret (.bool (PT.may (.mk 0 y b m r l))) w) := by
  have HB := Lib.hid (fun o => (Below.refl w.heap.size w).alloc (Nat.le_refl _) o)
  have HM := Lib.hid hm
  unfold maxLen at hm hr
  simp only [partCells, PT.kind, PT.yes, PT.bel, PT.mag, PT.raw, PT.items]
  go_enter Tryz.func41, Tryz.ntmps41
  go_wp2_with fail
  all_goals (go_ret; refine ⟨ret_bool ?_, HB.out _⟩)
  all_goals simp_all [PT.may, toList_nil, toList_emp, len_nil]
set_option maxRecDepth 100000 in
set_option maxHeartbeats 1000000 in
theorem vmay_1 (y b : Bool) (m r : ByteArray) (l : List PT) (a : Option Addr) (c : Nat) (w : World) (hm : m.size ≤ maxLen) (hr : r.size ≤ maxLen) :
    Calls Tryz.prog 41 #[.agg (partCells (.mk 1 y b m r l) a c).toArray] w (Ret (.bool (PT.may (.mk 1 y b m r l))) w) := by
  have HB := Lib.hid (fun o => (Below.refl w.heap.size w).alloc (Nat.le_refl _) o)
  have HM := Lib.hid hm
  unfold maxLen at hm hr
  simp only [partCells, PT.kind, PT.yes, PT.bel, PT.mag, PT.raw, PT.items]
  go_enter Tryz.func41, Tryz.ntmps41
  go_wp2_with fail
  all_goals (go_ret; refine ⟨ret_bool ?_, HB.out _⟩)
  all_goals simp_all [PT.may, toList_nil, toList_emp, len_nil]
set_option maxRecDepth 100000 in
set_option maxHeartbeats 1000000 in
theorem vmay_3 (y b : Bool) (m r : ByteArray) (l : List PT) (a : Option Addr) (c : Nat) (w : World) (hm : m.size ≤ maxLen) (hr : r.size ≤ maxLen) :
    Calls Tryz.prog 41 #[.agg (partCells (.mk 3 y b m r l) a c).toArray] w (Ret (.bool (PT.may (.mk 3 y b m r l))) w) := by
  have HB := Lib.hid (fun o => (Below.refl w.heap.size w).alloc (Nat.le_refl _) o)
  have HM := Lib.hid hm
  unfold maxLen at hm hr
  simp only [partCells, PT.kind, PT.yes, PT.bel, PT.mag, PT.raw, PT.items]
  go_enter Tryz.func41, Tryz.ntmps41
  go_wp2_with fail
  all_goals (go_ret; refine ⟨ret_bool ?_, HB.out _⟩)
  all_goals simp_all [PT.may, toList_nil, len_nil]
  all_goals omega
set_option maxRecDepth 100000 in
set_option maxHeartbeats 1000000 in
theorem vmay_4 (y b : Bool) (m r : ByteArray) (l : List PT) (a : Option Addr) (c : Nat) (w : World) (hm : m.size ≤ maxLen) (hr : r.size ≤ maxLen) :
    Calls Tryz.prog 41 #[.agg (partCells (.mk 4 y b m r l) a c).toArray] w (Ret (.bool (PT.may (.mk 4 y b m r l))) w) := by
  have HB := Lib.hid (fun o => (Below.refl w.heap.size w).alloc (Nat.le_refl _) o)
  have HM := Lib.hid hm
  unfold maxLen at hm hr
  simp only [partCells, PT.kind, PT.yes, PT.bel, PT.mag, PT.raw, PT.items]
  go_enter Tryz.func41, Tryz.ntmps41
  go_wp2_with fail
  all_goals (go_ret; refine ⟨ret_bool ?_, HB.out _⟩)
  all_goals simp_all [PT.may, toList_nil, len_nil]
  all_goals (rw [Bool.eq_iff_iff]; simp; omega)
set_option maxRecDepth 100000 in
set_option maxHeartbeats 1000000 in
theorem vmay_5 (y b : Bool) (m r : ByteArray) (l : List PT) (a : Option Addr) (c : Nat) (w : World) (hm : m.size ≤ maxLen) (hr : r.size ≤ maxLen) :
    Calls Tryz.prog 41 #[.agg (partCells (.mk 5 y b m r l) a c).toArray] w (Ret (.bool (PT.may (.mk 5 y b m r l))) w) := by
  have HB := Lib.hid (fun o => (Below.refl w.heap.size w).alloc (Nat.le_refl _) o)
  have HM := Lib.hid hm
  unfold maxLen at hm hr
  simp only [partCells, PT.kind, PT.yes, PT.bel, PT.mag, PT.raw, PT.items]
  go_enter Tryz.func41, Tryz.ntmps41
  go_wp2_with fail
  all_goals (go_ret; refine ⟨ret_bool ?_, HB.out _⟩)
  all_goals simp_all [PT.may, toList_nil, len_nil]
  all_goals omega
set_option maxRecDepth 100000 in
set_option maxHeartbeats 1000000 in
theorem vmay_6 (y b : Bool) (m r : ByteArray) (l : List PT) (a : Option Addr) (c : Nat) (w : World) (hm : m.size ≤ maxLen) (hr : r.size ≤ maxLen) :
    Calls Tryz.prog 41 #[.agg (partCells (.mk 6 y b m r l) a c).toArray] w (Ret (.bool (PT.may (.mk 6 y b m r l))) w) := by
  have HB := Lib.hid (fun o => (Below.refl w.heap.size w).alloc (Nat.le_refl _) o)
  have HM := Lib.hid hm
  unfold maxLen at hm hr
  simp only [partCells, PT.kind, PT.yes, PT.bel, PT.mag, PT.raw, PT.items]
  go_enter Tryz.func41, Tryz.ntmps41
  go_wp2_with fail
  all_goals (go_ret; refine ⟨ret_bool ?_, HB.out _⟩)
  all_goals simp_all [PT.may, toList_nil, len_nil]
  all_goals omega
set_option maxRecDepth 100000 in
set_option maxHeartbeats 1000000 in
theorem vmay_n (k : Nat) (hk8 : 8 ≤ k) (hk256 : k < 256) (y b : Bool) (m r : ByteArray) (l : List PT) (a : Option Addr) (c : Nat) (w : World) (hm : m.size ≤ maxLen) (hr : r.size ≤ maxLen) :
    Calls Tryz.prog 41 #[.agg (partCells (.mk k y b m r l) a c).toArray] w (Ret (.bool (PT.may (.mk k y b m r l))) w) := by
  have HB := Lib.hid (fun o => (Below.refl w.heap.size w).alloc (Nat.le_refl _) o)
  have HM := Lib.hid hm
  unfold maxLen at hm hr
  have hk_0 : k ≠ 0 := by omega
  have hk_1 : k ≠ 1 := by omega
  have hk_2 : k ≠ 2 := by omega
  have hk_3 : k ≠ 3 := by omega
  have hk_4 : k ≠ 4 := by omega
  have hk_5 : k ≠ 5 := by omega
  have hk_6 : k ≠ 6 := by omega
  have hk_7 : k ≠ 7 := by omega
  simp only [partCells, PT.kind, PT.yes, PT.bel, PT.mag, PT.raw, PT.items]
  go_enter Tryz.func41, Tryz.ntmps41
  go_wp2_with fail
  all_goals (go_ret; refine ⟨ret_bool ?_, HB.out _⟩)
  all_goals simp_all [PT.may, toList_nil, len_nil]
  all_goals omega
end Go.Proofs.YtcjllhdbepchnaaGreatDoor

/-! value.may of numbers and tuples. -/
namespace Go.Proofs.YtcjllhdbepchnaaGreatDoor
open Go.RowKit Go.WideShapes
set_option linter.unusedVariables false
set_option maxRecDepth 100000 in
set_option maxHeartbeats 1000000 in
theorem vmay_2 (y b : Bool) (m r : ByteArray) (l : List PT) (a : Option Addr) (c : Nat) (w : World) (hm : m.size ≤ maxLen) (hr : r.size ≤ maxLen) :
    Calls Tryz.prog 41 #[.agg (partCells (.mk 2 y b m r l) a c).toArray] w (Ret (.bool (PT.may (.mk 2 y b m r l))) w) := by
  have HB := Lib.hid (fun o => (Below.refl w.heap.size w).alloc (Nat.le_refl _) o)
  have HN := Lib.hid (fun w => natCheck_any b m w hm)
  have HM := Lib.hid (fun W n (h : Below n w W) => h)
  unfold maxLen at hm hr
  simp only [partCells, PT.kind, PT.yes, PT.bel, PT.mag, PT.raw, PT.items]
  go_enter Tryz.func41, Tryz.ntmps41
  go_wp2_with fail
  all_goals (first
    | (go_ret; refine ⟨ret_bool ?_, HB.out _⟩; simp_all [PT.may, toList_nil, len_nil]; done)
    | skip)
  refine (HN.out _).mono ?_
  rintro e w' ⟨rfl, hb⟩
  have HB' := Lib.hid ((HB.out _).trans (hb.mono (by simp)))
  go_wp2_with fail
  go_ret
  refine ⟨ret_bool ?_, HB'.out⟩
  simp_all [PT.may, toList_nil, len_nil, numWhy_ok]
theorem PT.mayL_at {l : List PT} {k : Nat} (hk : k < l.length) (h : l[k].may = false) : PT.mayL l = false := by
  cases hd : PT.mayL l with
  | false => rfl
  | true => exact absurd (PT.mayL_iff.1 hd l[k] (List.getElem_mem hk)) (by rw [h]; simp)
theorem PT.mayL_all {l : List PT} (h : ∀ j (hj : j < l.length), l[j].may = true) : PT.mayL l = true :=
  PT.mayL_iff.2 fun x hx => by obtain ⟨j, hj, rfl⟩ := List.getElem_of_mem hx; exact h j hj
set_option maxRecDepth 100000 in
set_option maxHeartbeats 1000000 in
theorem vmay_7 (y b : Bool) (m r : ByteArray) (l : List PT) (a : Option Addr) (c : Nat) (w : World) (hm : m.size ≤ maxLen) (hr : r.size ≤ maxLen) (hl : PartsAt w (· < w.heap.size) l a)
    (ih : ∀ x ∈ l, ∀ (a : Option Addr) (c : Nat) (w : World), PartAt w (· < w.heap.size) x (partCells x a c) → Calls Tryz.prog 41 #[.agg (partCells x a c).toArray] w (Ret (.bool x.may) w)) :
    Calls Tryz.prog 41 #[.agg (partCells (.mk 7 y b m r l) a c).toArray] w (Ret (.bool (PT.may (.mk 7 y b m r l))) w) := by
  have HB := Lib.hid (fun o => (Below.refl w.heap.size w).alloc (Nat.le_refl _) o)
  have HI := Lib.hid hl
  have HIH := Lib.hid ih
  clear hl ih
  unfold maxLen at hm hr
  show Calls Tryz.prog 41 #[.agg #[.int .u8 7, .bool y, .bool b, .string m, .string r, .slice a l.length c]] w _
  by_cases hg : y = false ∧ b = false ∧ m.size = 0 ∧ r.size = 0 ∧ l.length ≤ 1024
  · obtain ⟨rfl, rfl, hm0, hr0, hl0⟩ := hg
    obtain rfl := ba_nil hm0
    obtain rfl := ba_nil hr0
    have hl9 : l.length < 9223372036854775807 := by omega
    have HE := Lib.hid (show PT.may (.mk 7 false false ⟨#[]⟩ ⟨#[]⟩ l) = PT.mayL l by simp [PT.may, hl0]; intro _; rfl)
    clear hm hr hm0 hr0
    go_enter Tryz.func41, Tryz.ntmps41
    go_wp2_with fail
    have HL0 := Lib.hid hl0
    clear hl0
    repeat (rename (_ : Bool) = false => hh; clear hh)
    repeat (rename (_ : Bool) = true => hh; clear hh)
    try (rename (l.length : Int) ≤ 1024 => hh; clear hh)
    go_loopw [91] (fun i wr => ∃ (k : Nat), i = .int .i64 k ∧ k ≤ l.length ∧ Hid (∀ j (hj : j < l.length), j < k → l[j].may = true) ∧ Hid (Below w.heap.size w wr) ∧ w.heap.size < wr.heap.size) (fun i _ => l.length - (intOf i).toNat)
    case atStart => exact ⟨0, rfl, by omega, Lib.hid (fun j _ hj => absurd hj (Nat.not_lt_zero j)), Lib.hid (HB.out _), by simp⟩
    case round =>
      obtain ⟨k, rfl, hk, HN, HB1, hwz⟩ := hrel
      by_cases hlt : k < l.length
      · obtain ⟨b, o, a', c', rfl, hb, k0, k1, k2, k3, k4, k5, hpa⟩ := (HI.out.below HB1.out).cells hlt
        have HB2 := Lib.hid (HB1.out.alloc (by omega) (.cells (partCells l[k] a' c').toArray 30))
        have HR := Lib.hid (HIH.out l[k] (List.getElem_mem hlt) a' c' _ ((hpa.below (B := w.heap.size) ((Below.refl _ _).alloc (by omega) (.cells (partCells l[k] a' c').toArray 30))).wide (by simp; omega)))
        unfold partCells at HR HB2
        clear hpa
        go_wp2_with fail
        refine HR.out.mono ?_
        rintro e w' ⟨rfl, hg2⟩
        have HB' := Lib.hid (HB2.out.trans (hg2.mono (by simp; omega)))
        have hz' : wr.heap.size + 1 ≤ w'.heap.size := by have := hg2.size; simpa using this
        clear hg2 HR k0 k1 k2 k3 k4 k5 HB1 HB2
        cases hd : l[k].may with
        | false =>
          go_wp2_with fail
          go_ret
          exact ⟨ret_bool (HE.out.trans (PT.mayL_at hlt hd)).symm, HB'.out⟩
        | true =>
          go_wp2_with fail
          go_roundw
          case rel => exact ⟨k + 1, by go_num, by omega, Lib.hid (fun j hj hjk => (Nat.lt_succ_iff_lt_or_eq.1 hjk).elim (fun h => HN.out j hj h) (fun h => by subst h; exact hd)), HB', by omega⟩
          case measure => simp [intOf]; omega
      · go_wp2_with fail
        go_ret
        exact ⟨ret_bool (HE.out.trans (PT.mayL_all fun j hj => HN.out j hj (by omega))).symm, HB1.out⟩
  · have HG := Lib.hid hg
    clear hg
    go_enter Tryz.func41, Tryz.ntmps41
    go_wp2_with fail
    all_goals (first
      | (go_ret; refine ⟨ret_bool ?_, HB.out _⟩; simp_all [PT.may, toList_nil]; done)
      | (go_ret; refine ⟨ret_bool ?_, HB.out _⟩; simp_all [PT.may, toList_nil]; omega)
      | (exfalso; have := HG.out; simp_all [toList_nil]; done)
      | (exfalso; have := HG.out; simp_all [toList_nil]; omega)
      | trace_state)
end Go.Proofs.YtcjllhdbepchnaaGreatDoor

/-! ref09.May: may a part be? -/
namespace Go.Proofs.YtcjllhdbepchnaaGreatDoor
open Go.RowKit Go.WideShapes
set_option linter.unusedVariables false
set_option linter.unusedSimpArgs false
theorem vmay_any : ∀ (t : PT) (a : Option Addr) (c : Nat) (w : World), PartAt w (· < w.heap.size) t (partCells t a c) → Calls Tryz.prog 41 #[.agg (partCells t a c).toArray] w (Ret (.bool t.may) w) := by
  refine PT.all fun t ih => ?_
  intro a c w hp
  obtain ⟨a1, c1, e1, hk, hm, hr, hlc, hcm, hits⟩ := hp.open
  obtain ⟨rfl, rfl⟩ : a1 = a ∧ c1 = c := by simpa [partCells, eq_comm] using e1
  obtain ⟨k, y, b, m, r, l⟩ := t
  simp only [PT.kind, PT.mag, PT.raw, PT.items] at hk hm hr hits ih
  by_cases h8 : 8 ≤ k
  · exact vmay_n k h8 hk y b m r l a1 c1 w hm hr
  · obtain rfl | rfl | rfl | rfl | rfl | rfl | rfl | rfl : k = 0 ∨ k = 1 ∨ k = 2 ∨ k = 3 ∨ k = 4 ∨ k = 5 ∨ k = 6 ∨ k = 7 := by omega
    · exact vmay_0 y b m r l a1 c1 w hm hr
    · exact vmay_1 y b m r l a1 c1 w hm hr
    · exact vmay_2 y b m r l a1 c1 w hm hr
    · exact vmay_3 y b m r l a1 c1 w hm hr
    · exact vmay_4 y b m r l a1 c1 w hm hr
    · exact vmay_5 y b m r l a1 c1 w hm hr
    · exact vmay_6 y b m r l a1 c1 w hm hr
    · exact vmay_7 y b m r l a1 c1 w hm hr hits ih
theorem len_pos {l : List PT} : (0 < (l.length : Int)) ↔ l ≠ [] := by cases l <;> simp
set_option maxRecDepth 100000 in
set_option maxHeartbeats 2000000 in
theorem rmay_0 (y b : Bool) (m r : ByteArray) (l : List PT) (a : Option Addr) (c : Nat) (w : World) (hm : m.size ≤ maxLen) (hr : r.size ≤ maxLen) (hll : l.length ≤ maxLen) (hl : PartsAt w (· < w.heap.size) l a)
    (ih : ∀ x ∈ l, ∀ (a : Option Addr) (c : Nat) (w : World), PartAt w (· < w.heap.size) x (partCells x a c) → Calls Tryz.prog 39 #[.agg (partCells x a c).toArray] w (Ret (.bool x.may) w)) :
    Calls Tryz.prog 39 #[.agg (partCells (.mk 0 y b m r l) a c).toArray] w (Ret (.bool (PT.may (.mk 0 y b m r l))) w) := by
  have HB := Lib.hid (fun o o2 => ((Below.refl w.heap.size w).alloc (Nat.le_refl _) o).alloc (by simp : w.heap.size ≤ (w.alloc o).heap.size) o2)
  have HP := Lib.hid (fun o2 => (new_part w w.heap.size (.mk 0 y b m r l) a c 30 rfl).keep fun p hp => World.cell?_alloc_lt _ o2 p (by simp; omega))
  have HI := Lib.hid hl
  have HIH := Lib.hid ih
  have HN := Lib.hid (fun w => refNatCheck_any b m w hm)
  clear hl ih
  unfold maxLen at hm hr hll
  show Calls Tryz.prog 39 #[.agg #[.int .u8 0, .bool y, .bool b, .string m, .string r, .slice a l.length c]] w _
  by_cases hg : y = false ∧ b = false ∧ m.size = 0 ∧ r.size = 0 ∧ l = []
  · obtain ⟨rfl, rfl, hm0, hr0, rfl⟩ := hg
    obtain rfl := ba_nil hm0
    obtain rfl := ba_nil hr0
    have HE := Lib.hid (show PT.may (.mk 0 false false ⟨#[]⟩ ⟨#[]⟩ []) = PT.mayL [] by simp [PT.may, PT.mayL] <;> first | exact rfl | (intro _; exact rfl))
    go_enter Tryz.func39, Tryz.ntmps39
    go_wp2_with fail
    go_loopw [6] (fun i wr => i = .int .i64 0 ∧ Hid (Below w.heap.size w wr) ∧ Hid (CellsAt wr w.heap.size 0 (partCells (.mk 0 false false ⟨#[]⟩ ⟨#[]⟩ []) a c))) (fun i _ => 0)
    case atStart => exact ⟨rfl, Lib.hid (HB.out _ _), Lib.hid (HP.out _)⟩
    case round =>
      obtain ⟨rfl, HB1, HP1⟩ := hrel
      have hp5 := HP1.out 5 _ rfl
      go_wp2_with fail
      go_ret
      exact ⟨ret_bool HE.out.symm, HB1.out⟩
  · have HG := Lib.hid hg
    clear hg
    go_enter Tryz.func39, Tryz.ntmps39
    go_wp2_with fail
    all_goals (first
      | (go_ret; refine ⟨ret_bool ?_, HB.out _ _⟩; simp_all [PT.may, toList_nil, toList_emp, len_pos, List.length_pos_iff]; done)
      | (go_ret; refine ⟨ret_bool ?_, HB.out _ _⟩; simp_all [PT.may, toList_nil, toList_emp, len_pos, List.length_pos_iff]; omega)
      | (exfalso; have := HG.out; simp_all [toList_nil, toList_emp, len_pos, List.length_pos_iff]; done)
      | (exfalso; have := HG.out; simp_all [toList_nil, toList_emp, len_pos, List.length_pos_iff]; omega)
      | trace_state)
set_option maxRecDepth 100000 in
set_option maxHeartbeats 2000000 in
theorem rmay_1 (y b : Bool) (m r : ByteArray) (l : List PT) (a : Option Addr) (c : Nat) (w : World) (hm : m.size ≤ maxLen) (hr : r.size ≤ maxLen) (hll : l.length ≤ maxLen) (hl : PartsAt w (· < w.heap.size) l a)
    (ih : ∀ x ∈ l, ∀ (a : Option Addr) (c : Nat) (w : World), PartAt w (· < w.heap.size) x (partCells x a c) → Calls Tryz.prog 39 #[.agg (partCells x a c).toArray] w (Ret (.bool x.may) w)) :
    Calls Tryz.prog 39 #[.agg (partCells (.mk 1 y b m r l) a c).toArray] w (Ret (.bool (PT.may (.mk 1 y b m r l))) w) := by
  have HB := Lib.hid (fun o o2 => ((Below.refl w.heap.size w).alloc (Nat.le_refl _) o).alloc (by simp : w.heap.size ≤ (w.alloc o).heap.size) o2)
  have HP := Lib.hid (fun o2 => (new_part w w.heap.size (.mk 1 y b m r l) a c 30 rfl).keep fun p hp => World.cell?_alloc_lt _ o2 p (by simp; omega))
  have HI := Lib.hid hl
  have HIH := Lib.hid ih
  have HN := Lib.hid (fun w => refNatCheck_any b m w hm)
  clear hl ih
  unfold maxLen at hm hr hll
  show Calls Tryz.prog 39 #[.agg #[.int .u8 1, .bool y, .bool b, .string m, .string r, .slice a l.length c]] w _
  by_cases hg : b = false ∧ m.size = 0 ∧ r.size = 0 ∧ l = []
  · obtain ⟨rfl, hm0, hr0, rfl⟩ := hg
    obtain rfl := ba_nil hm0
    obtain rfl := ba_nil hr0
    have HE := Lib.hid (show PT.may (.mk 1 y false ⟨#[]⟩ ⟨#[]⟩ []) = PT.mayL [] by simp [PT.may, PT.mayL] <;> first | exact rfl | (intro _; exact rfl))
    go_enter Tryz.func39, Tryz.ntmps39
    go_wp2_with fail
    go_loopw [6] (fun i wr => i = .int .i64 0 ∧ Hid (Below w.heap.size w wr) ∧ Hid (CellsAt wr w.heap.size 0 (partCells (.mk 1 y false ⟨#[]⟩ ⟨#[]⟩ []) a c))) (fun i _ => 0)
    case atStart => exact ⟨rfl, Lib.hid (HB.out _ _), Lib.hid (HP.out _)⟩
    case round =>
      obtain ⟨rfl, HB1, HP1⟩ := hrel
      have hp5 := HP1.out 5 _ rfl
      go_wp2_with fail
      go_ret
      exact ⟨ret_bool HE.out.symm, HB1.out⟩
  · have HG := Lib.hid hg
    clear hg
    go_enter Tryz.func39, Tryz.ntmps39
    go_wp2_with fail
    all_goals (first
      | (go_ret; refine ⟨ret_bool ?_, HB.out _ _⟩; simp_all [PT.may, toList_nil, toList_emp, len_pos, List.length_pos_iff]; done)
      | (go_ret; refine ⟨ret_bool ?_, HB.out _ _⟩; simp_all [PT.may, toList_nil, toList_emp, len_pos, List.length_pos_iff]; omega)
      | (exfalso; have := HG.out; simp_all [toList_nil, toList_emp, len_pos, List.length_pos_iff]; done)
      | (exfalso; have := HG.out; simp_all [toList_nil, toList_emp, len_pos, List.length_pos_iff]; omega)
      | trace_state)
set_option maxRecDepth 100000 in
set_option maxHeartbeats 2000000 in
theorem rmay_2 (y b : Bool) (m r : ByteArray) (l : List PT) (a : Option Addr) (c : Nat) (w : World) (hm : m.size ≤ maxLen) (hr : r.size ≤ maxLen) (hll : l.length ≤ maxLen) (hl : PartsAt w (· < w.heap.size) l a)
    (ih : ∀ x ∈ l, ∀ (a : Option Addr) (c : Nat) (w : World), PartAt w (· < w.heap.size) x (partCells x a c) → Calls Tryz.prog 39 #[.agg (partCells x a c).toArray] w (Ret (.bool x.may) w)) :
    Calls Tryz.prog 39 #[.agg (partCells (.mk 2 y b m r l) a c).toArray] w (Ret (.bool (PT.may (.mk 2 y b m r l))) w) := by
  have HB := Lib.hid (fun o o2 => ((Below.refl w.heap.size w).alloc (Nat.le_refl _) o).alloc (by simp : w.heap.size ≤ (w.alloc o).heap.size) o2)
  have HP := Lib.hid (fun o2 => (new_part w w.heap.size (.mk 2 y b m r l) a c 30 rfl).keep fun p hp => World.cell?_alloc_lt _ o2 p (by simp; omega))
  have HI := Lib.hid hl
  have HIH := Lib.hid ih
  have HN := Lib.hid (fun w => refNatCheck_any b m w hm)
  clear hl ih
  unfold maxLen at hm hr hll
  show Calls Tryz.prog 39 #[.agg #[.int .u8 2, .bool y, .bool b, .string m, .string r, .slice a l.length c]] w _
  go_enter Tryz.func39, Tryz.ntmps39
  go_wp2_with fail
  all_goals (first
    | (go_ret; refine ⟨ret_bool ?_, HB.out _ _⟩; simp_all [PT.may, toList_nil, toList_emp, len_pos, List.length_pos_iff]; done)
    | (refine (HN.out _).mono ?_
       rintro e w' ⟨rfl, hb⟩
       have HB' := Lib.hid ((HB.out _ _).trans (hb.mono (by simp <;> omega)))
       go_wp2_with fail
       go_ret
       refine ⟨ret_bool ?_, HB'.out⟩
       simp_all [PT.may, toList_nil, len_pos, numWhy_ok]
       done)
    | trace_state)
set_option maxRecDepth 100000 in
set_option maxHeartbeats 2000000 in
theorem rmay_3 (y b : Bool) (m r : ByteArray) (l : List PT) (a : Option Addr) (c : Nat) (w : World) (hm : m.size ≤ maxLen) (hr : r.size ≤ maxLen) (hll : l.length ≤ maxLen) (hl : PartsAt w (· < w.heap.size) l a)
    (ih : ∀ x ∈ l, ∀ (a : Option Addr) (c : Nat) (w : World), PartAt w (· < w.heap.size) x (partCells x a c) → Calls Tryz.prog 39 #[.agg (partCells x a c).toArray] w (Ret (.bool x.may) w)) :
    Calls Tryz.prog 39 #[.agg (partCells (.mk 3 y b m r l) a c).toArray] w (Ret (.bool (PT.may (.mk 3 y b m r l))) w) := by
  have HB := Lib.hid (fun o o2 => ((Below.refl w.heap.size w).alloc (Nat.le_refl _) o).alloc (by simp : w.heap.size ≤ (w.alloc o).heap.size) o2)
  have HP := Lib.hid (fun o2 => (new_part w w.heap.size (.mk 3 y b m r l) a c 30 rfl).keep fun p hp => World.cell?_alloc_lt _ o2 p (by simp; omega))
  have HI := Lib.hid hl
  have HIH := Lib.hid ih
  have HN := Lib.hid (fun w => refNatCheck_any b m w hm)
  clear hl ih
  unfold maxLen at hm hr hll
  show Calls Tryz.prog 39 #[.agg #[.int .u8 3, .bool y, .bool b, .string m, .string r, .slice a l.length c]] w _
  by_cases hg : y = false ∧ b = false ∧ m.size = 0 ∧ r.size ≤ 65536 ∧ l = []
  · obtain ⟨rfl, rfl, hm0, hr0, rfl⟩ := hg
    obtain rfl := ba_nil hm0
    have HE := Lib.hid (show PT.may (.mk 3 false false ⟨#[]⟩ r []) = PT.mayL [] by simp [PT.may, PT.mayL, hr0] <;> first | exact rfl | (intro _; exact rfl))
    go_enter Tryz.func39, Tryz.ntmps39
    go_wp2_with fail
    go_loopw [6] (fun i wr => i = .int .i64 0 ∧ Hid (Below w.heap.size w wr) ∧ Hid (CellsAt wr w.heap.size 0 (partCells (.mk 3 false false ⟨#[]⟩ r []) a c))) (fun i _ => 0)
    case atStart => exact ⟨rfl, Lib.hid (HB.out _ _), Lib.hid (HP.out _)⟩
    case round =>
      obtain ⟨rfl, HB1, HP1⟩ := hrel
      have hp5 := HP1.out 5 _ rfl
      go_wp2_with fail
      go_ret
      exact ⟨ret_bool HE.out.symm, HB1.out⟩
  · have HG := Lib.hid hg
    clear hg
    go_enter Tryz.func39, Tryz.ntmps39
    go_wp2_with fail
    all_goals (first
      | (go_ret; refine ⟨ret_bool ?_, HB.out _ _⟩; simp_all [PT.may, toList_nil, toList_emp, len_pos, List.length_pos_iff]; done)
      | (go_ret; refine ⟨ret_bool ?_, HB.out _ _⟩; simp_all [PT.may, toList_nil, toList_emp, len_pos, List.length_pos_iff]; omega)
      | (exfalso; have := HG.out; simp_all [toList_nil, toList_emp, len_pos, List.length_pos_iff]; done)
      | (exfalso; have := HG.out; simp_all [toList_nil, toList_emp, len_pos, List.length_pos_iff]; omega)
      | trace_state)
set_option maxRecDepth 100000 in
set_option maxHeartbeats 2000000 in
theorem rmay_4 (y b : Bool) (m r : ByteArray) (l : List PT) (a : Option Addr) (c : Nat) (w : World) (hm : m.size ≤ maxLen) (hr : r.size ≤ maxLen) (hll : l.length ≤ maxLen) (hl : PartsAt w (· < w.heap.size) l a)
    (ih : ∀ x ∈ l, ∀ (a : Option Addr) (c : Nat) (w : World), PartAt w (· < w.heap.size) x (partCells x a c) → Calls Tryz.prog 39 #[.agg (partCells x a c).toArray] w (Ret (.bool x.may) w)) :
    Calls Tryz.prog 39 #[.agg (partCells (.mk 4 y b m r l) a c).toArray] w (Ret (.bool (PT.may (.mk 4 y b m r l))) w) := by
  have HB := Lib.hid (fun o o2 => ((Below.refl w.heap.size w).alloc (Nat.le_refl _) o).alloc (by simp : w.heap.size ≤ (w.alloc o).heap.size) o2)
  have HP := Lib.hid (fun o2 => (new_part w w.heap.size (.mk 4 y b m r l) a c 30 rfl).keep fun p hp => World.cell?_alloc_lt _ o2 p (by simp; omega))
  have HI := Lib.hid hl
  have HIH := Lib.hid ih
  have HN := Lib.hid (fun w => refNatCheck_any b m w hm)
  clear hl ih
  unfold maxLen at hm hr hll
  show Calls Tryz.prog 39 #[.agg #[.int .u8 4, .bool y, .bool b, .string m, .string r, .slice a l.length c]] w _
  by_cases hg : y = false ∧ b = false ∧ m.size = 0 ∧ r.size = 16 ∧ l = []
  · obtain ⟨rfl, rfl, hm0, hr0, rfl⟩ := hg
    obtain rfl := ba_nil hm0
    have HE := Lib.hid (show PT.may (.mk 4 false false ⟨#[]⟩ r []) = PT.mayL [] by simp [PT.may, PT.mayL, hr0] <;> first | exact rfl | (intro _; exact rfl))
    go_enter Tryz.func39, Tryz.ntmps39
    go_wp2_with fail
    go_loopw [6] (fun i wr => i = .int .i64 0 ∧ Hid (Below w.heap.size w wr) ∧ Hid (CellsAt wr w.heap.size 0 (partCells (.mk 4 false false ⟨#[]⟩ r []) a c))) (fun i _ => 0)
    case atStart => exact ⟨rfl, Lib.hid (HB.out _ _), Lib.hid (HP.out _)⟩
    case round =>
      obtain ⟨rfl, HB1, HP1⟩ := hrel
      have hp5 := HP1.out 5 _ rfl
      go_wp2_with fail
      go_ret
      exact ⟨ret_bool HE.out.symm, HB1.out⟩
  · have HG := Lib.hid hg
    clear hg
    go_enter Tryz.func39, Tryz.ntmps39
    go_wp2_with fail
    all_goals (first
      | (go_ret; refine ⟨ret_bool ?_, HB.out _ _⟩; simp_all [PT.may, toList_nil, toList_emp, len_pos, List.length_pos_iff]; done)
      | (go_ret; refine ⟨ret_bool ?_, HB.out _ _⟩; simp_all [PT.may, toList_nil, toList_emp, len_pos, List.length_pos_iff]; omega)
      | (exfalso; have := HG.out; simp_all [toList_nil, toList_emp, len_pos, List.length_pos_iff]; done)
      | (exfalso; have := HG.out; simp_all [toList_nil, toList_emp, len_pos, List.length_pos_iff]; omega)
      | trace_state)
set_option maxRecDepth 100000 in
set_option maxHeartbeats 2000000 in
theorem rmay_5 (y b : Bool) (m r : ByteArray) (l : List PT) (a : Option Addr) (c : Nat) (w : World) (hm : m.size ≤ maxLen) (hr : r.size ≤ maxLen) (hll : l.length ≤ maxLen) (hl : PartsAt w (· < w.heap.size) l a)
    (ih : ∀ x ∈ l, ∀ (a : Option Addr) (c : Nat) (w : World), PartAt w (· < w.heap.size) x (partCells x a c) → Calls Tryz.prog 39 #[.agg (partCells x a c).toArray] w (Ret (.bool x.may) w)) :
    Calls Tryz.prog 39 #[.agg (partCells (.mk 5 y b m r l) a c).toArray] w (Ret (.bool (PT.may (.mk 5 y b m r l))) w) := by
  have HB := Lib.hid (fun o o2 => ((Below.refl w.heap.size w).alloc (Nat.le_refl _) o).alloc (by simp : w.heap.size ≤ (w.alloc o).heap.size) o2)
  have HP := Lib.hid (fun o2 => (new_part w w.heap.size (.mk 5 y b m r l) a c 30 rfl).keep fun p hp => World.cell?_alloc_lt _ o2 p (by simp; omega))
  have HI := Lib.hid hl
  have HIH := Lib.hid ih
  have HN := Lib.hid (fun w => refNatCheck_any b m w hm)
  clear hl ih
  unfold maxLen at hm hr hll
  show Calls Tryz.prog 39 #[.agg #[.int .u8 5, .bool y, .bool b, .string m, .string r, .slice a l.length c]] w _
  by_cases hg : y = false ∧ b = false ∧ m.size = 0 ∧ r.size ≤ 65536 ∧ l = []
  · obtain ⟨rfl, rfl, hm0, hr0, rfl⟩ := hg
    obtain rfl := ba_nil hm0
    have HE := Lib.hid (show PT.may (.mk 5 false false ⟨#[]⟩ r []) = PT.mayL [] by simp [PT.may, PT.mayL, hr0] <;> first | exact rfl | (intro _; exact rfl))
    go_enter Tryz.func39, Tryz.ntmps39
    go_wp2_with fail
    go_loopw [6] (fun i wr => i = .int .i64 0 ∧ Hid (Below w.heap.size w wr) ∧ Hid (CellsAt wr w.heap.size 0 (partCells (.mk 5 false false ⟨#[]⟩ r []) a c))) (fun i _ => 0)
    case atStart => exact ⟨rfl, Lib.hid (HB.out _ _), Lib.hid (HP.out _)⟩
    case round =>
      obtain ⟨rfl, HB1, HP1⟩ := hrel
      have hp5 := HP1.out 5 _ rfl
      go_wp2_with fail
      go_ret
      exact ⟨ret_bool HE.out.symm, HB1.out⟩
  · have HG := Lib.hid hg
    clear hg
    go_enter Tryz.func39, Tryz.ntmps39
    go_wp2_with fail
    all_goals (first
      | (go_ret; refine ⟨ret_bool ?_, HB.out _ _⟩; simp_all [PT.may, toList_nil, toList_emp, len_pos, List.length_pos_iff]; done)
      | (go_ret; refine ⟨ret_bool ?_, HB.out _ _⟩; simp_all [PT.may, toList_nil, toList_emp, len_pos, List.length_pos_iff]; omega)
      | (exfalso; have := HG.out; simp_all [toList_nil, toList_emp, len_pos, List.length_pos_iff]; done)
      | (exfalso; have := HG.out; simp_all [toList_nil, toList_emp, len_pos, List.length_pos_iff]; omega)
      | trace_state)
set_option maxRecDepth 100000 in
set_option maxHeartbeats 2000000 in
theorem rmay_6 (y b : Bool) (m r : ByteArray) (l : List PT) (a : Option Addr) (c : Nat) (w : World) (hm : m.size ≤ maxLen) (hr : r.size ≤ maxLen) (hll : l.length ≤ maxLen) (hl : PartsAt w (· < w.heap.size) l a)
    (ih : ∀ x ∈ l, ∀ (a : Option Addr) (c : Nat) (w : World), PartAt w (· < w.heap.size) x (partCells x a c) → Calls Tryz.prog 39 #[.agg (partCells x a c).toArray] w (Ret (.bool x.may) w)) :
    Calls Tryz.prog 39 #[.agg (partCells (.mk 6 y b m r l) a c).toArray] w (Ret (.bool (PT.may (.mk 6 y b m r l))) w) := by
  have HB := Lib.hid (fun o o2 => ((Below.refl w.heap.size w).alloc (Nat.le_refl _) o).alloc (by simp : w.heap.size ≤ (w.alloc o).heap.size) o2)
  have HP := Lib.hid (fun o2 => (new_part w w.heap.size (.mk 6 y b m r l) a c 30 rfl).keep fun p hp => World.cell?_alloc_lt _ o2 p (by simp; omega))
  have HI := Lib.hid hl
  have HIH := Lib.hid ih
  have HN := Lib.hid (fun w => refNatCheck_any b m w hm)
  clear hl ih
  unfold maxLen at hm hr hll
  show Calls Tryz.prog 39 #[.agg #[.int .u8 6, .bool y, .bool b, .string m, .string r, .slice a l.length c]] w _
  by_cases hg : y = false ∧ b = false ∧ m.size = 0 ∧ r.size ≤ 65536 ∧ l = []
  · obtain ⟨rfl, rfl, hm0, hr0, rfl⟩ := hg
    obtain rfl := ba_nil hm0
    have HE := Lib.hid (show PT.may (.mk 6 false false ⟨#[]⟩ r []) = PT.mayL [] by simp [PT.may, PT.mayL, hr0] <;> first | exact rfl | (intro _; exact rfl))
    go_enter Tryz.func39, Tryz.ntmps39
    go_wp2_with fail
    go_loopw [6] (fun i wr => i = .int .i64 0 ∧ Hid (Below w.heap.size w wr) ∧ Hid (CellsAt wr w.heap.size 0 (partCells (.mk 6 false false ⟨#[]⟩ r []) a c))) (fun i _ => 0)
    case atStart => exact ⟨rfl, Lib.hid (HB.out _ _), Lib.hid (HP.out _)⟩
    case round =>
      obtain ⟨rfl, HB1, HP1⟩ := hrel
      have hp5 := HP1.out 5 _ rfl
      go_wp2_with fail
      go_ret
      exact ⟨ret_bool HE.out.symm, HB1.out⟩
  · have HG := Lib.hid hg
    clear hg
    go_enter Tryz.func39, Tryz.ntmps39
    go_wp2_with fail
    all_goals (first
      | (go_ret; refine ⟨ret_bool ?_, HB.out _ _⟩; simp_all [PT.may, toList_nil, toList_emp, len_pos, List.length_pos_iff]; done)
      | (go_ret; refine ⟨ret_bool ?_, HB.out _ _⟩; simp_all [PT.may, toList_nil, toList_emp, len_pos, List.length_pos_iff]; omega)
      | (exfalso; have := HG.out; simp_all [toList_nil, toList_emp, len_pos, List.length_pos_iff]; done)
      | (exfalso; have := HG.out; simp_all [toList_nil, toList_emp, len_pos, List.length_pos_iff]; omega)
      | trace_state)
set_option maxRecDepth 100000 in
set_option maxHeartbeats 2000000 in
theorem rmay_7 (y b : Bool) (m r : ByteArray) (l : List PT) (a : Option Addr) (c : Nat) (w : World) (hm : m.size ≤ maxLen) (hr : r.size ≤ maxLen) (hll : l.length ≤ maxLen) (hl : PartsAt w (· < w.heap.size) l a)
    (ih : ∀ x ∈ l, ∀ (a : Option Addr) (c : Nat) (w : World), PartAt w (· < w.heap.size) x (partCells x a c) → Calls Tryz.prog 39 #[.agg (partCells x a c).toArray] w (Ret (.bool x.may) w)) :
    Calls Tryz.prog 39 #[.agg (partCells (.mk 7 y b m r l) a c).toArray] w (Ret (.bool (PT.may (.mk 7 y b m r l))) w) := by
  have HB := Lib.hid (fun o o2 => ((Below.refl w.heap.size w).alloc (Nat.le_refl _) o).alloc (by simp : w.heap.size ≤ (w.alloc o).heap.size) o2)
  have HP := Lib.hid (fun o2 => (new_part w w.heap.size (.mk 7 y b m r l) a c 30 rfl).keep fun p hp => World.cell?_alloc_lt _ o2 p (by simp; omega))
  have HI := Lib.hid hl
  have HIH := Lib.hid ih
  have HN := Lib.hid (fun w => refNatCheck_any b m w hm)
  clear hl ih
  unfold maxLen at hm hr hll
  show Calls Tryz.prog 39 #[.agg #[.int .u8 7, .bool y, .bool b, .string m, .string r, .slice a l.length c]] w _
  by_cases hg : y = false ∧ b = false ∧ m.size = 0 ∧ r.size = 0 ∧ l.length ≤ 1024
  · obtain ⟨rfl, rfl, hm0, hr0, hl0⟩ := hg
    obtain rfl := ba_nil hm0
    obtain rfl := ba_nil hr0
    have HE := Lib.hid (show PT.may (.mk 7 false false ⟨#[]⟩ ⟨#[]⟩ l) = PT.mayL l by simp [PT.may, PT.mayL, hl0] <;> first | exact rfl | (intro _; exact rfl))
    have hl9 : l.length < 9223372036854775807 := by omega
    go_enter Tryz.func39, Tryz.ntmps39
    go_wp2_with fail
    have HL0 := Lib.hid hl0
    clear hl0
    repeat (rename (_ : Bool) = false => hh; clear hh)
    repeat (rename (_ : Bool) = true => hh; clear hh)
    try (rename (l.length : Int) ≤ 1024 => hh; clear hh)
    go_loopw [6] (fun i wr => ∃ (k : Nat), i = .int .i64 k ∧ k ≤ l.length ∧ Hid (∀ j (hj : j < l.length), j < k → l[j].may = true) ∧ Hid (Below w.heap.size w wr) ∧ Hid (CellsAt wr w.heap.size 0 (partCells (.mk 7 false false ⟨#[]⟩ ⟨#[]⟩ l) a c)) ∧ w.heap.size < wr.heap.size) (fun i _ => l.length - (intOf i).toNat)
    case atStart => exact ⟨0, rfl, by omega, Lib.hid (fun j _ hj => absurd hj (Nat.not_lt_zero j)), Lib.hid (HB.out _ _), Lib.hid (HP.out _), by simp; omega⟩
    case round =>
      obtain ⟨k, rfl, hk, HNo, HB1, HP1, hwz⟩ := hrel
      have hp5 := HP1.out 5 _ rfl
      by_cases hlt : k < l.length
      · obtain ⟨b, o, a', c', rfl, hb, k0, k1, k2, k3, k4, k5, hpa⟩ := (HI.out.below HB1.out).cells hlt
        have HR := Lib.hid (HIH.out l[k] (List.getElem_mem hlt) a' c' _ (hpa.wide (by omega)))
        unfold partCells at HR
        clear hpa
        go_wp2_with fail
        refine HR.out.mono ?_
        rintro e w' ⟨rfl, hg2⟩
        have HB' := Lib.hid (HB1.out.trans (hg2.mono (by omega)))
        have HP' := Lib.hid (HP1.out.keep fun p hp => hg2.cell (by omega))
        have hz' := hg2.size
        clear hg2 HR k0 k1 k2 k3 k4 k5 HB1 HP1 hp5
        cases hd : l[k].may with
        | false =>
          go_wp2_with fail
          go_ret
          exact ⟨ret_bool (HE.out.trans (PT.mayL_at hlt hd)).symm, HB'.out⟩
        | true =>
          go_wp2_with fail
          go_roundw
          case rel => exact ⟨k + 1, by go_num, by omega, Lib.hid (fun j hj hjk => (Nat.lt_succ_iff_lt_or_eq.1 hjk).elim (fun h => HNo.out j hj h) (fun h => by subst h; exact hd)), HB', HP', by omega⟩
          case measure => simp [intOf]; omega
      · go_wp2_with fail
        go_ret
        exact ⟨ret_bool (HE.out.trans (PT.mayL_all fun j hj => HNo.out j hj (by omega))).symm, HB1.out⟩
  · have HG := Lib.hid hg
    clear hg
    go_enter Tryz.func39, Tryz.ntmps39
    go_wp2_with fail
    all_goals (first
      | (go_ret; refine ⟨ret_bool ?_, HB.out _ _⟩; simp_all [PT.may, toList_nil, toList_emp, len_pos, List.length_pos_iff]; done)
      | (go_ret; refine ⟨ret_bool ?_, HB.out _ _⟩; simp_all [PT.may, toList_nil, toList_emp, len_pos, List.length_pos_iff]; omega)
      | (exfalso; have := HG.out; simp_all [toList_nil, toList_emp, len_pos, List.length_pos_iff]; done)
      | (exfalso; have := HG.out; simp_all [toList_nil, toList_emp, len_pos, List.length_pos_iff]; omega)
      | trace_state)
set_option maxRecDepth 100000 in
set_option maxHeartbeats 2000000 in
theorem rmay_n (k : Nat) (hk8 : 8 ≤ k) (hk256 : k < 256) (y b : Bool) (m r : ByteArray) (l : List PT) (a : Option Addr) (c : Nat) (w : World) (hm : m.size ≤ maxLen) (hr : r.size ≤ maxLen) (hll : l.length ≤ maxLen) (hl : PartsAt w (· < w.heap.size) l a)
    (ih : ∀ x ∈ l, ∀ (a : Option Addr) (c : Nat) (w : World), PartAt w (· < w.heap.size) x (partCells x a c) → Calls Tryz.prog 39 #[.agg (partCells x a c).toArray] w (Ret (.bool x.may) w)) :
    Calls Tryz.prog 39 #[.agg (partCells (.mk k y b m r l) a c).toArray] w (Ret (.bool (PT.may (.mk k y b m r l))) w) := by
  have HB := Lib.hid (fun o (_ : Nat) => (Below.refl w.heap.size w).alloc (Nat.le_refl _) o)
  have HP := Lib.hid (fun o2 => (new_part w w.heap.size (.mk k y b m r l) a c 30 rfl).keep fun p hp => World.cell?_alloc_lt _ o2 p (by simp; omega))
  have HI := Lib.hid hl
  have HIH := Lib.hid ih
  have HN := Lib.hid (fun w => refNatCheck_any b m w hm)
  clear hl ih
  unfold maxLen at hm hr hll
  show Calls Tryz.prog 39 #[.agg #[.int .u8 k, .bool y, .bool b, .string m, .string r, .slice a l.length c]] w _
  have hk_0 : k ≠ 0 := by omega
  have hk_1 : k ≠ 1 := by omega
  have hk_2 : k ≠ 2 := by omega
  have hk_3 : k ≠ 3 := by omega
  have hk_4 : k ≠ 4 := by omega
  have hk_5 : k ≠ 5 := by omega
  have hk_6 : k ≠ 6 := by omega
  have hk_7 : k ≠ 7 := by omega
  have hk9 : (7 : Int) < (k : Int) := by omega
  go_enter Tryz.func39, Tryz.ntmps39
  go_wp2_with fail
  all_goals (first
    | (go_ret; refine ⟨ret_bool ?_, HB.out _ 0⟩; simp_all [PT.may, toList_nil, toList_emp, len_pos, List.length_pos_iff]; done)
    | (go_ret; refine ⟨ret_bool ?_, HB.out _ 0⟩; simp_all [PT.may, toList_nil, toList_emp, len_pos, List.length_pos_iff]; omega)
    | (exfalso; simp_all [toList_nil, toList_emp, len_pos, List.length_pos_iff]; done)
    | (exfalso; simp_all [toList_nil, toList_emp, len_pos, List.length_pos_iff]; omega)
    | trace_state)
theorem rmay_any : ∀ (t : PT) (a : Option Addr) (c : Nat) (w : World), PartAt w (· < w.heap.size) t (partCells t a c) → Calls Tryz.prog 39 #[.agg (partCells t a c).toArray] w (Ret (.bool t.may) w) := by
  refine PT.all fun t ih => ?_
  intro a c w hp
  obtain ⟨a1, c1, e1, hk, hm, hr, hlc, hcm, hits⟩ := hp.open
  obtain ⟨rfl, rfl⟩ : a1 = a ∧ c1 = c := by simpa [partCells, eq_comm] using e1
  obtain ⟨k, y, b, m, r, l⟩ := t
  simp only [PT.kind, PT.mag, PT.raw, PT.items] at hk hm hr hits ih hlc
  have hll := Nat.le_trans hlc hcm
  by_cases h8 : 8 ≤ k
  · exact rmay_n k h8 hk y b m r l a1 c1 w hm hr hll hits ih
  · obtain rfl | rfl | rfl | rfl | rfl | rfl | rfl | rfl : k = 0 ∨ k = 1 ∨ k = 2 ∨ k = 3 ∨ k = 4 ∨ k = 5 ∨ k = 6 ∨ k = 7 := by omega
    · exact rmay_0 y b m r l a1 c1 w hm hr hll hits ih
    · exact rmay_1 y b m r l a1 c1 w hm hr hll hits ih
    · exact rmay_2 y b m r l a1 c1 w hm hr hll hits ih
    · exact rmay_3 y b m r l a1 c1 w hm hr hll hits ih
    · exact rmay_4 y b m r l a1 c1 w hm hr hll hits ih
    · exact rmay_5 y b m r l a1 c1 w hm hr hll hits ih
    · exact rmay_6 y b m r l a1 c1 w hm hr hll hits ih
    · exact rmay_7 y b m r l a1 c1 w hm hr hll hits ih
end Go.Proofs.YtcjllhdbepchnaaGreatDoor

/-! value.made: the value of a part, in new memory. -/
namespace Go.Proofs.YtcjllhdbepchnaaGreatDoor
open Go.RowKit Go.WideShapes
set_option linter.unusedVariables false
/-- A value in blocks that are new since w. -/
def NewVal (t : PT) (w : World) (e : Ending) (w' : World) : Prop := ∃ v, e = .returned v ∧ ValueAt w' (fun b => w.heap.size ≤ b ∧ b < w'.heap.size) t v ∧ Below w.heap.size w w'
theorem value_info : (Tryz.prog.info? 37).map (fun i => (i.zero, i.size, i.bytes)) = some (some .nilIface, 1, 16) := by kernel_rfl
def madeFlat (k : Nat) (y b : Bool) (m r : ByteArray) : Value := if k = 0 then .nilIface else if k = 1 then .iface 124 (.agg #[.bool y]) else if k = 2 then .iface 126 (.agg #[.bool b, .string m]) else .iface 128 (.agg #[.int .u8 k, .string r])
set_option maxRecDepth 100000 in
set_option maxHeartbeats 1000000 in
theorem made_flat (k : Nat) (hk7 : k ≠ 7) (hk : k < 256) (y b : Bool) (m r : ByteArray) (l : List PT) (a : Option Addr) (c : Nat) (w : World) (hm : m.size ≤ maxLen) (hr : r.size ≤ maxLen) :
    Calls Tryz.prog 42 #[.agg (partCells (.mk k y b m r l) a c).toArray] w (NewVal (.mk k y b m r l) w) := by
  have HB := Lib.hid (fun o => (Below.refl w.heap.size w).alloc (Nat.le_refl _) o)
  have HV := Lib.hid (show ∀ w' S, ValueAt w' S (.mk k y b m r l) (madeFlat k y b m r) by
    intro w' S
    unfold ValueAt madeFlat
    by_cases k0 : k = 0
    · simp [k0]
    · by_cases k1 : k = 1
      · simp [k1]
      · by_cases k2 : k = 2
        · simp [k2, hm]
        · simp [k0, k1, k2, hk7, hr, hk])
  unfold maxLen at hm hr
  show Calls Tryz.prog 42 #[.agg #[.int .u8 k, .bool y, .bool b, .string m, .string r, .slice a l.length c]] w _
  by_cases k0 : k = 0
  · subst k0
    go_enter Tryz.func42, Tryz.ntmps42
    go_wp2_with fail
    go_ret
    exact ⟨_, rfl, HV.out _ _, HB.out _⟩
  · by_cases k1 : k = 1
    · subst k1
      go_enter Tryz.func42, Tryz.ntmps42
      go_wp2_with fail
      go_ret
      exact ⟨_, rfl, HV.out _ _, HB.out _⟩
    · by_cases k2 : k = 2
      · subst k2
        go_enter Tryz.func42, Tryz.ntmps42
        go_wp2_with fail
        go_ret
        exact ⟨_, rfl, HV.out _ _, HB.out _⟩
      · have e : madeFlat k y b m r = .iface 128 (.agg #[.int .u8 k, .string r]) := by unfold madeFlat; rw [if_neg k0, if_neg k1, if_neg k2]
        rw [e] at HV
        have b0 : ((k : Int) == 0) = false := beq_eq_false_iff_ne.2 (by omega)
        have b1 : ((k : Int) == 1) = false := beq_eq_false_iff_ne.2 (by omega)
        have b2 : ((k : Int) == 2) = false := beq_eq_false_iff_ne.2 (by omega)
        have b7 : ((k : Int) == 7) = false := beq_eq_false_iff_ne.2 (by omega)
        clear k0 k1 k2 hk7 hk e
        go_enter Tryz.func42, Tryz.ntmps42
        go_wp2_with fail
        go_ret
        exact ⟨_, rfl, HV.out _ _, HB.out _⟩
end Go.Proofs.YtcjllhdbepchnaaGreatDoor

/-! value.made of a tuple. -/
namespace Go.Proofs.YtcjllhdbepchnaaGreatDoor
open Go.RowKit Go.WideShapes
set_option linter.unusedVariables false
/-- So many values of a list stand in a row of one's own, each in blocks from n on. -/
structure VRow (w : World) (n base : Nat) (vt : Value) (k : Nat) (l : List PT) (vs : List Value) : Prop where
  len : vs.length = k
  own : w.ownsRow base 37 1 vt k vs
  val : ∀ i (hi : i < l.length) (hv : i < vs.length), ValueAt w (fun b => n ≤ b ∧ b < w.heap.size ∧ vt.ownBlock ≠ some b) l[i] vs[i]
theorem VRow.start (w : World) (n base : Nat) (l : List PT) : VRow w n base (.slice none 0 0) 0 l [] :=
  ⟨rfl, World.ownsRow_nil _ _ _ _, fun i hi hv => absurd hv (Nat.not_lt_zero i)⟩
theorem VRow.below {w w' : World} {n base : Nat} {vt : Value} {k : Nat} {l : List PT} {vs : List Value} (h : VRow w n base vt k l vs) (hb : Below w.heap.size w w') : VRow w' n base vt k l vs :=
  ⟨h.len, by
    rcases h.own.2 with ⟨e, h0⟩ | ⟨g, cap, cur, e, hb', hg, h1⟩
    · exact ⟨h.own.1, .inl ⟨e, h0⟩⟩
    · exact ⟨h.own.1, .inr ⟨g, cap, cur, e, hb', (hb.block g (Array.getElem?_eq_some_iff.1 hg).1).trans hg, h1⟩⟩,
   fun i hi hv => ValueAt.more (fun b hb' => ⟨hb'.1, Nat.lt_of_lt_of_le hb'.2.1 hb.size, hb'.2.2⟩) _ _ (ValueAt.keep (fun p hp => hb.cell hp.2.1) _ _ (h.val i hi hv))⟩
/-- One value more. -/
theorem VRow.step {w w2 w3 : World} {n base : Nat} {vt : Value} {k : Nat} {l : List PT} {vs : List Value} {v : Value} {tmp : Obj} {g cap : Nat} (h : VRow w n base vt k l vs) (hk : k < l.length)
    (hv : ValueAt w2 (fun b => w.heap.size ≤ b ∧ b < w2.heap.size) l[k] v) (hb : Below w.heap.size w w2) (hn : n ≤ w.heap.size)
    (hown : w3.ownsRow base 37 1 (.slice (some ⟨g, 0, none⟩) (k + 1) cap) (k + 1) (vs ++ [v])) (hgrow : (w2.alloc tmp).grownBy w3 vt.ownBlock) (hat : vt.ownBlock = some g ∨ g = (w2.alloc tmp).heap.size) :
    VRow w3 n base (.slice (some ⟨g, 0, none⟩) (k + 1) cap) (k + 1) l (vs ++ [v]) := by
  have h2 := h.below hb
  have hz : (w2.alloc tmp).heap.size = w2.heap.size + 1 := by simp
  have hz3 := hgrow.size
  have hcell : ∀ p : Addr, p.block < w2.heap.size → vt.ownBlock ≠ some p.block → w3.cell? p = w2.cell? p := fun p hp hne => by
    rw [hgrow.cell_far p (by omega) (fun e => hne e.symm), World.cell?_alloc_lt w2 tmp p hp]
  have hvt : ∀ b, w.heap.size ≤ b → vt.ownBlock ≠ some b := fun b hb e => by
    have := (h.own.lt b e).2; omega
  have hg : ∀ b, b < w2.heap.size → vt.ownBlock ≠ some b → (Value.slice (some ⟨g, 0, none⟩) (k + 1) cap).ownBlock ≠ some b := fun b hb hne e => by
    simp only [Value.ownBlock, Option.some.injEq] at e
    subst e
    rcases hat with hat | hat
    · exact hne hat
    · omega
  refine ⟨by simp [h.len], hown, fun i hi hv' => ?_⟩
  rw [List.length_append, h.len, List.length_singleton] at hv'
  by_cases e : i = k
  · subst e
    have : (vs ++ [v])[i]'(by rw [List.length_append, h.len, List.length_singleton]; omega) = v := by
      rw [List.getElem_append_right (by rw [h.len]; omega)]; simp [h.len]
    rw [this]
    refine ValueAt.more (fun b hb' => ?_) _ _ (ValueAt.keep (fun p hp => hcell p hp.2 (hvt _ hp.1)) _ _ hv)
    exact ⟨by omega, by omega, hg b hb'.2 (hvt b hb'.1)⟩
  · have hik : i < vs.length := by rw [h.len]; omega
    have : (vs ++ [v])[i]'(by rw [List.length_append, h.len, List.length_singleton]; omega) = vs[i] := List.getElem_append_left hik
    rw [this]
    refine ValueAt.more (fun b hb' => ?_) _ _ (ValueAt.keep (fun p hp => hcell p hp.2.1 hp.2.2) _ _ (h2.val i hi hik))
    exact ⟨hb'.1, by omega, hg b hb'.2.1 hb'.2.2⟩
/-- A box is written. -/
theorem VRow.set {w : World} {n base T : Nat} {vt u : Value} {k : Nat} {l : List PT} {vs : List Value} (h : VRow w n base vt k l vs) (hT : T < n) (hTb : T < base) : VRow (w.setCell ⟨T, 0, none⟩ u) n base vt k l vs := by
  have hheap : ∀ b, b ≠ T → (w.setCell ⟨T, 0, none⟩ u).heap[b]? = w.heap[b]? := fun b hb => by simp [World.setCell, Array.getElem?_modify, Ne.symm hb]
  have hz : (w.setCell ⟨T, 0, none⟩ u).heap.size = w.heap.size := by simp
  refine ⟨h.len, ?_, fun i hi hv => ?_⟩
  · rcases h.own.2 with ⟨e, h0⟩ | ⟨g, cap, cur, e, hb', hg, h1⟩
    · exact ⟨h.own.1, .inl ⟨e, h0⟩⟩
    · exact ⟨h.own.1, .inr ⟨g, cap, cur, e, hb', (hheap g (by omega)).trans hg, h1⟩⟩
  · refine ValueAt.more (fun b hb' => ⟨hb'.1, by omega, hb'.2.2⟩) _ _ (ValueAt.keep (fun p hp => ?_) _ _ (h.val i hi hv))
    exact World.cell?_setCell_other w _ p u (fun e => by have := hp.1; rw [← e] at this; simp at this; omega)
/-- The whole row, as a tuple's. -/
theorem VRow.values {w : World} {n base : Nat} {vt : Value} {l : List PT} {vs : List Value} (h : VRow w n base vt l.length l vs) (hl : l.length ≤ maxLen) (hn : n ≤ base) :
    ∃ a c, vt = .slice a l.length c ∧ l.length ≤ c ∧ c ≤ maxLen ∧ ValuesAt w (fun b => n ≤ b ∧ b < w.heap.size) l a := by
  rcases h.own.2 with ⟨e, h0⟩ | ⟨g, cap, cur, e, hb', hg, hnc, hcm, hcs, htake⟩
  · refine ⟨none, 0, by rw [e, h0], by omega, by omega, ?_⟩
    rw [List.length_eq_zero_iff.1 h0]; trivial
  · refine ⟨some ⟨g, 0, none⟩, cap, e, hnc, hcm, ValuesAt.of_get (.inr ⟨by omega, (Array.getElem?_eq_some_iff.1 hg).1⟩) fun i hi => ?_⟩
    have hv : i < vs.length := by rw [h.len]; exact hi
    refine ⟨vs[i], ?_, ValueAt.more (fun b hb => ⟨hb.1, hb.2.1⟩) _ _ (h.val i hi hv)⟩
    have ho := h.own
    rw [e] at ho
    rw [Nat.zero_add, ho.cellAt i (by omega), List.getElem?_eq_getElem hv]
end Go.Proofs.YtcjllhdbepchnaaGreatDoor

/-! value.made of a tuple: the walk. -/
namespace Go.Proofs.YtcjllhdbepchnaaGreatDoor
open Go.RowKit Go.WideShapes
set_option linter.unusedVariables false
theorem BoxAt.grown {w w' : World} {T : Nat} {v vt : Value} {ty : TypeId} {tmp : Obj} (h : BoxAt w T v ty) (hg : (w.alloc tmp).grownBy w' vt.ownBlock) (hne : vt.ownBlock ≠ some T) : BoxAt w' T v ty := by
  have hl := h.lt
  refine h.of ((hg.block T (by simp; omega) (fun e => hne e.symm)).trans ?_)
  rw [Below.heap_alloc w tmp T hl]
theorem ValueAt.cells {w : World} {S : Nat → Prop} {t : PT} {v : Value} (h : ValueAt w S t v) : v.cells = #[v] := by
  cases t
  unfold ValueAt at h
  split at h
  · subst h; rfl
  · split at h
    · subst h; rfl
    · split at h
      · obtain ⟨rfl, _⟩ := h; rfl
      · split at h
        · obtain ⟨a, c, rfl, _⟩ := h; rfl
        · obtain ⟨rfl, _⟩ := h; rfl
set_option maxRecDepth 100000 in
set_option maxHeartbeats 2000000 in
theorem made_7 (y b : Bool) (m r : ByteArray) (l : List PT) (a : Option Addr) (c : Nat) (w : World) (hlc : l.length ≤ 1048576) (hl : PartsAt w (· < w.heap.size) l a)
    (ih : ∀ x ∈ l, ∀ (a : Option Addr) (c : Nat) (w : World), PartAt w (· < w.heap.size) x (partCells x a c) → Calls Tryz.prog 42 #[.agg (partCells x a c).toArray] w (NewVal x w)) :
    Calls Tryz.prog 42 #[.agg (partCells (.mk 7 y b m r l) a c).toArray] w (NewVal (.mk 7 y b m r l) w) := by
  obtain ⟨i0, hi, hz0, hz1, hz2⟩ := info_parts value_info
  have HI := Lib.hid hl
  have HIH := Lib.hid ih
  have HB0 := Lib.hid (fun o o2 => ((Below.refl w.heap.size w).alloc (Nat.le_refl _) o).alloc (by simp : w.heap.size ≤ (w.alloc o).heap.size) o2)
  have HX0 := Lib.hid (fun o => BoxAt.new (w.alloc o) (w.heap.size + 1) (.slice none 0 0) 109 (by simp))
  have HV0 := Lib.hid (fun W => VRow.start W (w.heap.size + 2) (w.heap.size + 2) l)
  clear hl ih
  show Calls Tryz.prog 42 #[.agg #[.int .u8 7, .bool y, .bool b, .string m, .string r, .slice a l.length c]] w _
  go_enter Tryz.func42, Tryz.ntmps42
  go_wp2_with fail
  go_loopw [27] (fun i wr => ∃ (k : Nat) (vt : Value) (vs : List Value), i = .int .i64 k ∧ k ≤ l.length ∧ Hid (Below w.heap.size w wr) ∧ Hid (BoxAt wr (w.heap.size + 1) vt 109) ∧ Hid (VRow wr (w.heap.size + 2) (w.heap.size + 2) vt k l vs) ∧ w.heap.size + 2 ≤ wr.heap.size) (fun i _ => l.length - (intOf i).toNat)
  case atStart => exact ⟨0, _, _, rfl, by omega, Lib.hid (HB0.out _ _), Lib.hid (HX0.out _), Lib.hid (HV0.out _), by simp⟩
  case round =>
    obtain ⟨k, vt, vs, rfl, hk, HB, HX, HV, hwz⟩ := hrel
    have hTlt : w.heap.size + 1 < wr.heap.size := by omega
    have hbc := HX.out.cell
    have hbf := HX.out.free
    by_cases hlt : k < l.length
    · obtain ⟨bb, o, a', c', rfl, hb, k0, k1, k2, k3, k4, k5, hpa⟩ := (HI.out.below HB.out).cells hlt
      obtain ⟨W1, hW1⟩ : ∃ W1, W1 = (wr.alloc (.cells (partCells l[k] a' c').toArray 30)).drew := ⟨_, rfl⟩
      have hB1 : Below wr.heap.size wr W1 := by rw [hW1]; exact ((Below.refl _ _).alloc (Nat.le_refl _) _).drew
      have hz1' : W1.heap.size = wr.heap.size + 1 := by rw [hW1]; simp [World.drew]
      have HR := Lib.hid (HIH.out l[k] (List.getElem_mem hlt) a' c' W1 (((hpa.below (hB1.mono (by omega)))).wide (by omega)))
      have HB1 := Lib.hid hB1
      rw [hW1] at HR HB1
      unfold partCells at HR HB1
      clear hpa hW1 hB1
      go_wp2_with fail
      have hne : vt.ownBlock ≠ some (w.heap.size + 1) := fun e => by have := row_ge HV.out.own e; omega
      go_region_law (first
        | (go_simp; go_at_call 42; refine HR.out.mono ?_; rintro e w2 ⟨v, rfl, hv2, hb2⟩; have hm2 := hv2.cells; unfold Value.cells at hm2; have hbr2 := HB1.out.trans (hb2.mono (by simp [World.drew])); have hzz2 := hbr2.size; have hT2 : w.heap.size + 1 < w2.heap.size := (by omega); have HV2 := Lib.hid (HV.out.below hbr2); have HX2 := Lib.hid (HX.out.below hbr2 hTlt); have hbc2 := HX2.out.cell)
        | (refine step_append_lies _ (by rfl) _ _ _ (by rfl) (w.heap.size + 2) 37 i0 .nilIface 1 16 Tryz.underlying105 hi hz0 hz1 hz2 rfl (by omega) vt k vs (by rfl) (HV2.out.own.alloc _) ⟨w2.heap.size, 0, none⟩ 1 1 [v] (by rfl) (by rfl) (World.news_of_block (cs := #[v]) (t := 37) (fr := (0, 0)) (heap_alloc_new w2 _)) (fun u hu => by simp at hu; subst hu; exact hv2.one) (by omega) (by unfold maxLen; omega) (by omega) (by simp; omega) (w2.heap.size + 1) (by simp) ?_; intro g4 cap4 w4 hown4 hgrow4 hat4 hgl4; have HX4 := Lib.hid (HX2.out.grown hgrow4 hne); have hbc4 := HX4.out.cell; have hbf4 := HX4.out.free))
      all_goals (
        have hv2' := ValueAt.more (S' := fun b => wr.heap.size ≤ b ∧ b < w2.heap.size) (fun b hb => by have h1 := hb.1; simp [World.drew] at h1; exact ⟨by omega, hb.2⟩) _ _ hv2
        have HB' := Lib.hid (((((HB.out.trans (hbr2.mono (by omega))).alloc (by omega) _).grown hgrow4 (by simp; omega) (fun j ej => by have := row_ge HV2.out.own ej; omega)).setCell (p := ⟨w.heap.size + 1, 0, none⟩) (by simp only; omega) (.slice (some ⟨g4, 0, none⟩) (k + 1) cap4)))
        have HX' := Lib.hid (HX4.out.set (u := .slice (some ⟨g4, 0, none⟩) (k + 1) cap4))
        have HV' := Lib.hid ((HV.out.step hlt hv2' hbr2 (by omega) hown4 hgrow4 (hat4.imp id (fun h => h.trans (by simp)))).set (T := w.heap.size + 1) (u := .slice (some ⟨g4, 0, none⟩) (k + 1) cap4) (by omega) (by omega))
        have hz4 : w2.heap.size + 1 ≤ w4.heap.size := by have := hgrow4.size; simpa using this
        go_wp2_with fail
        go_roundw
        case rel => exact ⟨k + 1, _, _, by go_num, by omega, HB', HX', HV', by simp; omega⟩
        case measure => simp [intOf]; omega)
    · obtain rfl : k = l.length := by omega
      have HF := Lib.hid (HV.out.values (by unfold maxLen; omega) (Nat.le_refl _))
      go_wp2_with fail
      go_ret
      obtain ⟨a2, c2, e2, h2, h3, h4⟩ := HF.out
      refine ⟨_, rfl, (ValueAt.tuple (t := .mk 7 y b m r l) rfl).2 ⟨a2, c2, ?_, h2, h3, ValuesAt.more (fun b hb => ⟨by omega, hb.2⟩) _ _ h4⟩, HB.out⟩
      rw [e2]; rfl
end Go.Proofs.YtcjllhdbepchnaaGreatDoor

/-! ref09.Deeper and value.deep: is a part deeper than so many tuples? -/
namespace Go.Proofs.YtcjllhdbepchnaaGreatDoor
open Go.RowKit Go.WideShapes
set_option linter.unusedVariables false
theorem PT.deeper_not {t : PT} (h : ¬ t.kind = 7) (n : Nat) : t.deeper n = false := by
  cases t; simp only [PT.kind] at h; simp [PT.deeper, h]
theorem PT.deeper_zero {t : PT} (h : t.kind = 7) : t.deeper 0 = true := by
  cases t; simp only [PT.kind] at h; simp [PT.deeper, h]
theorem PT.deeper_succ {t : PT} (h : t.kind = 7) (n : Nat) : t.deeper (n + 1) = PT.deeperL t.items n := by
  cases t; simp only [PT.kind] at h; simp [PT.deeper, PT.items, h]
theorem PT.deeperL_at {l : List PT} {n k : Nat} (hk : k < l.length) (h : l[k].deeper n = true) : PT.deeperL l n = true := by
  cases hd : PT.deeperL l n with
  | true => rfl
  | false => exact absurd (PT.deeperL_iff.1 hd l[k] (List.getElem_mem hk)) (by rw [h]; simp)
theorem PT.deeperL_none {l : List PT} {n : Nat} (h : ∀ j (hj : j < l.length), l[j].deeper n = false) : PT.deeperL l n = false :=
  PT.deeperL_iff.2 fun x hx => by obtain ⟨j, hj, rfl⟩ := List.getElem_of_mem hx; exact h j hj
set_option maxRecDepth 100000 in
set_option maxHeartbeats 4000000 in
theorem Deeper_any : ∀ (t : PT) (a : Option Addr) (c n : Nat) (x : Int) (w : World), x = (n : Int) → n ≤ 1000 → PartAt w (· < w.heap.size) t (partCells t a c) →
    Calls Tryz.prog 38 #[.agg (partCells t a c).toArray, .int .i64 x] w (Ret (.bool (t.deeper n)) w) := by
  refine PT.all fun t ih => ?_
  intro a c n x w hx hn hp
  obtain ⟨a1, c1, e1, hk, hm, hr, hlc, hcm, hits⟩ := hp.open
  obtain ⟨rfl, rfl⟩ : a1 = a ∧ c1 = c := by simpa [partCells, eq_comm] using e1
  have HI := Lib.hid hits
  have HIH := Lib.hid ih
  have hlen : t.items.length ≤ 9223372036854775807 := by unfold maxLen at hcm; omega
  clear hits ih hp e1
  unfold partCells
  have HB2 := Lib.hid ((Below.refl w.heap.size w).alloc (Nat.le_refl _) (.cells #[.int .u8 t.kind, .bool t.yes, .bool t.bel, .string t.mag, .string t.raw, .slice a1 t.items.length c1] 30))
  have HP2 := Lib.hid (new_part w w.heap.size t a1 c1 30 rfl)
  by_cases h7 : t.kind = 7
  · have hb7 : ((t.kind : Int) == 7) = true := by simp [h7]
    cases n with
    | zero =>
      rw [PT.deeper_zero h7]
      clear h7
      have hx1 : x < 1 := by omega
      clear hx
      go_enter Tryz.func38, Tryz.ntmps38
      go_wp2_with fail
      go_ret
      exact ⟨rfl, HB2.out⟩
    | succ n =>
      rw [PT.deeper_succ h7]
      clear h7
      have hx1 : 1 ≤ x := by omega
      have hx2 : x ≤ 1000 := by omega
      have HX := Lib.hid hx
      clear hx
      go_enter Tryz.func38, Tryz.ntmps38
      go_wp2_with fail
      have HX1 := Lib.hid hx1
      clear hb7 hx1
      repeat (rename (_ : Bool) = false => hh; clear hh)
      go_loopw [5] (fun i wr => ∃ (k : Nat), i = .int .i64 k ∧ k ≤ t.items.length ∧ Hid (∀ j (hj : j < t.items.length), j < k → t.items[j].deeper n = false) ∧ Hid (Below w.heap.size w wr) ∧ Hid (CellsAt wr w.heap.size 0 (partCells t a1 c1)) ∧ w.heap.size < wr.heap.size) (fun i _ => t.items.length - (intOf i).toNat)
      case atStart => exact ⟨0, rfl, by omega, Lib.hid (fun j _ hj => absurd hj (Nat.not_lt_zero j)), HB2, HP2, by simp⟩
      case round =>
        clear HB2 HP2
        obtain ⟨k, rfl, hk, HN, HB, HP, hwz⟩ := hrel
        have hp5 := HP.out 5 _ rfl
        by_cases hlt : k < t.items.length
        · obtain ⟨b, o, a', c', rfl, hb, k0, k1, k2, k3, k4, k5, hpa⟩ := (HI.out.below HB.out).cells hlt
          have HR := Lib.hid (HIH.out t.items[k] (List.getElem_mem hlt) a' c' n (x - 1) wr (by have := HX.out; omega) (by have := HX.out; have := HX1.out; omega) (hpa.wide (by omega)))
          clear hpa
          go_wp2_with fail
          refine HR.out.mono ?_
          rintro e w' ⟨rfl, hg2⟩
          have HB' := Lib.hid (HB.out.trans (hg2.mono (by omega)))
          have HP' := Lib.hid (HP.out.keep fun p hp => hg2.cell (by omega))
          have hz' := hg2.size
          clear hg2 HR k0 k1 k2 k3 k4 k5 hp5 HP HB
          cases hd : t.items[k].deeper n with
          | true =>
            go_wp2_with fail
            go_ret
            exact ⟨ret_bool (PT.deeperL_at hlt hd).symm, HB'.out⟩
          | false =>
            go_wp2_with fail
            go_roundw
            case rel => exact ⟨k + 1, by go_num, by omega, Lib.hid (fun j hj hjk => (Nat.lt_succ_iff_lt_or_eq.1 hjk).elim (fun h => HN.out j hj h) (fun h => by subst h; exact hd)), HB', HP', by omega⟩
            case measure => simp [intOf]; omega
        · go_wp2_with fail
          go_ret
          exact ⟨ret_bool (PT.deeperL_none fun j hj => HN.out j hj (by omega)).symm, HB.out⟩
  · rw [PT.deeper_not h7]
    have hb7 : ((t.kind : Int) == 7) = false := by simp; omega
    clear h7
    go_enter Tryz.func38, Tryz.ntmps38
    go_wp2_with fail
    go_ret
    exact ⟨rfl, HB2.out⟩
end Go.Proofs.YtcjllhdbepchnaaGreatDoor

/-! value.deep: is a part deeper than so many tuples? -/
namespace Go.Proofs.YtcjllhdbepchnaaGreatDoor
open Go.RowKit Go.WideShapes
set_option linter.unusedVariables false
set_option maxRecDepth 100000 in
set_option maxHeartbeats 400000 in
theorem vdeep_any : ∀ (t : PT) (a : Option Addr) (c n : Nat) (x : Int) (w : World), x = (n : Int) → n ≤ 1000 → PartAt w (· < w.heap.size) t (partCells t a c) →
    Calls Tryz.prog 40 #[.agg (partCells t a c).toArray, .int .i64 x] w (Ret (.bool (t.deeper n)) w) := by
  refine PT.all fun t ih => ?_
  intro a c n x w hx hn hp
  obtain ⟨a1, c1, e1, hk, hm, hr, hlc, hcm, hits⟩ := hp.open
  obtain ⟨rfl, rfl⟩ : a1 = a ∧ c1 = c := by simpa [partCells, eq_comm] using e1
  have HI := Lib.hid hits
  have HIH := Lib.hid ih
  have hlen : t.items.length ≤ 9223372036854775807 := by unfold maxLen at hcm; omega
  clear hits ih hp e1
  unfold partCells
  have HB2 := Lib.hid ((Below.refl w.heap.size w).alloc (Nat.le_refl _) (.cells #[.int .u8 t.kind, .bool t.yes, .bool t.bel, .string t.mag, .string t.raw, .slice a1 t.items.length c1] 30))
  have HP2 := Lib.hid (new_part w w.heap.size t a1 c1 30 rfl)
  by_cases h7 : t.kind = 7
  · have hb7 : ((t.kind : Int) == 7) = true := by simp [h7]
    cases n with
    | zero =>
      rw [PT.deeper_zero h7]
      clear h7
      obtain rfl : x = 0 := by omega
      clear hx
      go_enter Tryz.func40, Tryz.ntmps40
      go_wp2_with fail
      go_ret
      exact ⟨rfl, HB2.out⟩
    | succ n =>
      rw [PT.deeper_succ h7]
      clear h7
      have hx1 : (x == 0) = false := by simp; omega
      have hx2 : x ≤ 1000 := by omega
      have HX := Lib.hid hx
      clear hx
      go_enter Tryz.func40, Tryz.ntmps40
      go_wp2_with fail
      have HX1 := Lib.hid hx1
      try clear hb7
      try clear hx1
      repeat (rename (_ : Bool) = false => hh; clear hh)
      try clear hb7
      try clear hx1
      repeat (rename (_ : Bool) = false => hh; clear hh)
      go_loopw [15] (fun i wr => ∃ (k : Nat), i = .int .i64 k ∧ k ≤ t.items.length ∧ Hid (∀ j (hj : j < t.items.length), j < k → t.items[j].deeper n = false) ∧ Hid (Below w.heap.size w wr) ∧ w.heap.size < wr.heap.size) (fun i _ => t.items.length - (intOf i).toNat)
      case atStart => exact ⟨0, rfl, by omega, Lib.hid (fun j _ hj => absurd hj (Nat.not_lt_zero j)), HB2, by simp⟩
      case round =>
        clear HB2 HP2
        obtain ⟨k, rfl, hk, HN, HB, hwz⟩ := hrel
        by_cases hlt : k < t.items.length
        · have hx3 : 1 ≤ x := by have := HX.out; omega
          obtain ⟨b, o, a', c', rfl, hb, k0, k1, k2, k3, k4, k5, hpa⟩ := (HI.out.below HB.out).cells hlt
          have HB1 := Lib.hid (HB.out.alloc (by omega) (.cells (partCells t.items[k] a' c').toArray 30))
          have HR := Lib.hid (HIH.out t.items[k] (List.getElem_mem hlt) a' c' n (x - 1) _ (by have := HX.out; omega) (by omega) ((hpa.below (B := w.heap.size) ((Below.refl _ _).alloc (by omega) (.cells (partCells t.items[k] a' c').toArray 30))).wide (by simp; omega)))
          unfold partCells at HR HB1
          clear hpa
          go_wp2_with fail
          refine HR.out.mono ?_
          rintro e w' ⟨rfl, hg2⟩
          have HB' := Lib.hid (HB1.out.trans (hg2.mono (by simp; omega)))
          have hz' : wr.heap.size + 1 ≤ w'.heap.size := by have := hg2.size; simpa using this
          clear hx3 hg2 HR k0 k1 k2 k3 k4 k5 HB HB1
          cases hd : t.items[k].deeper n with
          | true =>
            go_wp2_with fail
            go_ret
            exact ⟨ret_bool (PT.deeperL_at hlt hd).symm, HB'.out⟩
          | false =>
            go_wp2_with fail
            go_roundw
            case rel => exact ⟨k + 1, by go_num, by omega, Lib.hid (fun j hj hjk => (Nat.lt_succ_iff_lt_or_eq.1 hjk).elim (fun h => HN.out j hj h) (fun h => by subst h; exact hd)), HB', by omega⟩
            case measure => simp [intOf]; omega
        · go_wp2_with fail
          go_ret
          exact ⟨ret_bool (PT.deeperL_none fun j hj => HN.out j hj (by omega)).symm, HB.out⟩
  · rw [PT.deeper_not h7]
    have hb7 : ((t.kind : Int) == 7) = false := by simp; omega
    clear h7
    go_enter Tryz.func40, Tryz.ntmps40
    go_wp2_with fail
    go_ret
    exact ⟨rfl, HB2.out⟩
end Go.Proofs.YtcjllhdbepchnaaGreatDoor

/-! ref09.Make and value.Make. -/
namespace Go.Proofs.YtcjllhdbepchnaaGreatDoor
open Go.RowKit Go.WideShapes
set_option linter.unusedVariables false
/-- Why a part may not be; 0, if it may. -/
def PT.why (t : PT) : Int := if t.deeper 16 then 91 else if t.may then 0 else 90
theorem PT.may_items {t : PT} (h : t.may = true) (h7 : t.kind = 7) : t.items.length ≤ 1024 ∧ ∀ x ∈ t.items, x.may = true := by
  cases t
  simp only [PT.kind] at h7; subst h7
  simp only [PT.may, PT.items] at h ⊢
  simp only [Bool.and_eq_true, reduceIte] at h
  have h2 := h.2
  simp at h2
  exact ⟨h2.1.2, fun x hx => PT.mayL_iff.1 h2.2 x hx⟩
theorem made_any : ∀ (t : PT) (a : Option Addr) (c : Nat) (w : World), t.may = true → PartAt w (· < w.heap.size) t (partCells t a c) → Calls Tryz.prog 42 #[.agg (partCells t a c).toArray] w (NewVal t w) := by
  refine PT.all fun t ih => ?_
  intro a c w hmay hp
  obtain ⟨a1, c1, e1, hk, hm, hr, hlc, hcm, hits⟩ := hp.open
  obtain ⟨rfl, rfl⟩ : a1 = a ∧ c1 = c := by simpa [partCells, eq_comm] using e1
  by_cases h7 : t.kind = 7
  · obtain ⟨hl, hall⟩ := PT.may_items hmay h7
    obtain ⟨k, y, b, m, r, l⟩ := t
    simp only [PT.kind] at h7; subst h7
    refine made_7 y b m r l a1 c1 w (by simp only [PT.items] at hl; omega) hits fun x hx a c w hpx => ih x hx a c w (hall x hx) hpx
  · obtain ⟨k, y, b, m, r, l⟩ := t
    exact made_flat k h7 hk y b m r l a1 c1 w hm hr
set_option maxRecDepth 100000 in
set_option maxHeartbeats 1000000 in
theorem refMake_any (t : PT) (a : Option Addr) (c : Nat) (w : World) (hp : PartAt w (· < w.heap.size) t (partCells t a c)) :
    Calls Tryz.prog 11 #[.agg (partCells t a c).toArray] w (Ret (.int .i64 t.why) w) := by
  have HP := Lib.hid hp
  have HB0 := Lib.hid ((Below.refl w.heap.size w).alloc (Nat.le_refl _) (.cells (partCells t a c).toArray 30))
  have HC0 := Lib.hid (new_part w w.heap.size t a c 30 rfl)
  have HD := Lib.hid (Deeper_any t a c 16 16 _ rfl (by omega) ((hp.below HB0.out).wide (by simp)))
  have HM := Lib.hid (rmay_any t a c)
  clear hp
  unfold partCells at HD HB0 HM
  unfold partCells
  go_enter Tryz.func11, Tryz.ntmps11
  go_wp2_with fail
  refine HD.out.mono ?_
  rintro e w1 ⟨rfl, hb1⟩
  have hz1 : w.heap.size + 1 ≤ w1.heap.size := by have := hb1.size; simpa using this
  have HB1 := Lib.hid (HB0.out.trans (hb1.mono (by simp)))
  have HC1 := Lib.hid (show CellsAt w1 w.heap.size 0 (partCells t a c) from CellsAt.keep HC0.out fun p hp => hb1.cell (by simp; omega))
  clear hb1 HB0 HC0 HD
  cases hd : t.deeper 16 with
  | true =>
    have HW := Lib.hid (show t.why = 91 by unfold PT.why; rw [hd]; rfl)
    clear hd
    go_wp2_with fail
    go_ret
    exact ret_int' HW.out.symm HB1.out
  | false =>
    have p0 := HC1.out 0 _ rfl
    have p1 := HC1.out 1 _ rfl
    have p2 := HC1.out 2 _ rfl
    have p3 := HC1.out 3 _ rfl
    have p4 := HC1.out 4 _ rfl
    have p5 := HC1.out 5 _ rfl
    go_wp2_with fail
    refine (HM.out _ ((HP.out.below HB1.out).wide (by omega))).mono ?_
    rintro e w2 ⟨rfl, hb2⟩
    have HB2 := Lib.hid (HB1.out.trans (hb2.mono (by omega)))
    clear hb2 HB1 HC1 HM p0 p1 p2 p3 p4 p5
    cases hm : t.may with
    | true =>
      have HW := Lib.hid (show t.why = 0 by unfold PT.why; rw [hd, hm]; rfl)
      clear hd hm
      go_wp2_with fail
      go_ret
      exact ret_int' HW.out.symm HB2.out
    | false =>
      have HW := Lib.hid (show t.why = 90 by unfold PT.why; rw [hd, hm]; rfl)
      clear hd hm
      go_wp2_with fail
      go_ret
      exact ret_int' HW.out.symm HB2.out
/-- What value.Make gives back. -/
def MakePost (t : PT) (w : World) (e : Ending) (w' : World) : Prop :=
  Below w.heap.size w w' ∧ ((t.why ≠ 0 ∧ e = .returned (.tuple #[.nilIface, .int .i64 t.why])) ∨
    (t.why = 0 ∧ ∃ v, e = .returned (.tuple #[v, .int .i64 0]) ∧ ValueAt w' (fun b => w.heap.size ≤ b ∧ b < w'.heap.size) t v))
set_option maxRecDepth 100000 in
set_option maxHeartbeats 1000000 in
theorem valMake_any (t : PT) (a : Option Addr) (c : Nat) (w : World) (hp : PartAt w (· < w.heap.size) t (partCells t a c)) :
    Calls Tryz.prog 12 #[.agg (partCells t a c).toArray] w (MakePost t w) := by
  have HP := Lib.hid hp
  have HB0 := Lib.hid ((Below.refl w.heap.size w).alloc (Nat.le_refl _) (.cells (partCells t a c).toArray 30))
  have HC0 := Lib.hid (new_part w w.heap.size t a c 30 rfl)
  have HD := Lib.hid (vdeep_any t a c 16 16 _ rfl (by omega) ((hp.below HB0.out).wide (by simp)))
  have HM := Lib.hid (vmay_any t a c)
  have HMa := Lib.hid (made_any t a c)
  clear hp
  unfold partCells at HD HB0 HM HMa
  unfold partCells
  go_enter Tryz.func12, Tryz.ntmps12
  go_wp2_with fail
  refine HD.out.mono ?_
  rintro e w1 ⟨rfl, hb1⟩
  have hz1 : w.heap.size + 1 ≤ w1.heap.size := by have := hb1.size; simpa using this
  have HB1 := Lib.hid (HB0.out.trans (hb1.mono (by simp)))
  have HC1 := Lib.hid (show CellsAt w1 w.heap.size 0 (partCells t a c) from CellsAt.keep HC0.out fun p hp => hb1.cell (by simp; omega))
  clear hb1 HB0 HC0 HD
  cases hd : t.deeper 16 with
  | true =>
    have HW := Lib.hid (show t.why = 91 by unfold PT.why; rw [hd]; rfl)
    clear hd
    go_wp2_with fail
    go_ret2
    exact ⟨HB1.out, .inl ⟨by rw [HW.out]; decide, by rw [HW.out]; rfl⟩⟩
  | false =>
    have p0 := HC1.out 0 _ rfl
    have p1 := HC1.out 1 _ rfl
    have p2 := HC1.out 2 _ rfl
    have p3 := HC1.out 3 _ rfl
    have p4 := HC1.out 4 _ rfl
    have p5 := HC1.out 5 _ rfl
    go_wp2_with fail
    refine (HM.out _ ((HP.out.below HB1.out).wide (by omega))).mono ?_
    rintro e w2 ⟨rfl, hb2⟩
    have hz2 := hb2.size
    have HB2 := Lib.hid (HB1.out.trans (hb2.mono (by omega)))
    have HC2 := Lib.hid (HC1.out.keep fun p hp => hb2.cell (by omega))
    clear hb2 HB1 HC1 HM p0 p1 p2 p3 p4 p5
    cases hm : t.may with
    | false =>
      have HW := Lib.hid (show t.why = 90 by unfold PT.why; rw [hd, hm]; rfl)
      clear hd hm
      go_wp2_with fail
      go_ret2
      exact ⟨HB2.out, .inl ⟨by rw [HW.out]; decide, by rw [HW.out]; rfl⟩⟩
    | true =>
      have HW := Lib.hid (show t.why = 0 by unfold PT.why; rw [hd, hm]; rfl)
      have HMm := Lib.hid hm
      have p0 := HC2.out 0 _ rfl
      have p1 := HC2.out 1 _ rfl
      have p2 := HC2.out 2 _ rfl
      have p3 := HC2.out 3 _ rfl
      have p4 := HC2.out 4 _ rfl
      have p5 := HC2.out 5 _ rfl
      clear hd
      go_wp2_with fail
      refine (HMa.out _ HMm.out ((HP.out.below HB2.out).wide (by omega))).mono ?_
      rintro e w3 ⟨v, rfl, hv, hb3⟩
      have HB3 := Lib.hid (HB2.out.trans (hb3.mono (by omega)))
      have HV := Lib.hid (ValueAt.more (S' := fun b => w.heap.size ≤ b ∧ b < w3.heap.size) (fun b hb => ⟨by have := hb.1; omega, hb.2⟩) _ _ hv)
      clear hb3 hv HB2 HC2 HMa p0 p1 p2 p3 p4 p5 hm
      go_wp2_with fail
      go_ret2
      exact ⟨HB3.out, .inr ⟨HW.out, _, rfl, HV.out⟩⟩
end Go.Proofs.YtcjllhdbepchnaaGreatDoor

/-! Which value is a number, bytes, a list: the assertions' facts. -/
namespace Go.Proofs.YtcjllhdbepchnaaGreatDoor
open Go.RowKit Go.WideShapes
set_option linter.unusedVariables false
theorem run_typeAssert_plainB {P : Program} {t asserted : TypeId} {want : Array (String × TypeId)} (hu : P.underlying asserted = some (.interface want)) (h : (P.info? t).map (fun i => (lacking want i.methods).isEmpty) = some true)
    (v : Value) (xT : TypeId) (w : World) : (Instr.typeAssert (.iface t v) xT asserted false).run P w = .ok (.iface t v) w := by
  obtain ⟨i, hi, hl⟩ := Option.map_eq_some_iff.1 h
  simp [Instr.typeAssert, run_underlying hu, typeInfo, hi, missingMethod_none (List.isEmpty_iff.1 hl)]
theorem tupleList (v : Value) (xT : TypeId) (w : World) : (Instr.typeAssert (.iface 109 v) xT 68 false).run Tryz.prog w = .ok (.iface 109 v) w := run_typeAssert_plainB Tryz.underlying68 (by kernel_rfl) v xT w
theorem tupleIsList (v : Value) (xT : TypeId) (w : World) : (Instr.typeAssert (.iface 109 v) xT 68 true).run Tryz.prog w = .ok (.tuple #[.iface 109 v, .bool true]) w := run_typeAssert_hasB Tryz.underlying68 (by kernel_rfl) v xT w
theorem truthNoList (v : Value) (xT : TypeId) (w : World) : (Instr.typeAssert (.iface 124 v) xT 68 true).run Tryz.prog w = .ok (.tuple #[.nilIface, .bool false]) w := run_typeAssert_lacksB Tryz.underlying68 (by kernel_rfl) (by kernel_rfl) v xT w
theorem wholeNoList (v : Value) (xT : TypeId) (w : World) : (Instr.typeAssert (.iface 126 v) xT 68 true).run Tryz.prog w = .ok (.tuple #[.nilIface, .bool false]) w := run_typeAssert_lacksB Tryz.underlying68 (by kernel_rfl) (by kernel_rfl) v xT w
theorem rowNoList (v : Value) (xT : TypeId) (w : World) : (Instr.typeAssert (.iface 128 v) xT 68 true).run Tryz.prog w = .ok (.tuple #[.nilIface, .bool false]) w := run_typeAssert_lacksB Tryz.underlying68 (by kernel_rfl) (by kernel_rfl) v xT w
theorem tupleNoNumber (v : Value) (xT : TypeId) (w : World) : (Instr.typeAssert (.iface 109 v) xT 132 true).run Tryz.prog w = .ok (.tuple #[.nilIface, .bool false]) w := run_typeAssert_lacksB Tryz.underlying132 (by kernel_rfl) (by kernel_rfl) v xT w
theorem wholeNumber (v : Value) (xT : TypeId) (w : World) : (Instr.typeAssert (.iface 126 v) xT 132 true).run Tryz.prog w = .ok (.tuple #[.iface 126 v, .bool true]) w := run_typeAssert_hasB Tryz.underlying132 (by kernel_rfl) v xT w
theorem rowNoNumber (v : Value) (xT : TypeId) (w : World) : (Instr.typeAssert (.iface 128 v) xT 132 true).run Tryz.prog w = .ok (.tuple #[.nilIface, .bool false]) w := run_typeAssert_lacksB Tryz.underlying132 (by kernel_rfl) (by kernel_rfl) v xT w
theorem truthNoNumber (v : Value) (xT : TypeId) (w : World) : (Instr.typeAssert (.iface 124 v) xT 132 true).run Tryz.prog w = .ok (.tuple #[.nilIface, .bool false]) w := run_typeAssert_lacksB Tryz.underlying132 (by kernel_rfl) (by kernel_rfl) v xT w
theorem tupleNoRaw (v : Value) (xT : TypeId) (w : World) : (Instr.typeAssert (.iface 109 v) xT 137 true).run Tryz.prog w = .ok (.tuple #[.nilIface, .bool false]) w := run_typeAssert_lacksB Tryz.underlying137 (by kernel_rfl) (by kernel_rfl) v xT w
theorem rowRaw (v : Value) (xT : TypeId) (w : World) : (Instr.typeAssert (.iface 128 v) xT 137 true).run Tryz.prog w = .ok (.tuple #[.iface 128 v, .bool true]) w := run_typeAssert_hasB Tryz.underlying137 (by kernel_rfl) v xT w
theorem wholeNoRaw (v : Value) (xT : TypeId) (w : World) : (Instr.typeAssert (.iface 126 v) xT 137 true).run Tryz.prog w = .ok (.tuple #[.nilIface, .bool false]) w := run_typeAssert_lacksB Tryz.underlying137 (by kernel_rfl) (by kernel_rfl) v xT w
end Go.Proofs.YtcjllhdbepchnaaGreatDoor

/-! A tuple's Len and At. -/
namespace Go.Proofs.YtcjllhdbepchnaaGreatDoor
open Go.RowKit Go.WideShapes
set_option linter.unusedVariables false
set_option maxRecDepth 100000 in
set_option maxHeartbeats 1000000 in
theorem tupLen_any (a : Option Addr) (n c : Nat) (w : World) (hn : n ≤ maxLen) : Calls Tryz.prog 228 #[.agg #[.slice a n c]] w (Ret (.int .i64 n) w) := by
  have HB := Lib.hid (fun o => (Below.refl w.heap.size w).alloc (Nat.le_refl _) o)
  unfold maxLen at hn
  go_enter Tryz.func228, Tryz.ntmps228
  go_wp2_with fail
  go_ret
  exact ⟨rfl, HB.out _⟩
set_option maxRecDepth 100000 in
set_option maxHeartbeats 1000000 in
theorem tupAt_any (b o n c i : Nat) (x : Int) (u : Value) (w : World) (hn : n ≤ maxLen) (hb : b < w.heap.size) (hx : x = (i : Int)) (hi : i < n) (hc : w.cell? ⟨b, o + i, none⟩ = some u) :
    Calls Tryz.prog 226 #[.agg #[.slice (some ⟨b, o, none⟩) n c], .int .i64 x] w (Ret u w) := by
  have HB := Lib.hid (fun o => (Below.refl w.heap.size w).alloc (Nat.le_refl _) o)
  unfold maxLen at hn
  subst hx
  go_enter Tryz.func226, Tryz.ntmps226
  go_wp2_with fail
  go_ret
  exact ⟨rfl, HB.out _⟩
end Go.Proofs.YtcjllhdbepchnaaGreatDoor

/-! value.depth, value.Depth: how many tuples stand within one another. -/
namespace Go.Proofs.YtcjllhdbepchnaaGreatDoor
open Go.RowKit Go.WideShapes
set_option linter.unusedVariables false
theorem nilNoList (xT : TypeId) (w : World) : (Instr.typeAssert .nilIface xT 68 true).run Tryz.prog w = .ok (.tuple #[.nilIface, .bool false]) w := by kernel_rfl
theorem PT.depth_flat {t : PT} (h : t.kind ≠ 7) : t.depth = 0 := by
  cases t; simp only [PT.kind] at h; simp [PT.depth, h]
theorem PT.depth_tuple {t : PT} (h : t.kind = 7) : t.depth = PT.depthL t.items + 1 := by
  cases t; simp only [PT.kind] at h; simp [PT.depth, PT.items, h]
theorem PT.depthL_take {l : List PT} {k : Nat} (hk : k < l.length) : PT.depthL (l.take (k + 1)) = max (PT.depthL (l.take k)) l[k].depth := by
  induction l generalizing k with
  | nil => simp at hk
  | cons t l ih =>
    cases k with
    | zero => simp [PT.depthL]
    | succ k =>
      have hk' : k < l.length := by simpa using hk
      simp only [List.take_succ_cons, PT.depthL, ih hk', List.getElem_cons_succ]; omega
theorem PT.depthL_take_le (l : List PT) (k : Nat) : PT.depthL (l.take k) ≤ PT.depthL l := by
  induction l generalizing k with
  | nil => simp
  | cons t l ih =>
    cases k with
    | zero => simp [PT.depthL]
    | succ k => simp only [List.take_succ_cons, PT.depthL]; have := ih k; omega
theorem ret_int2 {k : IntKind} {a b : Int} {B : Nat} {w w' : World} (h : a = b) (hb : Below B w w') : Ending.returned (.int k a) = .returned (.int k b) ∧ Below B w w' := ⟨by rw [h], hb⟩
set_option maxRecDepth 100000 in
set_option maxHeartbeats 1000000 in
theorem depth_any : ∀ (t : PT) (v : Value) (w : World), t.depth ≤ 1000 → ValueAt w (· < w.heap.size) t v →
    Calls Tryz.prog 78 #[v] w (Ret (.int .i64 t.depth) w) := by
  refine PT.all fun t ih => ?_
  intro v w hd hv
  by_cases h7 : t.kind = 7
  · obtain ⟨a, c, rfl, hlc, hcm, hits⟩ := (ValueAt.tuple h7).1 hv
    have HI := Lib.hid hits
    have HIH := Lib.hid ih
    have HD := Lib.hid (PT.depth_tuple h7)
    have HDL := Lib.hid (show PT.depthL t.items ≤ 999 by have := PT.depth_tuple h7; omega)
    have HT := Lib.hid (PT.depthL_take_le t.items)
    have hlen : t.items.length ≤ maxLen := by omega
    have HLen := Lib.hid (fun w => tupLen_any a t.items.length c w hlen)
    have HB0 := Lib.hid (Below.refl w.heap.size w)
    have hta := tupleIsList
    have HL := Lib.hid hlen
    unfold maxLen at hlen
    clear hv h7 hits ih hcm hd
    go_enter Tryz.func78, Tryz.ntmps78
    go_wp2_with fail
    refine (HLen.out _).mono ?_
    rintro e w1 ⟨rfl, hb1⟩
    have HB1 := Lib.hid hb1
    have hz1 := hb1.size
    clear hb1 HB0
    go_wp2_with fail
    go_loopw [5, 16] (fun m i wr => ∃ (k : Nat), m = .int .i64 (PT.depthL (t.items.take k) : Nat) ∧ i = .int .i64 k ∧ k ≤ t.items.length ∧ Hid (Below w.heap.size w wr) ∧ w.heap.size ≤ wr.heap.size) (fun _ i _ => t.items.length - (intOf i).toNat)
    case atStart => exact ⟨0, by simp [PT.depthL], rfl, by omega, HB1, by omega⟩
    case round =>
      clear HB1 hz1
      obtain ⟨k, rfl, rfl, hk, HB, hwz⟩ := hrel
      have hm1 := HT.out k
      have hm2 := HDL.out
      by_cases hlt : k < t.items.length
      · obtain ⟨b, o, u, ea, hb, hc, hu⟩ := (HI.out.below HB.out).get hlt
        subst ea
        have HAt := Lib.hid (tupAt_any b o t.items.length c k k u wr HL.out (by omega) rfl hlt hc)
        have HU := Lib.hid (hu.wide hwz)
        have HS := Lib.hid (PT.depthL_take hlt)
        have HIHk := Lib.hid (fun (W : World) (h : ValueAt W (· < W.heap.size) (t.items[k]'hlt) u) => HIH.out (t.items[k]'hlt) (List.getElem_mem _) u W (by have := PT.depthL_le.1 HDL.out _ (List.getElem_mem hlt); omega) h)
        have hd9 : t.items[k].depth ≤ 999 := PT.depthL_le.1 HDL.out _ (List.getElem_mem hlt)
        clear hc hu hb
        go_wp2_with fail
        refine HAt.out.mono ?_
        rintro e w2 ⟨rfl, hb2⟩
        have hz2 := hb2.size
        have HB2 := Lib.hid (HB.out.trans (hb2.mono hwz))
        have HU2 := Lib.hid ((HU.out.below hb2).wide hz2)
        clear hb2 HB HU HAt
        go_wp2_with fail
        refine (HIHk.out _ HU2.out).mono ?_
        rintro e w3 ⟨rfl, hb3⟩
        have hz3 := hb3.size
        have HB3 := Lib.hid (HB2.out.trans (hb3.mono (by omega)))
        clear hb3 HB2 HU2 HIHk
        go_wp2_with fail
        go_roundw
        case rel => exact ⟨k + 1, by rw [HS.out]; go_num, by go_num, by omega, HB3, by omega⟩
        case measure => simp [intOf]; omega
      · obtain rfl : k = t.items.length := by omega
        have HE := Lib.hid (show PT.depthL (t.items.take t.items.length) = PT.depthL t.items by rw [List.take_length])
        go_wp2_with fail
        go_ret
        exact ret_int2 (by rw [HD.out]; (try rw [HE.out]); omega) HB.out
  · rw [PT.depth_flat h7]
    have HB0 := Lib.hid (Below.refl w.heap.size w)
    clear ih hd
    obtain ⟨k, y, b, m, r, l⟩ := t
    simp only [PT.kind] at h7
    have h0 := nilNoList
    have h1 := truthNoList
    have h2 := wholeNoList
    have h3 := rowNoList
    by_cases k0 : k = 0
    · obtain rfl := (ValueAt.null (t := .mk k y b m r l) k0).1 hv
      clear hv k0 h7
      go_enter Tryz.func78, Tryz.ntmps78
      go_wp2_with fail
      go_ret
      exact ⟨rfl, HB0.out⟩
    · by_cases k1 : k = 1
      · obtain rfl := (ValueAt.truth (t := .mk k y b m r l) k1).1 hv
        clear hv k0 k1 h7
        go_enter Tryz.func78, Tryz.ntmps78
        go_wp2_with fail
        go_ret
        exact ⟨rfl, HB0.out⟩
      · by_cases k2 : k = 2
        · obtain ⟨rfl, -⟩ := (ValueAt.whole (t := .mk k y b m r l) k2).1 hv
          clear hv k0 k1 k2 h7
          go_enter Tryz.func78, Tryz.ntmps78
          go_wp2_with fail
          go_ret
          exact ⟨rfl, HB0.out⟩
        · obtain ⟨rfl, -, -⟩ := (ValueAt.row (t := .mk k y b m r l) k0 k1 k2 h7).1 hv
          clear hv k0 k1 k2 h7
          go_enter Tryz.func78, Tryz.ntmps78
          go_wp2_with fail
          go_ret
          exact ⟨rfl, HB0.out⟩
set_option maxRecDepth 100000 in
set_option maxHeartbeats 1000000 in
theorem Depth_any (t : PT) (v : Value) (w : World) (hd : t.depth ≤ 1000) (hv : ValueAt w (· < w.heap.size) t v) :
    Calls Tryz.prog 53 #[v] w (Ret (.int .i64 t.depth) w) := by
  have H := Lib.hid (depth_any t v w hd hv)
  clear hv hd
  go_enter Tryz.func53, Tryz.ntmps53
  go_wp2_with fail
  refine H.out.mono ?_
  rintro e w1 ⟨rfl, hb1⟩
  have HB1 := Lib.hid hb1
  clear hb1
  go_wp2_with fail
  go_ret
  exact ⟨rfl, HB1.out⟩
end Go.Proofs.YtcjllhdbepchnaaGreatDoor

/-! The values' methods. -/
namespace Go.Proofs.YtcjllhdbepchnaaGreatDoor
open Go.RowKit Go.WideShapes
set_option linter.unusedVariables false
set_option maxRecDepth 100000
theorem truthKind_any (y : Bool) (w : World) : Calls Tryz.prog 230 #[.agg #[.bool y]] w (Ret (.int .u8 1) w) := by
  have HB := Lib.hid (fun o => (Below.refl w.heap.size w).alloc (Nat.le_refl _) o)
  go_enter Tryz.func230, Tryz.ntmps230
  go_wp2_with fail
  go_ret
  exact ⟨rfl, HB.out _⟩
theorem wholeKind_any (b : Bool) (m : ByteArray) (w : World) : Calls Tryz.prog 232 #[.agg #[.bool b, .string m]] w (Ret (.int .u8 2) w) := by
  have HB := Lib.hid (fun o => (Below.refl w.heap.size w).alloc (Nat.le_refl _) o)
  go_enter Tryz.func232, Tryz.ntmps232
  go_wp2_with fail
  go_ret
  exact ⟨rfl, HB.out _⟩
theorem wholeNum_any (b : Bool) (m : ByteArray) (w : World) : Calls Tryz.prog 233 #[.agg #[.bool b, .string m]] w (Ret (.agg #[.bool b, .string m]) w) := by
  have HB := Lib.hid (fun o o' => ((Below.refl w.heap.size w).alloc (Nat.le_refl _) o).alloc (by simp) o')
  go_enter Tryz.func233, Tryz.ntmps233
  go_wp2_with fail
  go_returns
  exact ⟨rfl, HB.out _ _⟩
theorem rowKind_any (k : Nat) (r : ByteArray) (w : World) : Calls Tryz.prog 236 #[.agg #[.int .u8 k, .string r]] w (Ret (.int .u8 k) w) := by
  have HB := Lib.hid (fun o => (Below.refl w.heap.size w).alloc (Nat.le_refl _) o)
  go_enter Tryz.func236, Tryz.ntmps236
  go_wp2_with fail
  go_ret
  exact ⟨rfl, HB.out _⟩
theorem rowBytes_any (k : Nat) (r : ByteArray) (w : World) : Calls Tryz.prog 235 #[.agg #[.int .u8 k, .string r]] w (Ret (.string r) w) := by
  have HB := Lib.hid (fun o => (Below.refl w.heap.size w).alloc (Nat.le_refl _) o)
  go_enter Tryz.func235, Tryz.ntmps235
  go_wp2_with fail
  go_ret
  exact ⟨rfl, HB.out _⟩
theorem tupKind_any (a : Option Addr) (n c : Nat) (w : World) : Calls Tryz.prog 227 #[.agg #[.slice a n c]] w (Ret (.int .u8 7) w) := by
  have HB := Lib.hid (fun o => (Below.refl w.heap.size w).alloc (Nat.le_refl _) o)
  go_enter Tryz.func227, Tryz.ntmps227
  go_wp2_with fail
  go_ret
  exact ⟨rfl, HB.out _⟩
/-- A part without items comes back. -/
def FlatRet (k : Nat) (y b : Bool) (m r : ByteArray) (w : World) (e : Ending) (w' : World) : Prop := e = .returned (.agg #[.int .u8 k, .bool y, .bool b, .string m, .string r, .slice none 0 0]) ∧ Below w.heap.size w w'
theorem truthPart_any (y : Bool) (w : World) : Calls Tryz.prog 231 #[.agg #[.bool y]] w (FlatRet 1 y false ⟨#[]⟩ ⟨#[]⟩ w) := by
  have HB := Lib.hid (fun o o' => ((Below.refl w.heap.size w).alloc (Nat.le_refl _) o).alloc (by simp) o')
  go_enter Tryz.func231, Tryz.ntmps231
  go_wp2_with fail
  go_returns
  exact ⟨rfl, HB.out _ _⟩
theorem wholePart_any (b : Bool) (m : ByteArray) (w : World) : Calls Tryz.prog 234 #[.agg #[.bool b, .string m]] w (FlatRet 2 false b m ⟨#[]⟩ w) := by
  have HB := Lib.hid (fun o o' => ((Below.refl w.heap.size w).alloc (Nat.le_refl _) o).alloc (by simp) o')
  go_enter Tryz.func234, Tryz.ntmps234
  go_wp2_with fail
  go_returns
  exact ⟨rfl, HB.out _ _⟩
theorem rowPart_any (k : Nat) (r : ByteArray) (w : World) : Calls Tryz.prog 237 #[.agg #[.int .u8 k, .string r]] w (FlatRet k false false ⟨#[]⟩ r w) := by
  have HB := Lib.hid (fun o o' => ((Below.refl w.heap.size w).alloc (Nat.le_refl _) o).alloc (by simp) o')
  go_enter Tryz.func237, Tryz.ntmps237
  go_wp2_with fail
  go_returns
  exact ⟨rfl, HB.out _ _⟩
end Go.Proofs.YtcjllhdbepchnaaGreatDoor
