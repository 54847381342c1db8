/-
  value.may: may a part be? (Parts that are no tuples.)
-/
import Derived.Test.YtjgicjgpahnmaaaDoorJP
/-! value.may: may a part be? (Parts that are no tuples.) -/
namespace Go.Proofs.YtjgicjgpahnmaaaDoor
open Go.RowKit Go.WideShapes
set_option linter.unusedVariables false
theorem toList_nil {m : ByteArray} : m.toList = [] ↔ m.size = 0 := by
  rw [ByteArray.toList_eq]; cases m with | mk d => cases d with | mk l => simp [ByteArray.size]
theorem toList_emp {m : ByteArray} : m.toList.isEmpty = (m.size == 0) := by
  rw [ByteArray.toList_eq]; cases m with | mk d => cases d with | mk l => cases l <;> simp [ByteArray.size]
theorem len_nil {l : List PT} : ((l.length : Int) == 0) = l.isEmpty := by cases l <;> simp; omega
set_option maxRecDepth 100000 in
set_option maxHeartbeats 1000000 in
theorem vmay_0 (y b : Bool) (m r : ByteArray) (l : List PT) (a : Option Addr) (c : Nat) (w : World) (hm : m.size ≤ maxLen) (hr : r.size ≤ maxLen) :
    Calls Tryd.prog 25 #[.agg (partCells (.mk 0 y b m r l) a c).toArray] w (Ret (.bool (PT.may (.mk 0 y b m r l))) w) := by
  have HB := Lib.hid (fun o => (Below.refl w.heap.size w).alloc (Nat.le_refl _) o)
  have HM := Lib.hid hm
  unfold maxLen at hm hr
  simp only [partCells, PT.kind, PT.yes, PT.bel, PT.mag, PT.raw, PT.items]
  go_enter Tryd.func25, Tryd.ntmps25
  go_wp2_with fail
  all_goals (go_ret; refine ⟨ret_bool ?_, HB.out _⟩)
  all_goals simp_all [PT.may, toList_nil, toList_emp, len_nil]
set_option maxRecDepth 100000 in
set_option maxHeartbeats 1000000 in
theorem vmay_1 (y b : Bool) (m r : ByteArray) (l : List PT) (a : Option Addr) (c : Nat) (w : World) (hm : m.size ≤ maxLen) (hr : r.size ≤ maxLen) :
    Calls Tryd.prog 25 #[.agg (partCells (.mk 1 y b m r l) a c).toArray] w (Ret (.bool (PT.may (.mk 1 y b m r l))) w) := by
  have HB := Lib.hid (fun o => (Below.refl w.heap.size w).alloc (Nat.le_refl _) o)
  have HM := Lib.hid hm
  unfold maxLen at hm hr
  simp only [partCells, PT.kind, PT.yes, PT.bel, PT.mag, PT.raw, PT.items]
  go_enter Tryd.func25, Tryd.ntmps25
  go_wp2_with fail
  all_goals (go_ret; refine ⟨ret_bool ?_, HB.out _⟩)
  all_goals simp_all [PT.may, toList_nil, toList_emp, len_nil]
set_option maxRecDepth 100000 in
set_option maxHeartbeats 1000000 in
theorem vmay_3 (y b : Bool) (m r : ByteArray) (l : List PT) (a : Option Addr) (c : Nat) (w : World) (hm : m.size ≤ maxLen) (hr : r.size ≤ maxLen) :
    Calls Tryd.prog 25 #[.agg (partCells (.mk 3 y b m r l) a c).toArray] w (Ret (.bool (PT.may (.mk 3 y b m r l))) w) := by
  have HB := Lib.hid (fun o => (Below.refl w.heap.size w).alloc (Nat.le_refl _) o)
  have HM := Lib.hid hm
  unfold maxLen at hm hr
  simp only [partCells, PT.kind, PT.yes, PT.bel, PT.mag, PT.raw, PT.items]
  go_enter Tryd.func25, Tryd.ntmps25
  go_wp2_with fail
  all_goals (go_ret; refine ⟨ret_bool ?_, HB.out _⟩)
  all_goals simp_all [PT.may, toList_nil, len_nil]
  all_goals omega
set_option maxRecDepth 100000 in
set_option maxHeartbeats 1000000 in
theorem vmay_4 (y b : Bool) (m r : ByteArray) (l : List PT) (a : Option Addr) (c : Nat) (w : World) (hm : m.size ≤ maxLen) (hr : r.size ≤ maxLen) :
    Calls Tryd.prog 25 #[.agg (partCells (.mk 4 y b m r l) a c).toArray] w (Ret (.bool (PT.may (.mk 4 y b m r l))) w) := by
  have HB := Lib.hid (fun o => (Below.refl w.heap.size w).alloc (Nat.le_refl _) o)
  have HM := Lib.hid hm
  unfold maxLen at hm hr
  simp only [partCells, PT.kind, PT.yes, PT.bel, PT.mag, PT.raw, PT.items]
  go_enter Tryd.func25, Tryd.ntmps25
  go_wp2_with fail
  all_goals (go_ret; refine ⟨ret_bool ?_, HB.out _⟩)
  all_goals simp_all [PT.may, toList_nil, len_nil]
  all_goals (rw [Bool.eq_iff_iff]; simp; omega)
set_option maxRecDepth 100000 in
set_option maxHeartbeats 1000000 in
theorem vmay_5 (y b : Bool) (m r : ByteArray) (l : List PT) (a : Option Addr) (c : Nat) (w : World) (hm : m.size ≤ maxLen) (hr : r.size ≤ maxLen) :
    Calls Tryd.prog 25 #[.agg (partCells (.mk 5 y b m r l) a c).toArray] w (Ret (.bool (PT.may (.mk 5 y b m r l))) w) := by
  have HB := Lib.hid (fun o => (Below.refl w.heap.size w).alloc (Nat.le_refl _) o)
  have HM := Lib.hid hm
  unfold maxLen at hm hr
  simp only [partCells, PT.kind, PT.yes, PT.bel, PT.mag, PT.raw, PT.items]
  go_enter Tryd.func25, Tryd.ntmps25
  go_wp2_with fail
  all_goals (go_ret; refine ⟨ret_bool ?_, HB.out _⟩)
  all_goals simp_all [PT.may, toList_nil, len_nil]
  all_goals omega
set_option maxRecDepth 100000 in
set_option maxHeartbeats 1000000 in
theorem vmay_6 (y b : Bool) (m r : ByteArray) (l : List PT) (a : Option Addr) (c : Nat) (w : World) (hm : m.size ≤ maxLen) (hr : r.size ≤ maxLen) :
    Calls Tryd.prog 25 #[.agg (partCells (.mk 6 y b m r l) a c).toArray] w (Ret (.bool (PT.may (.mk 6 y b m r l))) w) := by
  have HB := Lib.hid (fun o => (Below.refl w.heap.size w).alloc (Nat.le_refl _) o)
  have HM := Lib.hid hm
  unfold maxLen at hm hr
  simp only [partCells, PT.kind, PT.yes, PT.bel, PT.mag, PT.raw, PT.items]
  go_enter Tryd.func25, Tryd.ntmps25
  go_wp2_with fail
  all_goals (go_ret; refine ⟨ret_bool ?_, HB.out _⟩)
  all_goals simp_all [PT.may, toList_nil, len_nil]
  all_goals omega
set_option maxRecDepth 100000 in
set_option maxHeartbeats 1000000 in
theorem vmay_n (k : Nat) (hk8 : 8 ≤ k) (hk256 : k < 256) (y b : Bool) (m r : ByteArray) (l : List PT) (a : Option Addr) (c : Nat) (w : World) (hm : m.size ≤ maxLen) (hr : r.size ≤ maxLen) :
    Calls Tryd.prog 25 #[.agg (partCells (.mk k y b m r l) a c).toArray] w (Ret (.bool (PT.may (.mk k y b m r l))) w) := by
  have HB := Lib.hid (fun o => (Below.refl w.heap.size w).alloc (Nat.le_refl _) o)
  have HM := Lib.hid hm
  unfold maxLen at hm hr
  have hk_0 : k ≠ 0 := by omega
  have hk_1 : k ≠ 1 := by omega
  have hk_2 : k ≠ 2 := by omega
  have hk_3 : k ≠ 3 := by omega
  have hk_4 : k ≠ 4 := by omega
  have hk_5 : k ≠ 5 := by omega
  have hk_6 : k ≠ 6 := by omega
  have hk_7 : k ≠ 7 := by omega
  simp only [partCells, PT.kind, PT.yes, PT.bel, PT.mag, PT.raw, PT.items]
  go_enter Tryd.func25, Tryd.ntmps25
  go_wp2_with fail
  all_goals (go_ret; refine ⟨ret_bool ?_, HB.out _⟩)
  all_goals simp_all [PT.may, toList_nil, len_nil]
  all_goals omega
end Go.Proofs.YtjgicjgpahnmaaaDoor

/-! value.may of numbers and tuples. -/
namespace Go.Proofs.YtjgicjgpahnmaaaDoor
open Go.RowKit Go.WideShapes
set_option linter.unusedVariables false
set_option maxRecDepth 100000 in
set_option maxHeartbeats 1000000 in
theorem vmay_2 (y b : Bool) (m r : ByteArray) (l : List PT) (a : Option Addr) (c : Nat) (w : World) (hm : m.size ≤ maxLen) (hr : r.size ≤ maxLen) :
    Calls Tryd.prog 25 #[.agg (partCells (.mk 2 y b m r l) a c).toArray] w (Ret (.bool (PT.may (.mk 2 y b m r l))) w) := by
  have HB := Lib.hid (fun o => (Below.refl w.heap.size w).alloc (Nat.le_refl _) o)
  have HN := Lib.hid (fun w => natCheck_any b m w hm)
  have HM := Lib.hid (fun W n (h : Below n w W) => h)
  unfold maxLen at hm hr
  simp only [partCells, PT.kind, PT.yes, PT.bel, PT.mag, PT.raw, PT.items]
  go_enter Tryd.func25, Tryd.ntmps25
  go_wp2_with fail
  all_goals (first
    | (go_ret; refine ⟨ret_bool ?_, HB.out _⟩; simp_all [PT.may, toList_nil, len_nil]; done)
    | skip)
  refine (HN.out _).mono ?_
  rintro e w' ⟨rfl, hb⟩
  have HB' := Lib.hid ((HB.out _).trans (hb.mono (by simp)))
  go_wp2_with fail
  go_ret
  refine ⟨ret_bool ?_, HB'.out⟩
  simp_all [PT.may, toList_nil, len_nil, numWhy_ok]
theorem PT.mayL_at {l : List PT} {k : Nat} (hk : k < l.length) (h : l[k].may = false) : PT.mayL l = false := by
  cases hd : PT.mayL l with
  | false => rfl
  | true => exact absurd (PT.mayL_iff.1 hd l[k] (List.getElem_mem hk)) (by rw [h]; simp)
theorem PT.mayL_all {l : List PT} (h : ∀ j (hj : j < l.length), l[j].may = true) : PT.mayL l = true :=
  PT.mayL_iff.2 fun x hx => by obtain ⟨j, hj, rfl⟩ := List.getElem_of_mem hx; exact h j hj
set_option maxRecDepth 100000 in
set_option maxHeartbeats 1000000 in
theorem vmay_7 (y b : Bool) (m r : ByteArray) (l : List PT) (a : Option Addr) (c : Nat) (w : World) (hm : m.size ≤ maxLen) (hr : r.size ≤ maxLen) (hl : PartsAt w (· < w.heap.size) l a)
    (ih : ∀ x ∈ l, ∀ (a : Option Addr) (c : Nat) (w : World), PartAt w (· < w.heap.size) x (partCells x a c) → Calls Tryd.prog 25 #[.agg (partCells x a c).toArray] w (Ret (.bool x.may) w)) :
    Calls Tryd.prog 25 #[.agg (partCells (.mk 7 y b m r l) a c).toArray] w (Ret (.bool (PT.may (.mk 7 y b m r l))) w) := by
  have HB := Lib.hid (fun o => (Below.refl w.heap.size w).alloc (Nat.le_refl _) o)
  have HI := Lib.hid hl
  have HIH := Lib.hid ih
  clear hl ih
  unfold maxLen at hm hr
  show Calls Tryd.prog 25 #[.agg #[.int .u8 7, .bool y, .bool b, .string m, .string r, .slice a l.length c]] w _
  by_cases hg : y = false ∧ b = false ∧ m.size = 0 ∧ r.size = 0 ∧ l.length ≤ 1024
  · obtain ⟨rfl, rfl, hm0, hr0, hl0⟩ := hg
    obtain rfl := ba_nil hm0
    obtain rfl := ba_nil hr0
    have hl9 : l.length < 9223372036854775807 := by omega
    have HE := Lib.hid (show PT.may (.mk 7 false false ⟨#[]⟩ ⟨#[]⟩ l) = PT.mayL l by simp [PT.may, hl0]; intro _; rfl)
    clear hm hr hm0 hr0
    go_enter Tryd.func25, Tryd.ntmps25
    go_wp2_with fail
    have HL0 := Lib.hid hl0
    clear hl0
    repeat (rename (_ : Bool) = false => hh; clear hh)
    repeat (rename (_ : Bool) = true => hh; clear hh)
    try (rename (l.length : Int) ≤ 1024 => hh; clear hh)
    go_loopw [91] (fun i wr => ∃ (k : Nat), i = .int .i64 k ∧ k ≤ l.length ∧ Hid (∀ j (hj : j < l.length), j < k → l[j].may = true) ∧ Hid (Below w.heap.size w wr) ∧ w.heap.size < wr.heap.size) (fun i _ => l.length - (intOf i).toNat)
    case atStart => exact ⟨0, rfl, by omega, Lib.hid (fun j _ hj => absurd hj (Nat.not_lt_zero j)), Lib.hid (HB.out _), by simp⟩
    case round =>
      obtain ⟨k, rfl, hk, HN, HB1, hwz⟩ := hrel
      by_cases hlt : k < l.length
      · obtain ⟨b, o, a', c', rfl, hb, k0, k1, k2, k3, k4, k5, hpa⟩ := (HI.out.below HB1.out).cells hlt
        have HB2 := Lib.hid (HB1.out.alloc (by omega) (.cells (partCells l[k] a' c').toArray 30))
        have HR := Lib.hid (HIH.out l[k] (List.getElem_mem hlt) a' c' _ ((hpa.below (B := w.heap.size) ((Below.refl _ _).alloc (by omega) (.cells (partCells l[k] a' c').toArray 30))).wide (by simp; omega)))
        unfold partCells at HR HB2
        clear hpa
        go_wp2_with fail
        refine HR.out.mono ?_
        rintro e w' ⟨rfl, hg2⟩
        have HB' := Lib.hid (HB2.out.trans (hg2.mono (by simp; omega)))
        have hz' : wr.heap.size + 1 ≤ w'.heap.size := by have := hg2.size; simpa using this
        clear hg2 HR k0 k1 k2 k3 k4 k5 HB1 HB2
        cases hd : l[k].may with
        | false =>
          go_wp2_with fail
          go_ret
          exact ⟨ret_bool (HE.out.trans (PT.mayL_at hlt hd)).symm, HB'.out⟩
        | true =>
          go_wp2_with fail
          go_roundw
          case rel => exact ⟨k + 1, by go_num, by omega, Lib.hid (fun j hj hjk => (Nat.lt_succ_iff_lt_or_eq.1 hjk).elim (fun h => HN.out j hj h) (fun h => by subst h; exact hd)), HB', by omega⟩
          case measure => simp [intOf]; omega
      · go_wp2_with fail
        go_ret
        exact ⟨ret_bool (HE.out.trans (PT.mayL_all fun j hj => HN.out j hj (by omega))).symm, HB1.out⟩
  · have HG := Lib.hid hg
    clear hg
    go_enter Tryd.func25, Tryd.ntmps25
    go_wp2_with fail
    all_goals (first
      | (go_ret; refine ⟨ret_bool ?_, HB.out _⟩; simp_all [PT.may, toList_nil]; done)
      | (go_ret; refine ⟨ret_bool ?_, HB.out _⟩; simp_all [PT.may, toList_nil]; omega)
      | (exfalso; have := HG.out; simp_all [toList_nil]; done)
      | (exfalso; have := HG.out; simp_all [toList_nil]; omega)
      | trace_state)
end Go.Proofs.YtjgicjgpahnmaaaDoor

/-! ref09.May: may a part be? -/
namespace Go.Proofs.YtjgicjgpahnmaaaDoor
open Go.RowKit Go.WideShapes
set_option linter.unusedVariables false
set_option linter.unusedSimpArgs false
theorem vmay_any : ∀ (t : PT) (a : Option Addr) (c : Nat) (w : World), PartAt w (· < w.heap.size) t (partCells t a c) → Calls Tryd.prog 25 #[.agg (partCells t a c).toArray] w (Ret (.bool t.may) w) := by
  refine PT.all fun t ih => ?_
  intro a c w hp
  obtain ⟨a1, c1, e1, hk, hm, hr, hlc, hcm, hits⟩ := hp.open
  obtain ⟨rfl, rfl⟩ : a1 = a ∧ c1 = c := by simpa [partCells, eq_comm] using e1
  obtain ⟨k, y, b, m, r, l⟩ := t
  simp only [PT.kind, PT.mag, PT.raw, PT.items] at hk hm hr hits ih
  by_cases h8 : 8 ≤ k
  · exact vmay_n k h8 hk y b m r l a1 c1 w hm hr
  · obtain rfl | rfl | rfl | rfl | rfl | rfl | rfl | rfl : k = 0 ∨ k = 1 ∨ k = 2 ∨ k = 3 ∨ k = 4 ∨ k = 5 ∨ k = 6 ∨ k = 7 := by omega
    · exact vmay_0 y b m r l a1 c1 w hm hr
    · exact vmay_1 y b m r l a1 c1 w hm hr
    · exact vmay_2 y b m r l a1 c1 w hm hr
    · exact vmay_3 y b m r l a1 c1 w hm hr
    · exact vmay_4 y b m r l a1 c1 w hm hr
    · exact vmay_5 y b m r l a1 c1 w hm hr
    · exact vmay_6 y b m r l a1 c1 w hm hr
    · exact vmay_7 y b m r l a1 c1 w hm hr hits ih
theorem len_pos {l : List PT} : (0 < (l.length : Int)) ↔ l ≠ [] := by cases l <;> simp
set_option maxRecDepth 100000 in
set_option maxHeartbeats 2000000 in
theorem rmay_0 (y b : Bool) (m r : ByteArray) (l : List PT) (a : Option Addr) (c : Nat) (w : World) (hm : m.size ≤ maxLen) (hr : r.size ≤ maxLen) (hll : l.length ≤ maxLen) (hl : PartsAt w (· < w.heap.size) l a)
    (ih : ∀ x ∈ l, ∀ (a : Option Addr) (c : Nat) (w : World), PartAt w (· < w.heap.size) x (partCells x a c) → Calls Tryd.prog 23 #[.agg (partCells x a c).toArray] w (Ret (.bool x.may) w)) :
    Calls Tryd.prog 23 #[.agg (partCells (.mk 0 y b m r l) a c).toArray] w (Ret (.bool (PT.may (.mk 0 y b m r l))) w) := by
  have HB := Lib.hid (fun o o2 => ((Below.refl w.heap.size w).alloc (Nat.le_refl _) o).alloc (by simp : w.heap.size ≤ (w.alloc o).heap.size) o2)
  have HP := Lib.hid (fun o2 => (new_part w w.heap.size (.mk 0 y b m r l) a c 30 rfl).keep fun p hp => World.cell?_alloc_lt _ o2 p (by simp; omega))
  have HI := Lib.hid hl
  have HIH := Lib.hid ih
  have HN := Lib.hid (fun w => refNatCheck_any b m w hm)
  clear hl ih
  unfold maxLen at hm hr hll
  show Calls Tryd.prog 23 #[.agg #[.int .u8 0, .bool y, .bool b, .string m, .string r, .slice a l.length c]] w _
  by_cases hg : y = false ∧ b = false ∧ m.size = 0 ∧ r.size = 0 ∧ l = []
  · obtain ⟨rfl, rfl, hm0, hr0, rfl⟩ := hg
    obtain rfl := ba_nil hm0
    obtain rfl := ba_nil hr0
    have HE := Lib.hid (show PT.may (.mk 0 false false ⟨#[]⟩ ⟨#[]⟩ []) = PT.mayL [] by simp [PT.may, PT.mayL] <;> first | exact rfl | (intro _; exact rfl))
    go_enter Tryd.func23, Tryd.ntmps23
    go_wp2_with fail
    go_loopw [6] (fun i wr => i = .int .i64 0 ∧ Hid (Below w.heap.size w wr) ∧ Hid (CellsAt wr w.heap.size 0 (partCells (.mk 0 false false ⟨#[]⟩ ⟨#[]⟩ []) a c))) (fun i _ => 0)
    case atStart => exact ⟨rfl, Lib.hid (HB.out _ _), Lib.hid (HP.out _)⟩
    case round =>
      obtain ⟨rfl, HB1, HP1⟩ := hrel
      have hp5 := HP1.out 5 _ rfl
      go_wp2_with fail
      go_ret
      exact ⟨ret_bool HE.out.symm, HB1.out⟩
  · have HG := Lib.hid hg
    clear hg
    go_enter Tryd.func23, Tryd.ntmps23
    go_wp2_with fail
    all_goals (first
      | (go_ret; refine ⟨ret_bool ?_, HB.out _ _⟩; simp_all [PT.may, toList_nil, toList_emp, len_pos, List.length_pos_iff]; done)
      | (go_ret; refine ⟨ret_bool ?_, HB.out _ _⟩; simp_all [PT.may, toList_nil, toList_emp, len_pos, List.length_pos_iff]; omega)
      | (exfalso; have := HG.out; simp_all [toList_nil, toList_emp, len_pos, List.length_pos_iff]; done)
      | (exfalso; have := HG.out; simp_all [toList_nil, toList_emp, len_pos, List.length_pos_iff]; omega)
      | trace_state)
set_option maxRecDepth 100000 in
set_option maxHeartbeats 2000000 in
theorem rmay_1 (y b : Bool) (m r : ByteArray) (l : List PT) (a : Option Addr) (c : Nat) (w : World) (hm : m.size ≤ maxLen) (hr : r.size ≤ maxLen) (hll : l.length ≤ maxLen) (hl : PartsAt w (· < w.heap.size) l a)
    (ih : ∀ x ∈ l, ∀ (a : Option Addr) (c : Nat) (w : World), PartAt w (· < w.heap.size) x (partCells x a c) → Calls Tryd.prog 23 #[.agg (partCells x a c).toArray] w (Ret (.bool x.may) w)) :
    Calls Tryd.prog 23 #[.agg (partCells (.mk 1 y b m r l) a c).toArray] w (Ret (.bool (PT.may (.mk 1 y b m r l))) w) := by
  have HB := Lib.hid (fun o o2 => ((Below.refl w.heap.size w).alloc (Nat.le_refl _) o).alloc (by simp : w.heap.size ≤ (w.alloc o).heap.size) o2)
  have HP := Lib.hid (fun o2 => (new_part w w.heap.size (.mk 1 y b m r l) a c 30 rfl).keep fun p hp => World.cell?_alloc_lt _ o2 p (by simp; omega))
  have HI := Lib.hid hl
  have HIH := Lib.hid ih
  have HN := Lib.hid (fun w => refNatCheck_any b m w hm)
  clear hl ih
  unfold maxLen at hm hr hll
  show Calls Tryd.prog 23 #[.agg #[.int .u8 1, .bool y, .bool b, .string m, .string r, .slice a l.length c]] w _
  by_cases hg : b = false ∧ m.size = 0 ∧ r.size = 0 ∧ l = []
  · obtain ⟨rfl, hm0, hr0, rfl⟩ := hg
    obtain rfl := ba_nil hm0
    obtain rfl := ba_nil hr0
    have HE := Lib.hid (show PT.may (.mk 1 y false ⟨#[]⟩ ⟨#[]⟩ []) = PT.mayL [] by simp [PT.may, PT.mayL] <;> first | exact rfl | (intro _; exact rfl))
    go_enter Tryd.func23, Tryd.ntmps23
    go_wp2_with fail
    go_loopw [6] (fun i wr => i = .int .i64 0 ∧ Hid (Below w.heap.size w wr) ∧ Hid (CellsAt wr w.heap.size 0 (partCells (.mk 1 y false ⟨#[]⟩ ⟨#[]⟩ []) a c))) (fun i _ => 0)
    case atStart => exact ⟨rfl, Lib.hid (HB.out _ _), Lib.hid (HP.out _)⟩
    case round =>
      obtain ⟨rfl, HB1, HP1⟩ := hrel
      have hp5 := HP1.out 5 _ rfl
      go_wp2_with fail
      go_ret
      exact ⟨ret_bool HE.out.symm, HB1.out⟩
  · have HG := Lib.hid hg
    clear hg
    go_enter Tryd.func23, Tryd.ntmps23
    go_wp2_with fail
    all_goals (first
      | (go_ret; refine ⟨ret_bool ?_, HB.out _ _⟩; simp_all [PT.may, toList_nil, toList_emp, len_pos, List.length_pos_iff]; done)
      | (go_ret; refine ⟨ret_bool ?_, HB.out _ _⟩; simp_all [PT.may, toList_nil, toList_emp, len_pos, List.length_pos_iff]; omega)
      | (exfalso; have := HG.out; simp_all [toList_nil, toList_emp, len_pos, List.length_pos_iff]; done)
      | (exfalso; have := HG.out; simp_all [toList_nil, toList_emp, len_pos, List.length_pos_iff]; omega)
      | trace_state)
set_option maxRecDepth 100000 in
set_option maxHeartbeats 2000000 in
theorem rmay_2 (y b : Bool) (m r : ByteArray) (l : List PT) (a : Option Addr) (c : Nat) (w : World) (hm : m.size ≤ maxLen) (hr : r.size ≤ maxLen) (hll : l.length ≤ maxLen) (hl : PartsAt w (· < w.heap.size) l a)
    (ih : ∀ x ∈ l, ∀ (a : Option Addr) (c : Nat) (w : World), PartAt w (· < w.heap.size) x (partCells x a c) → Calls Tryd.prog 23 #[.agg (partCells x a c).toArray] w (Ret (.bool x.may) w)) :
    Calls Tryd.prog 23 #[.agg (partCells (.mk 2 y b m r l) a c).toArray] w (Ret (.bool (PT.may (.mk 2 y b m r l))) w) := by
  have HB := Lib.hid (fun o o2 => ((Below.refl w.heap.size w).alloc (Nat.le_refl _) o).alloc (by simp : w.heap.size ≤ (w.alloc o).heap.size) o2)
  have HP := Lib.hid (fun o2 => (new_part w w.heap.size (.mk 2 y b m r l) a c 30 rfl).keep fun p hp => World.cell?_alloc_lt _ o2 p (by simp; omega))
  have HI := Lib.hid hl
  have HIH := Lib.hid ih
  have HN := Lib.hid (fun w => refNatCheck_any b m w hm)
  clear hl ih
  unfold maxLen at hm hr hll
  show Calls Tryd.prog 23 #[.agg #[.int .u8 2, .bool y, .bool b, .string m, .string r, .slice a l.length c]] w _
  go_enter Tryd.func23, Tryd.ntmps23
  go_wp2_with fail
  all_goals (first
    | (go_ret; refine ⟨ret_bool ?_, HB.out _ _⟩; simp_all [PT.may, toList_nil, toList_emp, len_pos, List.length_pos_iff]; done)
    | (refine (HN.out _).mono ?_
       rintro e w' ⟨rfl, hb⟩
       have HB' := Lib.hid ((HB.out _ _).trans (hb.mono (by simp <;> omega)))
       go_wp2_with fail
       go_ret
       refine ⟨ret_bool ?_, HB'.out⟩
       simp_all [PT.may, toList_nil, len_pos, numWhy_ok]
       done)
    | trace_state)
set_option maxRecDepth 100000 in
set_option maxHeartbeats 2000000 in
theorem rmay_3 (y b : Bool) (m r : ByteArray) (l : List PT) (a : Option Addr) (c : Nat) (w : World) (hm : m.size ≤ maxLen) (hr : r.size ≤ maxLen) (hll : l.length ≤ maxLen) (hl : PartsAt w (· < w.heap.size) l a)
    (ih : ∀ x ∈ l, ∀ (a : Option Addr) (c : Nat) (w : World), PartAt w (· < w.heap.size) x (partCells x a c) → Calls Tryd.prog 23 #[.agg (partCells x a c).toArray] w (Ret (.bool x.may) w)) :
    Calls Tryd.prog 23 #[.agg (partCells (.mk 3 y b m r l) a c).toArray] w (Ret (.bool (PT.may (.mk 3 y b m r l))) w) := by
  have HB := Lib.hid (fun o o2 => ((Below.refl w.heap.size w).alloc (Nat.le_refl _) o).alloc (by simp : w.heap.size ≤ (w.alloc o).heap.size) o2)
  have HP := Lib.hid (fun o2 => (new_part w w.heap.size (.mk 3 y b m r l) a c 30 rfl).keep fun p hp => World.cell?_alloc_lt _ o2 p (by simp; omega))
  have HI := Lib.hid hl
  have HIH := Lib.hid ih
  have HN := Lib.hid (fun w => refNatCheck_any b m w hm)
  clear hl ih
  unfold maxLen at hm hr hll
  show Calls Tryd.prog 23 #[.agg #[.int .u8 3, .bool y, .bool b, .string m, .string r, .slice a l.length c]] w _
  by_cases hg : y = false ∧ b = false ∧ m.size = 0 ∧ r.size ≤ 65536 ∧ l = []
  · obtain ⟨rfl, rfl, hm0, hr0, rfl⟩ := hg
    obtain rfl := ba_nil hm0
    have HE := Lib.hid (show PT.may (.mk 3 false false ⟨#[]⟩ r []) = PT.mayL [] by simp [PT.may, PT.mayL, hr0] <;> first | exact rfl | (intro _; exact rfl))
    go_enter Tryd.func23, Tryd.ntmps23
    go_wp2_with fail
    go_loopw [6] (fun i wr => i = .int .i64 0 ∧ Hid (Below w.heap.size w wr) ∧ Hid (CellsAt wr w.heap.size 0 (partCells (.mk 3 false false ⟨#[]⟩ r []) a c))) (fun i _ => 0)
    case atStart => exact ⟨rfl, Lib.hid (HB.out _ _), Lib.hid (HP.out _)⟩
    case round =>
      obtain ⟨rfl, HB1, HP1⟩ := hrel
      have hp5 := HP1.out 5 _ rfl
      go_wp2_with fail
      go_ret
      exact ⟨ret_bool HE.out.symm, HB1.out⟩
  · have HG := Lib.hid hg
    clear hg
    go_enter Tryd.func23, Tryd.ntmps23
    go_wp2_with fail
    all_goals (first
      | (go_ret; refine ⟨ret_bool ?_, HB.out _ _⟩; simp_all [PT.may, toList_nil, toList_emp, len_pos, List.length_pos_iff]; done)
      | (go_ret; refine ⟨ret_bool ?_, HB.out _ _⟩; simp_all [PT.may, toList_nil, toList_emp, len_pos, List.length_pos_iff]; omega)
      | (exfalso; have := HG.out; simp_all [toList_nil, toList_emp, len_pos, List.length_pos_iff]; done)
      | (exfalso; have := HG.out; simp_all [toList_nil, toList_emp, len_pos, List.length_pos_iff]; omega)
      | trace_state)
set_option maxRecDepth 100000 in
set_option maxHeartbeats 2000000 in
theorem rmay_4 (y b : Bool) (m r : ByteArray) (l : List PT) (a : Option Addr) (c : Nat) (w : World) (hm : m.size ≤ maxLen) (hr : r.size ≤ maxLen) (hll : l.length ≤ maxLen) (hl : PartsAt w (· < w.heap.size) l a)
    (ih : ∀ x ∈ l, ∀ (a : Option Addr) (c : Nat) (w : World), PartAt w (· < w.heap.size) x (partCells x a c) → Calls Tryd.prog 23 #[.agg (partCells x a c).toArray] w (Ret (.bool x.may) w)) :
    Calls Tryd.prog 23 #[.agg (partCells (.mk 4 y b m r l) a c).toArray] w (Ret (.bool (PT.may (.mk 4 y b m r l))) w) := by
  have HB := Lib.hid (fun o o2 => ((Below.refl w.heap.size w).alloc (Nat.le_refl _) o).alloc (by simp : w.heap.size ≤ (w.alloc o).heap.size) o2)
  have HP := Lib.hid (fun o2 => (new_part w w.heap.size (.mk 4 y b m r l) a c 30 rfl).keep fun p hp => World.cell?_alloc_lt _ o2 p (by simp; omega))
  have HI := Lib.hid hl
  have HIH := Lib.hid ih
  have HN := Lib.hid (fun w => refNatCheck_any b m w hm)
  clear hl ih
  unfold maxLen at hm hr hll
  show Calls Tryd.prog 23 #[.agg #[.int .u8 4, .bool y, .bool b, .string m, .string r, .slice a l.length c]] w _
  by_cases hg : y = false ∧ b = false ∧ m.size = 0 ∧ r.size = 16 ∧ l = []
  · obtain ⟨rfl, rfl, hm0, hr0, rfl⟩ := hg
    obtain rfl := ba_nil hm0
    have HE := Lib.hid (show PT.may (.mk 4 false false ⟨#[]⟩ r []) = PT.mayL [] by simp [PT.may, PT.mayL, hr0] <;> first | exact rfl | (intro _; exact rfl))
    go_enter Tryd.func23, Tryd.ntmps23
    go_wp2_with fail
    go_loopw [6] (fun i wr => i = .int .i64 0 ∧ Hid (Below w.heap.size w wr) ∧ Hid (CellsAt wr w.heap.size 0 (partCells (.mk 4 false false ⟨#[]⟩ r []) a c))) (fun i _ => 0)
    case atStart => exact ⟨rfl, Lib.hid (HB.out _ _), Lib.hid (HP.out _)⟩
    case round =>
      obtain ⟨rfl, HB1, HP1⟩ := hrel
      have hp5 := HP1.out 5 _ rfl
      go_wp2_with fail
      go_ret
      exact ⟨ret_bool HE.out.symm, HB1.out⟩
  · have HG := Lib.hid hg
    clear hg
    go_enter Tryd.func23, Tryd.ntmps23
    go_wp2_with fail
    all_goals (first
      | (go_ret; refine ⟨ret_bool ?_, HB.out _ _⟩; simp_all [PT.may, toList_nil, toList_emp, len_pos, List.length_pos_iff]; done)
      | (go_ret; refine ⟨ret_bool ?_, HB.out _ _⟩; simp_all [PT.may, toList_nil, toList_emp, len_pos, List.length_pos_iff]; omega)
      | (exfalso; have := HG.out; simp_all [toList_nil, toList_emp, len_pos, List.length_pos_iff]; done)
      | (exfalso; have := HG.out; simp_all [toList_nil, toList_emp, len_pos, List.length_pos_iff]; omega)
      | trace_state)
set_option maxRecDepth 100000 in
set_option maxHeartbeats 2000000 in
theorem rmay_5 (y b : Bool) (m r : ByteArray) (l : List PT) (a : Option Addr) (c : Nat) (w : World) (hm : m.size ≤ maxLen) (hr : r.size ≤ maxLen) (hll : l.length ≤ maxLen) (hl : PartsAt w (· < w.heap.size) l a)
    (ih : ∀ x ∈ l, ∀ (a : Option Addr) (c : Nat) (w : World), PartAt w (· < w.heap.size) x (partCells x a c) → Calls Tryd.prog 23 #[.agg (partCells x a c).toArray] w (Ret (.bool x.may) w)) :
    Calls Tryd.prog 23 #[.agg (partCells (.mk 5 y b m r l) a c).toArray] w (Ret (.bool (PT.may (.mk 5 y b m r l))) w) := by
  have HB := Lib.hid (fun o o2 => ((Below.refl w.heap.size w).alloc (Nat.le_refl _) o).alloc (by simp : w.heap.size ≤ (w.alloc o).heap.size) o2)
  have HP := Lib.hid (fun o2 => (new_part w w.heap.size (.mk 5 y b m r l) a c 30 rfl).keep fun p hp => World.cell?_alloc_lt _ o2 p (by simp; omega))
  have HI := Lib.hid hl
  have HIH := Lib.hid ih
  have HN := Lib.hid (fun w => refNatCheck_any b m w hm)
  clear hl ih
  unfold maxLen at hm hr hll
  show Calls Tryd.prog 23 #[.agg #[.int .u8 5, .bool y, .bool b, .string m, .string r, .slice a l.length c]] w _
  by_cases hg : y = false ∧ b = false ∧ m.size = 0 ∧ r.size ≤ 65536 ∧ l = []
  · obtain ⟨rfl, rfl, hm0, hr0, rfl⟩ := hg
    obtain rfl := ba_nil hm0
    have HE := Lib.hid (show PT.may (.mk 5 false false ⟨#[]⟩ r []) = PT.mayL [] by simp [PT.may, PT.mayL, hr0] <;> first | exact rfl | (intro _; exact rfl))
    go_enter Tryd.func23, Tryd.ntmps23
    go_wp2_with fail
    go_loopw [6] (fun i wr => i = .int .i64 0 ∧ Hid (Below w.heap.size w wr) ∧ Hid (CellsAt wr w.heap.size 0 (partCells (.mk 5 false false ⟨#[]⟩ r []) a c))) (fun i _ => 0)
    case atStart => exact ⟨rfl, Lib.hid (HB.out _ _), Lib.hid (HP.out _)⟩
    case round =>
      obtain ⟨rfl, HB1, HP1⟩ := hrel
      have hp5 := HP1.out 5 _ rfl
      go_wp2_with fail
      go_ret
      exact ⟨ret_bool HE.out.symm, HB1.out⟩
  · have HG := Lib.hid hg
    clear hg
    go_enter Tryd.func23, Tryd.ntmps23
    go_wp2_with fail
    all_goals (first
      | (go_ret; refine ⟨ret_bool ?_, HB.out _ _⟩; simp_all [PT.may, toList_nil, toList_emp, len_pos, List.length_pos_iff]; done)
      | (go_ret; refine ⟨ret_bool ?_, HB.out _ _⟩; simp_all [PT.may, toList_nil, toList_emp, len_pos, List.length_pos_iff]; omega)
      | (exfalso; have := HG.out; simp_all [toList_nil, toList_emp, len_pos, List.length_pos_iff]; done)
      | (exfalso; have := HG.out; simp_all [toList_nil, toList_emp, len_pos, List.length_pos_iff]; omega)
      | trace_state)
set_option maxRecDepth 100000 in
set_option maxHeartbeats 2000000 in
theorem rmay_6 (y b : Bool) (m r : ByteArray) (l : List PT) (a : Option Addr) (c : Nat) (w : World) (hm : m.size ≤ maxLen) (hr : r.size ≤ maxLen) (hll : l.length ≤ maxLen) (hl : PartsAt w (· < w.heap.size) l a)
    (ih : ∀ x ∈ l, ∀ (a : Option Addr) (c : Nat) (w : World), PartAt w (· < w.heap.size) x (partCells x a c) → Calls Tryd.prog 23 #[.agg (partCells x a c).toArray] w (Ret (.bool x.may) w)) :
    Calls Tryd.prog 23 #[.agg (partCells (.mk 6 y b m r l) a c).toArray] w (Ret (.bool (PT.may (.mk 6 y b m r l))) w) := by
  have HB := Lib.hid (fun o o2 => ((Below.refl w.heap.size w).alloc (Nat.le_refl _) o).alloc (by simp : w.heap.size ≤ (w.alloc o).heap.size) o2)
  have HP := Lib.hid (fun o2 => (new_part w w.heap.size (.mk 6 y b m r l) a c 30 rfl).keep fun p hp => World.cell?_alloc_lt _ o2 p (by simp; omega))
  have HI := Lib.hid hl
  have HIH := Lib.hid ih
  have HN := Lib.hid (fun w => refNatCheck_any b m w hm)
  clear hl ih
  unfold maxLen at hm hr hll
  show Calls Tryd.prog 23 #[.agg #[.int .u8 6, .bool y, .bool b, .string m, .string r, .slice a l.length c]] w _
  by_cases hg : y = false ∧ b = false ∧ m.size = 0 ∧ r.size ≤ 65536 ∧ l = []
  · obtain ⟨rfl, rfl, hm0, hr0, rfl⟩ := hg
    obtain rfl := ba_nil hm0
    have HE := Lib.hid (show PT.may (.mk 6 false false ⟨#[]⟩ r []) = PT.mayL [] by simp [PT.may, PT.mayL, hr0] <;> first | exact rfl | (intro _; exact rfl))
    go_enter Tryd.func23, Tryd.ntmps23
    go_wp2_with fail
    go_loopw [6] (fun i wr => i = .int .i64 0 ∧ Hid (Below w.heap.size w wr) ∧ Hid (CellsAt wr w.heap.size 0 (partCells (.mk 6 false false ⟨#[]⟩ r []) a c))) (fun i _ => 0)
    case atStart => exact ⟨rfl, Lib.hid (HB.out _ _), Lib.hid (HP.out _)⟩
    case round =>
      obtain ⟨rfl, HB1, HP1⟩ := hrel
      have hp5 := HP1.out 5 _ rfl
      go_wp2_with fail
      go_ret
      exact ⟨ret_bool HE.out.symm, HB1.out⟩
  · have HG := Lib.hid hg
    clear hg
    go_enter Tryd.func23, Tryd.ntmps23
    go_wp2_with fail
    all_goals (first
      | (go_ret; refine ⟨ret_bool ?_, HB.out _ _⟩; simp_all [PT.may, toList_nil, toList_emp, len_pos, List.length_pos_iff]; done)
      | (go_ret; refine ⟨ret_bool ?_, HB.out _ _⟩; simp_all [PT.may, toList_nil, toList_emp, len_pos, List.length_pos_iff]; omega)
      | (exfalso; have := HG.out; simp_all [toList_nil, toList_emp, len_pos, List.length_pos_iff]; done)
      | (exfalso; have := HG.out; simp_all [toList_nil, toList_emp, len_pos, List.length_pos_iff]; omega)
      | trace_state)
set_option maxRecDepth 100000 in
set_option maxHeartbeats 2000000 in
theorem rmay_7 (y b : Bool) (m r : ByteArray) (l : List PT) (a : Option Addr) (c : Nat) (w : World) (hm : m.size ≤ maxLen) (hr : r.size ≤ maxLen) (hll : l.length ≤ maxLen) (hl : PartsAt w (· < w.heap.size) l a)
    (ih : ∀ x ∈ l, ∀ (a : Option Addr) (c : Nat) (w : World), PartAt w (· < w.heap.size) x (partCells x a c) → Calls Tryd.prog 23 #[.agg (partCells x a c).toArray] w (Ret (.bool x.may) w)) :
    Calls Tryd.prog 23 #[.agg (partCells (.mk 7 y b m r l) a c).toArray] w (Ret (.bool (PT.may (.mk 7 y b m r l))) w) := by
  have HB := Lib.hid (fun o o2 => ((Below.refl w.heap.size w).alloc (Nat.le_refl _) o).alloc (by simp : w.heap.size ≤ (w.alloc o).heap.size) o2)
  have HP := Lib.hid (fun o2 => (new_part w w.heap.size (.mk 7 y b m r l) a c 30 rfl).keep fun p hp => World.cell?_alloc_lt _ o2 p (by simp; omega))
  have HI := Lib.hid hl
  have HIH := Lib.hid ih
  have HN := Lib.hid (fun w => refNatCheck_any b m w hm)
  clear hl ih
  unfold maxLen at hm hr hll
  show Calls Tryd.prog 23 #[.agg #[.int .u8 7, .bool y, .bool b, .string m, .string r, .slice a l.length c]] w _
  by_cases hg : y = false ∧ b = false ∧ m.size = 0 ∧ r.size = 0 ∧ l.length ≤ 1024
  · obtain ⟨rfl, rfl, hm0, hr0, hl0⟩ := hg
    obtain rfl := ba_nil hm0
    obtain rfl := ba_nil hr0
    have HE := Lib.hid (show PT.may (.mk 7 false false ⟨#[]⟩ ⟨#[]⟩ l) = PT.mayL l by simp [PT.may, PT.mayL, hl0] <;> first | exact rfl | (intro _; exact rfl))
    have hl9 : l.length < 9223372036854775807 := by omega
    go_enter Tryd.func23, Tryd.ntmps23
    go_wp2_with fail
    have HL0 := Lib.hid hl0
    clear hl0
    repeat (rename (_ : Bool) = false => hh; clear hh)
    repeat (rename (_ : Bool) = true => hh; clear hh)
    try (rename (l.length : Int) ≤ 1024 => hh; clear hh)
    go_loopw [6] (fun i wr => ∃ (k : Nat), i = .int .i64 k ∧ k ≤ l.length ∧ Hid (∀ j (hj : j < l.length), j < k → l[j].may = true) ∧ Hid (Below w.heap.size w wr) ∧ Hid (CellsAt wr w.heap.size 0 (partCells (.mk 7 false false ⟨#[]⟩ ⟨#[]⟩ l) a c)) ∧ w.heap.size < wr.heap.size) (fun i _ => l.length - (intOf i).toNat)
    case atStart => exact ⟨0, rfl, by omega, Lib.hid (fun j _ hj => absurd hj (Nat.not_lt_zero j)), Lib.hid (HB.out _ _), Lib.hid (HP.out _), by simp; omega⟩
    case round =>
      obtain ⟨k, rfl, hk, HNo, HB1, HP1, hwz⟩ := hrel
      have hp5 := HP1.out 5 _ rfl
      by_cases hlt : k < l.length
      · obtain ⟨b, o, a', c', rfl, hb, k0, k1, k2, k3, k4, k5, hpa⟩ := (HI.out.below HB1.out).cells hlt
        have HR := Lib.hid (HIH.out l[k] (List.getElem_mem hlt) a' c' _ (hpa.wide (by omega)))
        unfold partCells at HR
        clear hpa
        go_wp2_with fail
        refine HR.out.mono ?_
        rintro e w' ⟨rfl, hg2⟩
        have HB' := Lib.hid (HB1.out.trans (hg2.mono (by omega)))
        have HP' := Lib.hid (HP1.out.keep fun p hp => hg2.cell (by omega))
        have hz' := hg2.size
        clear hg2 HR k0 k1 k2 k3 k4 k5 HB1 HP1 hp5
        cases hd : l[k].may with
        | false =>
          go_wp2_with fail
          go_ret
          exact ⟨ret_bool (HE.out.trans (PT.mayL_at hlt hd)).symm, HB'.out⟩
        | true =>
          go_wp2_with fail
          go_roundw
          case rel => exact ⟨k + 1, by go_num, by omega, Lib.hid (fun j hj hjk => (Nat.lt_succ_iff_lt_or_eq.1 hjk).elim (fun h => HNo.out j hj h) (fun h => by subst h; exact hd)), HB', HP', by omega⟩
          case measure => simp [intOf]; omega
      · go_wp2_with fail
        go_ret
        exact ⟨ret_bool (HE.out.trans (PT.mayL_all fun j hj => HNo.out j hj (by omega))).symm, HB1.out⟩
  · have HG := Lib.hid hg
    clear hg
    go_enter Tryd.func23, Tryd.ntmps23
    go_wp2_with fail
    all_goals (first
      | (go_ret; refine ⟨ret_bool ?_, HB.out _ _⟩; simp_all [PT.may, toList_nil, toList_emp, len_pos, List.length_pos_iff]; done)
      | (go_ret; refine ⟨ret_bool ?_, HB.out _ _⟩; simp_all [PT.may, toList_nil, toList_emp, len_pos, List.length_pos_iff]; omega)
      | (exfalso; have := HG.out; simp_all [toList_nil, toList_emp, len_pos, List.length_pos_iff]; done)
      | (exfalso; have := HG.out; simp_all [toList_nil, toList_emp, len_pos, List.length_pos_iff]; omega)
      | trace_state)
set_option maxRecDepth 100000 in
set_option maxHeartbeats 2000000 in
theorem rmay_n (k : Nat) (hk8 : 8 ≤ k) (hk256 : k < 256) (y b : Bool) (m r : ByteArray) (l : List PT) (a : Option Addr) (c : Nat) (w : World) (hm : m.size ≤ maxLen) (hr : r.size ≤ maxLen) (hll : l.length ≤ maxLen) (hl : PartsAt w (· < w.heap.size) l a)
    (ih : ∀ x ∈ l, ∀ (a : Option Addr) (c : Nat) (w : World), PartAt w (· < w.heap.size) x (partCells x a c) → Calls Tryd.prog 23 #[.agg (partCells x a c).toArray] w (Ret (.bool x.may) w)) :
    Calls Tryd.prog 23 #[.agg (partCells (.mk k y b m r l) a c).toArray] w (Ret (.bool (PT.may (.mk k y b m r l))) w) := by
  have HB := Lib.hid (fun o (_ : Nat) => (Below.refl w.heap.size w).alloc (Nat.le_refl _) o)
  have HP := Lib.hid (fun o2 => (new_part w w.heap.size (.mk k y b m r l) a c 30 rfl).keep fun p hp => World.cell?_alloc_lt _ o2 p (by simp; omega))
  have HI := Lib.hid hl
  have HIH := Lib.hid ih
  have HN := Lib.hid (fun w => refNatCheck_any b m w hm)
  clear hl ih
  unfold maxLen at hm hr hll
  show Calls Tryd.prog 23 #[.agg #[.int .u8 k, .bool y, .bool b, .string m, .string r, .slice a l.length c]] w _
  have hk_0 : k ≠ 0 := by omega
  have hk_1 : k ≠ 1 := by omega
  have hk_2 : k ≠ 2 := by omega
  have hk_3 : k ≠ 3 := by omega
  have hk_4 : k ≠ 4 := by omega
  have hk_5 : k ≠ 5 := by omega
  have hk_6 : k ≠ 6 := by omega
  have hk_7 : k ≠ 7 := by omega
  have hk9 : (7 : Int) < (k : Int) := by omega
  go_enter Tryd.func23, Tryd.ntmps23
  go_wp2_with fail
  all_goals (first
    | (go_ret; refine ⟨ret_bool ?_, HB.out _ 0⟩; simp_all [PT.may, toList_nil, toList_emp, len_pos, List.length_pos_iff]; done)
    | (go_ret; refine ⟨ret_bool ?_, HB.out _ 0⟩; simp_all [PT.may, toList_nil, toList_emp, len_pos, List.length_pos_iff]; omega)
    | (exfalso; simp_all [toList_nil, toList_emp, len_pos, List.length_pos_iff]; done)
    | (exfalso; simp_all [toList_nil, toList_emp, len_pos, List.length_pos_iff]; omega)
    | trace_state)
theorem rmay_any : ∀ (t : PT) (a : Option Addr) (c : Nat) (w : World), PartAt w (· < w.heap.size) t (partCells t a c) → Calls Tryd.prog 23 #[.agg (partCells t a c).toArray] w (Ret (.bool t.may) w) := by
  refine PT.all fun t ih => ?_
  intro a c w hp
  obtain ⟨a1, c1, e1, hk, hm, hr, hlc, hcm, hits⟩ := hp.open
  obtain ⟨rfl, rfl⟩ : a1 = a ∧ c1 = c := by simpa [partCells, eq_comm] using e1
  obtain ⟨k, y, b, m, r, l⟩ := t
  simp only [PT.kind, PT.mag, PT.raw, PT.items] at hk hm hr hits ih hlc
  have hll := Nat.le_trans hlc hcm
  by_cases h8 : 8 ≤ k
  · exact rmay_n k h8 hk y b m r l a1 c1 w hm hr hll hits ih
  · obtain rfl | rfl | rfl | rfl | rfl | rfl | rfl | rfl : k = 0 ∨ k = 1 ∨ k = 2 ∨ k = 3 ∨ k = 4 ∨ k = 5 ∨ k = 6 ∨ k = 7 := by omega
    · exact rmay_0 y b m r l a1 c1 w hm hr hll hits ih
    · exact rmay_1 y b m r l a1 c1 w hm hr hll hits ih
    · exact rmay_2 y b m r l a1 c1 w hm hr hll hits ih
    · exact rmay_3 y b m r l a1 c1 w hm hr hll hits ih
    · exact rmay_4 y b m r l a1 c1 w hm hr hll hits ih
    · exact rmay_5 y b m r l a1 c1 w hm hr hll hits ih
    · exact rmay_6 y b m r l a1 c1 w hm hr hll hits ih
    · exact rmay_7 y b m r l a1 c1 w hm hr hll hits ih
end Go.Proofs.YtjgicjgpahnmaaaDoor
