/-
  value.may: may a part be? (Parts that are no tuples.)
-/
import Derived.Test.YtjgicjgpahnmaaaDoorKF
namespace Go.Proofs.YtjgicjgpahnmaaaDoor
open Go.RowKit Go.WideShapes
set_option linter.unusedVariables false
theorem toList_nil {m : ByteArray} : m.toList = [] ↔ m.size = 0 := by
  rw [ByteArray.toList_eq]; cases m with | mk d => cases d with | mk l => simp [ByteArray.size]
theorem toList_emp {m : ByteArray} : m.toList.isEmpty = (m.size == 0) := by
  rw [ByteArray.toList_eq]; cases m with | mk d => cases d with | mk l => cases l <;> simp [ByteArray.size]
theorem len_nil {l : List PT} : ((l.length : Int) == 0) = l.isEmpty := by cases l <;> simp; omega
set_option maxRecDepth 100000 in
set_option maxHeartbeats 1000000 in
theorem vmay_0 (y b : Bool) (m r : ByteArray) (l : List PT) (a : Option Addr) (c : Nat) (w : World) (hm : m.size ≤ maxLen) (hr : r.size ≤ maxLen) :
    Calls Tryd.prog 25 #[.agg (partCells (.mk 0 y b m r l) a c).toArray] w (Ret (.bool (PT.may (.mk 0 y b m r l))) w) := by
  have HB := Lib.hid (fun o => (Below.refl w.heap.size w).alloc (Nat.le_refl _) o)
  have HM := Lib.hid hm
  unfold maxLen at hm hr
  simp only [partCells, PT.kind, PT.yes, PT.bel, PT.mag, PT.raw, PT.items]
  go_enter Tryd.func25, Tryd.ntmps25
  go_wp2_with fail
  all_goals (go_ret; refine ⟨ret_bool ?_, HB.out _⟩)
  all_goals simp_all [PT.may, toList_nil, toList_emp, len_nil]
set_option maxRecDepth 100000 in
set_option maxHeartbeats 1000000 in
theorem vmay_1 (y b : Bool) (m r : ByteArray) (l : List PT) (a : Option Addr) (c : Nat) (w : World) (hm : m.size ≤ maxLen) (hr : r.size ≤ maxLen) :
    Calls Tryd.prog 25 #[.agg (partCells (.mk 1 y b m r l) a c).toArray] w (Ret (.bool (PT.may (.mk 1 y b m r l))) w) := by
  have HB := Lib.hid (fun o => (Below.refl w.heap.size w).alloc (Nat.le_refl _) o)
  have HM := Lib.hid hm
  unfold maxLen at hm hr
  simp only [partCells, PT.kind, PT.yes, PT.bel, PT.mag, PT.raw, PT.items]
  go_enter Tryd.func25, Tryd.ntmps25
  go_wp2_with fail
  all_goals (go_ret; refine ⟨ret_bool ?_, HB.out _⟩)
  all_goals simp_all [PT.may, toList_nil, toList_emp, len_nil]
set_option maxRecDepth 100000 in
set_option maxHeartbeats 1000000 in
theorem vmay_3 (y b : Bool) (m r : ByteArray) (l : List PT) (a : Option Addr) (c : Nat) (w : World) (hm : m.size ≤ maxLen) (hr : r.size ≤ maxLen) :
    Calls Tryd.prog 25 #[.agg (partCells (.mk 3 y b m r l) a c).toArray] w (Ret (.bool (PT.may (.mk 3 y b m r l))) w) := by
  have HB := Lib.hid (fun o => (Below.refl w.heap.size w).alloc (Nat.le_refl _) o)
  have HM := Lib.hid hm
  unfold maxLen at hm hr
  simp only [partCells, PT.kind, PT.yes, PT.bel, PT.mag, PT.raw, PT.items]
  go_enter Tryd.func25, Tryd.ntmps25
  go_wp2_with fail
  all_goals (go_ret; refine ⟨ret_bool ?_, HB.out _⟩)
  all_goals simp_all [PT.may, toList_nil, len_nil]
  all_goals omega
set_option maxRecDepth 100000 in
set_option maxHeartbeats 1000000 in
theorem vmay_4 (y b : Bool) (m r : ByteArray) (l : List PT) (a : Option Addr) (c : Nat) (w : World) (hm : m.size ≤ maxLen) (hr : r.size ≤ maxLen) :
    Calls Tryd.prog 25 #[.agg (partCells (.mk 4 y b m r l) a c).toArray] w (Ret (.bool (PT.may (.mk 4 y b m r l))) w) := by
  have HB := Lib.hid (fun o => (Below.refl w.heap.size w).alloc (Nat.le_refl _) o)
  have HM := Lib.hid hm
  unfold maxLen at hm hr
  simp only [partCells, PT.kind, PT.yes, PT.bel, PT.mag, PT.raw, PT.items]
  go_enter Tryd.func25, Tryd.ntmps25
  go_wp2_with fail
  all_goals (go_ret; refine ⟨ret_bool ?_, HB.out _⟩)
  all_goals simp_all [PT.may, toList_nil, len_nil]
  all_goals (rw [Bool.eq_iff_iff]; simp; omega)
set_option maxRecDepth 100000 in
set_option maxHeartbeats 1000000 in
theorem vmay_5 (y b : Bool) (m r : ByteArray) (l : List PT) (a : Option Addr) (c : Nat) (w : World) (hm : m.size ≤ maxLen) (hr : r.size ≤ maxLen) :
    Calls Tryd.prog 25 #[.agg (partCells (.mk 5 y b m r l) a c).toArray] w (Ret (.bool (PT.may (.mk 5 y b m r l))) w) := by
  have HB := Lib.hid (fun o => (Below.refl w.heap.size w).alloc (Nat.le_refl _) o)
  have HM := Lib.hid hm
  unfold maxLen at hm hr
  simp only [partCells, PT.kind, PT.yes, PT.bel, PT.mag, PT.raw, PT.items]
  go_enter Tryd.func25, Tryd.ntmps25
  go_wp2_with fail
  all_goals (go_ret; refine ⟨ret_bool ?_, HB.out _⟩)
  all_goals simp_all [PT.may, toList_nil, len_nil]
  all_goals omega
set_option maxRecDepth 100000 in
set_option maxHeartbeats 1000000 in
theorem vmay_6 (y b : Bool) (m r : ByteArray) (l : List PT) (a : Option Addr) (c : Nat) (w : World) (hm : m.size ≤ maxLen) (hr : r.size ≤ maxLen) :
    Calls Tryd.prog 25 #[.agg (partCells (.mk 6 y b m r l) a c).toArray] w (Ret (.bool (PT.may (.mk 6 y b m r l))) w) := by
  have HB := Lib.hid (fun o => (Below.refl w.heap.size w).alloc (Nat.le_refl _) o)
  have HM := Lib.hid hm
  unfold maxLen at hm hr
  simp only [partCells, PT.kind, PT.yes, PT.bel, PT.mag, PT.raw, PT.items]
  go_enter Tryd.func25, Tryd.ntmps25
  go_wp2_with fail
  all_goals (go_ret; refine ⟨ret_bool ?_, HB.out _⟩)
  all_goals simp_all [PT.may, toList_nil, len_nil]
  all_goals omega
set_option maxRecDepth 100000 in
set_option maxHeartbeats 1000000 in
theorem vmay_n (k : Nat) (hk8 : 8 ≤ k) (hk256 : k < 256) (y b : Bool) (m r : ByteArray) (l : List PT) (a : Option Addr) (c : Nat) (w : World) (hm : m.size ≤ maxLen) (hr : r.size ≤ maxLen) :
    Calls Tryd.prog 25 #[.agg (partCells (.mk k y b m r l) a c).toArray] w (Ret (.bool (PT.may (.mk k y b m r l))) w) := by
  have HB := Lib.hid (fun o => (Below.refl w.heap.size w).alloc (Nat.le_refl _) o)
  have HM := Lib.hid hm
  unfold maxLen at hm hr
  have hk_0 : k ≠ 0 := by omega
  have hk_1 : k ≠ 1 := by omega
  have hk_2 : k ≠ 2 := by omega
  have hk_3 : k ≠ 3 := by omega
  have hk_4 : k ≠ 4 := by omega
  have hk_5 : k ≠ 5 := by omega
  have hk_6 : k ≠ 6 := by omega
  have hk_7 : k ≠ 7 := by omega
  simp only [partCells, PT.kind, PT.yes, PT.bel, PT.mag, PT.raw, PT.items]
  go_enter Tryd.func25, Tryd.ntmps25
  go_wp2_with fail
  all_goals (go_ret; refine ⟨ret_bool ?_, HB.out _⟩)
  all_goals simp_all [PT.may, toList_nil, len_nil]
  all_goals omega
end Go.Proofs.YtjgicjgpahnmaaaDoor
