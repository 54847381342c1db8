/-
  ref00.Same of two parts that are the same.
-/
import Derived.Test.YtcjllhdbepchnaaGreatDoorLAJ
namespace Go.Proofs.YtcjllhdbepchnaaGreatDoor
open Go.RowKit Go.WideShapes
set_option linter.unusedVariables false
/-- A box that holds a part's cells. -/
def QBox (w : World) (T : Nat) (x0 x1 x2 x3 x4 x5 : Value) : Prop := w.heap[T]? = some (.cells #[x0, x1, x2, x3, x4, x5] 30 (0, 0))
section
variable {w w' : World} {T : Nat} {x0 x1 x2 x3 x4 x5 : Value}
theorem QBox.cells (h : QBox w T x0 x1 x2 x3 x4 x5) : w.cell? ⟨T, 0, none⟩ = some x0 ∧ w.cell? ⟨T, 1, none⟩ = some x1 ∧ w.cell? ⟨T, 2, none⟩ = some x2 ∧ w.cell? ⟨T, 3, none⟩ = some x3 ∧ w.cell? ⟨T, 4, none⟩ = some x4 ∧ w.cell? ⟨T, 5, none⟩ = some x5 := by
  simp [World.cell?, show w.heap[T]? = _ from h]
theorem QBox.free (h : QBox w T x0 x1 x2 x3 x4 x5) (i : Nat) : w.frozen? ⟨T, i, none⟩ = false := by simp [World.frozen?, show w.heap[T]? = _ from h]
theorem QBox.lt (h : QBox w T x0 x1 x2 x3 x4 x5) : T < w.heap.size := (Array.getElem?_eq_some_iff.1 h).1
theorem QBox.set5 (h : QBox w T x0 x1 x2 x3 x4 x5) (u : Value) : QBox (w.setCell ⟨T, 5, none⟩ u) T x0 x1 x2 x3 x4 u := by
  unfold QBox at *; simp [World.setCell, Array.getElem?_modify, h]
theorem QBox.set (h : QBox w T x0 x1 x2 x3 x4 x5) {T' o : Nat} {u : Value} (hne : T' ≠ T) : QBox (w.setCell ⟨T', o, none⟩ u) T x0 x1 x2 x3 x4 x5 := by
  unfold QBox at *; simp [World.setCell, Array.getElem?_modify, hne, h]
theorem QBox.below {B : Nat} (h : QBox w T x0 x1 x2 x3 x4 x5) (hb : Below B w w') (hT : T < B) : QBox w' T x0 x1 x2 x3 x4 x5 := (hb.block T hT).trans h
theorem QBox.new (w : World) (T : Nat) (x0 x1 x2 x3 x4 x5 : Value) (hT : T = w.heap.size) : QBox (w.alloc (.cells #[x0, x1, x2, x3, x4, x5] 30)) T x0 x1 x2 x3 x4 x5 := by subst hT; exact World.alloc_heap_new w _
theorem QBox.grown {vt : Value} {tmp : Obj} (h : QBox w T x0 x1 x2 x3 x4 x5) (hg : (w.alloc tmp).grownBy w' vt.ownBlock) (hne : vt.ownBlock ≠ some T) : QBox w' T x0 x1 x2 x3 x4 x5 := by
  have hl := h.lt
  refine ((hg.block T (by simp; omega) (fun e => hne e.symm)).trans ?_).trans h
  rw [Below.heap_alloc w tmp T hl]
end
set_option maxRecDepth 100000 in
set_option maxHeartbeats 2000000 in
theorem same00_any : ∀ (t : PT) (a : Option Addr) (c : Nat) (a' : Option Addr) (c' : Nat) (w : World), PartAt w (· < w.heap.size) t (partCells t a c) → PartAt w (· < w.heap.size) t (partCells t a' c') →
    Calls Tryz.prog 22 #[.agg (partCells t a c).toArray, .agg (partCells t a' c').toArray] w (Ret (.bool true) w) := by
  refine PT.all fun t ih => ?_
  intro a c a' c' w hp hp'
  obtain ⟨a1, c1, e1, hk, hm, hr, hlc, hcm, hits⟩ := hp.open
  obtain ⟨rfl, rfl⟩ : a1 = a ∧ c1 = c := by simpa [partCells, eq_comm] using e1
  obtain ⟨a2, c2, e2, _, _, _, hlc', hcm', hits'⟩ := hp'.open
  obtain ⟨rfl, rfl⟩ : a2 = a' ∧ c2 = c' := by simpa [partCells, eq_comm] using e2
  have HI := Lib.hid hits
  have HI' := Lib.hid hits'
  have HIH := Lib.hid ih
  have hlen : t.items.length ≤ 9223372036854775807 := by unfold maxLen at hcm; omega
  clear hits hits' ih hp hp' e1 e2 hk hm hr
  have HB2 := Lib.hid (fun o o2 => ((Below.refl w.heap.size w).alloc (Nat.le_refl _) o).alloc (by simp : w.heap.size ≤ (w.alloc o).heap.size) o2)
  have HX2 := Lib.hid (fun o2 => (QBox.new w w.heap.size (.int .u8 t.kind) (.bool t.yes) (.bool t.bel) (.string t.mag) (.string t.raw) (.slice a1 t.items.length c1) rfl).below ((Below.refl _ _).alloc (Nat.le_refl _) o2) (by simp))
  have HY2 := Lib.hid (fun o => QBox.new (w.alloc o) (w.heap.size + 1) (.int .u8 t.kind) (.bool t.yes) (.bool t.bel) (.string t.mag) (.string t.raw) (.slice a2 t.items.length c2) (by simp))
  unfold partCells
  go_enter Tryz.func22, Tryz.ntmps22
  go_wp2_with fail
  go_loopw [5] (fun i wr => ∃ (k : Nat), i = .int .i64 k ∧ k ≤ t.items.length ∧ Hid (Below w.heap.size w wr) ∧ Hid (QBox wr w.heap.size (.int .u8 t.kind) (.bool t.yes) (.bool t.bel) (.string t.mag) (.string t.raw) (.slice a1 t.items.length c1)) ∧ Hid (QBox wr (w.heap.size + 1) (.int .u8 t.kind) (.bool t.yes) (.bool t.bel) (.string t.mag) (.string t.raw) (.slice a2 t.items.length c2)) ∧ w.heap.size + 2 ≤ wr.heap.size) (fun i _ => t.items.length - (intOf i).toNat)
  case atStart => exact ⟨0, rfl, by omega, Lib.hid (HB2.out _ _), Lib.hid (HX2.out _), Lib.hid (HY2.out _), by simp⟩
  case round =>
    clear HB2 HX2 HY2
    obtain ⟨k, rfl, hk, HB, HX, HY, hwz⟩ := hrel
    have x5 := HX.out.cells.2.2.2.2.2
    have y5 := HY.out.cells.2.2.2.2.2
    by_cases hlt : k < t.items.length
    · obtain ⟨b, o, aa, cc, rfl, hb, k0, k1, k2, k3, k4, k5, hpa⟩ := (HI.out.below HB.out).cells hlt
      obtain ⟨b', o', aa', cc', rfl, hb', l0, l1, l2, l3, l4, l5, hpa'⟩ := (HI'.out.below HB.out).cells hlt
      have hB1 : Below wr.heap.size wr wr.drew := (Below.refl _ _).drew
      have HR := Lib.hid (HIH.out t.items[k] (List.getElem_mem hlt) aa cc aa' cc' wr.drew ((hpa.wide (by omega : w.heap.size ≤ wr.heap.size)).below hB1) ((hpa'.wide (by omega : w.heap.size ≤ wr.heap.size)).below hB1))
      unfold partCells at HR
      clear hpa hpa' hB1
      go_wp2_with fail
      go_region_law (go_simp; go_at_call 22; refine HR.out.mono ?_; rintro e w2 ⟨rfl, hb2⟩; have HB2 := Lib.hid (HB.out.drew.trans (hb2.mono (by simp only [World.size_drew]; omega))); have hz2 := hb2.size; simp only [World.size_drew] at hz2; have HX2 := Lib.hid (HX.out.below (Below.trans (Below.refl wr.heap.size wr).drew hb2) (by omega)); have HY2 := Lib.hid (HY.out.below (Below.trans (Below.refl wr.heap.size wr).drew hb2) (by omega)))
      all_goals (
        clear x5 y5 k0 k1 k2 k3 k4 k5 l0 l1 l2 l3 l4 l5
        go_wp2_with fail
        go_roundw
        case rel => exact ⟨k + 1, by go_num, by omega, HB2, HX2, HY2, by omega⟩
        case measure => simp [intOf]; omega)
    · go_wp2_with fail
      go_ret
      exact ⟨rfl, HB.out⟩
end Go.Proofs.YtcjllhdbepchnaaGreatDoor
