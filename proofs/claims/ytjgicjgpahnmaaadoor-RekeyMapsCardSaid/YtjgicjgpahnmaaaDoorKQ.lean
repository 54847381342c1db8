/-
  ref00.Copied: a part in memory of its own; ref00.Same of what is the same; ref09.Depth.
-/
import Derived.Test.YtjgicjgpahnmaaaDoorKP
import Derived.Test.YtjgicjgpahnmaaaDoorKF
import Derived.Test.YtjgicjgpahnmaaaDoorKE
import Derived.Test.YtjgicjgpahnmaaaDoorKM
import Derived.Test.YtjgicjgpahnmaaaDoorKN
import Derived.Test.YtjgicjgpahnmaaaDoorKO
import Derived.Test.YtjgicjgpahnmaaaDoorKL
/-! ref00.Copied: a part in memory of its own; ref00.Same of what is the same; ref09.Depth. -/
namespace Go.Proofs.YtjgicjgpahnmaaaDoor
open Go.RowKit Go.WideShapes
set_option linter.unusedVariables false
/-- A box that holds a part's cells. -/
def QBox (w : World) (T : Nat) (x0 x1 x2 x3 x4 x5 : Value) : Prop := w.heap[T]? = some (.cells #[x0, x1, x2, x3, x4, x5] 30 (0, 0))
section
variable {w w' : World} {T : Nat} {x0 x1 x2 x3 x4 x5 : Value}
theorem QBox.cells (h : QBox w T x0 x1 x2 x3 x4 x5) : w.cell? ⟨T, 0, none⟩ = some x0 ∧ w.cell? ⟨T, 1, none⟩ = some x1 ∧ w.cell? ⟨T, 2, none⟩ = some x2 ∧ w.cell? ⟨T, 3, none⟩ = some x3 ∧ w.cell? ⟨T, 4, none⟩ = some x4 ∧ w.cell? ⟨T, 5, none⟩ = some x5 := by
  simp [World.cell?, show w.heap[T]? = _ from h]
theorem QBox.free (h : QBox w T x0 x1 x2 x3 x4 x5) (i : Nat) : w.frozen? ⟨T, i, none⟩ = false := by simp [World.frozen?, show w.heap[T]? = _ from h]
theorem QBox.lt (h : QBox w T x0 x1 x2 x3 x4 x5) : T < w.heap.size := (Array.getElem?_eq_some_iff.1 h).1
theorem QBox.set5 (h : QBox w T x0 x1 x2 x3 x4 x5) (u : Value) : QBox (w.setCell ⟨T, 5, none⟩ u) T x0 x1 x2 x3 x4 u := by
  unfold QBox at *; simp [World.setCell, Array.getElem?_modify, h]
theorem QBox.set (h : QBox w T x0 x1 x2 x3 x4 x5) {T' o : Nat} {u : Value} (hne : T' ≠ T) : QBox (w.setCell ⟨T', o, none⟩ u) T x0 x1 x2 x3 x4 x5 := by
  unfold QBox at *; simp [World.setCell, Array.getElem?_modify, hne, h]
theorem QBox.below {B : Nat} (h : QBox w T x0 x1 x2 x3 x4 x5) (hb : Below B w w') (hT : T < B) : QBox w' T x0 x1 x2 x3 x4 x5 := (hb.block T hT).trans h
theorem QBox.new (w : World) (T : Nat) (x0 x1 x2 x3 x4 x5 : Value) (hT : T = w.heap.size) : QBox (w.alloc (.cells #[x0, x1, x2, x3, x4, x5] 30)) T x0 x1 x2 x3 x4 x5 := by subst hT; exact World.alloc_heap_new w _
theorem QBox.grown {vt : Value} {tmp : Obj} (h : QBox w T x0 x1 x2 x3 x4 x5) (hg : (w.alloc tmp).grownBy w' vt.ownBlock) (hne : vt.ownBlock ≠ some T) : QBox w' T x0 x1 x2 x3 x4 x5 := by
  have hl := h.lt
  refine ((hg.block T (by simp; omega) (fun e => hne e.symm)).trans ?_).trans h
  rw [Below.heap_alloc w tmp T hl]
end
set_option maxRecDepth 100000 in
set_option maxHeartbeats 2000000 in
theorem same00_any : ∀ (t : PT) (a : Option Addr) (c : Nat) (a' : Option Addr) (c' : Nat) (w : World), PartAt w (· < w.heap.size) t (partCells t a c) → PartAt w (· < w.heap.size) t (partCells t a' c') →
    Calls Tryd.prog 20 #[.agg (partCells t a c).toArray, .agg (partCells t a' c').toArray] w (Ret (.bool true) w) := by
  refine PT.all fun t ih => ?_
  intro a c a' c' w hp hp'
  obtain ⟨a1, c1, e1, hk, hm, hr, hlc, hcm, hits⟩ := hp.open
  obtain ⟨rfl, rfl⟩ : a1 = a ∧ c1 = c := by simpa [partCells, eq_comm] using e1
  obtain ⟨a2, c2, e2, _, _, _, hlc', hcm', hits'⟩ := hp'.open
  obtain ⟨rfl, rfl⟩ : a2 = a' ∧ c2 = c' := by simpa [partCells, eq_comm] using e2
  have HI := Lib.hid hits
  have HI' := Lib.hid hits'
  have HIH := Lib.hid ih
  have hlen : t.items.length ≤ 9223372036854775807 := by unfold maxLen at hcm; omega
  clear hits hits' ih hp hp' e1 e2 hk hm hr
  have HB2 := Lib.hid (fun o o2 => ((Below.refl w.heap.size w).alloc (Nat.le_refl _) o).alloc (by simp : w.heap.size ≤ (w.alloc o).heap.size) o2)
  have HX2 := Lib.hid (fun o2 => (QBox.new w w.heap.size (.int .u8 t.kind) (.bool t.yes) (.bool t.bel) (.string t.mag) (.string t.raw) (.slice a1 t.items.length c1) rfl).below ((Below.refl _ _).alloc (Nat.le_refl _) o2) (by simp))
  have HY2 := Lib.hid (fun o => QBox.new (w.alloc o) (w.heap.size + 1) (.int .u8 t.kind) (.bool t.yes) (.bool t.bel) (.string t.mag) (.string t.raw) (.slice a2 t.items.length c2) (by simp))
  unfold partCells
  go_enter Tryd.func20, Tryd.ntmps20
  go_wp2_with fail
  go_loopw [5] (fun i wr => ∃ (k : Nat), i = .int .i64 k ∧ k ≤ t.items.length ∧ Hid (Below w.heap.size w wr) ∧ Hid (QBox wr w.heap.size (.int .u8 t.kind) (.bool t.yes) (.bool t.bel) (.string t.mag) (.string t.raw) (.slice a1 t.items.length c1)) ∧ Hid (QBox wr (w.heap.size + 1) (.int .u8 t.kind) (.bool t.yes) (.bool t.bel) (.string t.mag) (.string t.raw) (.slice a2 t.items.length c2)) ∧ w.heap.size + 2 ≤ wr.heap.size) (fun i _ => t.items.length - (intOf i).toNat)
  case atStart => exact ⟨0, rfl, by omega, Lib.hid (HB2.out _ _), Lib.hid (HX2.out _), Lib.hid (HY2.out _), by simp⟩
  case round =>
    clear HB2 HX2 HY2
    obtain ⟨k, rfl, hk, HB, HX, HY, hwz⟩ := hrel
    have x5 := HX.out.cells.2.2.2.2.2
    have y5 := HY.out.cells.2.2.2.2.2
    by_cases hlt : k < t.items.length
    · obtain ⟨b, o, aa, cc, rfl, hb, k0, k1, k2, k3, k4, k5, hpa⟩ := (HI.out.below HB.out).cells hlt
      obtain ⟨b', o', aa', cc', rfl, hb', l0, l1, l2, l3, l4, l5, hpa'⟩ := (HI'.out.below HB.out).cells hlt
      have hB1 : Below wr.heap.size wr wr.drew := (Below.refl _ _).drew
      have HR := Lib.hid (HIH.out t.items[k] (List.getElem_mem hlt) aa cc aa' cc' wr.drew ((hpa.wide (by omega : w.heap.size ≤ wr.heap.size)).below hB1) ((hpa'.wide (by omega : w.heap.size ≤ wr.heap.size)).below hB1))
      unfold partCells at HR
      clear hpa hpa' hB1
      go_wp2_with fail
      go_region_law (go_simp; go_at_call 20; refine HR.out.mono ?_; rintro e w2 ⟨rfl, hb2⟩; have HB2 := Lib.hid (HB.out.drew.trans (hb2.mono (by simp only [World.size_drew]; omega))); have hz2 := hb2.size; simp only [World.size_drew] at hz2; have HX2 := Lib.hid (HX.out.below (Below.trans (Below.refl wr.heap.size wr).drew hb2) (by omega)); have HY2 := Lib.hid (HY.out.below (Below.trans (Below.refl wr.heap.size wr).drew hb2) (by omega)))
      all_goals (
        clear x5 y5 k0 k1 k2 k3 k4 k5 l0 l1 l2 l3 l4 l5
        go_wp2_with fail
        go_roundw
        case rel => exact ⟨k + 1, by go_num, by omega, HB2, HX2, HY2, by omega⟩
        case measure => simp [intOf]; omega)
    · go_wp2_with fail
      go_ret
      exact ⟨rfl, HB.out⟩
set_option maxRecDepth 100000 in
set_option maxHeartbeats 1000000 in
theorem depth09_any : ∀ (t : PT) (a : Option Addr) (c : Nat) (w : World), t.depth ≤ 1000 → PartAt w (· < w.heap.size) t (partCells t a c) →
    Calls Tryd.prog 34 #[.agg (partCells t a c).toArray] w (Ret (.int .i64 t.depth) w) := by
  refine PT.all fun t ih => ?_
  intro a c w hd hp
  obtain ⟨a1, c1, e1, hk, hm, hr, hlc, hcm, hits⟩ := hp.open
  obtain ⟨rfl, rfl⟩ : a1 = a ∧ c1 = c := by simpa [partCells, eq_comm] using e1
  have HI := Lib.hid hits
  have HIH := Lib.hid ih
  have hlen : t.items.length ≤ 9223372036854775807 := by unfold maxLen at hcm; omega
  clear hits ih hp e1 hk hm hr
  have HB2 := Lib.hid (fun o => (Below.refl w.heap.size w).alloc (Nat.le_refl _) o)
  have HX2 := Lib.hid (QBox.new w w.heap.size (.int .u8 t.kind) (.bool t.yes) (.bool t.bel) (.string t.mag) (.string t.raw) (.slice a1 t.items.length c1) rfl)
  unfold partCells
  by_cases h7 : t.kind = 7
  · have HD := Lib.hid (PT.depth_tuple h7)
    have HDL := Lib.hid (show PT.depthL t.items ≤ 999 by have := PT.depth_tuple h7; omega)
    have HT := Lib.hid (PT.depthL_take_le t.items)
    have hb7 : ((t.kind : Int) != 7) = false := by simp [h7]
    clear h7 hd
    go_enter Tryd.func34, Tryd.ntmps34
    go_wp2_with fail
    clear hb7
    go_loopw [3, 4] (fun m i wr => ∃ (k : Nat), m = .int .i64 (PT.depthL (t.items.take k) : Nat) ∧ i = .int .i64 k ∧ k ≤ t.items.length ∧ Hid (Below w.heap.size w wr) ∧ Hid (QBox wr w.heap.size (.int .u8 t.kind) (.bool t.yes) (.bool t.bel) (.string t.mag) (.string t.raw) (.slice a1 t.items.length c1)) ∧ w.heap.size + 1 ≤ wr.heap.size) (fun _ i _ => t.items.length - (intOf i).toNat)
    case atStart => exact ⟨0, by simp [PT.depthL], rfl, by omega, Lib.hid (HB2.out _), HX2, by simp⟩
    case round =>
      clear HB2 HX2
      obtain ⟨k, rfl, rfl, hk, HB, HX, hwz⟩ := hrel
      have hm1 := HT.out k
      have hm2 := HDL.out
      have x5 := HX.out.cells.2.2.2.2.2
      by_cases hlt : k < t.items.length
      · obtain ⟨b, o, aa, cc, rfl, hb, k0, k1, k2, k3, k4, k5, hpa⟩ := (HI.out.below HB.out).cells hlt
        have hd9 : t.items[k].depth ≤ 999 := PT.depthL_le.1 HDL.out _ (List.getElem_mem hlt)
        have HR := Lib.hid (HIH.out t.items[k] (List.getElem_mem hlt) aa cc wr (by omega) (hpa.wide (by omega : w.heap.size ≤ wr.heap.size)))
        have HS := Lib.hid (PT.depthL_take hlt)
        unfold partCells at HR
        clear hpa
        go_wp2_with fail
        refine HR.out.mono ?_
        rintro e w2 ⟨rfl, hb2⟩
        have HB2 := Lib.hid (HB.out.trans (hb2.mono (by omega)))
        have hz2 := hb2.size
        have HX2 := Lib.hid (HX.out.below hb2 (by omega))
        clear hb2 HB HX HR x5 k0 k1 k2 k3 k4 k5
        by_cases hgt : PT.depthL (t.items.take k) < t.items[k].depth
        · have hgI : ((PT.depthL (t.items.take k) : Nat) : Int) < (t.items[k].depth : Int) := by omega
          go_wp2_with fail
          go_roundw
          case rel => exact ⟨k + 1, by rw [HS.out]; simp; omega, by go_num, by omega, HB2, HX2, by omega⟩
          case measure => simp [intOf]; omega
        · have hgI : ¬ ((PT.depthL (t.items.take k) : Nat) : Int) < (t.items[k].depth : Int) := by omega
          go_wp2_with fail
          go_roundw
          case rel => exact ⟨k + 1, by rw [HS.out]; simp; omega, by go_num, by omega, HB2, HX2, by omega⟩
          case measure => simp [intOf]; omega
      · obtain rfl : k = t.items.length := by omega
        have HE := Lib.hid (show PT.depthL (t.items.take t.items.length) = PT.depthL t.items by rw [List.take_length])
        go_wp2_with fail
        go_ret
        exact ret_int2 (by rw [HD.out]; (try rw [HE.out]); omega) HB.out
  · rw [PT.depth_flat h7]
    have hb7 : ((t.kind : Int) != 7) = true := by simp; omega
    clear h7
    go_enter Tryd.func34, Tryd.ntmps34
    go_wp2_with fail
    go_ret
    exact ⟨rfl, HB2.out _⟩
end Go.Proofs.YtjgicjgpahnmaaaDoor

/-! ref00.Copied: a part in memory of its own. -/
namespace Go.Proofs.YtjgicjgpahnmaaaDoor
open Go.RowKit Go.WideShapes
set_option linter.unusedVariables false
set_option maxRecDepth 100000 in
set_option maxHeartbeats 2000000 in
theorem copied_any : ∀ (t : PT) (a : Option Addr) (c : Nat) (w : World), t.may = true → PartAt w (· < w.heap.size) t (partCells t a c) →
    Calls Tryd.prog 33 #[.agg (partCells t a c).toArray] w (TellEx t w) := by
  refine PT.all fun t ih => ?_
  intro a c w hmay hp
  obtain ⟨a1, c1, e1, hk, hm, hr, hlc, hcm, hits⟩ := hp.open
  obtain ⟨rfl, rfl⟩ : a1 = a ∧ c1 = c := by simpa [partCells, eq_comm] using e1
  have hall : t.items.length ≤ 1024 ∧ ∀ x ∈ t.items, x.may = true := by
    by_cases h7 : t.kind = 7
    · exact PT.may_items hmay h7
    · obtain ⟨k, y, b, m, r, l⟩ := t
      obtain ⟨h, _⟩ := may_flat h7 hmay
      subst h
      exact ⟨Nat.zero_le _, fun x hx => by cases hx⟩
  obtain ⟨hl, hall⟩ := hall
  obtain ⟨i0, hi, hz0, hz1, hz2⟩ := info_parts part_info
  have HI := Lib.hid hits
  have HIH := Lib.hid (fun (x : PT) (hx : x ∈ t.items) => fun a c w => ih x hx a c w (hall x hx))
  have HK := Lib.hid (⟨hk, hm, hr⟩ : t.kind < 256 ∧ t.mag.size ≤ maxLen ∧ t.raw.size ≤ maxLen)
  clear hits ih hp e1 hk hm hr hall hmay hcm hlc
  have HB0 := Lib.hid (fun o o2 o3 => (((Below.refl w.heap.size w).alloc (Nat.le_refl _) o).alloc (by simp : w.heap.size ≤ (w.alloc o).heap.size) o2).alloc (by simp; omega : w.heap.size ≤ ((w.alloc o).alloc o2).heap.size) o3)
  have HP0 := Lib.hid (fun o2 o3 => ((QBox.new w w.heap.size (.int .u8 t.kind) (.bool t.yes) (.bool t.bel) (.string t.mag) (.string t.raw) (.slice a1 t.items.length c1) rfl).below ((Below.refl _ _).alloc (Nat.le_refl _) o2) (by simp)).below ((Below.refl _ _).alloc (Nat.le_refl _) o3) (by simp; omega))
  have HR0 := Lib.hid (fun o o3 => (RBox.new (w.alloc o) (w.heap.size + 1) (by simp)).below ((Below.refl _ _).alloc (Nat.le_refl _) o3) (by simp : w.heap.size + 1 < ((w.alloc o).alloc _).heap.size))
  have HX0 := Lib.hid (fun o o2 => (QBox.new ((w.alloc o).alloc o2) (w.heap.size + 1 + 1) (.int .u8 t.kind) (.bool t.yes) (.bool t.bel) (.string t.mag) (.string t.raw) (.slice none 0 0) (by simp)))
  have HV0 := Lib.hid (fun W => PRow.start W (w.heap.size + 3) (w.heap.size + 3))
  unfold partCells
  go_enter Tryd.func33, Tryd.ntmps33
  go_wp2_with fail
  go_loopw [4] (fun i wr => ∃ (k : Nat) (vt : Value) (css : List (List Value)), i = .int .i64 k ∧ k ≤ t.items.length ∧ Hid (Below w.heap.size w wr) ∧ Hid (QBox wr w.heap.size (.int .u8 t.kind) (.bool t.yes) (.bool t.bel) (.string t.mag) (.string t.raw) (.slice a1 t.items.length c1)) ∧ Hid (RBox wr (w.heap.size + 1)) ∧ Hid (QBox wr (w.heap.size + 1 + 1) (.int .u8 t.kind) (.bool t.yes) (.bool t.bel) (.string t.mag) (.string t.raw) vt) ∧ Hid (PRow wr (w.heap.size + 3) (w.heap.size + 3) vt k (t.items.take k) css) ∧ w.heap.size + 3 ≤ wr.heap.size) (fun i _ => t.items.length - (intOf i).toNat)
  case atStart => exact ⟨0, _, [], rfl, by omega, Lib.hid (HB0.out _ _ _), Lib.hid (HP0.out _ _), Lib.hid (HR0.out _ _), Lib.hid (HX0.out _ _), Lib.hid (HV0.out _), by simp⟩
  case round =>
    clear HB0 HX0 HV0 HR0 HP0
    obtain ⟨k, vt, css, rfl, hk, HB, HP, HR, HX, HV, hwz⟩ := hrel
    have p5 := HP.out.cells.2.2.2.2.2
    have x5 := HX.out.cells.2.2.2.2.2
    have xf := HX.out.free 5
    by_cases hlt : k < t.items.length
    · obtain ⟨b, o, aa, cc, rfl, hb, k0, k1, k2, k3, k4, k5, hpa⟩ := (HI.out.below HB.out).cells hlt
      have HRc := Lib.hid (HIH.out t.items[k] (List.getElem_mem hlt) aa cc wr (hpa.wide (by omega : w.heap.size ≤ wr.heap.size)))
      unfold partCells at HRc
      clear hpa
      go_wp2_with fail
      refine HRc.out.mono ?_
      rintro e w2 ⟨a2, c2, rfl, hb2, hp2⟩
      obtain ⟨W3, hW3⟩ : ∃ W3, W3 = w2.alloc (Obj.cells #[.int .u8 t.items[k].kind, .bool t.items[k].yes, .bool t.items[k].bel, .string t.items[k].mag, .string t.items[k].raw, .slice a2 t.items[k].items.length c2] 30) := ⟨_, rfl⟩
      have hb3 : Below wr.heap.size wr W3 := by rw [hW3]; exact hb2.alloc hb2.size _
      have hz3 : w2.heap.size + 1 = W3.heap.size := by rw [hW3]; simp
      have hzz2 := hb2.size
      have HY := Lib.hid (show QBox W3 w2.heap.size (.int .u8 t.items[k].kind) (.bool t.items[k].yes) (.bool t.items[k].bel) (.string t.items[k].mag) (.string t.items[k].raw) (.slice a2 t.items[k].items.length c2) by rw [hW3]; exact QBox.new w2 w2.heap.size _ _ _ _ _ _ rfl)
      obtain ⟨y0, y1, y2, y3, y4, y5⟩ := HY.out.cells
      rw [hW3] at y0 y1 y2 y3 y4 y5
      have HV3 := Lib.hid (HV.out.below hb3)
      have HX3 := Lib.hid (HX.out.below hb3 (by omega))
      have HP3 := Lib.hid (HP.out.below hb3 (by omega))
      have HR3 := Lib.hid (HR.out.below hb3 (by omega))
      have hp3 : PartAt W3 (fun b => wr.heap.size ≤ b ∧ b < W3.heap.size) t.items[k] (partCells t.items[k] a2 c2) := PartAt.more (fun b hb => ⟨hb.1, by have := hb.2; omega⟩) _ _ (PartAt.keep (fun p hp => by rw [hW3]; exact World.cell?_alloc_lt _ _ _ hp.2) _ _ hp2)
      have HPt := Lib.hid hp3
      have HB3 := Lib.hid hb3
      have hxc := HX3.out.cells.2.2.2.2.2
      have hxf := HX3.out.free 5
      rw [hW3] at hxc hxf
      have HW3 := Lib.hid hW3
      have HZ3 := Lib.hid hz3
      have hz3' : w2.heap.size < W3.heap.size := by omega
      clear hW3 hz3
      have hne : vt.ownBlock ≠ some (w.heap.size + 1 + 1) := fun e => by have := row_ge HV.out.own e; omega
      clear hb2 hp2 HRc p5 x5 xf k0 k1 k2 k3 k4 k5 hb3 hp3
      go_wp2_with (at_builtin; rw [← HW3.out]; refine wpList_append_lies _ rfl _ _ 28 rfl (w.heap.size + 3) 30 i0 (.agg #[.int .u8 0, .bool false, .bool false, .string ⟨#[]⟩, .string ⟨#[]⟩, .slice none 0 0]) 6 72 Tryd.underlying28 hi hz0 hz1 hz2 rfl (by decide) _ _ _ rfl (HV3.out.own.alloc _) ⟨w2.heap.size + 1, 0, none⟩ 1 1 [.int .u8 t.items[k].kind, .bool t.items[k].yes, .bool t.items[k].bel, .string t.items[k].mag, .string t.items[k].raw, .slice a2 t.items[k].items.length c2] rfl rfl (World.news_of_block (cs := #[.int .u8 t.items[k].kind, .bool t.items[k].yes, .bool t.items[k].bel, .string t.items[k].mag, .string t.items[k].raw, .slice a2 t.items[k].items.length c2]) (t := 30) (fr := (0, 0)) (by rw [HZ3.out]; exact heap_alloc_new W3 _)) (by simp [Value.oneCell']) (by omega) (by unfold maxLen; omega) (by omega) (by simp; omega) _ rfl ?_; intro g4 cap4 w4 hown4 hgrow4 hat4 hgl4; have hgrow5 : (W3.alloc (Obj.cells #[.int .u8 t.items[k].kind, .bool t.items[k].yes, .bool t.items[k].bel, .string t.items[k].mag, .string t.items[k].raw, .slice a2 t.items[k].items.length c2] 30)).grownBy w4 vt.ownBlock := hgrow4; have HX4 := Lib.hid (HX3.out.grown hgrow5 hne); have hbc4 := HX4.out.cells.2.2.2.2.2; have hbf4 := HX4.out.free 5)
      have hgrow6 : (W3.alloc (Obj.cells #[.int .u8 t.items[k].kind, .bool t.items[k].yes, .bool t.items[k].bel, .string t.items[k].mag, .string t.items[k].raw, .slice a2 t.items[k].items.length c2] 30)).grownBy w4 vt.ownBlock := hgrow4
      have HB' := ((((HB.out.trans (HB3.out.mono (by omega))).alloc (by omega) _).grown hgrow6 (by simp; omega) (fun j ej => by have := row_ge HV3.out.own ej; omega)).setCell (p := ⟨w.heap.size + 1 + 1, 5, none⟩) (by simp only; omega) (.slice (some ⟨g4, 0, none⟩) (k + 1) cap4))
      have HX' := HX4.out.set5 (.slice (some ⟨g4, 0, none⟩) (k + 1) cap4)
      have HP' := (HP3.out.grown hgrow6 (fun e => by have := row_ge HV3.out.own e; omega)).set (T' := w.heap.size + 1 + 1) (o := 5) (u := .slice (some ⟨g4, 0, none⟩) (k + 1) cap4) (by omega)
      have HR' := (HR3.out.grown hgrow6 (fun e => by have := row_ge HV3.out.own e; omega)).set (T' := w.heap.size + 1 + 1) (o := 5) (u := .slice (some ⟨g4, 0, none⟩) (k + 1) cap4) (by omega)
      have HV' := (HV.out.step (by rfl) HPt.out HB3.out (by omega) hown4 hgrow6 hat4).set (T := w.heap.size + 1 + 1) (u := .slice (some ⟨g4, 0, none⟩) (k + 1) cap4) (by omega) (by omega)
      rw [← List.take_succ_eq_append_getElem hlt] at HV'
      have hz4 : W3.heap.size + 1 ≤ w4.heap.size := by have := hgrow6.size; simpa using this
      refine ⟨⟨k + 1, _, _, by go_num, by omega, Lib.hid HB', Lib.hid HP', Lib.hid HR', Lib.hid HX', Lib.hid HV', by simp; omega⟩, by simp [intOf]; omega⟩
    · obtain rfl : k = t.items.length := by omega
      have hv9 := HV.out
      rw [List.take_length] at hv9
      obtain ⟨a2, c2, rfl, hc1, hc2, hps⟩ := hv9.parts (by omega)
      clear hv9
      have HPS := Lib.hid hps
      obtain ⟨y0, y1, y2, y3, y4, y5⟩ := HX.out.cells
      obtain ⟨r0, r1, r2, r3, r4, r5⟩ := HR.out.cells
      have f0 := HR.out.free 0
      have f1 := HR.out.free 1
      have f2 := HR.out.free 2
      have f3 := HR.out.free 3
      have f4 := HR.out.free 4
      have f5 := HR.out.free 5
      clear x5 xf hps
      go_wp2_with fail
      obtain ⟨q0, q1, q2, q3, q4, q5⟩ := HR.out.filled (.int .u8 t.kind) (.bool t.yes) (.bool t.bel) (.string t.mag) (.string t.raw) (.slice a2 t.items.length c2)
      refine bodyPost_ret (by simp [results, Tryd.results33, go_sem, q0, q1, q2, q3, q4, q5]; try rfl) rfl ?_
      have hk : ∀ p : Addr, w.heap.size + 3 ≤ p.block → ∀ W (o : Nat) (u : Value), (World.setCell W ⟨w.heap.size + 1, o, none⟩ u).cell? p = W.cell? p := fun p hp W o u => World.cell?_setCell_other W _ p u (fun e => by have := congrArg Addr.block e; simp only at this; omega)
      refine ⟨a2, c2, rfl, (((((HB.out.setCell (by simp only; omega) _).setCell (by simp only; omega) _).setCell (by simp only; omega) _).setCell (by simp only; omega) _).setCell (by simp only; omega) _).setCell (by simp only; omega) _, ?_⟩
      refine PartAt.shut HK.out.1 HK.out.2.1 HK.out.2.2 hc1 hc2 (PartsAt.more (S := fun b => w.heap.size + 3 ≤ b ∧ b < wr.heap.size) (fun b hb => ⟨by omega, by simp; exact hb.2⟩) _ _ (PartsAt.keep (fun p hp => ?_) _ _ HPS.out))
      rw [hk p hp.1, hk p hp.1, hk p hp.1, hk p hp.1, hk p hp.1, hk p hp.1]
end Go.Proofs.YtjgicjgpahnmaaaDoor

/-! The law's weight and vast answer, whatever is handed in. -/
namespace Go.Proofs.YtjgicjgpahnmaaaDoor
open Go.RowKit Go.WideShapes
set_option maxRecDepth 100000 in
set_option maxHeartbeats 4000000 in
theorem weight_any : ∀ (t : PT) (a : Option Addr) (c : Nat) (w : World), PartAt w (· < w.heap.size) t (partCells t a c) →
    Calls Tryd.prog 12 #[.agg (partCells t a c).toArray] w (IntPost w) := by
  refine PT.all fun t ih => ?_
  intro a c w hp
  obtain ⟨a1, c1, e1, hk, hm, hr, hlc, hcm, hits⟩ := hp.open
  obtain ⟨rfl, rfl⟩ : a1 = a ∧ c1 = c := by simpa [partCells, eq_comm] using e1
  have HI := Lib.hid hits
  have HIH := Lib.hid ih
  have hlen : t.items.length ≤ 9223372036854775807 := by unfold maxLen at hcm; omega
  clear hits ih hp e1
  unfold partCells
  have HB2 := Lib.hid ((Below.refl w.heap.size w).alloc (Nat.le_refl _) (.cells #[.int .u8 t.kind, .bool t.yes, .bool t.bel, .string t.mag, .string t.raw, .slice a1 t.items.length c1] 30))
  have HP2 := Lib.hid (new_part w w.heap.size t a1 c1 30 rfl)
  go_enter Tryd.func12, Tryd.ntmps12
  go_wp2_with fail
  go_loopw [3, 4] (fun n i wr => ∃ (k : Nat) (n' : Int), n = .int .i64 n' ∧ i = .int .i64 k ∧ k ≤ t.items.length ∧ Hid (Below w.heap.size w wr) ∧ Hid (CellsAt wr w.heap.size 0 (partCells t a1 c1)) ∧ w.heap.size < wr.heap.size) (fun _ i _ => t.items.length - (intOf i).toNat)
  case atStart => exact ⟨0, _, rfl, rfl, by omega, HB2, HP2, by simp⟩
  case round =>
    clear HB2 HP2
    obtain ⟨k, n', rfl, rfl, hk, HB, HP, hwz⟩ := hrel
    have hp5 := HP.out 5 _ rfl
    by_cases hlt : k < t.items.length
    · by_cases hn : n' ≤ 16777216
      · obtain ⟨b, o, a', c', rfl, hb, k0, k1, k2, k3, k4, k5, hpa⟩ := (HI.out.below HB.out).cells hlt
        have HR := Lib.hid (HIH.out t.items[k] (List.getElem_mem hlt) a' c' wr (PartAt.more (fun b hb => by have := hb; omega) _ _ hpa))
        clear hpa
        go_wp2_with fail
        refine HR.out.mono ?_
        rintro e w' ⟨n2, rfl, hg2⟩
        have HB' := Lib.hid (HB.out.trans (hg2.mono (by omega)))
        have HP' := Lib.hid (HP.out.keep fun p hp => hg2.cell (by omega))
        have hz' := hg2.size
        clear hg2 HR k0 k1 k2 k3 k4 k5 hp5 HP HB
        go_wp2_with fail
        go_roundw
        case rel => exact ⟨k + 1, _, rfl, by go_num, by omega, HB', HP', by omega⟩
        case measure => simp [intOf]; omega
      · go_wp2_with fail
        go_ret
        exact ⟨_, rfl, HB.out⟩
    · go_wp2_with fail
      go_ret
      exact ⟨_, rfl, HB.out⟩
end Go.Proofs.YtjgicjgpahnmaaaDoor

/-! A part that is handed in, opened. -/
namespace Go.Proofs.YtjgicjgpahnmaaaDoor
open Go.RowKit Go.ChangeShapes Go.WideShapes Go.ChangeAt
set_option linter.unusedVariables false
theorem cellsPart : Tryd.prog.cellsOf 30 = 6 := by kernel_rfl
theorem cellsKind : Tryd.prog.cellsOf 25 = 1 := by kernel_rfl
theorem cellsBool : Tryd.prog.cellsOf 4 = 1 := by kernel_rfl
theorem cellsNum : Tryd.prog.cellsOf 27 = 2 := by kernel_rfl
theorem cellsStr : Tryd.prog.cellsOf 9 = 1 := by kernel_rfl
theorem cellsParts : Tryd.prog.cellsOf 28 = 1 := by kernel_rfl
theorem len2 {α : Type} {l : List α} (h : l.length = 2) : ∃ a b, l = [a, b] := by
  match l, h with | [a, b], _ => exact ⟨a, b, rfl⟩
theorem len6 {α : Type} {l : List α} (h : l.length = 6) : ∃ a b c d e f, l = [a, b, c, d, e, f] := by
  match l, h with | [a, b, c, d, e, f], _ => exact ⟨a, b, c, d, e, f, rfl⟩
theorem cell_plainP {w : World} {p : Addr} {v : Value} (h : w.cell? p = some v) : p = ⟨p.block, p.off, none⟩ := by
  have := World.cell?_spot h
  cases p with | mk b o s => simp only at this; subst this; rfl
theorem block_ltP {w : World} {p : Addr} {u : Value} (h : w.cell? p = some u) : p.block < w.heap.size := by
  unfold World.cell? at h
  split at h
  · rename_i hh; exact (Array.getElem?_eq_some_iff.1 hh).1
  · cases h
section
variable {H : Type} {enc : TypeId × Value → H} {W : World}
theorem trod_struct2n {P : Program} {t : TypeId} {f0 f1 : Field} {fuel : Nat} {cs : List Value} {x : DataW H × List MemPlace} (ht : P.underlying t = some (.struct #[f0, f1])) (h : DataW.trod enc P W 0 (fun _ => true) true fuel t cs = some x) :
    ∃ y0 y1 n, fuel = n + 1 ∧ cs.length = P.cellsOf t ∧ DataW.trod enc P W 0 (fun _ => true) true n f0.type ((cs.drop f0.offset).take (P.cellsOf f0.type)) = some y0 ∧ DataW.trod enc P W 0 (fun _ => true) true n f1.type ((cs.drop f1.offset).take (P.cellsOf f1.type)) = some y1 := by
  obtain ⟨xs, n, e, rfl, hl, hlen, hf⟩ := DataW.trod_struct ht h
  match xs, hlen with
  | [y0, y1], _ => exact ⟨y0, y1, n, e, hl, by simpa using hf 0 f0 rfl, by simpa using hf 1 f1 rfl⟩
theorem trod_struct5n {P : Program} {t : TypeId} {f0 f1 f2 f3 f4 : Field} {fuel : Nat} {cs : List Value} {x : DataW H × List MemPlace} (ht : P.underlying t = some (.struct #[f0, f1, f2, f3, f4])) (h : DataW.trod enc P W 0 (fun _ => true) true fuel t cs = some x) :
    ∃ y0 y1 y2 y3 y4 n, fuel = n + 1 ∧ cs.length = P.cellsOf t ∧ DataW.trod enc P W 0 (fun _ => true) true n f0.type ((cs.drop f0.offset).take (P.cellsOf f0.type)) = some y0 ∧ DataW.trod enc P W 0 (fun _ => true) true n f1.type ((cs.drop f1.offset).take (P.cellsOf f1.type)) = some y1 ∧
      DataW.trod enc P W 0 (fun _ => true) true n f2.type ((cs.drop f2.offset).take (P.cellsOf f2.type)) = some y2 ∧ DataW.trod enc P W 0 (fun _ => true) true n f3.type ((cs.drop f3.offset).take (P.cellsOf f3.type)) = some y3 ∧ DataW.trod enc P W 0 (fun _ => true) true n f4.type ((cs.drop f4.offset).take (P.cellsOf f4.type)) = some y4 := by
  obtain ⟨xs, n, e, rfl, hl, hlen, hf⟩ := DataW.trod_struct ht h
  match xs, hlen with
  | [y0, y1, y2, y3, y4], _ => exact ⟨y0, y1, y2, y3, y4, n, e, hl, by simpa using hf 0 f0 rfl, by simpa using hf 1 f1 rfl, by simpa using hf 2 f2 rfl, by simpa using hf 3 f3 rfl, by simpa using hf 4 f4 rfl⟩
theorem trod_num {n : Nat} {cs : List Value} {y : DataW H × List MemPlace} (h : DataW.trod enc Tryd.prog W 0 (fun _ => true) true n 27 cs = some y) : ∃ (b : Bool) (m : ByteArray), cs = [.bool b, .string m] ∧ m.size ≤ maxLen := by
  obtain ⟨x0, x1, k, rfl, hl, f0, f1⟩ := trod_struct2n Tryd.underlying27 h
  rw [cellsNum] at hl
  obtain ⟨c0, c1, rfl⟩ := len2 hl
  simp only [cellsBool, cellsStr, List.drop, List.take] at f0 f1
  obtain ⟨b, hb, _⟩ := DataW.trod_bool Tryd.underlying4 f0
  obtain ⟨m, hm, _, hw⟩ := DataW.trod_string Tryd.underlying9 f1
  simp only [List.cons.injEq, and_true] at hb hm
  subst hb hm
  exact ⟨b, m, rfl, hw⟩
theorem part_of : ∀ (n : Nat) (cs : List Value) (y : DataW H × List MemPlace), DataW.trod enc Tryd.prog W 0 (fun _ => true) true n 30 cs = some y → ∃ t, PartAt W (· < W.heap.size) t cs := by
  intro n
  induction n using Nat.strongRecOn with
  | _ n ih =>
    intro cs y h
    obtain ⟨x0, x1, x2, x3, x4, k, rfl, hl, f0, f1, f2, f3, f4⟩ := trod_struct5n Tryd.underlying30 h
    rw [cellsPart] at hl
    obtain ⟨c0, c1, c2, c3, c4, c5, rfl⟩ := len6 hl
    simp only [cellsKind, cellsBool, cellsNum, cellsStr, cellsParts, List.drop, List.take] at f0 f1 f2 f3 f4
    obtain ⟨kd, h0, _, hwf⟩ := DataW.trod_int Tryd.underlying25 f0
    obtain ⟨yes, h1, _⟩ := DataW.trod_bool Tryd.underlying4 f1
    obtain ⟨bel, mag, h2, hm⟩ := trod_num f2
    obtain ⟨raw, h3, _, hr⟩ := DataW.trod_string Tryd.underlying9 f3
    simp only [List.cons.injEq, and_true] at h0 h1 h2 h3
    obtain ⟨rfl, rfl⟩ := h2
    subst h0 h1 h3
    have hk : 0 ≤ kd ∧ kd < 256 := by
      have h9 : IntKind.u8.min ≤ kd ∧ kd ≤ IntKind.u8.max := by simpa [Lit.wf] using hwf
      exact ⟨h9.1, by have := h9.2; rw [show IntKind.u8.max = 255 from rfl] at this; omega⟩
    obtain ⟨k0, rfl⟩ := Int.eq_ofNat_of_zero_le hk.1
    rcases DataW.trod_slice Tryd.underlying28 f4 with ⟨h4, _⟩ | ⟨x, len, cap, elems, rest, m, hmk, h4, _, _, hlc, hcm, helen, hall, _⟩
    · simp only [List.cons.injEq, and_true] at h4
      subst h4
      exact ⟨.mk k0 yes bel mag raw [], none, 0, rfl, by omega, hm, hr, Nat.le_refl _, Nat.zero_le _, trivial⟩
    · simp only [List.cons.injEq, and_true] at h4
      subst h4
      have hex : ∀ i, i < len → ∃ t : PT, ∃ cs', W.cells? 0 (x.add (i * 6)) 6 = some cs' ∧ PartAt W (· < W.heap.size) t cs' := by
        intro i hi
        have h5 := hall i hi
        rw [cellsPart, List.getElem?_eq_getElem (by omega)] at h5
        obtain ⟨cs', h6, h7⟩ := Option.bind_eq_some_iff.1 h5
        obtain ⟨t, ht⟩ := ih m (by omega) cs' _ h7
        exact ⟨t, cs', h6, ht⟩
      obtain ⟨f, hfs⟩ := Deep.choose_lt hex
      have hlen' : ((List.range len).map f).length = len := by simp
      have hrow : PartsAt W (· < W.heap.size) ((List.range len).map f) (some x) := by
        by_cases h0 : len = 0
        · subst h0; trivial
        · have hx : x = ⟨x.block, x.off, none⟩ ∧ x.block < W.heap.size := by
            obtain ⟨cs', h6, h7⟩ := hfs 0 (by omega)
            obtain ⟨a', c', rfl, _⟩ := h7.open
            obtain ⟨_, _, hget⟩ := World.cells?_some h6
            have g0 := hget 0 (by omega)
            have e0 : (x.add (0 * 6)).add 0 = x := by simp [Addr.add]
            rw [e0] at g0
            exact ⟨cell_plainP g0, block_ltP g0⟩
          obtain ⟨b, o, hxb⟩ : ∃ b o, x = ⟨b, o, none⟩ := ⟨_, _, hx.1⟩
          subst hxb
          refine PartsAt.of_get (.inr hx.2) fun i hi => ?_
          rw [hlen'] at hi
          obtain ⟨cs', h6, h7⟩ := hfs i hi
          refine ⟨cs', fun j u hu => ?_, by simpa using h7⟩
          obtain ⟨_, hlen6, hget⟩ := World.cells?_some h6
          have hj : j < 6 := by have := (List.getElem?_eq_some_iff.1 hu).1; omega
          have g := hget j hj
          rw [add_plain, add_plain] at g
          rw [g, hu]
      have := PartAt.shut (t := .mk k0 yes bel mag raw ((List.range len).map f)) (a := some x) (c := cap) (by show k0 < 256; omega) hm hr (by show ((List.range len).map f).length ≤ cap; omega) hcm hrow
      refine ⟨.mk k0 yes bel mag raw ((List.range len).map f), ?_⟩
      simpa [partCells, PT.kind, PT.yes, PT.bel, PT.mag, PT.raw, PT.items] using this
end
end Go.Proofs.YtjgicjgpahnmaaaDoor

/-! Sources in memory; the law's vast answers, whatever is handed in. -/
namespace Go.Proofs.YtjgicjgpahnmaaaDoor
open Go.RowKit Go.WideShapes Go.ChangeShapes Go.ChangeAt
set_option linter.unusedVariables false
/-- Sources that lie one behind the other. -/
def SrcsAt (w : World) (S : Nat → Prop) (l : List (Int × PT)) (a : Option Addr) : Prop :=
  ∀ i (hi : i < l.length), ∃ b o a' c', a = some ⟨b, o, none⟩ ∧ S b ∧ CellsAt w b (o + i * 7) (.int .i64 l[i].1 :: partCells l[i].2 a' c') ∧ PartAt w S l[i].2 (partCells l[i].2 a' c')
section
variable {w w' : World} {S S' : Nat → Prop} {l : List (Int × PT)} {a : Option Addr}
theorem SrcsAt.keep (hk : ∀ p : Addr, S p.block → w'.cell? p = w.cell? p) (h : SrcsAt w S l a) : SrcsAt w' S l a := fun i hi => by
  obtain ⟨b, o, a', c', e, hb, hc, hp⟩ := h i hi
  exact ⟨b, o, a', c', e, hb, hc.keep fun p hp => hk p (hp ▸ hb), PartAt.keep hk _ _ hp⟩
theorem SrcsAt.more (hS : ∀ b, S b → S' b) (h : SrcsAt w S l a) : SrcsAt w S' l a := fun i hi => by
  obtain ⟨b, o, a', c', e, hb, hc, hp⟩ := h i hi
  exact ⟨b, o, a', c', e, hS b hb, hc, PartAt.more hS _ _ hp⟩
theorem SrcsAt.below {B : Nat} (h : SrcsAt w (· < B) l a) (hb : Below B w w') : SrcsAt w' (· < B) l a := h.keep fun _ hp => hb.cell hp
theorem SrcsAt.cells (h : SrcsAt w S l a) {i : Nat} (hi : i < l.length) : ∃ b o a' c', a = some ⟨b, o, none⟩ ∧ S b ∧ w.cell? ⟨b, o + i * 7, none⟩ = some (.int .i64 l[i].1) ∧ w.cell? ⟨b, o + i * 7 + 1, none⟩ = some (.int .u8 l[i].2.kind) ∧ w.cell? ⟨b, o + i * 7 + 2, none⟩ = some (.bool l[i].2.yes) ∧
    w.cell? ⟨b, o + i * 7 + 3, none⟩ = some (.bool l[i].2.bel) ∧ w.cell? ⟨b, o + i * 7 + 4, none⟩ = some (.string l[i].2.mag) ∧ w.cell? ⟨b, o + i * 7 + 5, none⟩ = some (.string l[i].2.raw) ∧ w.cell? ⟨b, o + i * 7 + 6, none⟩ = some (.slice a' l[i].2.items.length c') ∧
    PartAt w S l[i].2 (partCells l[i].2 a' c') := by
  obtain ⟨b, o, a', c', e, hb, hc, h1⟩ := h i hi
  exact ⟨b, o, a', c', e, hb, hc 0 _ rfl, hc 1 _ rfl, hc 2 _ rfl, hc 3 _ rfl, hc 4 _ rfl, hc 5 _ rfl, hc 6 _ rfl, h1⟩
end
def BoolPost (w : World) (e : Ending) (w' : World) : Prop := ∃ b, e = .returned (.bool b) ∧ Below w.heap.size w w'
set_option maxRecDepth 100000 in
set_option maxHeartbeats 4000000 in
theorem vast_any (l : List (Int × PT)) (A : Option Addr) (C : Nat) (t : PT) (a : Option Addr) (c : Nat) (w : World) (hl : SrcsAt w (· < w.heap.size) l A) (hp : PartAt w (· < w.heap.size) t (partCells t a c)) (hlen : l.length ≤ 9223372036854775807) :
    Calls Tryd.prog 7 #[.slice A l.length C, .agg (partCells t a c).toArray] w (BoolPost w) := by
  have HL := Lib.hid hl
  have HD := Lib.hid (Deep_any t a c 0)
  have HW := Lib.hid (weight_any t a c)
  have HP := Lib.hid hp
  clear hl hp
  have HB0 := Lib.hid ((Below.refl w.heap.size w).alloc (Nat.le_refl _) (.cells (partCells t a c).toArray 30))
  have HP0 := Lib.hid (new_part w w.heap.size t a c 30 rfl)
  unfold partCells at HB0
  unfold partCells
  go_enter Tryd.func7, Tryd.ntmps7
  go_wp2_with fail
  refine (HD.out _ ((HP.out.below HB0.out).wide (by simp))).mono ?_
  rintro e w1 ⟨n1, rfl, hb1⟩
  have hz1 : w.heap.size + 1 ≤ w1.heap.size := by have := hb1.size; simpa using this
  have HB1 := Lib.hid (HB0.out.trans (hb1.mono (by simp)))
  have HP1 := Lib.hid (show CellsAt w1 w.heap.size 0 (partCells t a c) from CellsAt.keep HP0.out fun p hp => hb1.cell (by simp; omega))
  clear hb1 HB0 HP0 HD
  have p0 := HP1.out 0 _ rfl
  have p1 := HP1.out 1 _ rfl
  have p2 := HP1.out 2 _ rfl
  have p3 := HP1.out 3 _ rfl
  have p4 := HP1.out 4 _ rfl
  have p5 := HP1.out 5 _ rfl
  by_cases hn : 40 < n1
  · go_wp2_with fail
    go_ret
    exact ⟨_, rfl, HB1.out⟩
  · go_wp2_with fail
    refine (HW.out _ ((HP.out.below HB1.out).wide (by omega))).mono ?_
    rintro e w2 ⟨n2, rfl, hb2⟩
    have hz2 := hb2.size
    have HB2 := Lib.hid (HB1.out.trans (hb2.mono (by omega)))
    have HP2 := Lib.hid (HP1.out.keep fun p hp => hb2.cell (by omega))
    clear hb2 HB1 HP1 p0 p1 p2 p3 p4 p5
    go_wp2_with fail
    go_loopw [5, 6] (fun n i wr => ∃ (k : Nat) (n' : Int), n = .int .i64 n' ∧ i = .int .i64 k ∧ k ≤ l.length ∧ Hid (Below w.heap.size w wr) ∧ Hid (CellsAt wr w.heap.size 0 (partCells t a c)) ∧ w.heap.size < wr.heap.size) (fun _ i _ => l.length - (intOf i).toNat)
    case atStart => exact ⟨0, _, rfl, rfl, by omega, HB2, HP2, by omega⟩
    case round =>
      clear HB2 HP2
      obtain ⟨k, n', rfl, rfl, hk, HB, HP', hwz⟩ := hrel
      by_cases hlt : k < l.length
      · by_cases hn : n' ≤ 16777216
        · obtain ⟨b, o, a', c', rfl, hb, k0, k1, k2, k3, k4, k5, k6, hpa⟩ := (HL.out.below HB.out).cells hlt
          have HPA := Lib.hid (PartAt.wide hpa (by omega : w.heap.size ≤ wr.heap.size))
          have HD := Lib.hid (Deep_any _ _ _ 0 _ HPA.out)
          have HW' := Lib.hid (weight_any l[k].2 a' c')
          unfold partCells at HD HW'
          clear hpa
          go_wp2_with fail
          refine HD.out.mono ?_
          rintro e w3 ⟨n3, rfl, hb3⟩
          have hz3 := hb3.size
          have HB3 := Lib.hid (HB.out.trans (hb3.mono (by omega)))
          have HP3 := Lib.hid (HP'.out.keep fun p hp => hb3.cell (by omega))
          have HPA3 := Lib.hid ((HPA.out.below hb3).wide hz3)
          have k0 := (hb3.cell (p := ⟨b, o + k * 7, none⟩) (by simp only; omega)).trans k0
          have k1 := (hb3.cell (p := ⟨b, o + k * 7 + 1, none⟩) (by simp only; omega)).trans k1
          have k2 := (hb3.cell (p := ⟨b, o + k * 7 + 2, none⟩) (by simp only; omega)).trans k2
          have k3 := (hb3.cell (p := ⟨b, o + k * 7 + 3, none⟩) (by simp only; omega)).trans k3
          have k4 := (hb3.cell (p := ⟨b, o + k * 7 + 4, none⟩) (by simp only; omega)).trans k4
          have k5 := (hb3.cell (p := ⟨b, o + k * 7 + 5, none⟩) (by simp only; omega)).trans k5
          have k6 := (hb3.cell (p := ⟨b, o + k * 7 + 6, none⟩) (by simp only; omega)).trans k6
          clear hb3 HB HP' HPA HD
          by_cases hd : 40 < n3
          · go_wp2_with fail
            go_ret
            exact ⟨_, rfl, HB3.out⟩
          · go_wp2_with fail
            refine (HW'.out _ HPA3.out).mono ?_
            rintro e w4 ⟨n4, rfl, hb4⟩
            have hz4 := hb4.size
            have HB4 := Lib.hid (HB3.out.trans (hb4.mono (by omega)))
            have HP4 := Lib.hid (HP3.out.keep fun p hp => hb4.cell (by omega))
            clear hb4 HB3 HP3 k0 k1 k2 k3 k4 k5 k6 HPA3
            go_wp2_with fail
            go_roundw
            case rel => exact ⟨k + 1, _, rfl, by go_num, by omega, HB4, HP4, by omega⟩
            case measure => simp [intOf]; omega
        · have hn' : 16777216 < n' := by omega
          clear hn
          go_wp2_with fail
          go_ret
          exact ⟨_, rfl, HB.out⟩
      · have p0 := HP'.out 0 _ rfl
        have p1 := HP'.out 1 _ rfl
        have p2 := HP'.out 2 _ rfl
        have p3 := HP'.out 3 _ rfl
        have p4 := HP'.out 4 _ rfl
        have p5 := HP'.out 5 _ rfl
        obtain rfl : k = l.length := by omega
        by_cases hn : 16777216 < n'
        · go_wp2_with fail
          go_ret
          exact ⟨_, rfl, HB.out⟩
        · by_cases hm : 4000 < l.length
          · go_wp2_with fail
            go_ret
            exact ⟨_, rfl, HB.out⟩
          · go_wp2_with fail
            refine (HW.out _ ((HP.out.below HB.out).wide (by omega))).mono ?_
            rintro e w2 ⟨n2, rfl, hb2⟩
            have HB2 := Lib.hid (HB.out.trans (hb2.mono (by omega)))
            clear hb2 HB HP' p0 p1 p2 p3 p4 p5
            go_wp2_with fail
            go_ret
            exact ⟨_, rfl, HB2.out⟩
end Go.Proofs.YtjgicjgpahnmaaaDoor

/-! rekey.item: what a source says. -/
namespace Go.Proofs.YtjgicjgpahnmaaaDoor
open Go.RowKit Go.WideShapes
set_option linter.unusedVariables false
/-- The part that a source picks. -/
def pick (t : PT) (s : Int × PT) : Option PT := if 0 ≤ s.1 then t.items[s.1.toNat]? else if s.2.why = 0 ∧ s.2.depth < 16 then some s.2 else none
/-- What an item comes to. -/
def ItemPost (B : Nat) (x : Option PT) (w : World) (e : Ending) (w' : World) : Prop := Below w.heap.size w w' ∧ match x with
  | some p => ∃ v, e = .returned (.tuple #[v, .nilIface]) ∧ ValueAt w' (fun b => b < B ∨ (w.heap.size ≤ b ∧ b < w'.heap.size)) p v
  | none => ∃ v, e = .returned (.tuple #[.nilIface, v]) ∧ ItemErr v
theorem new_cells (w : World) (cs : List Value) (ty : TypeId) : CellsAt (w.alloc (.cells cs.toArray ty)) w.heap.size 0 cs := fun i u hu => by
  have h : (w.alloc (.cells cs.toArray ty)).heap[w.heap.size]? = some (.cells cs.toArray ty (0, 0)) := World.alloc_heap_new w _
  simp only [World.cell?, h]
  simpa using hu
theorem NoneMet.below {w w' : World} {B : Nat} (h : NoneMet w) (hb : Below B w w') (hB : 0 < B) : NoneMet w' := by
  obtain ⟨v, h1, h2⟩ := h
  exact ⟨v, (hb.cell (by simpa using hB)).trans h1, h2⟩
set_option maxRecDepth 100000 in
set_option maxHeartbeats 1000000 in
theorem item_field (t : PT) (x : Int) (n : Nat) (p : PT) (a : Option Addr) (c : Nat) (a' : Option Addr) (c' : Nat) (w : World) (hn : NoneMet w) (hx : x = (n : Int)) (hlc : t.items.length ≤ maxLen) (B : Nat) (hB : B ≤ w.heap.size) (hv : ValuesAt w (· < B) t.items a') (hwz : 0 < w.heap.size) :
    Calls Tryd.prog 28 #[.agg (Value.int .i64 x :: partCells p a c).toArray, .iface 88 (.agg #[.slice a' t.items.length c'])] w (ItemPost B t.items[n]? w) := by
  have HLen := Lib.hid (fun w => tupLen_any a' t.items.length c' w hlc)
  have HV := Lib.hid hv
  have HN := Lib.hid hn
  have HL := Lib.hid hlc
  obtain ⟨W1, hW1⟩ : ∃ W1, W1 = w.alloc (.cells (Value.int .i64 x :: partCells p a c).toArray 39) := ⟨_, rfl⟩
  have HB1 := Lib.hid (show Below w.heap.size w W1 by rw [hW1]; exact (Below.refl w.heap.size w).alloc (Nat.le_refl _) _)
  have HC1 := Lib.hid (show CellsAt W1 w.heap.size 0 (Value.int .i64 x :: partCells p a c) by rw [hW1]; exact new_cells _ _ _)
  have hz1 : W1.heap.size = w.heap.size + 1 := by rw [hW1]; simp
  have k0 : W1.cell? ⟨w.heap.size, 0, none⟩ = some (Value.int .i64 x) := HC1.out 0 _ rfl
  have hx0 : 0 ≤ x := by omega
  have HXn := Lib.hid hx
  clear hn hv hx
  unfold partCells at hW1 ⊢
  go_enter Tryd.func28, Tryd.ntmps28
  go_wp2_with fail
  rw [← hW1]
  clear hW1
  go_region_law (go_simp; go_invoke; go_simp; go_at_call 83; refine (HLen.out _).mono ?_; rintro e w2 ⟨rfl, hb2⟩; have HB2 := Lib.hid (HB1.out.drew.trans (hb2.mono (by simp only [World.size_drew]; omega))); have k0' := (hb2.cell (p := ⟨w.heap.size, 0, none⟩) (by simp only [World.size_drew]; omega)).trans k0; have hz2 := hb2.size)
  all_goals (
    clear k0 hz1 HC1
    by_cases hlt : n < t.items.length
    · have hxl : x < (t.items.length : Int) := by have := HXn.out; omega
      obtain ⟨b, o, u, ea, hb, hc, hu⟩ := (HV.out.below (HB2.out.mono hB)).get hlt
      subst ea
      have HAt := Lib.hid (tupAt_any b o t.items.length c' n x u w2 HL.out (by simp only [World.size_drew] at hz2; have := HB2.out.size; omega) HXn.out hlt hc)
      have HU := Lib.hid hu
      clear hc hu hb HLen
      go_wp2_with fail
      refine HAt.out.mono ?_
      rintro e w3 ⟨rfl, hb3⟩
      have hz3 := hb3.size
      have HB3 := Lib.hid (HB2.out.trans (hb3.mono HB2.out.size))
      have HU3 := Lib.hid (HU.out.below (hb3.mono (by have := HB2.out.size; omega)))
      clear hb3 HAt
      go_wp2_with fail
      go_ret2
      refine ⟨HB3.out, ?_⟩
      rw [List.getElem?_eq_getElem hlt]
      exact ⟨u, rfl, ValueAt.more (fun b hb => .inl hb) _ _ HU3.out⟩
    · have hxl : ¬ x < (t.items.length : Int) := by have := HXn.out; omega
      obtain ⟨v, hc, hv⟩ := HN.out.below HB2.out hwz
      have HVe := Lib.hid hv
      clear hv HLen
      go_wp2_with fail
      go_region_law (fail)
      all_goals (
        go_wp2_with fail
        go_ret2
        refine ⟨HB2.out.drew, ?_⟩
        rw [List.getElem?_eq_none (by omega)]
        exact ⟨v, rfl, HVe.out⟩))
end Go.Proofs.YtjgicjgpahnmaaaDoor

/-! rekey.item of a part; of any source. -/
namespace Go.Proofs.YtjgicjgpahnmaaaDoor
open Go.RowKit Go.WideShapes
set_option linter.unusedVariables false
theorem PT.why_cases (p : PT) : p.why = 0 ∨ p.why = 90 ∨ p.why = 91 := by
  unfold PT.why; split
  · exact .inr (.inr rfl)
  · split
    · exact .inl rfl
    · exact .inr (.inl rfl)
theorem PT.why_depth {p : PT} (h : p.why = 0) : p.depth ≤ 16 := by
  unfold PT.why at h
  split at h
  · cases h
  · rename_i hd
    rw [PT.deeper_depth] at hd
    simpa using hd
theorem PT.why_may {p : PT} (h : p.why = 0) : p.may = true := by
  unfold PT.why at h
  split at h
  · cases h
  · split at h
    · assumption
    · cases h
set_option maxRecDepth 100000 in
set_option maxHeartbeats 1000000 in
theorem item_part (x : Int) (p : PT) (a : Option Addr) (c : Nat) (tv : Value) (w : World) (hx : x < 0) (hp : PartAt w (· < w.heap.size) p (partCells p a c)) (B : Nat) (q : Option PT) (hq : q = if p.why = 0 ∧ p.depth < 16 then some p else none) :
    Calls Tryd.prog 28 #[.agg (Value.int .i64 x :: partCells p a c).toArray, tv] w (ItemPost B q w) := by
  have HQ := Lib.hid hq
  clear hq
  obtain ⟨W1, hW1⟩ : ∃ W1, W1 = w.alloc (.cells (Value.int .i64 x :: partCells p a c).toArray 39) := ⟨_, rfl⟩
  have HB1 := Lib.hid (show Below w.heap.size w W1 by rw [hW1]; exact (Below.refl w.heap.size w).alloc (Nat.le_refl _) _)
  have HC1 : CellsAt W1 w.heap.size 0 (Value.int .i64 x :: partCells p a c) := by rw [hW1]; exact new_cells _ _ _
  have hz1 : W1.heap.size = w.heap.size + 1 := by rw [hW1]; simp
  have HM := Lib.hid (valMake_any p a c W1 ((hp.below HB1.out).wide (by omega)))
  have k0 : W1.cell? ⟨w.heap.size, 0, none⟩ = some (Value.int .i64 x) := HC1 0 _ rfl
  have k1 : W1.cell? ⟨w.heap.size, 1, none⟩ = some (Value.int .u8 p.kind) := HC1 1 _ rfl
  have k2 : W1.cell? ⟨w.heap.size, 2, none⟩ = some (Value.bool p.yes) := HC1 2 _ rfl
  have k3 : W1.cell? ⟨w.heap.size, 3, none⟩ = some (Value.bool p.bel) := HC1 3 _ rfl
  have k4 : W1.cell? ⟨w.heap.size, 4, none⟩ = some (Value.string p.mag) := HC1 4 _ rfl
  have k5 : W1.cell? ⟨w.heap.size, 5, none⟩ = some (Value.string p.raw) := HC1 5 _ rfl
  have k6 : W1.cell? ⟨w.heap.size, 6, none⟩ = some (Value.slice a p.items.length c) := HC1 6 _ rfl
  clear hp HC1
  have hm9 : ∀ (e : Ending) (w' : World), MakePost p W1 e w' → (Below W1.heap.size W1 w' ∧ ((∃ n : Int, (n = 90 ∨ n = 91) ∧ p.why ≠ 0 ∧ e = .returned (.tuple #[.nilIface, .int .i64 n])) ∨ (p.why = 0 ∧ ∃ v, e = .returned (.tuple #[v, .int .i64 0]) ∧ ValueAt w' (fun b => W1.heap.size ≤ b ∧ b < w'.heap.size) p v))) := by
    rintro e w' ⟨h1, h2 | ⟨h2, v, h3, h4⟩⟩
    · exact ⟨h1, .inl ⟨_, (PT.why_cases p).resolve_left h2.1, h2.1, h2.2⟩⟩
    · exact ⟨h1, .inr ⟨h2, v, h3, h4⟩⟩
  have HM9 := Lib.hid hm9
  clear hm9
  unfold partCells at hW1 HM ⊢
  go_enter Tryd.func28, Tryd.ntmps28
  go_wp2_with fail
  rw [← hW1]
  clear hW1
  go_wp2_with fail
  refine HM.out.mono ?_
  intro e w2 h
  obtain ⟨hb2, ⟨n, hn, hwhy, rfl⟩ | ⟨hwhy, v, rfl, hv⟩⟩ := HM9.out e w2 h
  · have HB2 := Lib.hid (HB1.out.trans (hb2.mono (by omega)))
    have HW := Lib.hid hwhy
    clear h hb2 HM HM9 hwhy k0 k1 k2 k3 k4 k5 k6
    rcases hn with rfl | rfl
    · go_wp2_with fail
      go_ret2
      refine ⟨HB2.out, ?_⟩
      rw [show q = none from HQ.out.trans (if_neg (fun h => HW.out h.1))]
      exact ⟨_, rfl, .inl rfl⟩
    · go_wp2_with fail
      go_ret2
      refine ⟨HB2.out, ?_⟩
      rw [show q = none from HQ.out.trans (if_neg (fun h => HW.out h.1))]
      exact ⟨_, rfl, .inr (.inl rfl)⟩
  · have HB2 := Lib.hid (HB1.out.trans (hb2.mono (by omega)))
    have HW := Lib.hid hwhy
    have HV := Lib.hid hv
    have HD := Lib.hid (Depth_any p v w2 (by have := PT.why_depth hwhy; omega) (ValueAt.more (fun b hb => hb.2) _ _ hv))
    clear h hb2 HM HM9 hwhy k0 k1 k2 k3 k4 k5 k6 hv
    go_wp2_with fail
    refine HD.out.mono ?_
    rintro e w3 ⟨rfl, hb3⟩
    have HB3 := Lib.hid (HB2.out.trans (hb3.mono HB2.out.size))
    have HV3 := Lib.hid (ValueAt.more (S' := fun b => b < B ∨ (w.heap.size ≤ b ∧ b < w3.heap.size)) (fun b hb => .inr ⟨by have := hb.1; omega, by have := hb3.size; have := hb.2; omega⟩) _ _ (ValueAt.keep (fun p hp => hb3.cell hp.2) _ _ HV.out))
    clear hb3 HB2 HV HD
    by_cases hd : p.depth < 16
    · have hd' : ¬ ((p.depth : Int) ≥ 16) := by omega
      have HDp := Lib.hid hd
      clear hd
      go_wp2_with fail
      go_ret2
      refine ⟨HB3.out, ?_⟩
      rw [show q = some p from HQ.out.trans (if_pos ⟨HW.out, HDp.out⟩)]
      exact ⟨v, rfl, HV3.out⟩
    · have hd' : ((p.depth : Int) ≥ 16) := by omega
      have HDp := Lib.hid hd
      clear hd
      go_wp2_with fail
      go_ret2
      refine ⟨HB3.out, ?_⟩
      rw [show q = none from HQ.out.trans (if_neg (fun h => HDp.out h.2))]
      exact ⟨_, rfl, .inr (.inl rfl)⟩
theorem item_any (t : PT) (s : Int × PT) (a : Option Addr) (c : Nat) (a' : Option Addr) (c' : Nat) (w : World) (hn : NoneMet w) (hlc : t.items.length ≤ maxLen) (hp : PartAt w (· < w.heap.size) s.2 (partCells s.2 a c)) (B : Nat) (hB : B ≤ w.heap.size) (hv : ValuesAt w (· < B) t.items a') (hwz : 0 < w.heap.size) :
    Calls Tryd.prog 28 #[.agg (Value.int .i64 s.1 :: partCells s.2 a c).toArray, .iface 88 (.agg #[.slice a' t.items.length c'])] w (ItemPost B (pick t s) w) := by
  unfold pick
  by_cases h0 : 0 ≤ s.1
  · rw [if_pos h0]
    exact item_field t s.1 s.1.toNat s.2 a c a' c' w hn (by omega) hlc B hB hv hwz
  · rw [if_neg h0]
    exact item_part s.1 s.2 a c _ w (by omega) hp B _ rfl
end Go.Proofs.YtjgicjgpahnmaaaDoor

/-! rekey.Map: a tuple made of another one's fields. -/
namespace Go.Proofs.YtjgicjgpahnmaaaDoor
open Go.RowKit Go.WideShapes
set_option linter.unusedVariables false
/-- One value more, in blocks that are not the row's. -/
theorem VRow.push {w w2 w3 : World} {base : Nat} {vt : Value} {k : Nat} {l : List PT} {vs : List Value} {v : Value} {t : PT} {tmp : Obj} {g cap : Nat} (h : VRow w 0 base vt k l vs) (hl : l.length = k)
    (hv : ValueAt w2 (fun b => b < w2.heap.size ∧ vt.ownBlock ≠ some b) t v) (hb : Below w.heap.size w w2)
    (hown : w3.ownsRow base 35 1 (.slice (some ⟨g, 0, none⟩) (k + 1) cap) (k + 1) (vs ++ [v])) (hgrow : (w2.alloc tmp).grownBy w3 vt.ownBlock) (hat : vt.ownBlock = some g ∨ g = (w2.alloc tmp).heap.size) :
    VRow w3 0 base (.slice (some ⟨g, 0, none⟩) (k + 1) cap) (k + 1) (l ++ [t]) (vs ++ [v]) := by
  have h2 := h.below hb
  have hz : (w2.alloc tmp).heap.size = w2.heap.size + 1 := by simp
  have hz3 := hgrow.size
  have hcell : ∀ p : Addr, p.block < w2.heap.size → vt.ownBlock ≠ some p.block → w3.cell? p = w2.cell? p := fun p hp hne => by
    rw [hgrow.cell_far p (by omega) (fun e => hne e.symm), World.cell?_alloc_lt w2 tmp p hp]
  have hg : ∀ b, b < w2.heap.size → vt.ownBlock ≠ some b → (Value.slice (some ⟨g, 0, none⟩) (k + 1) cap).ownBlock ≠ some b := fun b hb hne e => by
    simp only [Value.ownBlock, Option.some.injEq] at e
    subst e
    rcases hat with hat | hat
    · exact hne hat
    · omega
  refine ⟨by simp [h.len], hown, fun i hi hv' => ?_⟩
  rw [List.length_append, h.len, List.length_singleton] at hv'
  by_cases e : i = k
  · subst e
    have e1 : (vs ++ [v])[i]'(by rw [List.length_append, h.len, List.length_singleton]; omega) = v := by
      rw [List.getElem_append_right (by rw [h.len]; omega)]; simp [h.len]
    have e2 : (l ++ [t])[i]'hi = t := by
      rw [List.getElem_append_right (by rw [hl]; omega)]; simp [hl]
    rw [e1, e2]
    refine ValueAt.more (fun b hb' => ?_) _ _ (ValueAt.keep (fun p hp => hcell p hp.1 hp.2) _ _ hv)
    exact ⟨Nat.zero_le _, by have := hb'.1; omega, hg b hb'.1 hb'.2⟩
  · have hik : i < vs.length := by rw [h.len]; omega
    have hil : i < l.length := by rw [hl]; omega
    have e1 : (vs ++ [v])[i]'(by rw [List.length_append, h.len, List.length_singleton]; omega) = vs[i] := List.getElem_append_left hik
    have e2 : (l ++ [t])[i]'hi = l[i] := List.getElem_append_left hil
    rw [e1, e2]
    refine ValueAt.more (fun b hb' => ?_) _ _ (ValueAt.keep (fun p hp => hcell p hp.2.1 hp.2.2) _ _ (h2.val i hil hik))
    exact ⟨hb'.1, by omega, hg b hb'.2.1 hb'.2.2⟩
/-- A fault comes back. -/
def FaultPost (e : Ending) : Prop := ∃ t x, e = .returned (.tuple #[.nilIface, .iface t x])
/-- A tuple of the items comes back. -/
def TuplePost (its : List PT) (e : Ending) (w' : World) : Prop := ∃ a c, e = .returned (.tuple #[.iface 88 (.agg #[.slice a its.length c]), .nilIface]) ∧ its.length ≤ c ∧ c ≤ maxLen ∧ ValuesAt w' (· < w'.heap.size) its a
/-- The items that sources pick. -/
def Picked (t : PT) (l : List (Int × PT)) (its : List PT) : Prop := its.length = l.length ∧ ∀ i (hi : i < l.length) (hj : i < its.length), pick t l[i] = some its[i]
def MapPost (t : PT) (l : List (Int × PT)) (w : World) (e : Ending) (w' : World) : Prop := Below w.heap.size w w' ∧
  ((FaultPost e ∧ (1024 < l.length ∨ ∃ s ∈ l, pick t s = none)) ∨ (l.length ≤ 1024 ∧ ∃ its, Picked t l its ∧ TuplePost its e w'))
theorem pick_depth {t p : PT} {s : Int × PT} (ht : t.depth ≤ 16) (h7 : t.kind = 7) (h : pick t s = some p) : p.depth < 16 := by
  unfold pick at h
  split at h
  · have hm : p ∈ t.items := List.mem_of_getElem? h
    have := PT.depth_tuple h7
    have := PT.depthL_le.1 (Nat.le_refl (PT.depthL t.items)) p hm
    omega
  · split at h
    · rename_i hc
      injection h with h
      subst h
      exact hc.2
    · cases h
set_option maxRecDepth 100000 in
set_option maxHeartbeats 4000000 in
theorem map_any {w0 : World} (h0 : laidMetH Tryd.prog Rows.rekeyGoesUptoRow.laid w0) (t : PT) (l : List (Int × PT)) (A : Option Addr) (C : Nat) (tv : Value) (w : World) (hb0 : Below w0.heap.size w0 w) (hw0 : 0 < w0.heap.size) (h7 : t.kind = 7) (ht : t.depth ≤ 16)
    (hl : SrcsAt w (· < w.heap.size) l A) (hll : l.length ≤ maxLen) (hv : ValueAt w (· < w.heap.size) t tv) : Calls Tryd.prog 10 #[.slice A l.length C, tv] w (MapPost t l w) := by
  unfold maxLen at hll
  obtain ⟨a', c', rfl, hlc, hcm, hits⟩ := (ValueAt.tuple h7).1 hv
  obtain ⟨i0, hi, hz0, hz1, hz2⟩ := info_parts value_info
  have hw : 0 < w.heap.size := by have := hb0.size; omega
  have HLi := Lib.hid (list_tuple t.items a' c' w w.heap.size hits)
  have HL := Lib.hid hl
  have HB0 := Lib.hid (Below.refl w.heap.size w)
  have HN := Lib.hid ((none_met h0).below hb0 hw0)
  have HH := Lib.hid h0
  have HBw := Lib.hid hb0
  have HT := Lib.hid (show t.items.length ≤ maxLen by omega)
  have HPD := Lib.hid (fun (p : PT) (s : Int × PT) (h : pick t s = some p) => pick_depth ht h7 h)
  clear hv hits hl h0 hcm hlc ht h7
  go_enter Tryd.func10, Tryd.ntmps10
  go_wp2_with fail
  refine HLi.out.mono ?_
  rintro e w1 ⟨a2, c2, rfl, hb1, hits⟩
  have HB1 := Lib.hid hb1
  have HI := Lib.hid hits
  have hz1' := hb1.size
  clear hb1 HLi HB0 hits
  by_cases hmany : 1024 < l.length
  · have HMany := Lib.hid hmany
    go_wp2_with fail
    go_ret2
    exact ⟨HB1.out.alloc (by omega) _, .inl ⟨⟨_, _, rfl⟩, .inl HMany.out⟩⟩
  · go_wp2_with fail
    have HMany := Lib.hid hmany
    have hll2 : l.length ≤ 1024 := by omega
    clear hmany
    go_loopw [8, 33] (fun t8 i wr => ∃ (k : Nat) (vt : Value) (its : List PT) (vs : List Value), t8 = vt ∧ i = .int .i64 k ∧ k ≤ l.length ∧ Hid (Below w.heap.size w wr) ∧ Hid (VRow wr 0 w.heap.size vt k its vs) ∧ Hid (its.length = k ∧ ∀ i (hi : i < l.length) (hj : i < its.length), pick t l[i] = some its[i]) ∧ Hid (k = 0 → vt = .slice none 0 0) ∧ w.heap.size ≤ wr.heap.size) (fun _ i _ => l.length - (intOf i).toNat)
    case atStart => exact ⟨0, _, [], [], rfl, rfl, by omega, HB1, Lib.hid (VRow.start _ _ _ _), Lib.hid ⟨rfl, fun i hi hj => by simp at hj⟩, Lib.hid (fun _ => rfl), by omega⟩
    case round =>
      clear HB1 hz1'
      obtain ⟨k, vt, its, vs, hvt, rfl, hk, HB, HV, HP, HZ, hwz⟩ := hrel
      replace hvt := hvt.symm
      subst hvt
      by_cases hlt : k < l.length
      · obtain ⟨b, o, a3, c3, rfl, hb, k0, k1, k2, k3, k4, k5, k6, hpa⟩ := (HL.out.below HB.out).cells hlt
        have HPA := Lib.hid hpa
        obtain ⟨W1, hW1⟩ : ∃ W1, W1 = wr.alloc (.cells (Value.int .i64 l[k].1 :: partCells l[k].2 a3 c3).toArray 39) := ⟨_, rfl⟩
        have hbr : Below wr.heap.size wr W1 := by rw [hW1]; exact (Below.refl wr.heap.size wr).alloc (Nat.le_refl _) _
        have HB2 := Lib.hid (HB.out.trans (hbr.mono hwz))
        have HC2 : CellsAt W1 wr.heap.size 0 (Value.int .i64 l[k].1 :: partCells l[k].2 a3 c3) := by rw [hW1]; exact new_cells _ _ _
        have hzW : W1.heap.size = wr.heap.size + 1 := by rw [hW1]; simp
        have m0 : W1.cell? ⟨wr.heap.size, 0, none⟩ = some (Value.int .i64 l[k].1) := HC2 0 _ rfl
        have m1 : W1.cell? ⟨wr.heap.size, 1, none⟩ = some (Value.int .u8 l[k].2.kind) := HC2 1 _ rfl
        have m2 : W1.cell? ⟨wr.heap.size, 2, none⟩ = some (Value.bool l[k].2.yes) := HC2 2 _ rfl
        have m3 : W1.cell? ⟨wr.heap.size, 3, none⟩ = some (Value.bool l[k].2.bel) := HC2 3 _ rfl
        have m4 : W1.cell? ⟨wr.heap.size, 4, none⟩ = some (Value.string l[k].2.mag) := HC2 4 _ rfl
        have m5 : W1.cell? ⟨wr.heap.size, 5, none⟩ = some (Value.string l[k].2.raw) := HC2 5 _ rfl
        have m6 : W1.cell? ⟨wr.heap.size, 6, none⟩ = some (Value.slice a3 l[k].2.items.length c3) := HC2 6 _ rfl
        have HR := Lib.hid (item_any t l[k] a3 c3 a2 c2 W1 (HN.out.below HB2.out hw) HT.out ((PartAt.below hpa (hbr.mono hwz)).wide (by omega)) w.heap.size (by omega) (HI.out.below HB2.out) (by omega))
        have HV2 := Lib.hid (HV.out.below hbr)
        have HBr := Lib.hid hbr
        clear hpa HC2 hbr
        unfold partCells at hW1 HR
        go_wp2_with fail
        rw [← hW1]
        clear hW1
        refine HR.out.mono ?_
        clear HR
        cases hp : pick t l[k] with
        | none =>
          rintro e w2 ⟨hb2, v, rfl, hv⟩
          obtain ⟨u, x, rfl⟩ : ∃ u x, v = .iface u x := by
            rcases hv with rfl | rfl | ⟨x, _, _, rfl⟩ | ⟨x, _, rfl⟩ <;> exact ⟨_, _, rfl⟩
          have HB3 := Lib.hid (HB2.out.trans (hb2.mono (by omega)))
          have HWy := Lib.hid (why_any HH.out (HBw.out.trans (HB3.out.mono HBw.out.size)) hv)
          have HE := Lib.hid (show ∃ s ∈ l, pick t s = none from ⟨_, List.getElem_mem hlt, hp⟩)
          clear hb2 hv hp m0 m1 m2 m3 m4 m5 m6 k0 k1 k2 k3 k4 k5 k6 HB2 HV HV2 HP HZ
          go_wp2_with fail
          refine HWy.out.mono ?_
          rintro e w4 ⟨v, rfl, hone, hb4⟩
          have HB4 := Lib.hid (HB3.out.trans (hb4.mono HB3.out.size))
          clear hb4 HWy HB3
          unfold Value.cells at hone
          go_wp2_with fail
          go_ret2
          exact ⟨HB4.out.alloc HB4.out.size _, .inl ⟨⟨_, _, rfl⟩, .inr HE.out⟩⟩
        | some p =>
          rintro e w2 ⟨hb2, v, rfl, hv⟩
          have hbr2 := HBr.out.trans (hb2.mono (by omega))
          have HB3 := Lib.hid (HB.out.trans (hbr2.mono hwz))
          have HV3 := Lib.hid (HV.out.below hbr2)
          have hm2 := hv.cells
          have HO := Lib.hid hv.one
          unfold Value.cells at hm2
          have HVv := Lib.hid hv
          have HPk := Lib.hid hp
          have hz3 := hbr2.size
          have hzb2 := hb2.size
          have HBr2 := Lib.hid hbr2
          clear hb2 hv hp m0 m1 m2 m3 m4 m5 m6 k0 k1 k2 k3 k4 k5 k6 HB2 HV2 hbr2
          go_wp2_with (at_builtin; refine wpList_append_lies _ rfl _ _ 69 rfl w.heap.size 35 i0 .nilIface 1 16 Tryd.underlying69 hi hz0 hz1 hz2 rfl (by decide) _ _ _ rfl (HV3.out.own.alloc _) ⟨w2.heap.size, 0, none⟩ 1 1 [v] rfl rfl (World.news_of_block (cs := #[v]) (t := 35) (fr := (0, 0)) (heap_alloc_new w2 _)) (fun u hu => by simp at hu; subst hu; exact HO.out) (by omega) (by unfold maxLen; omega) (by omega) (by simp; omega) _ rfl ?_; intro g4 cap4 w4 hown4 hgrow4 hat4 hgl4)
          have hgrow5 : (w2.alloc (Obj.cells #[v] 35)).grownBy w4 vt.ownBlock := hgrow4
          have hat5 : vt.ownBlock = some g4 ∨ g4 = (w2.alloc (Obj.cells #[v] 35)).heap.size := hat4
          have hvv := ValueAt.more (S' := fun b => b < w2.heap.size ∧ vt.ownBlock ≠ some b) (fun b hb => by
            rcases hb with hb | ⟨hb, hb'⟩
            · exact ⟨by omega, fun e => by have := (HV.out.own.lt b e).1; omega⟩
            · exact ⟨hb', fun e => by have := (HV.out.own.lt b e).2; omega⟩) _ _ HVv.out
          have HV' := HV.out.push HP.out.1 hvv HBr2.out hown4 hgrow5 hat5
          have HB' := (HB3.out.alloc (by omega) (Obj.cells #[v] 35)).grown hgrow5 (by simp; omega) (fun j ej => by have := (HV.out.own.lt j ej).1; omega)
          refine ⟨⟨k + 1, _, its ++ [p], vs ++ [v], rfl, by go_num, by omega, Lib.hid HB', Lib.hid HV', Lib.hid ⟨by simp [HP.out.1], fun i hi hj => ?_⟩, Lib.hid (fun h => by omega), HB'.size⟩, by simp [intOf]; omega⟩
          rw [List.length_append, HP.out.1, List.length_singleton] at hj
          by_cases e : i = k
          · subst e
            rw [HPk.out, List.getElem_append_right (by rw [HP.out.1]; omega)]; simp [HP.out.1]
          · rw [List.getElem_append_left (by rw [HP.out.1]; omega)]; exact HP.out.2 i hi (by rw [HP.out.1]; omega)
      · obtain rfl : k = l.length := by omega
        obtain ⟨hlen, hpk⟩ := HP.out
        have hv9 := HV.out
        rw [← hlen] at hv9
        obtain ⟨a3, c3, rfl, hc1, hc2, hvs⟩ := hv9.values (by unfold maxLen; omega) (Nat.zero_le _)
        have HOf := Lib.hid (of_any its a3 c3 wr (by omega) (fun h => by
          have h9 := HZ.out (by rw [← hlen, h]; rfl)
          injection h9) (fun p hp => by
          obtain ⟨i, hi, rfl⟩ := List.getElem_of_mem hp
          exact HPD.out _ _ (hpk i (by omega) hi)) (ValuesAt.more (fun b hb => hb.2) _ _ hvs))
        have HPk := Lib.hid (show Picked t l its from ⟨hlen, hpk⟩)
        clear hv9 hvs HV HZ HP hpk hlen
        go_wp2_with fail
        refine HOf.out.mono ?_
        rintro e w2 ⟨a4, c4, rfl, h41, h42, hb2, hv2⟩
        have HB2 := Lib.hid (HB.out.trans (hb2.mono hwz))
        have HV2 := Lib.hid hv2
        clear hb2 hv2 HOf
        go_wp2_with fail
        go_ret2
        exact ⟨HB2.out, .inr ⟨hll2, its, HPk.out, a4, c4, rfl, h41, h42, HV2.out⟩⟩
end Go.Proofs.YtjgicjgpahnmaaaDoor

/-! ref18.Map: what is wrong with sources. -/
namespace Go.Proofs.YtjgicjgpahnmaaaDoor
open Go.RowKit Go.WideShapes
set_option linter.unusedVariables false
/-- What is wrong with a source; 0: a field that there is not. -/
def badOf (t : PT) (s : Int × PT) : Option Int := if 0 ≤ s.1 then (if s.1 < t.items.length then none else some 0) else if s.2.why ≠ 0 then some s.2.why else if s.2.depth < 16 then none else some 91
theorem bad_pick (t : PT) (s : Int × PT) : (badOf t s = none ∧ (pick t s).isSome = true) ∨ ((badOf t s).isSome = true ∧ pick t s = none) := by
  unfold badOf pick
  by_cases h0 : 0 ≤ s.1
  · rw [if_pos h0, if_pos h0]
    by_cases h1 : s.1 < t.items.length
    · rw [if_pos h1]
      exact .inl ⟨rfl, by rw [List.getElem?_eq_getElem (by omega)]; rfl⟩
    · rw [if_neg h1]
      exact .inr ⟨rfl, List.getElem?_eq_none (by omega)⟩
  · rw [if_neg h0, if_neg h0]
    by_cases h1 : s.2.why = 0
    · rw [if_neg (by simpa using h1)]
      by_cases h2 : s.2.depth < 16
      · rw [if_pos h2, if_pos ⟨h1, h2⟩]; exact .inl ⟨rfl, rfl⟩
      · rw [if_neg h2, if_neg (fun h => h2 h.2)]; exact .inr ⟨rfl, rfl⟩
    · rw [if_pos h1, if_neg (fun h => h1 h.1)]; exact .inr ⟨rfl, rfl⟩
/-- Why there is no mapping. -/
def BadAt (t : PT) (l : List (Int × PT)) (code at_ n : Int) : Prop :=
  (t.kind ≠ 7 ∧ code = 4 ∧ at_ = 0 ∧ n = 0) ∨ (t.kind = 7 ∧ 1024 < l.length ∧ code = 180 ∧ at_ = 1024 ∧ n = 0) ∨
  (t.kind = 7 ∧ l.length ≤ 1024 ∧ code = 180 ∧ ∃ (k : Nat) (hk : k < l.length), at_ = k ∧ (∀ i (hi : i < k), (pick t (l[i]'(by omega))).isSome = true) ∧ badOf t l[k] = some n)
theorem BadAt.one {t : PT} {l : List (Int × PT)} {code at_ n code' at' n' : Int} (h : BadAt t l code at_ n) (h' : BadAt t l code' at' n') : code = code' ∧ at_ = at' ∧ n = n' := by
  rcases h with ⟨h1, h2, h3, h4⟩ | ⟨h1, h2, h3, h4, h5⟩ | ⟨h1, h2, h3, k, hk, h4, h5, h6⟩ <;> rcases h' with ⟨g1, g2, g3, g4⟩ | ⟨g1, g2, g3, g4, g5⟩ | ⟨g1, g2, g3, k', hk', g4, g5, g6⟩
  all_goals first
    | (exfalso; omega)
    | (subst_vars; exact ⟨rfl, rfl, rfl⟩)
    | skip
  have hkk : k = k' := by
    rcases Nat.lt_trichotomy k k' with h | h | h
    · have h9 := g5 k h
      rcases bad_pick t l[k] with ⟨a, _⟩ | ⟨_, a⟩
      · rw [h6] at a; cases a
      · rw [a] at h9; cases h9
    · exact h
    · have h9 := h5 k' h
      rcases bad_pick t l[k'] with ⟨a, _⟩ | ⟨_, a⟩
      · rw [g6] at a; cases a
      · rw [a] at h9; cases h9
  subst hkk
  rw [h6] at g6
  injection g6 with g6
  exact ⟨h3.trans g3.symm, h4.trans g4.symm, g6⟩
theorem BadAt.not {t : PT} {l : List (Int × PT)} {code at_ n : Int} (h : BadAt t l code at_ n) {its : List PT} (h7 : t.kind = 7) (hl : l.length ≤ 1024) (hp : Picked t l its) : False := by
  rcases h with ⟨h1, _⟩ | ⟨_, h2, _⟩ | ⟨_, _, _, k, hk, _, _, h6⟩
  · exact h1 h7
  · omega
  · have h9 := hp.2 k hk (by rw [hp.1]; exact hk)
    rcases bad_pick t l[k] with ⟨a, _⟩ | ⟨_, a⟩
    · rw [h6] at a; cases a
    · rw [a] at h9; cases h9
def Ref18Post (t : PT) (l : List (Int × PT)) (w : World) (e : Ending) (w' : World) : Prop := Below w.heap.size w w' ∧
  ((∃ (code at_ n : Int), e = .returned (.tuple #[.agg #[.int .u8 0, .bool false, .bool false, .string ⟨#[]⟩, .string ⟨#[]⟩, .slice none 0 0], .agg #[.int .i64 code, .int .i64 at_, .slice none 0 0], .int .i64 n]) ∧ BadAt t l code at_ n) ∨
   (t.kind = 7 ∧ l.length ≤ 1024 ∧ ∃ (its : List PT) (a : Option Addr) (c : Nat), Picked t l its ∧ e = .returned (.tuple #[.agg #[.int .u8 7, .bool false, .bool false, .string ⟨#[]⟩, .string ⟨#[]⟩, .slice a its.length c], .agg #[.int .i64 0, .int .i64 0, .slice none 0 0], .int .i64 0]) ∧
     PartAt w' (fun b => w.heap.size ≤ b ∧ b < w'.heap.size) (.mk 7 false false ⟨#[]⟩ ⟨#[]⟩ its) (partCells (.mk 7 false false ⟨#[]⟩ ⟨#[]⟩ its) a c)))
/-- The block of a verdict. -/
def WBox (w : World) (T : Nat) : Prop := w.heap[T]? = some (.cells #[.int .i64 0, .int .i64 0, .slice none 0 0] 50 (0, 0))
section
variable {w w' : World} {T : Nat}
theorem WBox.cells (h : WBox w T) : w.cell? ⟨T, 0, none⟩ = some (.int .i64 0) ∧ w.cell? ⟨T, 1, none⟩ = some (.int .i64 0) ∧ w.cell? ⟨T, 2, none⟩ = some (.slice none 0 0) := by
  simp [World.cell?, show w.heap[T]? = _ from h]
theorem WBox.free (h : WBox w T) (i : Nat) : w.frozen? ⟨T, i, none⟩ = false := by simp [World.frozen?, show w.heap[T]? = _ from h]
theorem WBox.below {B : Nat} (h : WBox w T) (hb : Below B w w') (hT : T < B) : WBox w' T := (hb.block T hT).trans h
theorem WBox.new (w : World) (T : Nat) (hT : T = w.heap.size) : WBox (w.alloc (.cells #[.int .i64 0, .int .i64 0, .slice none 0 0] 50)) T := by subst hT; exact World.alloc_heap_new w _
theorem WBox.grown {vt : Value} {tmp : Obj} (h : WBox w T) (hg : (w.alloc tmp).grownBy w' vt.ownBlock) (hne : vt.ownBlock ≠ some T) : WBox w' T := by
  have hl : T < w.heap.size := (Array.getElem?_eq_some_iff.1 h).1
  refine ((hg.block T (by simp; omega) (fun e => hne e.symm)).trans ?_).trans h
  rw [Below.heap_alloc w tmp T hl]
theorem WBox.set {T' o : Nat} {u : Value} (h : WBox w T) (hne : T' ≠ T) : WBox (w.setCell ⟨T', o, none⟩ u) T := by
  unfold WBox at *; simp [World.setCell, Array.getElem?_modify, hne, h]
theorem WBox.filled (h : WBox w T) (x0 x1 x2 : Value) : (w.setCell ⟨T, 0, none⟩ x0).cell? ⟨T, 0, none⟩ = some x0 ∧ ((w.setCell ⟨T, 0, none⟩ x0).setCell ⟨T, 1, none⟩ x1).cell? ⟨T, 1, none⟩ = some x1 ∧ (((w.setCell ⟨T, 0, none⟩ x0).setCell ⟨T, 1, none⟩ x1).setCell ⟨T, 2, none⟩ x2).cell? ⟨T, 2, none⟩ = some x2 := by
  unfold WBox at h
  refine ⟨?_, ?_, ?_⟩ <;> simp only [World.cell?] <;> simp [World.setCell, Array.getElem?_modify, h]
end
end Go.Proofs.YtjgicjgpahnmaaaDoor

/-! rekey.item, exactly: what is wrong with it. -/
namespace Go.Proofs.YtjgicjgpahnmaaaDoor
open Go.RowKit Go.WideShapes
set_option linter.unusedVariables false
/-- What an item comes to. -/
def ItemPostX (B : Nat) (x : Option PT) (n : Int) (w : World) (e : Ending) (w' : World) : Prop := Below w.heap.size w w' ∧ match x with
  | some p => ∃ v, e = .returned (.tuple #[v, .nilIface]) ∧ ValueAt w' (fun b => b < B ∨ (w.heap.size ≤ b ∧ b < w'.heap.size)) p v
  | none => ∃ v, e = .returned (.tuple #[.nilIface, v]) ∧ ErrOf n v
theorem NoneMetX.below {w w' : World} {B : Nat} (h : NoneMetX w) (hb : Below B w w') (hB : 0 < B) : NoneMetX w' := by
  obtain ⟨v, h1, h2⟩ := h
  exact ⟨v, (hb.cell (by simpa using hB)).trans h1, h2⟩
set_option maxRecDepth 100000 in
set_option maxHeartbeats 1000000 in
theorem item_fieldX (t : PT) (x : Int) (n : Nat) (p : PT) (a : Option Addr) (c : Nat) (a' : Option Addr) (c' : Nat) (w : World) (hn : NoneMetX w) (hx : x = (n : Int)) (hlc : t.items.length ≤ maxLen) (B : Nat) (hB : B ≤ w.heap.size) (hv : ValuesAt w (· < B) t.items a') (hwz : 0 < w.heap.size) :
    Calls Tryd.prog 28 #[.agg (Value.int .i64 x :: partCells p a c).toArray, .iface 88 (.agg #[.slice a' t.items.length c'])] w (ItemPostX B t.items[n]? 0 w) := by
  have HLen := Lib.hid (fun w => tupLen_any a' t.items.length c' w hlc)
  have HV := Lib.hid hv
  have HN := Lib.hid hn
  have HL := Lib.hid hlc
  obtain ⟨W1, hW1⟩ : ∃ W1, W1 = w.alloc (.cells (Value.int .i64 x :: partCells p a c).toArray 39) := ⟨_, rfl⟩
  have HB1 := Lib.hid (show Below w.heap.size w W1 by rw [hW1]; exact (Below.refl w.heap.size w).alloc (Nat.le_refl _) _)
  have HC1 := Lib.hid (show CellsAt W1 w.heap.size 0 (Value.int .i64 x :: partCells p a c) by rw [hW1]; exact new_cells _ _ _)
  have hz1 : W1.heap.size = w.heap.size + 1 := by rw [hW1]; simp
  have k0 : W1.cell? ⟨w.heap.size, 0, none⟩ = some (Value.int .i64 x) := HC1.out 0 _ rfl
  have hx0 : 0 ≤ x := by omega
  have HXn := Lib.hid hx
  clear hn hv hx
  unfold partCells at hW1 ⊢
  go_enter Tryd.func28, Tryd.ntmps28
  go_wp2_with fail
  rw [← hW1]
  clear hW1
  go_region_law (go_simp; go_invoke; go_simp; go_at_call 83; refine (HLen.out _).mono ?_; rintro e w2 ⟨rfl, hb2⟩; have HB2 := Lib.hid (HB1.out.drew.trans (hb2.mono (by simp only [World.size_drew]; omega))); have k0' := (hb2.cell (p := ⟨w.heap.size, 0, none⟩) (by simp only [World.size_drew]; omega)).trans k0; have hz2 := hb2.size)
  all_goals (
    clear k0 hz1 HC1
    by_cases hlt : n < t.items.length
    · have hxl : x < (t.items.length : Int) := by have := HXn.out; omega
      obtain ⟨b, o, u, ea, hb, hc, hu⟩ := (HV.out.below (HB2.out.mono hB)).get hlt
      subst ea
      have HAt := Lib.hid (tupAt_any b o t.items.length c' n x u w2 HL.out (by simp only [World.size_drew] at hz2; have := HB2.out.size; omega) HXn.out hlt hc)
      have HU := Lib.hid hu
      clear hc hu hb HLen
      go_wp2_with fail
      refine HAt.out.mono ?_
      rintro e w3 ⟨rfl, hb3⟩
      have hz3 := hb3.size
      have HB3 := Lib.hid (HB2.out.trans (hb3.mono HB2.out.size))
      have HU3 := Lib.hid (HU.out.below (hb3.mono (by have := HB2.out.size; omega)))
      clear hb3 HAt
      go_wp2_with fail
      go_ret2
      refine ⟨HB3.out, ?_⟩
      rw [List.getElem?_eq_getElem hlt]
      exact ⟨u, rfl, ValueAt.more (fun b hb => .inl hb) _ _ HU3.out⟩
    · have hxl : ¬ x < (t.items.length : Int) := by have := HXn.out; omega
      obtain ⟨v, hc, hv⟩ := HN.out.below HB2.out hwz
      have HVe := Lib.hid hv
      clear hv HLen
      go_wp2_with fail
      go_region_law (fail)
      all_goals (
        go_wp2_with fail
        go_ret2
        refine ⟨HB2.out.drew, ?_⟩
        rw [List.getElem?_eq_none (by omega)]
        exact ⟨v, rfl, HVe.out⟩))
set_option maxRecDepth 100000 in
set_option maxHeartbeats 1000000 in
theorem item_partX (x : Int) (p : PT) (a : Option Addr) (c : Nat) (tv : Value) (w : World) (hx : x < 0) (hp : PartAt w (· < w.heap.size) p (partCells p a c)) (B : Nat) (q : Option PT) (hq : q = if p.why = 0 ∧ p.depth < 16 then some p else none) (n0 : Int) (hn0 : p.why ≠ 0 → n0 = p.why) (hn1 : p.why = 0 → ¬ p.depth < 16 → n0 = 91) :
    Calls Tryd.prog 28 #[.agg (Value.int .i64 x :: partCells p a c).toArray, tv] w (ItemPostX B q n0 w) := by
  have HQ := Lib.hid hq
  have HN0 := Lib.hid hn0
  have HN1 := Lib.hid hn1
  clear hq hn0 hn1
  obtain ⟨W1, hW1⟩ : ∃ W1, W1 = w.alloc (.cells (Value.int .i64 x :: partCells p a c).toArray 39) := ⟨_, rfl⟩
  have HB1 := Lib.hid (show Below w.heap.size w W1 by rw [hW1]; exact (Below.refl w.heap.size w).alloc (Nat.le_refl _) _)
  have HC1 : CellsAt W1 w.heap.size 0 (Value.int .i64 x :: partCells p a c) := by rw [hW1]; exact new_cells _ _ _
  have hz1 : W1.heap.size = w.heap.size + 1 := by rw [hW1]; simp
  have HM := Lib.hid (valMake_any p a c W1 ((hp.below HB1.out).wide (by omega)))
  have k0 : W1.cell? ⟨w.heap.size, 0, none⟩ = some (Value.int .i64 x) := HC1 0 _ rfl
  have k1 : W1.cell? ⟨w.heap.size, 1, none⟩ = some (Value.int .u8 p.kind) := HC1 1 _ rfl
  have k2 : W1.cell? ⟨w.heap.size, 2, none⟩ = some (Value.bool p.yes) := HC1 2 _ rfl
  have k3 : W1.cell? ⟨w.heap.size, 3, none⟩ = some (Value.bool p.bel) := HC1 3 _ rfl
  have k4 : W1.cell? ⟨w.heap.size, 4, none⟩ = some (Value.string p.mag) := HC1 4 _ rfl
  have k5 : W1.cell? ⟨w.heap.size, 5, none⟩ = some (Value.string p.raw) := HC1 5 _ rfl
  have k6 : W1.cell? ⟨w.heap.size, 6, none⟩ = some (Value.slice a p.items.length c) := HC1 6 _ rfl
  clear hp HC1
  have hm9 : ∀ (e : Ending) (w' : World), MakePost p W1 e w' → (Below W1.heap.size W1 w' ∧ ((∃ n : Int, (n = 90 ∨ n = 91) ∧ p.why ≠ 0 ∧ n = p.why ∧ e = .returned (.tuple #[.nilIface, .int .i64 n])) ∨ (p.why = 0 ∧ ∃ v, e = .returned (.tuple #[v, .int .i64 0]) ∧ ValueAt w' (fun b => W1.heap.size ≤ b ∧ b < w'.heap.size) p v))) := by
    rintro e w' ⟨h1, h2 | ⟨h2, v, h3, h4⟩⟩
    · exact ⟨h1, .inl ⟨_, (PT.why_cases p).resolve_left h2.1, h2.1, rfl, h2.2⟩⟩
    · exact ⟨h1, .inr ⟨h2, v, h3, h4⟩⟩
  have HM9 := Lib.hid hm9
  clear hm9
  unfold partCells at hW1 HM ⊢
  go_enter Tryd.func28, Tryd.ntmps28
  go_wp2_with fail
  rw [← hW1]
  clear hW1
  go_wp2_with fail
  refine HM.out.mono ?_
  intro e w2 h
  obtain ⟨hb2, ⟨n, hn, hwhy, hnw, rfl⟩ | ⟨hwhy, v, rfl, hv⟩⟩ := HM9.out e w2 h
  · have HB2 := Lib.hid (HB1.out.trans (hb2.mono (by omega)))
    have HW := Lib.hid hwhy
    have HNw := Lib.hid hnw
    clear h hb2 HM HM9 hwhy k0 k1 k2 k3 k4 k5 k6 hnw
    rcases hn with rfl | rfl
    · go_wp2_with fail
      go_ret2
      refine ⟨HB2.out, ?_⟩
      rw [show q = none from HQ.out.trans (if_neg (fun h => HW.out h.1))]
      exact ⟨_, rfl, .inr ⟨.inl ((HN0.out HW.out).trans HNw.out.symm), show Value.iface 32 (.int .i64 90) = Value.iface 32 (.int .i64 n0) by rw [HN0.out HW.out, ← HNw.out]⟩⟩
    · go_wp2_with fail
      go_ret2
      refine ⟨HB2.out, ?_⟩
      rw [show q = none from HQ.out.trans (if_neg (fun h => HW.out h.1))]
      exact ⟨_, rfl, .inr ⟨.inr ((HN0.out HW.out).trans HNw.out.symm), show Value.iface 32 (.int .i64 91) = Value.iface 32 (.int .i64 n0) by rw [HN0.out HW.out, ← HNw.out]⟩⟩
  · have HB2 := Lib.hid (HB1.out.trans (hb2.mono (by omega)))
    have HW := Lib.hid hwhy
    have HV := Lib.hid hv
    have HD := Lib.hid (Depth_any p v w2 (by have := PT.why_depth hwhy; omega) (ValueAt.more (fun b hb => hb.2) _ _ hv))
    clear h hb2 HM HM9 hwhy k0 k1 k2 k3 k4 k5 k6 hv
    go_wp2_with fail
    refine HD.out.mono ?_
    rintro e w3 ⟨rfl, hb3⟩
    have HB3 := Lib.hid (HB2.out.trans (hb3.mono HB2.out.size))
    have HV3 := Lib.hid (ValueAt.more (S' := fun b => b < B ∨ (w.heap.size ≤ b ∧ b < w3.heap.size)) (fun b hb => .inr ⟨by have := hb.1; omega, by have := hb3.size; have := hb.2; omega⟩) _ _ (ValueAt.keep (fun p hp => hb3.cell hp.2) _ _ HV.out))
    clear hb3 HB2 HV HD
    by_cases hd : p.depth < 16
    · have hd' : ¬ ((p.depth : Int) ≥ 16) := by omega
      have HDp := Lib.hid hd
      clear hd
      go_wp2_with fail
      go_ret2
      refine ⟨HB3.out, ?_⟩
      rw [show q = some p from HQ.out.trans (if_pos ⟨HW.out, HDp.out⟩)]
      exact ⟨v, rfl, HV3.out⟩
    · have hd' : ((p.depth : Int) ≥ 16) := by omega
      have HDp := Lib.hid hd
      clear hd
      go_wp2_with fail
      go_ret2
      refine ⟨HB3.out, ?_⟩
      rw [show q = none from HQ.out.trans (if_neg (fun h => HDp.out h.2))]
      exact ⟨_, rfl, .inr ⟨.inr (HN1.out HW.out HDp.out), show Value.iface 32 (.int .i64 91) = Value.iface 32 (.int .i64 n0) by rw [HN1.out HW.out HDp.out]⟩⟩
theorem item_anyX (t : PT) (s : Int × PT) (a : Option Addr) (c : Nat) (a' : Option Addr) (c' : Nat) (w : World) (hn : NoneMetX w) (hlc : t.items.length ≤ maxLen) (hp : PartAt w (· < w.heap.size) s.2 (partCells s.2 a c)) (B : Nat) (hB : B ≤ w.heap.size) (hv : ValuesAt w (· < B) t.items a') (hwz : 0 < w.heap.size) :
    Calls Tryd.prog 28 #[.agg (Value.int .i64 s.1 :: partCells s.2 a c).toArray, .iface 88 (.agg #[.slice a' t.items.length c'])] w (ItemPostX B (pick t s) ((badOf t s).getD 0) w) := by
  unfold pick
  by_cases h0 : 0 ≤ s.1
  · rw [if_pos h0]
    have e : (badOf t s).getD 0 = 0 := by
      unfold badOf; rw [if_pos h0]; split <;> rfl
    rw [e]
    exact item_fieldX t s.1 s.1.toNat s.2 a c a' c' w hn (by omega) hlc B hB hv hwz
  · rw [if_neg h0]
    refine item_partX s.1 s.2 a c _ w (by omega) hp B _ rfl _ (fun h => ?_) (fun h h' => ?_)
    · unfold badOf; rw [if_neg h0, if_pos h]; rfl
    · unfold badOf; rw [if_neg h0, if_neg (fun g => g h), if_neg h']; rfl
end Go.Proofs.YtjgicjgpahnmaaaDoor

/-! rekey.Map of a tuple, exactly: what is wrong, too. -/
namespace Go.Proofs.YtjgicjgpahnmaaaDoor
open Go.RowKit Go.WideShapes
set_option linter.unusedVariables false
/-- The fault comes back. -/
def FaultX (code at_ n : Int) (w : World) (e : Ending) (w' : World) : Prop := ∃ T, e = .returned (.tuple #[.nilIface, .iface 66 (.pointer (some ⟨T, 0, none⟩))]) ∧ w.heap.size ≤ T ∧ w'.heap[T]? = some (.cells #[.int .i64 code, .int .i64 at_, .slice none 0 0, errV n] 68 (0, 0))
def MapPostX (t : PT) (l : List (Int × PT)) (w : World) (e : Ending) (w' : World) : Prop := Below w.heap.size w w' ∧
  ((∃ code at_ n, BadAt t l code at_ n ∧ FaultX code at_ n w e w') ∨ (t.kind = 7 ∧ l.length ≤ 1024 ∧ ∃ its, Picked t l its ∧ TuplePost its e w'))
theorem errV_cells (n : Int) : (errV n).cells = #[errV n] := by unfold errV; split <;> rfl
set_option maxRecDepth 100000 in
set_option maxHeartbeats 4000000 in
theorem map_anyX {w0 : World} (h0 : laidMetH Tryd.prog Rows.rekeyGoesUptoRow.laid w0) (t : PT) (l : List (Int × PT)) (A : Option Addr) (C : Nat) (tv : Value) (w : World) (hb0 : Below w0.heap.size w0 w) (hw0 : 0 < w0.heap.size) (h7 : t.kind = 7) (ht : t.depth ≤ 16)
    (hl : SrcsAt w (· < w.heap.size) l A) (hll : l.length ≤ maxLen) (hv : ValueAt w (· < w.heap.size) t tv) : Calls Tryd.prog 10 #[.slice A l.length C, tv] w (MapPostX t l w) := by
  unfold maxLen at hll
  obtain ⟨a', c', rfl, hlc, hcm, hits⟩ := (ValueAt.tuple h7).1 hv
  obtain ⟨i0, hi, hz0, hz1, hz2⟩ := info_parts value_info
  have hw : 0 < w.heap.size := by have := hb0.size; omega
  have HLi := Lib.hid (list_tuple t.items a' c' w w.heap.size hits)
  have HL := Lib.hid hl
  have HB0 := Lib.hid (Below.refl w.heap.size w)
  have HN := Lib.hid ((none_metX h0).below hb0 hw0)
  have HH := Lib.hid h0
  have HBw := Lib.hid hb0
  have HT := Lib.hid (show t.items.length ≤ maxLen by omega)
  have H7 := Lib.hid h7
  have HPD := Lib.hid (fun (p : PT) (s : Int × PT) (h : pick t s = some p) => pick_depth ht h7 h)
  clear hv hits hl h0 hcm hlc ht h7
  go_enter Tryd.func10, Tryd.ntmps10
  go_wp2_with fail
  refine HLi.out.mono ?_
  rintro e w1 ⟨a2, c2, rfl, hb1, hits⟩
  have HB1 := Lib.hid hb1
  have HI := Lib.hid hits
  have hz1' := hb1.size
  clear hb1 HLi HB0 hits
  by_cases hmany : 1024 < l.length
  · have HMany := Lib.hid hmany
    go_wp2_with fail
    go_ret2
    exact ⟨HB1.out.alloc (by omega) _, .inl ⟨180, 1024, 0, .inr (.inl ⟨H7.out, HMany.out, rfl, rfl, rfl⟩), w1.heap.size, rfl, by omega, World.alloc_heap_new w1 _⟩⟩
  · go_wp2_with fail
    have HMany := Lib.hid hmany
    have hll2 : l.length ≤ 1024 := by omega
    clear hmany
    go_loopw [8, 33] (fun t8 i wr => ∃ (k : Nat) (vt : Value) (its : List PT) (vs : List Value), t8 = vt ∧ i = .int .i64 k ∧ k ≤ l.length ∧ Hid (Below w.heap.size w wr) ∧ Hid (VRow wr 0 w.heap.size vt k its vs) ∧ Hid (its.length = k ∧ ∀ i (hi : i < l.length) (hj : i < its.length), pick t l[i] = some its[i]) ∧ Hid (k = 0 → vt = .slice none 0 0) ∧ w.heap.size ≤ wr.heap.size) (fun _ i _ => l.length - (intOf i).toNat)
    case atStart => exact ⟨0, _, [], [], rfl, rfl, by omega, HB1, Lib.hid (VRow.start _ _ _ _), Lib.hid ⟨rfl, fun i hi hj => by simp at hj⟩, Lib.hid (fun _ => rfl), by omega⟩
    case round =>
      clear HB1 hz1'
      obtain ⟨k, vt, its, vs, hvt, rfl, hk, HB, HV, HP, HZ, hwz⟩ := hrel
      replace hvt := hvt.symm
      subst hvt
      by_cases hlt : k < l.length
      · obtain ⟨b, o, a3, c3, rfl, hb, k0, k1, k2, k3, k4, k5, k6, hpa⟩ := (HL.out.below HB.out).cells hlt
        have HPA := Lib.hid hpa
        obtain ⟨W1, hW1⟩ : ∃ W1, W1 = wr.alloc (.cells (Value.int .i64 l[k].1 :: partCells l[k].2 a3 c3).toArray 39) := ⟨_, rfl⟩
        have hbr : Below wr.heap.size wr W1 := by rw [hW1]; exact (Below.refl wr.heap.size wr).alloc (Nat.le_refl _) _
        have HB2 := Lib.hid (HB.out.trans (hbr.mono hwz))
        have HC2 : CellsAt W1 wr.heap.size 0 (Value.int .i64 l[k].1 :: partCells l[k].2 a3 c3) := by rw [hW1]; exact new_cells _ _ _
        have hzW : W1.heap.size = wr.heap.size + 1 := by rw [hW1]; simp
        have m0 : W1.cell? ⟨wr.heap.size, 0, none⟩ = some (Value.int .i64 l[k].1) := HC2 0 _ rfl
        have m1 : W1.cell? ⟨wr.heap.size, 1, none⟩ = some (Value.int .u8 l[k].2.kind) := HC2 1 _ rfl
        have m2 : W1.cell? ⟨wr.heap.size, 2, none⟩ = some (Value.bool l[k].2.yes) := HC2 2 _ rfl
        have m3 : W1.cell? ⟨wr.heap.size, 3, none⟩ = some (Value.bool l[k].2.bel) := HC2 3 _ rfl
        have m4 : W1.cell? ⟨wr.heap.size, 4, none⟩ = some (Value.string l[k].2.mag) := HC2 4 _ rfl
        have m5 : W1.cell? ⟨wr.heap.size, 5, none⟩ = some (Value.string l[k].2.raw) := HC2 5 _ rfl
        have m6 : W1.cell? ⟨wr.heap.size, 6, none⟩ = some (Value.slice a3 l[k].2.items.length c3) := HC2 6 _ rfl
        have HR := Lib.hid (item_anyX t l[k] a3 c3 a2 c2 W1 (HN.out.below HB2.out hw) HT.out ((PartAt.below hpa (hbr.mono hwz)).wide (by omega)) w.heap.size (by omega) (HI.out.below HB2.out) (by omega))
        have HV2 := Lib.hid (HV.out.below hbr)
        have HBr := Lib.hid hbr
        clear hpa HC2 hbr
        unfold partCells at hW1 HR
        go_wp2_with fail
        rw [← hW1]
        clear hW1
        refine HR.out.mono ?_
        clear HR
        cases hp : pick t l[k] with
        | none =>
          rintro e w2 ⟨hb2, v, rfl, hv⟩
          obtain ⟨n, hbn⟩ : ∃ n, badOf t l[k] = some n := by
            rcases bad_pick t l[k] with ⟨_, h⟩ | ⟨h, _⟩
            · rw [hp] at h; cases h
            · exact Option.isSome_iff_exists.1 h
          rw [hbn] at hv
          simp only [Option.getD_some] at hv
          obtain ⟨u, x, rfl⟩ : ∃ u x, v = .iface u x := by
            rcases hv with ⟨_, ⟨x, _, _, rfl⟩ | ⟨x, _, rfl⟩⟩ | ⟨_, rfl⟩ <;> exact ⟨_, _, rfl⟩
          have HB3 := Lib.hid (HB2.out.trans (hb2.mono (by omega)))
          have HWy := Lib.hid (why_exact HH.out (HBw.out.trans (HB3.out.mono HBw.out.size)) hv)
          have HE := Lib.hid (show BadAt t l 180 k n from .inr (.inr ⟨H7.out, by omega, rfl, k, hlt, rfl, fun i hi => by rw [HP.out.2 i (by omega) (by rw [HP.out.1]; exact hi)]; rfl, hbn⟩))
          clear hb2 hv hp hbn m0 m1 m2 m3 m4 m5 m6 k0 k1 k2 k3 k4 k5 k6 HB2 HV HV2 HP HZ
          go_wp2_with fail
          refine HWy.out.mono ?_
          rintro e w4 ⟨rfl, hb4⟩
          have hone := errV_cells n
          have HB4 := Lib.hid (HB3.out.trans (hb4.mono HB3.out.size))
          clear hb4 HWy HB3
          unfold Value.cells at hone
          go_wp2_with fail
          go_ret2
          exact ⟨HB4.out.alloc HB4.out.size _, .inl ⟨180, k, n, HE.out, w4.heap.size, rfl, HB4.out.size, World.alloc_heap_new w4 _⟩⟩
        | some p =>
          rintro e w2 ⟨hb2, v, rfl, hv⟩
          have hbr2 := HBr.out.trans (hb2.mono (by omega))
          have HB3 := Lib.hid (HB.out.trans (hbr2.mono hwz))
          have HV3 := Lib.hid (HV.out.below hbr2)
          have hm2 := hv.cells
          have HO := Lib.hid hv.one
          unfold Value.cells at hm2
          have HVv := Lib.hid hv
          have HPk := Lib.hid hp
          have hz3 := hbr2.size
          have hzb2 := hb2.size
          have HBr2 := Lib.hid hbr2
          clear hb2 hv hp m0 m1 m2 m3 m4 m5 m6 k0 k1 k2 k3 k4 k5 k6 HB2 HV2 hbr2
          go_wp2_with (at_builtin; refine wpList_append_lies _ rfl _ _ 69 rfl w.heap.size 35 i0 .nilIface 1 16 Tryd.underlying69 hi hz0 hz1 hz2 rfl (by decide) _ _ _ rfl (HV3.out.own.alloc _) ⟨w2.heap.size, 0, none⟩ 1 1 [v] rfl rfl (World.news_of_block (cs := #[v]) (t := 35) (fr := (0, 0)) (heap_alloc_new w2 _)) (fun u hu => by simp at hu; subst hu; exact HO.out) (by omega) (by unfold maxLen; omega) (by omega) (by simp; omega) _ rfl ?_; intro g4 cap4 w4 hown4 hgrow4 hat4 hgl4)
          have hgrow5 : (w2.alloc (Obj.cells #[v] 35)).grownBy w4 vt.ownBlock := hgrow4
          have hat5 : vt.ownBlock = some g4 ∨ g4 = (w2.alloc (Obj.cells #[v] 35)).heap.size := hat4
          have hvv := ValueAt.more (S' := fun b => b < w2.heap.size ∧ vt.ownBlock ≠ some b) (fun b hb => by
            rcases hb with hb | ⟨hb, hb'⟩
            · exact ⟨by omega, fun e => by have := (HV.out.own.lt b e).1; omega⟩
            · exact ⟨hb', fun e => by have := (HV.out.own.lt b e).2; omega⟩) _ _ HVv.out
          have HV' := HV.out.push HP.out.1 hvv HBr2.out hown4 hgrow5 hat5
          have HB' := (HB3.out.alloc (by omega) (Obj.cells #[v] 35)).grown hgrow5 (by simp; omega) (fun j ej => by have := (HV.out.own.lt j ej).1; omega)
          refine ⟨⟨k + 1, _, its ++ [p], vs ++ [v], rfl, by go_num, by omega, Lib.hid HB', Lib.hid HV', Lib.hid ⟨by simp [HP.out.1], fun i hi hj => ?_⟩, Lib.hid (fun h => by omega), HB'.size⟩, by simp [intOf]; omega⟩
          rw [List.length_append, HP.out.1, List.length_singleton] at hj
          by_cases e : i = k
          · subst e
            rw [HPk.out, List.getElem_append_right (by rw [HP.out.1]; omega)]; simp [HP.out.1]
          · rw [List.getElem_append_left (by rw [HP.out.1]; omega)]; exact HP.out.2 i hi (by rw [HP.out.1]; omega)
      · obtain rfl : k = l.length := by omega
        obtain ⟨hlen, hpk⟩ := HP.out
        have hv9 := HV.out
        rw [← hlen] at hv9
        obtain ⟨a3, c3, rfl, hc1, hc2, hvs⟩ := hv9.values (by unfold maxLen; omega) (Nat.zero_le _)
        have HOf := Lib.hid (of_any its a3 c3 wr (by omega) (fun h => by
          have h9 := HZ.out (by rw [← hlen, h]; rfl)
          injection h9) (fun p hp => by
          obtain ⟨i, hi, rfl⟩ := List.getElem_of_mem hp
          exact HPD.out _ _ (hpk i (by omega) hi)) (ValuesAt.more (fun b hb => hb.2) _ _ hvs))
        have HPk := Lib.hid (show Picked t l its from ⟨hlen, hpk⟩)
        clear hv9 hvs HV HZ HP hpk hlen
        go_wp2_with fail
        refine HOf.out.mono ?_
        rintro e w2 ⟨a4, c4, rfl, h41, h42, hb2, hv2⟩
        have HB2 := Lib.hid (HB.out.trans (hb2.mono hwz))
        have HV2 := Lib.hid hv2
        clear hb2 hv2 HOf
        go_wp2_with fail
        go_ret2
        exact ⟨HB2.out, .inr ⟨H7.out, hll2, its, HPk.out, a4, c4, rfl, h41, h42, HV2.out⟩⟩
end Go.Proofs.YtjgicjgpahnmaaaDoor

/-! rekey.list of what is no tuple. -/
namespace Go.Proofs.YtjgicjgpahnmaaaDoor
open Go.RowKit Ev
set_option linter.unusedVariables false
theorem not_nil : ranTo (evCall2 (fun _ _ _ => none) Tryd.prog 1000 20 27 [.nilIface] ⟨.leaf, 64, 0⟩) = some (.tuple #[.nilIface, .bool false]) := by kernel_rfl
theorem not_truth (b : Bool) : ranTo (evCall2 (fun _ _ _ => none) Tryd.prog 1000 20 27 [.iface 84 (.agg #[.bool b])] ⟨.leaf, 64, 0⟩) = some (.tuple #[.nilIface, .bool false]) := by kernel_rfl
theorem not_whole (b : Bool) (m : ByteArray) : ranTo (evCall2 (fun _ _ _ => none) Tryd.prog 1000 20 27 [.iface 86 (.agg #[.bool b, .string m])] ⟨.leaf, 64, 0⟩) = some (.tuple #[.nilIface, .bool false]) := by kernel_rfl
theorem not_row (k : Int) (m : ByteArray) : ranTo (evCall2 (fun _ _ _ => none) Tryd.prog 1000 20 27 [.iface 90 (.agg #[.int .u8 k, .string m])] ⟨.leaf, 64, 0⟩) = some (.tuple #[.nilIface, .bool false]) := by kernel_rfl
theorem list_not (t : PT) (v : Value) (w : World) (S : Nat → Prop) (h7 : t.kind ≠ 7) (hv : ValueAt w S t v) :
    Calls Tryd.prog 27 #[v] w (Ret (.tuple #[.nilIface, .bool false]) w) := by
  have key : ∀ (v : Value), VR (EL 0) v v → ranTo (evCall2 (fun _ _ _ => none) Tryd.prog 1000 20 27 [v] ⟨.leaf, 64, 0⟩) = some (.tuple #[.nilIface, .bool false]) → Calls Tryd.prog 27 #[v] w (Ret (.tuple #[.nilIface, .bool false]) w) := by
    intro v hv hr
    obtain ⟨m, hr⟩ := ranTo_ok hr
    obtain ⟨_, hc⟩ := evCall2_ok (plainly_of plainT) mixedT no_sums 1000 20 _ _ _ _ _ hr
    refine Calls.mono (hc (EL 0) w #[v] (EL_hr 0 w) (Nat.zero_le _) (.cons hv .nil)) fun e w'' ⟨E', _, k2, _, _, k5⟩ => ?_
    cases e with
    | returned u =>
      obtain ⟨x, rfl, h2⟩ := vr_tuple (x := [_, _]) k5
      obtain ⟨c1, d1, rfl, h3, h4⟩ := vrl_2 h2
      cases h4
      cases h3
      exact ⟨rfl, k2.below⟩
    | _ => exact k5.elim
  by_cases h0 : t.kind = 0
  · rw [ValueAt.null h0] at hv; subst hv
    exact key _ .nilIface not_nil
  by_cases h1 : t.kind = 1
  · rw [ValueAt.truth h1] at hv; subst hv
    exact key _ (.iface _ (.agg (.cons (.bool _) .nil))) (not_truth _)
  by_cases h2 : t.kind = 2
  · rw [ValueAt.whole h2] at hv; obtain ⟨rfl, _⟩ := hv
    exact key _ (.iface _ (.agg (.cons (.bool _) (.cons (.string _) .nil)))) (not_whole _ _)
  · rw [ValueAt.row h0 h1 h2 h7] at hv; obtain ⟨rfl, _⟩ := hv
    exact key _ (.iface _ (.agg (.cons (.int _ _) (.cons (.string _) .nil)))) (not_row _ _)
end Go.Proofs.YtjgicjgpahnmaaaDoor

/-! rekey.Map of any value, exactly. -/
namespace Go.Proofs.YtjgicjgpahnmaaaDoor
open Go.RowKit Go.WideShapes
set_option linter.unusedVariables false
set_option maxRecDepth 100000 in
set_option maxHeartbeats 1000000 in
theorem map_not (t : PT) (l : List (Int × PT)) (A : Option Addr) (C : Nat) (tv : Value) (w : World) (h7 : t.kind ≠ 7) (hv : ValueAt w (· < w.heap.size) t tv) :
    Calls Tryd.prog 10 #[.slice A l.length C, tv] w (MapPostX t l w) := by
  have HLi := Lib.hid (list_not t tv w _ h7 hv)
  have H7 := Lib.hid h7
  clear hv h7
  go_enter Tryd.func10, Tryd.ntmps10
  go_wp2_with fail
  refine HLi.out.mono ?_
  rintro e w1 ⟨rfl, hb1⟩
  have HB1 := Lib.hid hb1
  have hz1 := hb1.size
  clear hb1 HLi
  go_wp2_with fail
  go_ret2
  exact ⟨HB1.out.alloc (by omega) _, .inl ⟨4, 0, 0, .inl ⟨H7.out, rfl, rfl, rfl⟩, w1.heap.size, rfl, by omega, World.alloc_heap_new w1 _⟩⟩
theorem map_all {w0 : World} (h0 : laidMetH Tryd.prog Rows.rekeyGoesUptoRow.laid w0) (t : PT) (l : List (Int × PT)) (A : Option Addr) (C : Nat) (tv : Value) (w : World) (hb0 : Below w0.heap.size w0 w) (hw0 : 0 < w0.heap.size) (ht : t.depth ≤ 16)
    (hl : SrcsAt w (· < w.heap.size) l A) (hll : l.length ≤ maxLen) (hv : ValueAt w (· < w.heap.size) t tv) : Calls Tryd.prog 10 #[.slice A l.length C, tv] w (MapPostX t l w) := by
  by_cases h7 : t.kind = 7
  · exact map_anyX h0 t l A C tv w hb0 hw0 h7 ht hl hll hv
  · exact map_not t l A C tv w h7 hv
end Go.Proofs.YtjgicjgpahnmaaaDoor

/-! rekey.Map of any value, exactly, and where the values lie. -/
namespace Go.Proofs.YtjgicjgpahnmaaaDoor
open Go.RowKit Go.WideShapes
set_option linter.unusedVariables false
structure VRowS (w : World) (S : Nat → Prop) (base : Nat) (vt : Value) (k : Nat) (l : List PT) (vs : List Value) : Prop where
  len : vs.length = k
  own : w.ownsRow base 35 1 vt k vs
  val : ∀ i (hi : i < l.length) (hv : i < vs.length), ValueAt w (fun b => S b ∧ b < w.heap.size ∧ vt.ownBlock ≠ some b) l[i] vs[i]
theorem VRowS.start (w : World) (S : Nat → Prop) (base : Nat) (l : List PT) : VRowS w S base (.slice none 0 0) 0 l [] :=
  ⟨rfl, World.ownsRow_nil _ _ _ _, fun i hi hv => absurd hv (Nat.not_lt_zero i)⟩
theorem VRowS.below {w w' : World} {S : Nat → Prop} {base : Nat} {vt : Value} {k : Nat} {l : List PT} {vs : List Value} (h : VRowS w S base vt k l vs) (hb : Below w.heap.size w w') : VRowS w' S base vt k l vs :=
  ⟨h.len, by
    rcases h.own.2 with ⟨e, h0⟩ | ⟨g, cap, cur, e, hb', hg, h1⟩
    · exact ⟨h.own.1, .inl ⟨e, h0⟩⟩
    · exact ⟨h.own.1, .inr ⟨g, cap, cur, e, hb', (hb.block g (Array.getElem?_eq_some_iff.1 hg).1).trans hg, h1⟩⟩,
   fun i hi hv => ValueAt.more (fun b hb' => ⟨hb'.1, Nat.lt_of_lt_of_le hb'.2.1 hb.size, hb'.2.2⟩) _ _ (ValueAt.keep (fun p hp => hb.cell hp.2.1) _ _ (h.val i hi hv))⟩
theorem VRowS.values {w : World} {S : Nat → Prop} {base : Nat} {vt : Value} {l : List PT} {vs : List Value} (h : VRowS w S base vt l.length l vs) (hl : l.length ≤ maxLen) (hn : ∀ b, base ≤ b → S b) :
    ∃ a c, vt = .slice a l.length c ∧ l.length ≤ c ∧ c ≤ maxLen ∧ ValuesAt w (fun b => S b ∧ b < w.heap.size) l a := by
  rcases h.own.2 with ⟨e, h0⟩ | ⟨g, cap, cur, e, hb', hg, hnc, hcm, hcs, htake⟩
  · refine ⟨none, 0, by rw [e, h0], by omega, by omega, ?_⟩
    rw [List.length_eq_zero_iff.1 h0]; trivial
  · refine ⟨some ⟨g, 0, none⟩, cap, e, hnc, hcm, ValuesAt.of_get (.inr ⟨hn g (by omega), (Array.getElem?_eq_some_iff.1 hg).1⟩) fun i hi => ?_⟩
    have hv : i < vs.length := by rw [h.len]; exact hi
    refine ⟨vs[i], ?_, ValueAt.more (fun b hb => ⟨hb.1, hb.2.1⟩) _ _ (h.val i hi hv)⟩
    have ho := h.own
    rw [e] at ho
    rw [Nat.zero_add, ho.cellAt i (by omega), List.getElem?_eq_getElem hv]
/-- One value more, in blocks that are not the row's. -/
theorem VRowS.push {w w2 w3 : World} {S : Nat → Prop} {base : Nat} {vt : Value} {k : Nat} {l : List PT} {vs : List Value} {v : Value} {t : PT} {tmp : Obj} {g cap : Nat} (h : VRowS w S base vt k l vs) (hl : l.length = k)
    (hv : ValueAt w2 (fun b => S b ∧ b < w2.heap.size ∧ vt.ownBlock ≠ some b) t v) (hb : Below w.heap.size w w2)
    (hown : w3.ownsRow base 35 1 (.slice (some ⟨g, 0, none⟩) (k + 1) cap) (k + 1) (vs ++ [v])) (hgrow : (w2.alloc tmp).grownBy w3 vt.ownBlock) (hat : vt.ownBlock = some g ∨ g = (w2.alloc tmp).heap.size) :
    VRowS w3 S base (.slice (some ⟨g, 0, none⟩) (k + 1) cap) (k + 1) (l ++ [t]) (vs ++ [v]) := by
  have h2 := h.below hb
  have hz : (w2.alloc tmp).heap.size = w2.heap.size + 1 := by simp
  have hz3 := hgrow.size
  have hcell : ∀ p : Addr, p.block < w2.heap.size → vt.ownBlock ≠ some p.block → w3.cell? p = w2.cell? p := fun p hp hne => by
    rw [hgrow.cell_far p (by omega) (fun e => hne e.symm), World.cell?_alloc_lt w2 tmp p hp]
  have hg : ∀ b, b < w2.heap.size → vt.ownBlock ≠ some b → (Value.slice (some ⟨g, 0, none⟩) (k + 1) cap).ownBlock ≠ some b := fun b hb hne e => by
    simp only [Value.ownBlock, Option.some.injEq] at e
    subst e
    rcases hat with hat | hat
    · exact hne hat
    · omega
  refine ⟨by simp [h.len], hown, fun i hi hv' => ?_⟩
  rw [List.length_append, h.len, List.length_singleton] at hv'
  by_cases e : i = k
  · subst e
    have e1 : (vs ++ [v])[i]'(by rw [List.length_append, h.len, List.length_singleton]; omega) = v := by
      rw [List.getElem_append_right (by rw [h.len]; omega)]; simp [h.len]
    have e2 : (l ++ [t])[i]'hi = t := by
      rw [List.getElem_append_right (by rw [hl]; omega)]; simp [hl]
    rw [e1, e2]
    refine ValueAt.more (fun b hb' => ?_) _ _ (ValueAt.keep (fun p hp => hcell p hp.2.1 hp.2.2) _ _ hv)
    exact ⟨hb'.1, by have := hb'.2.1; omega, hg b hb'.2.1 hb'.2.2⟩
  · have hik : i < vs.length := by rw [h.len]; omega
    have hil : i < l.length := by rw [hl]; omega
    have e1 : (vs ++ [v])[i]'(by rw [List.length_append, h.len, List.length_singleton]; omega) = vs[i] := List.getElem_append_left hik
    have e2 : (l ++ [t])[i]'hi = l[i] := List.getElem_append_left hil
    rw [e1, e2]
    refine ValueAt.more (fun b hb' => ?_) _ _ (ValueAt.keep (fun p hp => hcell p hp.2.1 hp.2.2) _ _ (h2.val i hil hik))
    exact ⟨hb'.1, by omega, hg b hb'.2.1 hb'.2.2⟩
/-- A list of values comes back, below the world's end. -/
def RowPostS (S : Nat → Prop) (l : List PT) (w : World) (e : Ending) (w' : World) : Prop := ∃ a c, e = .returned (.slice a l.length c) ∧ l.length ≤ c ∧ c ≤ maxLen ∧ Below w.heap.size w w' ∧ ValuesAt w' (fun b => b < w'.heap.size ∧ (S b ∨ w.heap.size ≤ b)) l a
set_option maxRecDepth 100000 in
set_option maxHeartbeats 1000000 in
theorem clone_S (S : Nat → Prop) (l : List PT) (a : Option Addr) (c : Nat) (w : World) (hl : l.length ≤ 1024) (h0 : l = [] → a = none) (hv : ValuesAt w (fun b => b < w.heap.size ∧ S b) l a) :
    Calls Tryd.prog 44 #[.slice a l.length c] w (RowPostS S l w) := by
  have HB0 := Lib.hid (Below.refl w.heap.size w)
  by_cases hn : l = []
  · obtain rfl := h0 hn
    subst hn
    have hs := sliceNone
    clear h0 hv hl
    go_enter Tryd.func44, Tryd.ntmps44
    go_wp2_with fail
    go_ret
    exact ⟨none, 0, rfl, Nat.le_refl _, Nat.zero_le _, HB0.out, trivial⟩
  · obtain ⟨b, o, rfl⟩ : ∃ b o, a = some ⟨b, o, none⟩ := by
      cases l with
      | nil => exact absurd rfl hn
      | cons t l => obtain ⟨b, o, u, e, _⟩ := hv; exact ⟨b, o, e⟩
    have hpos : 0 < l.length := List.length_pos_iff.2 hn
    obtain ⟨vs, g1, g2, g3⟩ := ValuesAt.vals hv
    have HG2 := Lib.hid g2
    have HG3 := Lib.hid g3
    obtain ⟨i0, hi, hz⟩ := Option.map_eq_some_iff.1 value_info
    simp only [Prod.mk.injEq] at hz
    obtain ⟨hz0, hz1, hz2⟩ := hz
    have HOne := Lib.hid (show ∀ u ∈ vs, u.oneCell' = true from fun u hu => by
      obtain ⟨i, hi, rfl⟩ := List.getElem_of_mem hu
      exact (g3 i (by omega) hi).one)
    have HO := Lib.hid (show (w.alloc (Obj.cells #[] 35)).ownsRow w.heap.size 35 1 (.slice (some ⟨w.heap.size, 0, none⟩) 0 0) 0 [] from ⟨rfl, .inr ⟨w.heap.size, 0, #[], rfl, Nat.le_refl _, World.alloc_heap_new w _, Nat.le_refl _, Nat.zero_le _, rfl, rfl⟩⟩)
    have HB1 := Lib.hid (HB0.out.alloc (Nat.le_refl _) (Obj.cells #[] 35))
    have HL := Lib.hid g1
    have hblt : b < w.heap.size := by
      cases l with
      | nil => simp at hpos
      | cons t l => obtain ⟨b', o', u, e, hb', _⟩ := hv; simp at e; obtain ⟨rfl, -⟩ := e; exact hb'.1
    have HNews := Lib.hid (show ∀ j u, vs[j]? = some u → (w.alloc (Obj.cells #[] 35)).cell? ((⟨b, o, none⟩ : Addr).add j) = some u from fun j u hu => by
      rw [add_plain, World.cell?_alloc_lt _ _ _ hblt]; exact g2 j u hu)
    have hs := sliceSome
    clear g1 g2 g3 hv h0 hn
    go_enter Tryd.func44, Tryd.ntmps44
    go_wp2_with (at_builtin; refine wpList_append_lies _ rfl _ _ 69 rfl w.heap.size 35 i0 .nilIface 1 16 Tryd.underlying69 hi hz0 hz1 hz2 rfl (by decide) _ _ _ rfl HO.out ⟨b, o, none⟩ l.length c vs rfl (by rw [HL.out]; omega) (HNews.out) HOne.out hpos (by unfold maxLen; omega) (by omega) (by simp) _ rfl ?_; intro g cap w' hown hgrow hat hgl)
    go_ret
    have hcap := own_cap hown
    have hgl2 : w.heap.size ≤ g := (hown.lt g rfl).1
    have hgrow' : (w.alloc (Obj.cells #[] 35)).grownBy w' (some w.heap.size) := hgrow
    have hb2 := HB1.out.grown hgrow' (by simp) (fun j ej => by injection ej with ej; omega)
    refine ⟨some ⟨g, 0, none⟩, cap, rfl, by omega, by omega, hb2, ValuesAt.of_get (.inr ⟨hgl, .inr hgl2⟩) fun i hi => ?_⟩
    have hiv : i < vs.length := by rw [HL.out]; exact hi
    refine ⟨vs[i], ?_, ValueAt.more (fun b hb => ⟨by have := hb2.size; have := hb.1; omega, .inl hb.2⟩) _ _ (ValueAt.keep (fun p hp => hb2.cell hp.1) _ _ (HG3.out i hi hiv))⟩
    rw [Nat.zero_add, hown.cellAt i (by omega), List.nil_append, List.getElem?_eq_getElem hiv]
/-- A list comes back, and no error. -/
def OfPostS (S : Nat → Prop) (l : List PT) (w : World) (e : Ending) (w' : World) : Prop := ∃ a c, e = .returned (.tuple #[.iface 88 (.agg #[.slice a l.length c]), .int .i64 0]) ∧ l.length ≤ c ∧ c ≤ maxLen ∧ Below w.heap.size w w' ∧ ValuesAt w' (fun b => b < w'.heap.size ∧ (S b ∨ w.heap.size ≤ b)) l a
set_option maxRecDepth 100000 in
set_option maxHeartbeats 1000000 in
theorem of_S (S : Nat → Prop) (l : List PT) (a : Option Addr) (c : Nat) (w : World) (hl : l.length ≤ 1024) (h0 : l = [] → a = none) (hd : ∀ t ∈ l, t.depth < 16) (hv : ValuesAt w (fun b => b < w.heap.size ∧ S b) l a) :
    Calls Tryd.prog 30 #[.slice a l.length c] w (OfPostS S l w) := by
  have HB0 := Lib.hid (Below.refl w.heap.size w)
  have HV := Lib.hid hv
  have HC := Lib.hid (fun w => clone_S S l a c w hl h0)
  have HD := Lib.hid hd
  clear hv h0 hd
  go_enter Tryd.func30, Tryd.ntmps30
  go_wp2_with fail
  go_loopw [11] (fun i wr => ∃ (k : Nat), i = .int .i64 k ∧ k ≤ l.length ∧ Hid (Below w.heap.size w wr) ∧ w.heap.size ≤ wr.heap.size) (fun i _ => l.length - (intOf i).toNat)
  case atStart => exact ⟨0, rfl, by omega, HB0, by omega⟩
  case round =>
    clear HB0
    obtain ⟨k, rfl, hk, HB, hwz⟩ := hrel
    by_cases hlt : k < l.length
    · obtain ⟨b, o, u, ea, hb, hc, hu⟩ := (ValuesAt.below (ValuesAt.more (fun b hb => hb.1) _ _ HV.out) HB.out).get hlt
      subst ea
      have hd := HD.out _ (List.getElem_mem hlt)
      have HR := Lib.hid (Depth_any l[k] u wr (by omega) (hu.wide hwz))
      clear hu
      go_wp2_with fail
      refine HR.out.mono ?_
      rintro e w2 ⟨rfl, hb2⟩
      have hz2 := hb2.size
      have HB2 := Lib.hid (HB.out.trans (hb2.mono hwz))
      clear hb2 HB HR hc
      go_wp2_with fail
      go_roundw
      case rel => exact ⟨k + 1, by go_num, by omega, HB2, by omega⟩
      case measure => simp [intOf]; omega
    · obtain rfl : k = l.length := by omega
      have HR := Lib.hid (HC.out wr (ValuesAt.more (fun b hb => ⟨Nat.lt_of_lt_of_le hb.1 hwz, hb.2⟩) _ _ (ValuesAt.keep (fun p hp => HB.out.cell hp.1) _ _ HV.out)))
      go_wp2_with fail
      refine HR.out.mono ?_
      rintro e w2 ⟨a2, c2, rfl, hc1, hc2, hb2, hv2⟩
      have HB2 := Lib.hid (HB.out.trans (hb2.mono hwz))
      have HV2 := Lib.hid hv2
      clear hb2 HB HR hv2
      go_wp2_with fail
      go_ret2
      exact ⟨a2, c2, rfl, hc1, hc2, HB2.out, ValuesAt.more (fun b hb => ⟨hb.1, hb.2.imp id (fun h => by omega)⟩) _ _ HV2.out⟩
/-- The tuple of the items, and where it lies. -/
def TuplePostS (S : Nat → Prop) (its : List PT) (e : Ending) (w' : World) : Prop := ∃ a c, e = .returned (.tuple #[.iface 88 (.agg #[.slice a its.length c]), .nilIface]) ∧ its.length ≤ c ∧ c ≤ maxLen ∧ ValuesAt w' (fun b => b < w'.heap.size ∧ S b) its a
def MapPostS (S : Nat → Prop) (t : PT) (l : List (Int × PT)) (w : World) (e : Ending) (w' : World) : Prop := Below w.heap.size w w' ∧
  ((∃ code at_ n, BadAt t l code at_ n ∧ FaultX code at_ n w e w') ∨ (t.kind = 7 ∧ l.length ≤ 1024 ∧ ∃ its, Picked t l its ∧ TuplePostS S its e w'))
set_option maxRecDepth 100000 in
set_option maxHeartbeats 4000000 in
theorem map_S7 {w0 : World} (h0 : laidMetH Tryd.prog Rows.rekeyGoesUptoRow.laid w0) (t : PT) (l : List (Int × PT)) (A : Option Addr) (C : Nat) (tv : Value) (w : World) (hb0 : Below w0.heap.size w0 w) (hw0 : 0 < w0.heap.size) (h7 : t.kind = 7) (ht : t.depth ≤ 16)
    (hl : SrcsAt w (· < w.heap.size) l A) (hll : l.length ≤ maxLen) (B0 : Nat) (hB0 : B0 ≤ w.heap.size) (hv : ValueAt w (· < B0) t tv) : Calls Tryd.prog 10 #[.slice A l.length C, tv] w (MapPostS (fun b => b < B0 ∨ w.heap.size ≤ b) t l w) := by
  unfold maxLen at hll
  obtain ⟨a', c', rfl, hlc, hcm, hits⟩ := (ValueAt.tuple h7).1 hv
  obtain ⟨i0, hi, hz0, hz1, hz2⟩ := info_parts value_info
  have hw : 0 < w.heap.size := by have := hb0.size; omega
  have HLi := Lib.hid (list_tuple t.items a' c' w B0 hits)
  have HL := Lib.hid hl
  have HB0 := Lib.hid (Below.refl w.heap.size w)
  have HN := Lib.hid ((none_metX h0).below hb0 hw0)
  have HH := Lib.hid h0
  have HBw := Lib.hid hb0
  have HT := Lib.hid (show t.items.length ≤ maxLen by omega)
  have H7 := Lib.hid h7
  have HPD := Lib.hid (fun (p : PT) (s : Int × PT) (h : pick t s = some p) => pick_depth ht h7 h)
  clear hv hits hl h0 hcm hlc ht h7
  go_enter Tryd.func10, Tryd.ntmps10
  go_wp2_with fail
  refine HLi.out.mono ?_
  rintro e w1 ⟨a2, c2, rfl, hb1, hits⟩
  have HB1 := Lib.hid hb1
  have HI := Lib.hid hits
  have hz1' := hb1.size
  clear hb1 HLi HB0 hits
  by_cases hmany : 1024 < l.length
  · have HMany := Lib.hid hmany
    go_wp2_with fail
    go_ret2
    exact ⟨HB1.out.alloc (by omega) _, .inl ⟨180, 1024, 0, .inr (.inl ⟨H7.out, HMany.out, rfl, rfl, rfl⟩), w1.heap.size, rfl, by omega, World.alloc_heap_new w1 _⟩⟩
  · go_wp2_with fail
    have HMany := Lib.hid hmany
    have hll2 : l.length ≤ 1024 := by omega
    clear hmany
    go_loopw [8, 33] (fun t8 i wr => ∃ (k : Nat) (vt : Value) (its : List PT) (vs : List Value), t8 = vt ∧ i = .int .i64 k ∧ k ≤ l.length ∧ Hid (Below w.heap.size w wr) ∧ Hid (VRowS wr (fun b => b < B0 ∨ w.heap.size ≤ b) w.heap.size vt k its vs) ∧ Hid (its.length = k ∧ ∀ i (hi : i < l.length) (hj : i < its.length), pick t l[i] = some its[i]) ∧ Hid (k = 0 → vt = .slice none 0 0) ∧ w.heap.size ≤ wr.heap.size) (fun _ i _ => l.length - (intOf i).toNat)
    case atStart => exact ⟨0, _, [], [], rfl, rfl, by omega, HB1, Lib.hid (VRowS.start _ _ _ _), Lib.hid ⟨rfl, fun i hi hj => by simp at hj⟩, Lib.hid (fun _ => rfl), by omega⟩
    case round =>
      clear HB1 hz1'
      obtain ⟨k, vt, its, vs, hvt, rfl, hk, HB, HV, HP, HZ, hwz⟩ := hrel
      replace hvt := hvt.symm
      subst hvt
      by_cases hlt : k < l.length
      · obtain ⟨b, o, a3, c3, rfl, hb, k0, k1, k2, k3, k4, k5, k6, hpa⟩ := (HL.out.below HB.out).cells hlt
        have HPA := Lib.hid hpa
        obtain ⟨W1, hW1⟩ : ∃ W1, W1 = wr.alloc (.cells (Value.int .i64 l[k].1 :: partCells l[k].2 a3 c3).toArray 39) := ⟨_, rfl⟩
        have hbr : Below wr.heap.size wr W1 := by rw [hW1]; exact (Below.refl wr.heap.size wr).alloc (Nat.le_refl _) _
        have HB2 := Lib.hid (HB.out.trans (hbr.mono hwz))
        have HC2 : CellsAt W1 wr.heap.size 0 (Value.int .i64 l[k].1 :: partCells l[k].2 a3 c3) := by rw [hW1]; exact new_cells _ _ _
        have hzW : W1.heap.size = wr.heap.size + 1 := by rw [hW1]; simp
        have m0 : W1.cell? ⟨wr.heap.size, 0, none⟩ = some (Value.int .i64 l[k].1) := HC2 0 _ rfl
        have m1 : W1.cell? ⟨wr.heap.size, 1, none⟩ = some (Value.int .u8 l[k].2.kind) := HC2 1 _ rfl
        have m2 : W1.cell? ⟨wr.heap.size, 2, none⟩ = some (Value.bool l[k].2.yes) := HC2 2 _ rfl
        have m3 : W1.cell? ⟨wr.heap.size, 3, none⟩ = some (Value.bool l[k].2.bel) := HC2 3 _ rfl
        have m4 : W1.cell? ⟨wr.heap.size, 4, none⟩ = some (Value.string l[k].2.mag) := HC2 4 _ rfl
        have m5 : W1.cell? ⟨wr.heap.size, 5, none⟩ = some (Value.string l[k].2.raw) := HC2 5 _ rfl
        have m6 : W1.cell? ⟨wr.heap.size, 6, none⟩ = some (Value.slice a3 l[k].2.items.length c3) := HC2 6 _ rfl
        have HR := Lib.hid (item_anyX t l[k] a3 c3 a2 c2 W1 (HN.out.below HB2.out hw) HT.out ((PartAt.below hpa (hbr.mono hwz)).wide (by omega)) B0 (by omega) (HI.out.below (HB2.out.mono hB0)) (by omega))
        have HV2 := Lib.hid (HV.out.below hbr)
        have HBr := Lib.hid hbr
        clear hpa HC2 hbr
        unfold partCells at hW1 HR
        go_wp2_with fail
        rw [← hW1]
        clear hW1
        refine HR.out.mono ?_
        clear HR
        cases hp : pick t l[k] with
        | none =>
          rintro e w2 ⟨hb2, v, rfl, hv⟩
          obtain ⟨n, hbn⟩ : ∃ n, badOf t l[k] = some n := by
            rcases bad_pick t l[k] with ⟨_, h⟩ | ⟨h, _⟩
            · rw [hp] at h; cases h
            · exact Option.isSome_iff_exists.1 h
          rw [hbn] at hv
          simp only [Option.getD_some] at hv
          obtain ⟨u, x, rfl⟩ : ∃ u x, v = .iface u x := by
            rcases hv with ⟨_, ⟨x, _, _, rfl⟩ | ⟨x, _, rfl⟩⟩ | ⟨_, rfl⟩ <;> exact ⟨_, _, rfl⟩
          have HB3 := Lib.hid (HB2.out.trans (hb2.mono (by omega)))
          have HWy := Lib.hid (why_exact HH.out (HBw.out.trans (HB3.out.mono HBw.out.size)) hv)
          have HE := Lib.hid (show BadAt t l 180 k n from .inr (.inr ⟨H7.out, by omega, rfl, k, hlt, rfl, fun i hi => by rw [HP.out.2 i (by omega) (by rw [HP.out.1]; exact hi)]; rfl, hbn⟩))
          clear hb2 hv hp hbn m0 m1 m2 m3 m4 m5 m6 k0 k1 k2 k3 k4 k5 k6 HB2 HV HV2 HP HZ
          go_wp2_with fail
          refine HWy.out.mono ?_
          rintro e w4 ⟨rfl, hb4⟩
          have hone := errV_cells n
          have HB4 := Lib.hid (HB3.out.trans (hb4.mono HB3.out.size))
          clear hb4 HWy HB3
          unfold Value.cells at hone
          go_wp2_with fail
          go_ret2
          exact ⟨HB4.out.alloc HB4.out.size _, .inl ⟨180, k, n, HE.out, w4.heap.size, rfl, HB4.out.size, World.alloc_heap_new w4 _⟩⟩
        | some p =>
          rintro e w2 ⟨hb2, v, rfl, hv⟩
          have hbr2 := HBr.out.trans (hb2.mono (by omega))
          have HB3 := Lib.hid (HB.out.trans (hbr2.mono hwz))
          have HV3 := Lib.hid (HV.out.below hbr2)
          have hm2 := hv.cells
          have HO := Lib.hid hv.one
          unfold Value.cells at hm2
          have HVv := Lib.hid hv
          have HPk := Lib.hid hp
          have hz3 := hbr2.size
          have hzb2 := hb2.size
          have HBr2 := Lib.hid hbr2
          clear hb2 hv hp m0 m1 m2 m3 m4 m5 m6 k0 k1 k2 k3 k4 k5 k6 HB2 HV2 hbr2
          go_wp2_with (at_builtin; refine wpList_append_lies _ rfl _ _ 69 rfl w.heap.size 35 i0 .nilIface 1 16 Tryd.underlying69 hi hz0 hz1 hz2 rfl (by decide) _ _ _ rfl (HV3.out.own.alloc _) ⟨w2.heap.size, 0, none⟩ 1 1 [v] rfl rfl (World.news_of_block (cs := #[v]) (t := 35) (fr := (0, 0)) (heap_alloc_new w2 _)) (fun u hu => by simp at hu; subst hu; exact HO.out) (by omega) (by unfold maxLen; omega) (by omega) (by simp; omega) _ rfl ?_; intro g4 cap4 w4 hown4 hgrow4 hat4 hgl4)
          have hgrow5 : (w2.alloc (Obj.cells #[v] 35)).grownBy w4 vt.ownBlock := hgrow4
          have hat5 : vt.ownBlock = some g4 ∨ g4 = (w2.alloc (Obj.cells #[v] 35)).heap.size := hat4
          have hvv := ValueAt.more (S' := fun b => (b < B0 ∨ w.heap.size ≤ b) ∧ b < w2.heap.size ∧ vt.ownBlock ≠ some b) (fun b hb => by
            rcases hb with hb | ⟨hb, hb'⟩
            · exact ⟨.inl hb, by omega, fun e => by have := (HV.out.own.lt b e).1; omega⟩
            · exact ⟨.inr (by omega), hb', fun e => by have := (HV.out.own.lt b e).2; omega⟩) _ _ HVv.out
          have HV' := HV.out.push HP.out.1 hvv HBr2.out hown4 hgrow5 hat5
          have HB' := (HB3.out.alloc (by omega) (Obj.cells #[v] 35)).grown hgrow5 (by simp; omega) (fun j ej => by have := (HV.out.own.lt j ej).1; omega)
          refine ⟨⟨k + 1, _, its ++ [p], vs ++ [v], rfl, by go_num, by omega, Lib.hid HB', Lib.hid HV', Lib.hid ⟨by simp [HP.out.1], fun i hi hj => ?_⟩, Lib.hid (fun h => by omega), HB'.size⟩, by simp [intOf]; omega⟩
          rw [List.length_append, HP.out.1, List.length_singleton] at hj
          by_cases e : i = k
          · subst e
            rw [HPk.out, List.getElem_append_right (by rw [HP.out.1]; omega)]; simp [HP.out.1]
          · rw [List.getElem_append_left (by rw [HP.out.1]; omega)]; exact HP.out.2 i hi (by rw [HP.out.1]; omega)
      · obtain rfl : k = l.length := by omega
        obtain ⟨hlen, hpk⟩ := HP.out
        have hv9 := HV.out
        rw [← hlen] at hv9
        obtain ⟨a3, c3, rfl, hc1, hc2, hvs⟩ := hv9.values (by unfold maxLen; omega) (fun b hb => .inr hb)
        have HOf := Lib.hid (of_S (fun b => b < B0 ∨ w.heap.size ≤ b) its a3 c3 wr (by omega) (fun h => by
          have h9 := HZ.out (by rw [← hlen, h]; rfl)
          injection h9) (fun p hp => by
          obtain ⟨i, hi, rfl⟩ := List.getElem_of_mem hp
          exact HPD.out _ _ (hpk i (by omega) hi)) (ValuesAt.more (fun b hb => ⟨hb.2, hb.1⟩) _ _ hvs))
        have HPk := Lib.hid (show Picked t l its from ⟨hlen, hpk⟩)
        clear hv9 hvs HV HZ HP hpk hlen
        go_wp2_with fail
        refine HOf.out.mono ?_
        rintro e w2 ⟨a4, c4, rfl, h41, h42, hb2, hv2⟩
        have HB2 := Lib.hid (HB.out.trans (hb2.mono hwz))
        have HV2 := Lib.hid hv2
        clear hb2 hv2 HOf
        go_wp2_with fail
        go_ret2
        exact ⟨HB2.out, .inr ⟨H7.out, hll2, its, HPk.out, a4, c4, rfl, h41, h42, ValuesAt.more (fun b hb => ⟨hb.1, hb.2.elim id (fun h => .inr (by omega))⟩) _ _ HV2.out⟩⟩
theorem map_S {w0 : World} (h0 : laidMetH Tryd.prog Rows.rekeyGoesUptoRow.laid w0) (t : PT) (l : List (Int × PT)) (A : Option Addr) (C : Nat) (tv : Value) (w : World) (hb0 : Below w0.heap.size w0 w) (hw0 : 0 < w0.heap.size) (ht : t.depth ≤ 16)
    (hl : SrcsAt w (· < w.heap.size) l A) (hll : l.length ≤ maxLen) (B0 : Nat) (hB0 : B0 ≤ w.heap.size) (hv : ValueAt w (· < B0) t tv) : Calls Tryd.prog 10 #[.slice A l.length C, tv] w (MapPostS (fun b => b < B0 ∨ w.heap.size ≤ b) t l w) := by
  by_cases h7 : t.kind = 7
  · exact map_S7 h0 t l A C tv w hb0 hw0 h7 ht hl hll B0 hB0 hv
  · refine (map_not t l A C tv w h7 (hv.wide hB0)).mono ?_
    rintro e w' ⟨hb, h | ⟨h, _⟩⟩
    · exact ⟨hb, .inl h⟩
    · exact absurd h h7
end Go.Proofs.YtjgicjgpahnmaaaDoor
