/-
  value.Tell: a value as a part.
-/
import Derived.Test.YtjgicjgpahnmaaaDoorKJ
namespace Go.Proofs.YtjgicjgpahnmaaaDoor
open Go.RowKit Go.WideShapes
set_option linter.unusedVariables false
/-- A part comes back, in new blocks. -/
def TellPost (w : World) (e : Ending) (w' : World) : Prop := ∃ (t : PT) (a : Option Addr) (c : Nat), e = .returned (.agg #[.int .u8 t.kind, .bool t.yes, .bool t.bel, .string t.mag, .string t.raw, .slice a t.items.length c]) ∧ Below w.heap.size w w' ∧ PartAt w' (fun b => w.heap.size ≤ b ∧ b < w'.heap.size) t (partCells t a c)
/-- The block of a result that is not there yet. -/
def RBox (w : World) (T : Nat) : Prop := w.heap[T]? = some (.cells #[.int .u8 0, .bool false, .bool false, .string ⟨#[]⟩, .string ⟨#[]⟩, .slice none 0 0] 30 (0, 0))
theorem RBox.below {w w' : World} {B T : Nat} (h : RBox w T) (hb : Below B w w') (hT : T < B) : RBox w' T := (hb.block T hT).trans h
theorem RBox.new (w : World) (T : Nat) (hT : T = w.heap.size) : RBox (w.alloc (.cells #[.int .u8 0, .bool false, .bool false, .string ⟨#[]⟩, .string ⟨#[]⟩, .slice none 0 0] 30)) T := by subst hT; exact World.alloc_heap_new w _
theorem RBox.grown {w w' : World} {T : Nat} {vt : Value} {tmp : Obj} (h : RBox w T) (hg : (w.alloc tmp).grownBy w' vt.ownBlock) (hne : vt.ownBlock ≠ some T) : RBox w' T := by
  have hl : T < w.heap.size := (Array.getElem?_eq_some_iff.1 h).1
  refine ((hg.block T (by simp; omega) (fun e => hne e.symm)).trans ?_).trans h
  rw [Below.heap_alloc w tmp T hl]
theorem RBox.set {w : World} {T T' o : Nat} {u : Value} (h : RBox w T) (hne : T' ≠ T) : RBox (w.setCell ⟨T', o, none⟩ u) T := by
  unfold RBox at *; simp [World.setCell, Array.getElem?_modify, hne, h]
theorem RBox.cells {w : World} {T : Nat} (h : RBox w T) : w.cell? ⟨T, 0, none⟩ = some (.int .u8 0) ∧ w.cell? ⟨T, 1, none⟩ = some (.bool false) ∧ w.cell? ⟨T, 2, none⟩ = some (.bool false) ∧ w.cell? ⟨T, 3, none⟩ = some (.string ⟨#[]⟩) ∧ w.cell? ⟨T, 4, none⟩ = some (.string ⟨#[]⟩) ∧ w.cell? ⟨T, 5, none⟩ = some (.slice none 0 0) := by
  simp [World.cell?, show w.heap[T]? = _ from h]
theorem RBox.free {w : World} {T : Nat} (h : RBox w T) (i : Nat) : w.frozen? ⟨T, i, none⟩ = false := by simp [World.frozen?, show w.heap[T]? = _ from h]
/-- It is written. -/
theorem RBox.filled {w : World} {T : Nat} (h : RBox w T) (x0 x1 x2 x3 x4 x5 : Value) : (w.setCell ⟨T, 0, none⟩ x0).cell? ⟨T, 0, none⟩ = some x0 ∧ ((w.setCell ⟨T, 0, none⟩ x0).setCell ⟨T, 1, none⟩ x1).cell? ⟨T, 1, none⟩ = some x1 ∧ (((w.setCell ⟨T, 0, none⟩ x0).setCell ⟨T, 1, none⟩ x1).setCell ⟨T, 2, none⟩ x2).cell? ⟨T, 2, none⟩ = some x2 ∧ ((((w.setCell ⟨T, 0, none⟩ x0).setCell ⟨T, 1, none⟩ x1).setCell ⟨T, 2, none⟩ x2).setCell ⟨T, 3, none⟩ x3).cell? ⟨T, 3, none⟩ = some x3 ∧ (((((w.setCell ⟨T, 0, none⟩ x0).setCell ⟨T, 1, none⟩ x1).setCell ⟨T, 2, none⟩ x2).setCell ⟨T, 3, none⟩ x3).setCell ⟨T, 4, none⟩ x4).cell? ⟨T, 4, none⟩ = some x4 ∧ ((((((w.setCell ⟨T, 0, none⟩ x0).setCell ⟨T, 1, none⟩ x1).setCell ⟨T, 2, none⟩ x2).setCell ⟨T, 3, none⟩ x3).setCell ⟨T, 4, none⟩ x4).setCell ⟨T, 5, none⟩ x5).cell? ⟨T, 5, none⟩ = some x5 := by
  unfold RBox at h
  refine ⟨?_, ?_, ?_, ?_, ?_, ?_⟩ <;> simp only [World.cell?] <;> simp [World.setCell, Array.getElem?_modify, h]
set_option maxRecDepth 100000 in
set_option maxHeartbeats 2000000 in
theorem tuplePart_any (l : List PT) (a : Option Addr) (c : Nat) (w : World) (hlc : l.length ≤ 1024) (hl : ValuesAt w (· < w.heap.size) l a)
    (ih : ∀ x ∈ l, ∀ (v : Value) (w : World), ValueAt w (· < w.heap.size) x v → Calls Tryd.prog 13 #[v] w (TellPost w)) :
    Calls Tryd.prog 84 #[.agg #[.slice a l.length c]] w (TellPost w) := by
  obtain ⟨i0, hi, hz0, hz1, hz2⟩ := info_parts part_info
  have HI := Lib.hid hl
  have HIH := Lib.hid ih
  have HB0 := Lib.hid (fun o o2 o3 => (((Below.refl w.heap.size w).alloc (Nat.le_refl _) o).alloc (by simp : w.heap.size ≤ (w.alloc o).heap.size) o2).alloc (by simp; omega : w.heap.size ≤ ((w.alloc o).alloc o2).heap.size) o3)
  have HX0 := Lib.hid (fun o o2 => PBox.new ((w.alloc o).alloc o2) (w.heap.size + 1 + 1) (.slice none 0 0) (by simp))
  have HR0 := Lib.hid (fun o o3 => (RBox.new (w.alloc o) (w.heap.size + 1) (by simp)).below ((Below.refl _ _).alloc (Nat.le_refl _) o3) (by simp : w.heap.size + 1 < ((w.alloc o).alloc _).heap.size))
  have HV0 := Lib.hid (fun W => PRow.start W (w.heap.size + 3) (w.heap.size + 3))
  clear hl ih
  go_enter Tryd.func84, Tryd.ntmps84
  go_wp2_with fail
  go_loopw [10] (fun i wr => ∃ (k : Nat) (vt : Value) (pl : List PT) (css : List (List Value)), i = .int .i64 k ∧ k ≤ l.length ∧ Hid (Below w.heap.size w wr) ∧ Hid (RBox wr (w.heap.size + 1)) ∧ Hid (PBox wr (w.heap.size + 1 + 1) vt) ∧ Hid (PRow wr (w.heap.size + 3) (w.heap.size + 3) vt k pl css) ∧ w.heap.size + 3 ≤ wr.heap.size) (fun i _ => l.length - (intOf i).toNat)
  case atStart => exact ⟨0, _, [], [], rfl, by omega, Lib.hid (HB0.out _ _ _), Lib.hid (HR0.out _ _), Lib.hid (HX0.out _ _), Lib.hid (HV0.out _), by simp⟩
  case round =>
    clear HB0 HX0 HV0 HR0
    obtain ⟨k, vt, pl, css, rfl, hk, HB, HR, HX, HV, hwz⟩ := hrel
    have hTlt : w.heap.size + 1 + 1 < wr.heap.size := by omega
    have hbc := HX.out.cell
    have hbf := HX.out.free
    by_cases hlt : k < l.length
    · obtain ⟨b, o, u, ea, hb, hc, hu⟩ := (HI.out.below HB.out).get hlt
      subst ea
      have hB1 : Below wr.heap.size wr wr.drew := (Below.refl _ _).drew
      have HRc := Lib.hid (HIH.out l[k] (List.getElem_mem hlt) u wr.drew ((hu.wide (by omega : w.heap.size ≤ wr.heap.size)).below hB1))
      have HB1 := Lib.hid hB1
      clear hu hB1
      go_wp2_with fail
      have hne : vt.ownBlock ≠ some (w.heap.size + 1 + 1) := fun e => by have := row_ge HV.out.own e; omega
      go_region_law (first
        | (go_simp; go_at_call 13; refine HRc.out.mono ?_; rintro e w2 ⟨t2, a2, c2, rfl, hb2, hp2⟩; have HP2 := Lib.hid hp2; clear hp2; have hbr2 := HB1.out.trans (hb2.mono (by simp)); have hzz2 := hbr2.size; have hT2 : w.heap.size + 1 + 1 < w2.heap.size := (by omega); have HV2 := Lib.hid (HV.out.below hbr2); have HX2 := Lib.hid (HX.out.below hbr2 hTlt); have hbc2 := HX2.out.cell)
        | (refine step_append_lies _ (by rfl) _ _ _ (by rfl) (w.heap.size + 3) 30 i0 (.agg #[.int .u8 0, .bool false, .bool false, .string ⟨#[]⟩, .string ⟨#[]⟩, .slice none 0 0]) 6 72 Tryd.underlying28 hi hz0 hz1 hz2 rfl (by omega) vt k css.flatten (by rfl) (HV2.out.own.alloc _) ⟨w2.heap.size, 0, none⟩ 1 1 [.int .u8 t2.kind, .bool t2.yes, .bool t2.bel, .string t2.mag, .string t2.raw, .slice a2 t2.items.length c2] (by rfl) (by rfl) (World.news_of_block (cs := #[.int .u8 t2.kind, .bool t2.yes, .bool t2.bel, .string t2.mag, .string t2.raw, .slice a2 t2.items.length c2]) (t := 30) (fr := (0, 0)) (heap_alloc_new w2 _)) (by simp [Value.oneCell']) (by omega) (by unfold maxLen; omega) (by omega) (by simp; omega) (w2.heap.size + 1) (by simp) ?_; intro g4 cap4 w4 hown4 hgrow4 hat4 hgl4; have HX4 := Lib.hid (HX2.out.grown hgrow4 hne); have hbc4 := HX4.out.cell; have hbf4 := HX4.out.free))
      all_goals (
        have hp2' := PartAt.more (S' := fun b => wr.heap.size ≤ b ∧ b < w2.heap.size) (fun b hb => by have h1 := hb.1; simp at h1; exact ⟨by omega, hb.2⟩) _ _ HP2.out
        have HB' := Lib.hid (((((HB.out.trans (hbr2.mono (by omega))).alloc (by omega) _).grown hgrow4 (by simp; omega) (fun j ej => by have := row_ge HV2.out.own ej; omega)).setCell (p := ⟨w.heap.size + 1 + 1, 5, none⟩) (by simp only; omega) (.slice (some ⟨g4, 0, none⟩) (k + 1) cap4)))
        have HX' := Lib.hid (HX4.out.set (u := .slice (some ⟨g4, 0, none⟩) (k + 1) cap4))
        have HR' := Lib.hid (((HR.out.below hbr2 (by omega)).grown hgrow4 (fun e => by have := row_ge HV.out.own e; omega)).set (T' := w.heap.size + 1 + 1) (o := 5) (u := .slice (some ⟨g4, 0, none⟩) (k + 1) cap4) (by omega))
        have HV' := Lib.hid ((HV.out.step (by rfl) hp2' hbr2 (by omega) hown4 hgrow4 (hat4.imp id (fun h => h.trans (by simp)))).set (T := w.heap.size + 1 + 1) (u := .slice (some ⟨g4, 0, none⟩) (k + 1) cap4) (by omega) (by omega))
        have hz4 : w2.heap.size + 1 ≤ w4.heap.size := by have := hgrow4.size; simpa using this
        go_wp2_with fail
        go_roundw
        case rel => exact ⟨k + 1, _, _, _, by go_num, by omega, HB', HR', HX', HV', by simp; omega⟩
        case measure => simp [intOf]; omega)
    · obtain ⟨a2, c2, rfl, hc1, hc2, hps⟩ := HV.out.parts (by omega)
      have HPS := Lib.hid hps
      obtain ⟨p0, p1, p2, p3, p4, p5⟩ := HX.out.cells
      obtain ⟨r0, r1, r2, r3, r4, r5⟩ := HR.out.cells
      have f0 := HR.out.free 0
      have f1 := HR.out.free 1
      have f2 := HR.out.free 2
      have f3 := HR.out.free 3
      have f4 := HR.out.free 4
      have f5 := HR.out.free 5
      clear hbc hbf hps
      go_wp2_with fail
      obtain ⟨q0, q1, q2, q3, q4, q5⟩ := HR.out.filled (.int .u8 7) (.bool false) (.bool false) (.string ⟨#[]⟩) (.string ⟨#[]⟩) (.slice a2 pl.length c2)
      refine bodyPost_ret (by simp [results, Tryd.results84, go_sem, q0, q1, q2, q3, q4, q5]; try rfl) rfl ?_
      have hk : ∀ p : Addr, w.heap.size + 3 ≤ p.block → ∀ W (o : Nat) (u : Value), (World.setCell W ⟨w.heap.size + 1, o, none⟩ u).cell? p = W.cell? p := fun p hp W o u => World.cell?_setCell_other W _ p u (fun e => by have := congrArg Addr.block e; simp only at this; omega)
      refine ⟨.mk 7 false false ⟨#[]⟩ ⟨#[]⟩ pl, a2, c2, rfl, (((((HB.out.setCell (by simp only; omega) _).setCell (by simp only; omega) _).setCell (by simp only; omega) _).setCell (by simp only; omega) _).setCell (by simp only; omega) _).setCell (by simp only; omega) _, ?_⟩
      refine PartAt.shut (show 7 < 256 by decide) (Nat.zero_le _) (Nat.zero_le _) hc1 hc2 (PartsAt.more (S := fun b => w.heap.size + 3 ≤ b ∧ b < wr.heap.size) (fun b hb => ⟨by omega, by simp; exact hb.2⟩) _ _ (PartsAt.keep (fun p hp => ?_) _ _ HPS.out))
      rw [hk p hp.1, hk p hp.1, hk p hp.1, hk p hp.1, hk p hp.1, hk p hp.1]
/-- A value without items, as a part. -/
theorem flat_tell {k : Nat} {y b : Bool} {m r : ByteArray} {w w' : World} {e : Ending} (hk : k < 256) (hm : m.size ≤ maxLen) (hr : r.size ≤ maxLen) (h : FlatRet k y b m r w e w') : TellPost w e w' := by
  obtain ⟨rfl, hb⟩ := h
  exact ⟨.mk k y b m r [], none, 0, rfl, hb, PartAt.shut hk hm hr (Nat.le_refl _) (Nat.zero_le _) trivial⟩
set_option maxRecDepth 100000 in
set_option maxHeartbeats 2000000 in
theorem tell_any : ∀ (t : PT) (v : Value) (w : World), t.may = true → ValueAt w (· < w.heap.size) t v → Calls Tryd.prog 13 #[v] w (TellPost w) := by
  refine PT.all fun t ih => ?_
  intro v w hmay hv
  by_cases h7 : t.kind = 7
  · obtain ⟨a, c, rfl, hlc, hcm, hits⟩ := (ValueAt.tuple h7).1 hv
    obtain ⟨hl, hall⟩ := PT.may_items hmay h7
    have HP := Lib.hid (fun (w : World) (h : ValuesAt w (· < w.heap.size) t.items a) => tuplePart_any t.items a c w hl h (fun x hx v w hv => ih x hx v w (hall x hx) hv))
    have HI := Lib.hid hits
    have HB0 := Lib.hid (fun o => (Below.refl w.heap.size w).alloc (Nat.le_refl _) o)
    have HR0 := Lib.hid (RBox.new w w.heap.size rfl)
    clear hits hv h7 hl hall hmay ih hcm hlc
    go_enter Tryd.func13, Tryd.ntmps13
    go_wp2_with fail
    refine (HP.out _ ((HI.out.below (HB0.out _)).wide (by simp))).mono ?_
    rintro e w2 ⟨t2, a2, c2, rfl, hb2, hp2⟩
    have HB2 := Lib.hid ((HB0.out _).trans (hb2.mono (by simp)))
    have HR2 := Lib.hid (HR0.out.below hb2 (by simp))
    have HP2 := Lib.hid hp2
    have hz2 := hb2.size
    simp only [World.size_alloc] at hz2
    clear hb2 hp2 HB0 HR0 HP
    obtain ⟨r0, r1, r2, r3, r4, r5⟩ := HR2.out.cells
    have f0 := HR2.out.free 0
    have f1 := HR2.out.free 1
    have f2 := HR2.out.free 2
    have f3 := HR2.out.free 3
    have f4 := HR2.out.free 4
    have f5 := HR2.out.free 5
    go_wp2_with fail
    obtain ⟨q0, q1, q2, q3, q4, q5⟩ := HR2.out.filled (.int .u8 t2.kind) (.bool t2.yes) (.bool t2.bel) (.string t2.mag) (.string t2.raw) (.slice a2 t2.items.length c2)
    refine bodyPost_ret (by simp [results, Tryd.results13, go_sem, q0, q1, q2, q3, q4, q5]; try rfl) rfl ?_
    have hk : ∀ p : Addr, w.heap.size + 1 ≤ p.block → ∀ W (o : Nat) (u : Value), (World.setCell W ⟨w.heap.size, o, none⟩ u).cell? p = W.cell? p := fun p hp W o u => World.cell?_setCell_other W _ p u (fun e => by have := congrArg Addr.block e; simp only at this; omega)
    refine ⟨t2, a2, c2, rfl, (((((HB2.out.setCell (by simp only; omega) _).setCell (by simp only; omega) _).setCell (by simp only; omega) _).setCell (by simp only; omega) _).setCell (by simp only; omega) _).setCell (by simp only; omega) _, ?_⟩
    refine PartAt.more (S := fun b => w.heap.size + 1 ≤ b ∧ b < w2.heap.size) (fun b hb => ⟨by omega, by simp; exact hb.2⟩) _ _ (PartAt.keep (fun p hp => ?_) _ _ (PartAt.more (S' := fun b => w.heap.size + 1 ≤ b ∧ b < w2.heap.size) (fun b hb => by have h1 := hb.1; simp at h1; exact ⟨h1, hb.2⟩) _ _ HP2.out))
    rw [hk p hp.1, hk p hp.1, hk p hp.1, hk p hp.1, hk p hp.1, hk p hp.1]
  · clear ih
    have HB0 := Lib.hid (fun o => (Below.refl w.heap.size w).alloc (Nat.le_refl _) o)
    have HR0 := Lib.hid (RBox.new w w.heap.size rfl)
    obtain ⟨k, y, b, m, r, l⟩ := t
    simp only [PT.kind] at h7
    by_cases k0 : k = 0
    · obtain rfl := (ValueAt.null (t := .mk k y b m r l) k0).1 hv
      clear hv k0 h7 hmay
      go_enter Tryd.func13, Tryd.ntmps13
      go_wp2_with fail
      go_returns
      exact flat_tell (by decide) (Nat.zero_le _) (Nat.zero_le _) (⟨rfl, HB0.out _⟩ : FlatRet 0 false false ⟨#[]⟩ ⟨#[]⟩ w _ _)
    · by_cases k1 : k = 1
      · obtain rfl := (ValueAt.truth (t := .mk k y b m r l) k1).1 hv
        clear hv k0 k1 h7 hmay
        simp only [PT.yes]
        have HP := Lib.hid (fun w => truthPart_any y w)
        go_enter Tryd.func13, Tryd.ntmps13
        go_wp2_with fail
        refine (HP.out _).mono ?_
        rintro e w2 ⟨rfl, hb2⟩
        have HB2 := Lib.hid ((HB0.out _).trans (hb2.mono (by simp)))
        have HR2 := Lib.hid (HR0.out.below hb2 (by simp))
        clear hb2 HB0 HR0 HP
        obtain ⟨r0, r1, r2, r3, r4, r5⟩ := HR2.out.cells
        have f0 := HR2.out.free 0
        have f1 := HR2.out.free 1
        have f2 := HR2.out.free 2
        have f3 := HR2.out.free 3
        have f4 := HR2.out.free 4
        have f5 := HR2.out.free 5
        go_wp2_with fail
        obtain ⟨q0, q1, q2, q3, q4, q5⟩ := HR2.out.filled (.int .u8 1) (.bool y) (.bool false) (.string ⟨#[]⟩) (.string ⟨#[]⟩) (.slice none 0 0)
        refine bodyPost_ret (by simp [results, Tryd.results13, go_sem, q0, q1, q2, q3, q4, q5]; try rfl) rfl ?_
        refine flat_tell (k := 1) (y := y) (b := false) (m := ⟨#[]⟩) (r := ⟨#[]⟩) (by decide) (Nat.zero_le _) (Nat.zero_le _) ⟨rfl, ?_⟩
        exact (((((HB2.out.setCell (by simp only; omega) _).setCell (by simp only; omega) _).setCell (by simp only; omega) _).setCell (by simp only; omega) _).setCell (by simp only; omega) _).setCell (by simp only; omega) _
      · by_cases k2 : k = 2
        · obtain ⟨rfl, hm⟩ := (ValueAt.whole (t := .mk k y b m r l) k2).1 hv
          have HM := Lib.hid hm
          clear hv k0 k1 k2 h7 hmay hm
          simp only [PT.bel, PT.mag] at HM ⊢
          have HP := Lib.hid (fun w => wholePart_any b m w)
          go_enter Tryd.func13, Tryd.ntmps13
          go_wp2_with fail
          refine (HP.out _).mono ?_
          rintro e w2 ⟨rfl, hb2⟩
          have HB2 := Lib.hid ((HB0.out _).trans (hb2.mono (by simp)))
          have HR2 := Lib.hid (HR0.out.below hb2 (by simp))
          clear hb2 HB0 HR0 HP
          obtain ⟨r0, r1, r2, r3, r4, r5⟩ := HR2.out.cells
          have f0 := HR2.out.free 0
          have f1 := HR2.out.free 1
          have f2 := HR2.out.free 2
          have f3 := HR2.out.free 3
          have f4 := HR2.out.free 4
          have f5 := HR2.out.free 5
          go_wp2_with fail
          obtain ⟨q0, q1, q2, q3, q4, q5⟩ := HR2.out.filled (.int .u8 2) (.bool false) (.bool b) (.string m) (.string ⟨#[]⟩) (.slice none 0 0)
          refine bodyPost_ret (by simp [results, Tryd.results13, go_sem, q0, q1, q2, q3, q4, q5]; try rfl) rfl ?_
          refine flat_tell (k := 2) (y := false) (b := b) (m := m) (r := ⟨#[]⟩) (by decide) HM.out (Nat.zero_le _) ⟨rfl, ?_⟩
          exact (((((HB2.out.setCell (by simp only; omega) _).setCell (by simp only; omega) _).setCell (by simp only; omega) _).setCell (by simp only; omega) _).setCell (by simp only; omega) _).setCell (by simp only; omega) _
        · obtain ⟨rfl, hr, hk⟩ := (ValueAt.row (t := .mk k y b m r l) k0 k1 k2 h7).1 hv
          have HK := Lib.hid hk
          have HRw := Lib.hid hr
          clear hv k0 k1 k2 h7 hmay hr hk
          simp only [PT.kind, PT.raw] at HK HRw ⊢
          have HP := Lib.hid (fun w => rowPart_any k r w)
          go_enter Tryd.func13, Tryd.ntmps13
          go_wp2_with fail
          refine (HP.out _).mono ?_
          rintro e w2 ⟨rfl, hb2⟩
          have HB2 := Lib.hid ((HB0.out _).trans (hb2.mono (by simp)))
          have HR2 := Lib.hid (HR0.out.below hb2 (by simp))
          clear hb2 HB0 HR0 HP
          obtain ⟨r0, r1, r2, r3, r4, r5⟩ := HR2.out.cells
          have f0 := HR2.out.free 0
          have f1 := HR2.out.free 1
          have f2 := HR2.out.free 2
          have f3 := HR2.out.free 3
          have f4 := HR2.out.free 4
          have f5 := HR2.out.free 5
          go_wp2_with fail
          obtain ⟨q0, q1, q2, q3, q4, q5⟩ := HR2.out.filled (.int .u8 k) (.bool false) (.bool false) (.string ⟨#[]⟩) (.string r) (.slice none 0 0)
          refine bodyPost_ret (by simp [results, Tryd.results13, go_sem, q0, q1, q2, q3, q4, q5]; try rfl) rfl ?_
          refine flat_tell (k := k) (y := false) (b := false) (m := ⟨#[]⟩) (r := r) HK.out (Nat.zero_le _) HRw.out ⟨rfl, ?_⟩
          exact (((((HB2.out.setCell (by simp only; omega) _).setCell (by simp only; omega) _).setCell (by simp only; omega) _).setCell (by simp only; omega) _).setCell (by simp only; omega) _).setCell (by simp only; omega) _
end Go.Proofs.YtjgicjgpahnmaaaDoor
