/-
  ref12.inner: of a tuple.
-/
import Derived.Test.YtcjllhdbepchnaaGreatDoorLAF
import Derived.Test.YtcjllhdbepchnaaGreatDoorLS
import Derived.Deep.RegionHeld3
namespace Go.Proofs.YtcjllhdbepchnaaGreatDoor
open Go.RowKit Go.WideShapes
set_option linter.unusedVariables false
/-- A block of three cells. -/
def V3 (w : World) (T : Nat) (cs : Array Value) : Prop := w.heap[T]? = some (.cells cs 47 (0, 0))
theorem V3.cells {w : World} {T : Nat} {x0 x1 x2 : Value} (h : V3 w T #[x0, x1, x2]) : w.cell? ⟨T, 0, none⟩ = some x0 ∧ w.cell? ⟨T, 1, none⟩ = some x1 ∧ w.cell? ⟨T, 2, none⟩ = some x2 := by simp [World.cell?, show w.heap[T]? = _ from h]
theorem V3.free {w : World} {T : Nat} {cs : Array Value} (h : V3 w T cs) (i : Nat) : w.frozen? ⟨T, i, none⟩ = false := by simp [World.frozen?, show w.heap[T]? = _ from h]
set_option maxRecDepth 100000 in
set_option maxHeartbeats 4000000 in
theorem inner_7 (t : FT) (p : PT) (a : Option Addr) (c : Nat) (a' : Option Addr) (c' : Nat) (w : World) (hk0 : p.kind ≠ 0) (hk : p.kind = t.s.kind) (hkk : t.s.kind = 7) (hdp : t.deep ≤ 1000) (hraw : RawOk p) (ih : ∀ x ∈ t.fields, InnerAny x) (hlc : t.fields.length ≤ c) (hc : c ≤ 140737488351232) (hf : FieldsAt w (· < w.heap.size) t.fields a) (hp : PartAt w (· < w.heap.size) p (partCells p a' c')) :
  Calls Tryz.prog 47 #[.agg #[.string t.s.name, .int .u8 t.s.kind, .bool t.s.down, .int .u8 t.s.nulls, .bool t.s.bnd, .bool t.s.lb, .string t.s.lm, .bool t.s.hb, .string t.s.hm, .int .i64 t.s.most, .int .i64 t.s.st, .bool t.s.sh, .bool t.s.ba, .slice a t.fields.length c], .agg #[.int .u8 p.kind, .bool p.yes, .bool p.bel, .string p.mag, .string p.raw, .slice a' p.items.length c']] w (InnerPost (FT.fit t p) w) := by
  have HB := Lib.hid (fun o o2 o3 => ((((Below.refl w.heap.size w).alloc (Nat.le_refl _) o).alloc (by simp : w.heap.size ≤ (w.alloc o).heap.size) o2).alloc (by simp; omega : w.heap.size ≤ ((w.alloc o).alloc o2).heap.size) o3))
  have e0 : ((p.kind : Int) == 0) = false := by rw [beq_eq_false_iff_ne]; omega
  have e1 : ((p.kind : Int) == (t.s.kind : Int)) = true := by rw [hk]; simp
  have k2 : ((t.s.kind : Int) == 2) = false := by rw [hkk]; rfl
  have k3 : ((t.s.kind : Int) == 3) = false := by rw [hkk]; rfl
  have k5 : ((t.s.kind : Int) == 5) = false := by rw [hkk]; rfl
  have k6 : ((t.s.kind : Int) == 6) = false := by rw [hkk]; rfl
  have k7 : ((t.s.kind : Int) == 7) = true := by rw [hkk]; rfl
  obtain ⟨i0, hi, hz0, hz1, hz2⟩ := info_parts int_info
  by_cases hn : p.items.length = t.fields.length
  · have hs : FT.fit t p = FT.fitL (t.fields.drop 0) (p.items.drop 0) 0 := by rw [FT.fit_eq, if_neg hk0, if_neg (fun h => h hk), if_neg (fun h => by omega), if_neg (fun h => by omega), if_neg (fun h => by omega), if_neg (by omega), if_neg (fun h => h hn)]; simp
    have e2 : ((p.items.length : Int) == (t.fields.length : Int)) = true := by rw [hn]; simp
    have n1 : ((p.kind : Int) != (t.s.kind : Int)) = false := by rw [hk]; simp
    have n7 : ((t.s.kind : Int) != 7) = false := by rw [hkk]; rfl
    have n2 : ((p.items.length : Int) != (t.fields.length : Int)) = false := by rw [hn]; simp
    obtain ⟨aq, cq, eq, _, _, _, hilc, hicm, hits⟩ := hp.open
    obtain ⟨rfl, rfl⟩ : aq = a' ∧ cq = c' := by simpa [partCells, eq_comm] using eq
    have HS := Lib.hid hs
    have HF := Lib.hid hf
    have HP := Lib.hid hits
    have HI := Lib.hid ih
    have HRaw := Lib.hid hraw
    have HN := Lib.hid hn
    have hlenI : t.fields.length ≤ 9223372036854775807 := by omega
    obtain ⟨W3, hW3⟩ : ∃ W3, W3 = ((w.alloc (.cells #[.string t.s.name, .int .u8 t.s.kind, .bool t.s.down, .int .u8 t.s.nulls, .bool t.s.bnd, .bool t.s.lb, .string t.s.lm, .bool t.s.hb, .string t.s.hm, .int .i64 t.s.most, .int .i64 t.s.st, .bool t.s.sh, .bool t.s.ba, .slice a t.fields.length c] 57)).alloc (.cells #[.int .u8 p.kind, .bool p.yes, .bool p.bel, .string p.mag, .string p.raw, .slice aq p.items.length cq] 30)).alloc (.cells #[.int .i64 0, .int .i64 0, .slice none 0 0] 47) := ⟨_, rfl⟩
    obtain ⟨hx, hpb, hww, hbw, hz3⟩ := inner_boxes _ _ w W3 W3 hW3 (Below.refl _ _)
    have HX0 := Lib.hid hx
    have HP0 := Lib.hid hpb
    have HW0 := Lib.hid hww
    have HB0 := Lib.hid hbw
    clear hraw hs hk hk0 hkk hp hits eq hf ih hx hpb hww hbw hn HB
    go_enter Tryz.func47, Tryz.ntmps47
    go_wp2_with fail
    rw [← hW3]
    go_loopw [11] (fun i wr => ∃ k : Nat, i = .int .i64 k ∧ k ≤ t.fields.length ∧ Hid (Below w.heap.size w wr) ∧ Hid (FBox wr w.heap.size #[.string t.s.name, .int .u8 t.s.kind, .bool t.s.down, .int .u8 t.s.nulls, .bool t.s.bnd, .bool t.s.lb, .string t.s.lm, .bool t.s.hb, .string t.s.hm, .int .i64 t.s.most, .int .i64 t.s.st, .bool t.s.sh, .bool t.s.ba, .slice a t.fields.length c]) ∧ Hid (PcBox wr (w.heap.size + 1) #[.int .u8 p.kind, .bool p.yes, .bool p.bel, .string p.mag, .string p.raw, .slice aq p.items.length cq]) ∧ Hid (WBox wr (w.heap.size + 2)) ∧ w.heap.size + 3 ≤ wr.heap.size ∧ Hid (FT.fit t p = FT.fitL (t.fields.drop k) (p.items.drop k) k)) (fun i _ => t.fields.length - (intOf i).toNat)
    case atStart => exact ⟨0, rfl, by omega, HB0, HX0, HP0, HW0, hz3, HS⟩
    case round =>
      clear HB0 HX0 HP0 HW0 HS hW3
      obtain ⟨k, rfl, hk, HBr, HXr, HPr, HWr, hzr, HS⟩ := hrel
      obtain ⟨x0, x1, x2, x3, x4, x5, x6, x7, x8, x9, x10, x11, x12, x13⟩ := HXr.out.cells
      obtain ⟨p0, p1, p2, p3, p4, p5⟩ := HPr.out.cells
      by_cases hlt : k < t.fields.length
      · obtain ⟨b, o, a3, c3, rfl, hb, hca, hfa⟩ := (HF.out.below HBr.out).get hlt
        have hkp : k < p.items.length := by have := HN.out; omega
        obtain ⟨b', o', a4, c4, rfl, hb', j0, j1, j2, j3, j4, j5, hpa⟩ := (HP.out.below HBr.out).cells hkp
        obtain ⟨k0, k1, k2, k3, k4, k5, k6, k7, k8, k9, k10, k11, k12, k13⟩ := hca.field
        obtain ⟨_, _, ee, hok, hfl, hfc, hff⟩ := hfa.open
        obtain ⟨rfl, rfl⟩ := fieldCells_inj ee
        have HC := Lib.hid (fun (W : World) (hbW : Below wr.heap.size wr W) => HI.out t.fields[k] (List.getElem_mem hlt) p.items[k] a3 c3 a4 c4 W (by have := FT.deep_mem (List.getElem_mem hlt); rw [FT.deep_eq] at hdp; omega) (HRaw.out.sub (List.getElem_mem hkp)) hok hfl hfc ((hff.below (hbW.mono (by omega))).wide (by have := hbW.size; omega)) ((hpa.below (hbW.mono (by omega))).wide (by have := hbW.size; omega)))
        clear hff hfa hca ee hpa hok
        have hkl0 : (0 : Int) ≤ (k : Int) := by omega
        have hkl1 : (k : Int) < (t.fields.length : Int) := by omega
        have hkl2 : (k : Int) < (p.items.length : Int) := by omega
        have HZ := Lib.hid (below_a1 wr.drew (.cells #[.int .i64 0, .int .i64 0, .slice none 0 0] 47))
        have hzd : wr.drew.heap.size = wr.heap.size := rfl
        have hzz : (wr.drew.alloc (.cells #[.int .i64 0, .int .i64 0, .slice none 0 0] 47)).heap.size = wr.heap.size + 1 := by simp
        have HXZ := Lib.hid (show WBox (wr.drew.alloc (.cells #[.int .i64 0, .int .i64 0, .slice none 0 0] 47)) wr.heap.size from World.alloc_heap_new wr.drew _)
        have KA := Lib.hid (fun (W : World) (hb : Below wr.heap.size wr.drew W) => (⟨(hb.cell (by simp only; omega)).trans x13, (hb.cell (by simp only; omega)).trans p5, (hb.cell (by simp only; omega)).trans k0, (hb.cell (by simp only; omega)).trans k1, (hb.cell (by simp only; omega)).trans k2, (hb.cell (by simp only; omega)).trans k3, (hb.cell (by simp only; omega)).trans k4, (hb.cell (by simp only; omega)).trans k5, (hb.cell (by simp only; omega)).trans k6, (hb.cell (by simp only; omega)).trans k7, (hb.cell (by simp only; omega)).trans k8, (hb.cell (by simp only; omega)).trans k9, (hb.cell (by simp only; omega)).trans k10, (hb.cell (by simp only; omega)).trans k11, (hb.cell (by simp only; omega)).trans k12, (hb.cell (by simp only; omega)).trans k13, (hb.cell (by simp only; omega)).trans j0, (hb.cell (by simp only; omega)).trans j1, (hb.cell (by simp only; omega)).trans j2, (hb.cell (by simp only; omega)).trans j3, (hb.cell (by simp only; omega)).trans j4, (hb.cell (by simp only; omega)).trans j5⟩ : W.cell? ⟨w.heap.size, 13, none⟩ = some (.slice (some ⟨b, o, none⟩) t.fields.length c) ∧ W.cell? ⟨w.heap.size + 1, 5, none⟩ = some (.slice (some ⟨b', o', none⟩) p.items.length cq) ∧ W.cell? ⟨b, o + k * 14, none⟩ = some (.string t.fields[k].s.name) ∧ W.cell? ⟨b, o + k * 14 + 1, none⟩ = some (.int .u8 t.fields[k].s.kind) ∧ W.cell? ⟨b, o + k * 14 + 2, none⟩ = some (.bool t.fields[k].s.down) ∧ W.cell? ⟨b, o + k * 14 + 3, none⟩ = some (.int .u8 t.fields[k].s.nulls) ∧ W.cell? ⟨b, o + k * 14 + 4, none⟩ = some (.bool t.fields[k].s.bnd) ∧ W.cell? ⟨b, o + k * 14 + 5, none⟩ = some (.bool t.fields[k].s.lb) ∧ W.cell? ⟨b, o + k * 14 + 6, none⟩ = some (.string t.fields[k].s.lm) ∧ W.cell? ⟨b, o + k * 14 + 7, none⟩ = some (.bool t.fields[k].s.hb) ∧ W.cell? ⟨b, o + k * 14 + 8, none⟩ = some (.string t.fields[k].s.hm) ∧ W.cell? ⟨b, o + k * 14 + 9, none⟩ = some (.int .i64 t.fields[k].s.most) ∧ W.cell? ⟨b, o + k * 14 + 10, none⟩ = some (.int .i64 t.fields[k].s.st) ∧ W.cell? ⟨b, o + k * 14 + 11, none⟩ = some (.bool t.fields[k].s.sh) ∧ W.cell? ⟨b, o + k * 14 + 12, none⟩ = some (.bool t.fields[k].s.ba) ∧ W.cell? ⟨b, o + k * 14 + 13, none⟩ = some (.slice a3 t.fields[k].fields.length c3) ∧ W.cell? ⟨b', o' + k * 6, none⟩ = some (.int .u8 p.items[k].kind) ∧ W.cell? ⟨b', o' + k * 6 + 1, none⟩ = some (.bool p.items[k].yes) ∧ W.cell? ⟨b', o' + k * 6 + 2, none⟩ = some (.bool p.items[k].bel) ∧ W.cell? ⟨b', o' + k * 6 + 3, none⟩ = some (.string p.items[k].mag) ∧ W.cell? ⟨b', o' + k * 6 + 4, none⟩ = some (.string p.items[k].raw) ∧ W.cell? ⟨b', o' + k * 6 + 5, none⟩ = some (.slice a4 p.items[k].items.length c4)))
        have htd := FT.fit_told t.fields[k] p.items[k]
        obtain ⟨r, hr⟩ : ∃ r, r = FT.fit t.fields[k] p.items[k] := ⟨_, rfl⟩
        have hln := FT.fit_len t.fields[k] p.items[k]
        rw [← hr] at HC htd hln
        have HLn := Lib.hid hln
        clear hln
        have HTd := Lib.hid htd
        go_wp2_with fail
        cases r with
        | none =>
          go_region_held3 (fun W => W.cell? ⟨w.heap.size, 13, none⟩ = some (.slice (some ⟨b, o, none⟩) t.fields.length c) ∧ W.cell? ⟨w.heap.size + 1, 5, none⟩ = some (.slice (some ⟨b', o', none⟩) p.items.length cq) ∧ W.cell? ⟨b, o + k * 14, none⟩ = some (.string t.fields[k].s.name) ∧ W.cell? ⟨b, o + k * 14 + 1, none⟩ = some (.int .u8 t.fields[k].s.kind) ∧ W.cell? ⟨b, o + k * 14 + 2, none⟩ = some (.bool t.fields[k].s.down) ∧ W.cell? ⟨b, o + k * 14 + 3, none⟩ = some (.int .u8 t.fields[k].s.nulls) ∧ W.cell? ⟨b, o + k * 14 + 4, none⟩ = some (.bool t.fields[k].s.bnd) ∧ W.cell? ⟨b, o + k * 14 + 5, none⟩ = some (.bool t.fields[k].s.lb) ∧ W.cell? ⟨b, o + k * 14 + 6, none⟩ = some (.string t.fields[k].s.lm) ∧ W.cell? ⟨b, o + k * 14 + 7, none⟩ = some (.bool t.fields[k].s.hb) ∧ W.cell? ⟨b, o + k * 14 + 8, none⟩ = some (.string t.fields[k].s.hm) ∧ W.cell? ⟨b, o + k * 14 + 9, none⟩ = some (.int .i64 t.fields[k].s.most) ∧ W.cell? ⟨b, o + k * 14 + 10, none⟩ = some (.int .i64 t.fields[k].s.st) ∧ W.cell? ⟨b, o + k * 14 + 11, none⟩ = some (.bool t.fields[k].s.sh) ∧ W.cell? ⟨b, o + k * 14 + 12, none⟩ = some (.bool t.fields[k].s.ba) ∧ W.cell? ⟨b, o + k * 14 + 13, none⟩ = some (.slice a3 t.fields[k].fields.length c3) ∧ W.cell? ⟨b', o' + k * 6, none⟩ = some (.int .u8 p.items[k].kind) ∧ W.cell? ⟨b', o' + k * 6 + 1, none⟩ = some (.bool p.items[k].yes) ∧ W.cell? ⟨b', o' + k * 6 + 2, none⟩ = some (.bool p.items[k].bel) ∧ W.cell? ⟨b', o' + k * 6 + 3, none⟩ = some (.string p.items[k].mag) ∧ W.cell? ⟨b', o' + k * 6 + 4, none⟩ = some (.string p.items[k].raw) ∧ W.cell? ⟨b', o' + k * 6 + 5, none⟩ = some (.slice a4 p.items[k].items.length c4))
            (first | exact ⟨x13, p5, k0, k1, k2, k3, k4, k5, k6, k7, k8, k9, k10, k11, k12, k13, j0, j1, j2, j3, j4, j5⟩ | exact KA.out _ HZ.out | exact KA.out _ HB4.out | exact KA.out _ (HB4.out.alloc (by have := HB4.out.size; simp only [World.size_drew] at this; omega) _) | exact KA.out _ (((HB4.out.setCell (by simp only; omega) _).setCell (by simp only; omega) _).setCell (by simp only; omega) _))
            (first
              | (go_at_call 47; refine (HC.out wr.drew (Below.refl _ _).drew).mono ?_; rintro e w4 ⟨hb4, rfl⟩; have HB4 := Lib.hid (show Below wr.heap.size wr.drew w4 from hb4))
              | (go_at_call 47; refine (HC.out (wr.drew.alloc (.cells #[.int .i64 0, .int .i64 0, .slice none 0 0] 47)) ((Below.refl _ _).drew.trans HZ.out)).mono ?_; rintro e w4 ⟨hb4, rfl⟩; have HB4 := Lib.hid (show Below wr.heap.size wr.drew w4 from HZ.out.trans (hb4.mono (by rw [hzz]; omega))); have HX4 := Lib.hid (show WBox w4 wr.heap.size from (hb4.block _ (by rw [hzz]; omega)).trans HXZ.out); obtain ⟨z0, z1, z2⟩ := HX4.out.cells; have f0 := HX4.out.free 0; have f1 := HX4.out.free 1; have f2 := HX4.out.free 2))
          all_goals (first
            | (obtain ⟨W5, hW5⟩ : ∃ W5, W5 = w4.alloc (.cells #[.int .i64 0, .int .i64 0, .slice none 0 0] 47) := ⟨_, rfl⟩
               rw [← hW5]
               obtain ⟨V, hV⟩ : ∃ V, V = w4.heap.size := ⟨_, rfl⟩
               have hw4 : wr.heap.size ≤ w4.heap.size := HB4.out.size
               have hz5 : W5.heap.size = w4.heap.size + 1 := by rw [hW5]; simp
               have HB5 := Lib.hid (show Below wr.heap.size wr W5 by rw [hW5]; exact ((Below.refl _ _).drew.trans HB4.out).alloc hw4 _)
               have HV5 := Lib.hid (show V3 W5 V #[.int .i64 0, .int .i64 0, .slice none 0 0] by rw [hW5, hV]; exact World.alloc_heap_new w4 _)
               rw [← hV]
               have hVp : wr.heap.size ≤ V ∧ V < W5.heap.size := by omega
               clear hW5 hV hz5 hw4 HB4)
            | (obtain ⟨W5, hW5⟩ : ∃ W5, W5 = ((w4.setCell ⟨wr.heap.size, 0, none⟩ (.int .i64 0)).setCell ⟨wr.heap.size, 1, none⟩ (.int .i64 0)).setCell ⟨wr.heap.size, 2, none⟩ (.slice none 0 0) := ⟨_, rfl⟩
               rw [← hW5]
               obtain ⟨V, hV⟩ : ∃ V, V = wr.heap.size := ⟨_, rfl⟩
               have hw4 : wr.heap.size ≤ w4.heap.size := HB4.out.size
               have hw4' : wr.heap.size + 1 ≤ w4.heap.size := by have h8 := hb4.size; rw [hzz] at h8; exact h8
               have hz5 : W5.heap.size = w4.heap.size := by rw [hW5]; simp
               have HB5 := Lib.hid (show Below wr.heap.size wr W5 by rw [hW5]; exact ((((Below.refl _ _).drew.trans HB4.out).setCell (by simp only; omega) _).setCell (by simp only; omega) _).setCell (by simp only; omega) _)
               have HV5 := Lib.hid (show V3 W5 V #[.int .i64 0, .int .i64 0, .slice none 0 0] by
                 rw [hW5, hV]
                 have h9 : w4.heap[wr.heap.size]? = _ := HX4.out
                 unfold V3
                 simp [World.setCell, Array.getElem?_modify, h9])
               rw [← hV]
               have hVp : wr.heap.size ≤ V ∧ V < W5.heap.size := by omega
               clear hW5 hV hz5 hw4 hw4' HB4 HX4 z0 z1 z2 f0 f1 f2))
          all_goals (
            have HX5 := Lib.hid (HXr.out.below HB5.out (by omega))
            have HP5 := Lib.hid (show PcBox W5 (w.heap.size + 1) _ from (HB5.out.block _ (by omega)).trans HPr.out)
            have HW5 := Lib.hid (HWr.out.below HB5.out (by omega))
            have HBw := Lib.hid (HBr.out.trans (HB5.out.mono (by omega)))
            clear x0 x1 x2 x3 x4 x5 x6 x7 x8 x9 x10 x11 x12 x13 p0 p1 p2 p3 p4 p5 k0 k1 k2 k3 k4 k5 k6 k7 k8 k9 k10 k11 k12 k13 j0 j1 j2 j3 j4 j5
            obtain ⟨v0, v1, v2⟩ := HV5.out.cells
            go_wp2_with fail
            go_roundw
            case rel => exact ⟨k + 1, by go_num, by omega, HBw, HX5, HP5, HW5, by omega, Lib.hid (HS.out.trans (by rw [FT.fitL_at hlt hkp, ← hr]))⟩
            case measure => simp [intOf]; omega)
        | some x =>
          obtain ⟨cc, aa, q, yy⟩ := x
          have HQl := Lib.hid (show q.length ≤ 100000 from by have h9 : q.length ≤ t.fields[k].deep := HLn.out; have := FT.deep_mem (List.getElem_mem hlt); rw [FT.deep_eq] at hdp; omega)
          have hcc : (cc == (0 : Int)) = false := by have h9 : 120 ≤ cc := HTd.out.1; rw [beq_eq_false_iff_ne]; omega
          go_region_held3 (fun W => W.cell? ⟨w.heap.size, 13, none⟩ = some (.slice (some ⟨b, o, none⟩) t.fields.length c) ∧ W.cell? ⟨w.heap.size + 1, 5, none⟩ = some (.slice (some ⟨b', o', none⟩) p.items.length cq) ∧ W.cell? ⟨b, o + k * 14, none⟩ = some (.string t.fields[k].s.name) ∧ W.cell? ⟨b, o + k * 14 + 1, none⟩ = some (.int .u8 t.fields[k].s.kind) ∧ W.cell? ⟨b, o + k * 14 + 2, none⟩ = some (.bool t.fields[k].s.down) ∧ W.cell? ⟨b, o + k * 14 + 3, none⟩ = some (.int .u8 t.fields[k].s.nulls) ∧ W.cell? ⟨b, o + k * 14 + 4, none⟩ = some (.bool t.fields[k].s.bnd) ∧ W.cell? ⟨b, o + k * 14 + 5, none⟩ = some (.bool t.fields[k].s.lb) ∧ W.cell? ⟨b, o + k * 14 + 6, none⟩ = some (.string t.fields[k].s.lm) ∧ W.cell? ⟨b, o + k * 14 + 7, none⟩ = some (.bool t.fields[k].s.hb) ∧ W.cell? ⟨b, o + k * 14 + 8, none⟩ = some (.string t.fields[k].s.hm) ∧ W.cell? ⟨b, o + k * 14 + 9, none⟩ = some (.int .i64 t.fields[k].s.most) ∧ W.cell? ⟨b, o + k * 14 + 10, none⟩ = some (.int .i64 t.fields[k].s.st) ∧ W.cell? ⟨b, o + k * 14 + 11, none⟩ = some (.bool t.fields[k].s.sh) ∧ W.cell? ⟨b, o + k * 14 + 12, none⟩ = some (.bool t.fields[k].s.ba) ∧ W.cell? ⟨b, o + k * 14 + 13, none⟩ = some (.slice a3 t.fields[k].fields.length c3) ∧ W.cell? ⟨b', o' + k * 6, none⟩ = some (.int .u8 p.items[k].kind) ∧ W.cell? ⟨b', o' + k * 6 + 1, none⟩ = some (.bool p.items[k].yes) ∧ W.cell? ⟨b', o' + k * 6 + 2, none⟩ = some (.bool p.items[k].bel) ∧ W.cell? ⟨b', o' + k * 6 + 3, none⟩ = some (.string p.items[k].mag) ∧ W.cell? ⟨b', o' + k * 6 + 4, none⟩ = some (.string p.items[k].raw) ∧ W.cell? ⟨b', o' + k * 6 + 5, none⟩ = some (.slice a4 p.items[k].items.length c4))
            (first | exact ⟨x13, p5, k0, k1, k2, k3, k4, k5, k6, k7, k8, k9, k10, k11, k12, k13, j0, j1, j2, j3, j4, j5⟩ | exact KA.out _ HZ.out | exact KA.out _ HB4.out | exact KA.out _ (HB4.out.alloc (by have := HB4.out.size; simp only [World.size_drew] at this; omega) _) | exact KA.out _ (((HB4.out.setCell (by simp only; omega) _).setCell (by simp only; omega) _).setCell (by simp only; omega) _))
            (first
              | (go_at_call 47; refine (HC.out wr.drew (Below.refl _ _).drew).mono ?_; rintro e w4 ⟨hb4, v4, rfl, ho4⟩; obtain ⟨A4, n4, m4, rfl⟩ := own_slice ho4; have HO4 := Lib.hid ho4; clear ho4; have HB4 := Lib.hid (show Below wr.heap.size wr.drew w4 from hb4))
              | (go_at_call 47; refine (HC.out (wr.drew.alloc (.cells #[.int .i64 0, .int .i64 0, .slice none 0 0] 47)) ((Below.refl _ _).drew.trans HZ.out)).mono ?_; rintro e w4 ⟨hb4, v4, rfl, ho4⟩; obtain ⟨A4, n4, m4, rfl⟩ := own_slice ho4; have HO4 := Lib.hid ho4; clear ho4; have HB4 := Lib.hid (show Below wr.heap.size wr.drew w4 from HZ.out.trans (hb4.mono (by rw [hzz]; omega))); have HX4 := Lib.hid (show WBox w4 wr.heap.size from (hb4.block _ (by rw [hzz]; omega)).trans HXZ.out); obtain ⟨z0, z1, z2⟩ := HX4.out.cells; have f0 := HX4.out.free 0; have f1 := HX4.out.free 1; have f2 := HX4.out.free 2))
          all_goals (first
            | (obtain ⟨W5, hW5⟩ : ∃ W5, W5 = w4.alloc (.cells #[.int .i64 cc, .int .i64 aa, .slice A4 n4 m4] 47) := ⟨_, rfl⟩
               rw [← hW5]
               obtain ⟨V, hV⟩ : ∃ V, V = w4.heap.size := ⟨_, rfl⟩
               have hw4 : wr.heap.size ≤ w4.heap.size := HB4.out.size
               have hz5 : W5.heap.size = w4.heap.size + 1 := by rw [hW5]; simp
               have HB5 := Lib.hid (show Below wr.heap.size wr W5 by rw [hW5]; exact ((Below.refl _ _).drew.trans HB4.out).alloc hw4 _)
               have HV5 := Lib.hid (show V3 W5 V #[.int .i64 cc, .int .i64 aa, .slice A4 n4 m4] by rw [hW5, hV]; exact World.alloc_heap_new w4 _)
               have HO5 := Lib.hid (show W5.ownsRow wr.heap.size 3 1 (.slice A4 n4 m4) q.length (pathVals q) by rw [hW5]; exact HO4.out.alloc _)
               rw [← hV]
               have hVp : wr.heap.size ≤ V ∧ V < W5.heap.size := by omega
               clear hW5 hV hz5 hw4 HB4)
            | (obtain ⟨W5, hW5⟩ : ∃ W5, W5 = ((w4.setCell ⟨wr.heap.size, 0, none⟩ (.int .i64 cc)).setCell ⟨wr.heap.size, 1, none⟩ (.int .i64 aa)).setCell ⟨wr.heap.size, 2, none⟩ (.slice A4 n4 m4) := ⟨_, rfl⟩
               rw [← hW5]
               obtain ⟨V, hV⟩ : ∃ V, V = wr.heap.size := ⟨_, rfl⟩
               have hw4 : wr.heap.size ≤ w4.heap.size := HB4.out.size
               have hw4' : wr.heap.size + 1 ≤ w4.heap.size := by have h8 := hb4.size; rw [hzz] at h8; exact h8
               have hz5 : W5.heap.size = w4.heap.size := by rw [hW5]; simp
               have HB5 := Lib.hid (show Below wr.heap.size wr W5 by rw [hW5]; exact ((((Below.refl _ _).drew.trans HB4.out).setCell (by simp only; omega) _).setCell (by simp only; omega) _).setCell (by simp only; omega) _)
               have HV5 := Lib.hid (show V3 W5 V #[.int .i64 cc, .int .i64 aa, .slice A4 n4 m4] by
                 rw [hW5, hV]
                 have h9 : w4.heap[wr.heap.size]? = _ := HX4.out
                 unfold V3
                 simp [World.setCell, Array.getElem?_modify, h9])
               have HO5 := Lib.hid (show W5.ownsRow wr.heap.size 3 1 (.slice A4 n4 m4) q.length (pathVals q) by rw [hW5]; exact ownsRow_low (((HO4.out.setOut (by rw [hzz]; simp only; omega) _).setOut (by rw [hzz]; simp only; omega) _).setOut (by rw [hzz]; simp only; omega) _) (by rw [hzz]; omega))
               rw [← hV]
               have hVp : wr.heap.size ≤ V ∧ V < W5.heap.size := by omega
               clear hW5 hV hz5 hw4 hw4' HB4 HX4 z0 z1 z2 f0 f1 f2))
          all_goals (
            have HX5 := Lib.hid (HXr.out.below HB5.out (by omega))
            have HP5 := Lib.hid (show PcBox W5 (w.heap.size + 1) _ from (HB5.out.block _ (by omega)).trans HPr.out)
            have HW5 := Lib.hid (HWr.out.below HB5.out (by omega))
            have HBw := Lib.hid (HBr.out.trans (HB5.out.mono (by omega)))
            clear x0 x1 x2 x3 x4 x5 x6 x7 x8 x9 x10 x11 x12 x13 p0 p1 p2 p3 p4 p5 k0 k1 k2 k3 k4 k5 k6 k7 k8 k9 k10 k11 k12 k13 j0 j1 j2 j3 j4 j5
            obtain ⟨v0, v1, v2⟩ := HV5.out.cells
            have hs : FT.fit t p = some (cc, aa, k :: q, yy) := by rw [HS.out, FT.fitL_at hlt hkp, ← hr]
            have f2 := HV5.out.free 2
            go_wp2_with (at_builtin; refine wpList_append_row rfl _ _ 45 rfl W5.heap.size 3 i0 (.int .i64 0) 1 8 Tryz.underlying45 hi hz0 hz1 hz2 rfl (by decide) _ 1 [.int .i64 (k : Int)] rfl (own_one W5 _) (.slice A4 n4 m4) wr.heap.size q.length (pathVals q) rfl (HO5.out.alloc _) (pathVals_one q) (by have := HQl.out; unfold maxLen; omega) (by have := HQl.out; omega) (by simp) ?_; intro v6 w6 hown6 hgrow6; rw [Nat.add_comm] at hown6; obtain ⟨gg, cap6, rfl⟩ := ownsRow_succ hown6; have HO6 := Lib.hid hown6; have HG6 := Lib.hid (show (W5.alloc (.cells #[.int .i64 (k : Int)] 3)).grownBy w6 (some W5.heap.size) from hgrow6); clear hown6 hgrow6; have HB6 := Lib.hid (show Below W5.heap.size W5 w6 from ((Below.refl _ _).alloc (Nat.le_refl _) _).grown HG6.out (by simp) (fun j ej => by injection ej with ej; omega)); have HV6 := Lib.hid (show V3 w6 V #[.int .i64 cc, .int .i64 aa, .slice A4 n4 m4] from (HB6.out.block _ (by omega)).trans HV5.out); have HW6 := Lib.hid (show WBox (w6.setCell ⟨V, 2, none⟩ (.slice (some ⟨gg, 0, none⟩) (q.length + 1) cap6)) (w.heap.size + 2) from (Below.heap_setCell _ _ _ _ (by simp only; omega)).trans ((HB6.out.block _ (by omega)).trans HW5.out)); obtain ⟨y0, y1, y2⟩ := HV6.out.cells; have fv := HV6.out.free 2; obtain ⟨g0, g1, g2⟩ := HW6.out.cells; have ft0 := HW6.out.free 0; have ft1 := HW6.out.free 1; have ft2 := HW6.out.free 2)
            refine bodyPost_ret (by obtain ⟨q0, q1, q2⟩ := HW6.out.filled (.int .i64 cc) (.int .i64 aa) (.slice (some ⟨gg, 0, none⟩) (q.length + 1) cap6); simp [results, Tryz.results47, go_sem, q0, q1, q2]; try rfl) rfl ?_
            rw [hs]
            refine ⟨(((HBw.out.trans (HB6.out.mono (by omega))).setCell (by simp only; omega) _).setCell (by simp only; omega) _ |>.setCell (by simp only; omega) _).setCell (by simp only; omega) _, _, rfl, ?_⟩
            exact ownsRow_low ((((HO6.out.setOut (by simp only; omega) _).setOut (by simp only; omega) _).setOut (by simp only; omega) _).setOut (by simp only; omega) _) (by omega))
      · obtain rfl : k = t.fields.length := by omega
        obtain ⟨g0, g1, g2⟩ := HWr.out.cells
        have f0 := HWr.out.free 0
        have f1 := HWr.out.free 1
        have f2 := HWr.out.free 2
        have hs : FT.fit t p = none := by rw [HS.out, FT.fitL_end (Nat.le_refl _)]
        go_wp2_with fail
        refine bodyPost_ret (by obtain ⟨q0, q1, q2⟩ := HWr.out.filled (.int .i64 0) (.int .i64 0) (.slice none 0 0); simp [results, Tryz.results47, go_sem, q0, q1, q2]; try rfl) rfl ?_
        rw [hs]
        exact ⟨((HBr.out.setCell (by simp only; omega) _).setCell (by simp only; omega) _).setCell (by simp only; omega) _, rfl⟩
  · have hs : FT.fit t p = some (122, 0, [], 0) := by rw [FT.fit_eq, if_neg hk0, if_neg (fun h => h hk), if_neg (fun h => by omega), if_neg (fun h => by omega), if_neg (fun h => by omega), if_neg (by omega), if_pos hn]
    have e2 : ((p.items.length : Int) == (t.fields.length : Int)) = false := by rw [beq_eq_false_iff_ne]; omega
    rw [hs]
    clear hs hk hk0 hkk hp hf ih hn
    go_enter Tryz.func47, Tryz.ntmps47
    go_wp2_with fail
    go_returns
    exact ⟨HB.out _ _ _, _, rfl, World.ownsRow_nil _ _ _ _⟩
theorem inner_step (t : FT) (ih : ∀ x ∈ t.fields, InnerAny x) : InnerAny t := by
  intro p a c a' c' w hdp hraw hok hlc hc hf hp
  obtain ⟨_, _, _, hk, hm, hr, _⟩ := hp.open
  have hok' := hok
  obtain ⟨_, _, _, h1, h2, _⟩ := hok'
  by_cases hk0 : p.kind = 0
  · exact inner_null t p a c a' c' w hk0
  by_cases hkk : p.kind = t.s.kind
  · by_cases k2 : t.s.kind = 2
    · exact inner_2 t p a c a' c' w hk0 hkk k2 (by unfold maxLen at hm; omega) (by omega) (by omega)
    by_cases k3 : t.s.kind = 3
    · exact inner_3 t p a c a' c' w hk0 hkk k3
    by_cases k5 : t.s.kind = 5
    · exact inner_5 t p a c a' c' w hk0 hkk k5 (by have := hraw.raw; omega)
    by_cases k6 : t.s.kind = 6
    · exact inner_6 t p a c a' c' w hk0 hkk k6 (by have := hraw.raw; omega)
    by_cases k7 : t.s.kind = 7
    · exact inner_7 t p a c a' c' w hk0 hkk k7 hdp hraw ih hlc hc hf hp
    · exact inner_plain t p a c a' c' w hk0 hkk k2 k3 k5 k6 k7
  · exact inner_other t p a c a' c' w hk0 hkk
theorem inner_any (t : FT) : InnerAny t := FT.all inner_step t
end Go.Proofs.YtcjllhdbepchnaaGreatDoor
