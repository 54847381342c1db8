/-
  fit.within and fit.wrong: of a tuple.
-/
import Derived.Test.YtcjllhdbepchnaaGreatDoorLZ
import Derived.Test.YtcjllhdbepchnaaGreatDoorLS
import Derived.Deep.RegionHeld3
namespace Go.Proofs.YtcjllhdbepchnaaGreatDoor
open Go.RowKit Go.WideShapes
set_option linter.unusedVariables false
/-- All kinds are kinds. -/
inductive KOk : FT → Prop
  | mk {t : FT} (h : t.s.kind ≤ 7) (sub : ∀ x ∈ t.fields, KOk x) : KOk t
theorem KOk.kind {t : FT} (h : KOk t) : t.s.kind ≤ 7 := by cases h; assumption
theorem KOk.sub {t : FT} (h : KOk t) {x : FT} (hx : x ∈ t.fields) : KOk x := by cases h with | mk _ hs => exact hs x hx
def WrongAny (t : FT) : Prop := ∀ (p : PT) (v : Value) (a : Option Addr) (c : Nat) (w : World), t.deep ≤ 1000 → RawOk p → KOk t → t.s.ok → t.fields.length ≤ c → c ≤ 140737488351232 → FieldsAt w (· < w.heap.size) t.fields a → ValueAt w (· < w.heap.size) p v →
  Calls Tryz.prog 44 #[.agg #[.string t.s.name, .int .u8 t.s.kind, .bool t.s.down, .int .u8 t.s.nulls, .bool t.s.bnd, .bool t.s.lb, .string t.s.lm, .bool t.s.hb, .string t.s.hm, .int .i64 t.s.most, .int .i64 t.s.st, .bool t.s.sh, .bool t.s.ba, .slice a t.fields.length c], v] w (WrongPost (FT.fit t p) w)
set_option maxRecDepth 100000 in
set_option maxHeartbeats 4000000 in
theorem within_step (t : FT) (p : PT) (a : Option Addr) (c : Nat) (a' : Option Addr) (c' : Nat) (w : World) (hdp : t.deep ≤ 1000) (hraw : RawOk p) (hko : KOk t) (ih : ∀ x ∈ t.fields, WrongAny x) (hlc : t.fields.length ≤ c) (hc : c ≤ 140737488351232) (hf : FieldsAt w (· < w.heap.size) t.fields a) (hn' : p.items.length ≤ maxLen) (hv : ValuesAt w (· < w.heap.size) p.items a') :
    Calls Tryz.prog 71 #[.agg #[.string t.s.name, .int .u8 t.s.kind, .bool t.s.down, .int .u8 t.s.nulls, .bool t.s.bnd, .bool t.s.lb, .string t.s.lm, .bool t.s.hb, .string t.s.hm, .int .i64 t.s.most, .int .i64 t.s.st, .bool t.s.sh, .bool t.s.ba, .slice a t.fields.length c], .iface 109 (.agg #[.slice a' p.items.length c'])] w (WrongPost (if p.items.length ≠ t.fields.length then some (122, 0, [], 0) else FT.fitL t.fields p.items 0) w) := by
  have HB1 := Lib.hid (below_a1 w (.cells #[.string t.s.name, .int .u8 t.s.kind, .bool t.s.down, .int .u8 t.s.nulls, .bool t.s.bnd, .bool t.s.lb, .string t.s.lm, .bool t.s.hb, .string t.s.hm, .int .i64 t.s.most, .int .i64 t.s.st, .bool t.s.sh, .bool t.s.ba, .slice a t.fields.length c] 57))
  have HX1 := Lib.hid (FBox.new w #[.string t.s.name, .int .u8 t.s.kind, .bool t.s.down, .int .u8 t.s.nulls, .bool t.s.bnd, .bool t.s.lb, .string t.s.lm, .bool t.s.hb, .string t.s.hm, .int .i64 t.s.most, .int .i64 t.s.st, .bool t.s.sh, .bool t.s.ba, .slice a t.fields.length c])
  have HLen := Lib.hid (fun W => tupLen_any a' p.items.length c' W hn')
  obtain ⟨i0, hi, hz0, hz1, hz2⟩ := info_parts int_info
  have HF := Lib.hid hf
  have HV := Lib.hid hv
  have HI := Lib.hid ih
  have HRaw := Lib.hid hraw
  have HKo := Lib.hid hko
  have HNm := Lib.hid hn'
  clear hf hv ih hraw hko hn'
  obtain ⟨W0, hW0⟩ : ∃ W0, W0 = w.alloc (.cells #[.string t.s.name, .int .u8 t.s.kind, .bool t.s.down, .int .u8 t.s.nulls, .bool t.s.bnd, .bool t.s.lb, .string t.s.lm, .bool t.s.hb, .string t.s.hm, .int .i64 t.s.most, .int .i64 t.s.st, .bool t.s.sh, .bool t.s.ba, .slice a t.fields.length c] 57) := ⟨_, rfl⟩
  have hz0' : W0.heap.size = w.heap.size + 1 := by rw [hW0]; simp
  have HB0 := Lib.hid (show Below w.heap.size w W0 by rw [hW0]; exact HB1.out)
  obtain ⟨x0, x1, x2, x3, x4, x5, x6, x7, x8, x9, x10, x11, x12, x13⟩ := (show FBox W0 w.heap.size #[.string t.s.name, .int .u8 t.s.kind, .bool t.s.down, .int .u8 t.s.nulls, .bool t.s.bnd, .bool t.s.lb, .string t.s.lm, .bool t.s.hb, .string t.s.hm, .int .i64 t.s.most, .int .i64 t.s.st, .bool t.s.sh, .bool t.s.ba, .slice a t.fields.length c] by rw [hW0]; exact HX1.out).cells
  clear HB1 HX1
  clear x0 x1 x2 x3 x4 x5 x6 x7 x8 x9 x10 x11 x12
  by_cases hn : p.items.length = t.fields.length
  · have n2 : ((p.items.length : Int) != (t.fields.length : Int)) = false := by rw [hn]; simp
    rw [if_neg (fun h => h hn)]
    have HN := Lib.hid hn
    clear hn
    have hlenI : t.fields.length ≤ 9223372036854775807 := by omega
    go_enter Tryz.func71, Tryz.ntmps71
    go_wp2_with fail
    rw [← hW0]
    clear hW0
    go_region_held3 (fun W => W.cell? ⟨w.heap.size, 13, none⟩ = some (.slice a t.fields.length c))
      (first | exact x13 | exact (HB2.out.cell (by simp only; omega)).trans x13)
      (first | (go_simp; go_invoke; go_simp; go_at_call 228; refine (HLen.out _).mono ?_; rintro e w2 ⟨rfl, hb2⟩; have HB2 := Lib.hid (show Below W0.heap.size W0 w2 from (Below.refl _ _).drew.trans (hb2.mono (Nat.le_refl _)))))
    have y13 := (HB2.out.cell (p := ⟨w.heap.size, 13, none⟩) (by simp only; omega)).trans x13
    have hzq := HB2.out.size
    have HBs := Lib.hid (HB0.out.trans (HB2.out.mono (by omega)))
    have HSs := Lib.hid (show FT.fitL t.fields p.items 0 = FT.fitL (t.fields.drop 0) (p.items.drop 0) 0 by simp)
    clear HB2 HB0 x13
    go_wp2_with fail
    clear y13
    go_loopw [19] (fun i wr => ∃ k : Nat, i = .int .i64 k ∧ k ≤ t.fields.length ∧ Hid (Below w.heap.size w wr) ∧ w.heap.size + 1 ≤ wr.heap.size ∧ Hid (FT.fitL t.fields p.items 0 = FT.fitL (t.fields.drop k) (p.items.drop k) k)) (fun i _ => t.fields.length - (intOf i).toNat)
    case atStart => exact ⟨0, rfl, by omega, HBs, by omega, HSs⟩
    case round =>
      clear HBs HSs
      obtain ⟨k, rfl, hk, HBr, hzr, HS⟩ := hrel
      by_cases hlt : k < t.fields.length
      · obtain ⟨b1, o, a3, c3, rfl, hb, hca, hfa⟩ := (HF.out.below HBr.out).get hlt
        have hkp : k < p.items.length := by have := HN.out; omega
        obtain ⟨b', o', u, rfl, hb', hu, hva⟩ := (HV.out.below HBr.out).get hkp
        obtain ⟨k0, k1, k2, k3, k4, k5, k6, k7, k8, k9, k10, k11, k12, k13⟩ := hca.field
        obtain ⟨_, _, ee, hok, hfl0, hfc, hff⟩ := hfa.open
        obtain ⟨rfl, rfl⟩ := fieldCells_inj ee
        obtain ⟨W1, hW1⟩ : ∃ W1, W1 = wr.alloc (.cells #[.string t.fields[k].s.name, .int .u8 t.fields[k].s.kind, .bool t.fields[k].s.down, .int .u8 t.fields[k].s.nulls, .bool t.fields[k].s.bnd, .bool t.fields[k].s.lb, .string t.fields[k].s.lm, .bool t.fields[k].s.hb, .string t.fields[k].s.hm, .int .i64 t.fields[k].s.most, .int .i64 t.fields[k].s.st, .bool t.fields[k].s.sh, .bool t.fields[k].s.ba, .slice a3 t.fields[k].fields.length c3] 57) := ⟨_, rfl⟩
        have hzW : W1.heap.size = wr.heap.size + 1 := by rw [hW1]; simp
        have HBa := Lib.hid (show Below wr.heap.size wr W1 by rw [hW1]; exact below_a1 _ _)
        have HC := Lib.hid (fun (W : World) (hbW : Below W1.heap.size W1 W) => HI.out t.fields[k] (List.getElem_mem hlt) p.items[k] u a3 c3 W (by have := FT.deep_mem (List.getElem_mem hlt); rw [FT.deep_eq] at hdp; omega) (HRaw.out.sub (List.getElem_mem hkp)) (HKo.out.sub (List.getElem_mem hlt)) hok hfl0 hfc ((hff.below ((HBa.out.trans (hbW.mono (by omega))).mono (by omega))).wide (by have := hbW.size; omega)) ((hva.below ((HBa.out.trans (hbW.mono (by omega))).mono (by omega))).wide (by have := hbW.size; omega)))
        have HAt := Lib.hid (fun (W : World) (hbW : Below W1.heap.size W1 W) => tupAt_any b' o' p.items.length c' k (k : Int) u W HNm.out (by have := hbW.size; omega) rfl hkp (((HBa.out.trans (hbW.mono (by omega))).cell (p := ⟨b', o' + k, none⟩) (by simp only; omega)).trans hu))
        obtain ⟨x0, x1, x2, x3, x4, x5, x6, x7, x8, x9, x10, x11, x12, x13⟩ := (show FBox W1 wr.heap.size #[.string t.fields[k].s.name, .int .u8 t.fields[k].s.kind, .bool t.fields[k].s.down, .int .u8 t.fields[k].s.nulls, .bool t.fields[k].s.bnd, .bool t.fields[k].s.lb, .string t.fields[k].s.lm, .bool t.fields[k].s.hb, .string t.fields[k].s.hm, .int .i64 t.fields[k].s.most, .int .i64 t.fields[k].s.st, .bool t.fields[k].s.sh, .bool t.fields[k].s.ba, .slice a3 t.fields[k].fields.length c3] by rw [hW1]; exact FBox.new _ _).cells
        have htd := FT.fit_told t.fields[k] p.items[k]
        have hln := FT.fit_len t.fields[k] p.items[k]
        obtain ⟨r, hr⟩ : ∃ r, r = FT.fit t.fields[k] p.items[k] := ⟨_, rfl⟩
        rw [← hr] at HC htd hln
        have HTd := Lib.hid htd
        have HLn := Lib.hid hln
        clear hln htd hff hfa hca ee hok hva hu
        go_wp2_with fail
        rw [← hW1]
        clear hW1 k0 k1 k2 k3 k4 k5 k6 k7 k8 k9 k10 k11 k12 k13
        cases r with
        | none =>
          first
            | (go_region_held3 (fun W => W.cell? ⟨wr.heap.size, 0, none⟩ = some (.string t.fields[k].s.name) ∧ W.cell? ⟨wr.heap.size, 1, none⟩ = some (.int .u8 t.fields[k].s.kind) ∧ W.cell? ⟨wr.heap.size, 2, none⟩ = some (.bool t.fields[k].s.down) ∧ W.cell? ⟨wr.heap.size, 3, none⟩ = some (.int .u8 t.fields[k].s.nulls) ∧ W.cell? ⟨wr.heap.size, 4, none⟩ = some (.bool t.fields[k].s.bnd) ∧ W.cell? ⟨wr.heap.size, 5, none⟩ = some (.bool t.fields[k].s.lb) ∧ W.cell? ⟨wr.heap.size, 6, none⟩ = some (.string t.fields[k].s.lm) ∧ W.cell? ⟨wr.heap.size, 7, none⟩ = some (.bool t.fields[k].s.hb) ∧ W.cell? ⟨wr.heap.size, 8, none⟩ = some (.string t.fields[k].s.hm) ∧ W.cell? ⟨wr.heap.size, 9, none⟩ = some (.int .i64 t.fields[k].s.most) ∧ W.cell? ⟨wr.heap.size, 10, none⟩ = some (.int .i64 t.fields[k].s.st) ∧ W.cell? ⟨wr.heap.size, 11, none⟩ = some (.bool t.fields[k].s.sh) ∧ W.cell? ⟨wr.heap.size, 12, none⟩ = some (.bool t.fields[k].s.ba) ∧ W.cell? ⟨wr.heap.size, 13, none⟩ = some (.slice a3 t.fields[k].fields.length c3))
                (first | exact ⟨x0, x1, x2, x3, x4, x5, x6, x7, x8, x9, x10, x11, x12, x13⟩ | exact ⟨(HB3.out.cell (by simp only; omega)).trans x0, (HB3.out.cell (by simp only; omega)).trans x1, (HB3.out.cell (by simp only; omega)).trans x2, (HB3.out.cell (by simp only; omega)).trans x3, (HB3.out.cell (by simp only; omega)).trans x4, (HB3.out.cell (by simp only; omega)).trans x5, (HB3.out.cell (by simp only; omega)).trans x6, (HB3.out.cell (by simp only; omega)).trans x7, (HB3.out.cell (by simp only; omega)).trans x8, (HB3.out.cell (by simp only; omega)).trans x9, (HB3.out.cell (by simp only; omega)).trans x10, (HB3.out.cell (by simp only; omega)).trans x11, (HB3.out.cell (by simp only; omega)).trans x12, (HB3.out.cell (by simp only; omega)).trans x13⟩ | exact ⟨(HB4.out.cell (by simp only; omega)).trans x0, (HB4.out.cell (by simp only; omega)).trans x1, (HB4.out.cell (by simp only; omega)).trans x2, (HB4.out.cell (by simp only; omega)).trans x3, (HB4.out.cell (by simp only; omega)).trans x4, (HB4.out.cell (by simp only; omega)).trans x5, (HB4.out.cell (by simp only; omega)).trans x6, (HB4.out.cell (by simp only; omega)).trans x7, (HB4.out.cell (by simp only; omega)).trans x8, (HB4.out.cell (by simp only; omega)).trans x9, (HB4.out.cell (by simp only; omega)).trans x10, (HB4.out.cell (by simp only; omega)).trans x11, (HB4.out.cell (by simp only; omega)).trans x12, (HB4.out.cell (by simp only; omega)).trans x13⟩)
                (first
                  | (go_simp; go_invoke; go_simp; go_at_call 226; refine (HAt.out _ (Below.refl _ _).drew).mono ?_; rintro e w3 ⟨rfl, hb3⟩; have HB3 := Lib.hid (show Below W1.heap.size W1 w3 from (Below.refl _ _).drew.trans (hb3.mono (Nat.le_refl _))))
                  | (go_at_call 44; refine (HC.out _ HB3.out).mono ?_; rintro e w4 ⟨hb4, rfl⟩; have HB4 := Lib.hid (show Below W1.heap.size W1 w4 from HB3.out.trans (hb4.mono HB3.out.size)))))
            | fail
          clear x0 x1 x2 x3 x4 x5 x6 x7 x8 x9 x10 x11 x12 x13
          have HBw := Lib.hid (HBr.out.trans ((HBa.out.trans (HB4.out.mono (by omega))).mono (by omega)))
          go_wp2_with fail
          go_roundw
          case rel => exact ⟨k + 1, by go_num, by omega, HBw, by have := HB4.out.size; omega, Lib.hid (HS.out.trans (by rw [FT.fitL_at hlt hkp, ← hr]))⟩
          case measure => simp [intOf]; omega
        | some x =>
          obtain ⟨cc, aa, q, yy⟩ := x
          have HQl := Lib.hid (show q.length ≤ 100000 from by have h9 : q.length ≤ t.fields[k].deep := HLn.out; have := FT.deep_mem (List.getElem_mem hlt); rw [FT.deep_eq] at hdp; omega)
          first
            | (go_region_held3 (fun W => W.cell? ⟨wr.heap.size, 0, none⟩ = some (.string t.fields[k].s.name) ∧ W.cell? ⟨wr.heap.size, 1, none⟩ = some (.int .u8 t.fields[k].s.kind) ∧ W.cell? ⟨wr.heap.size, 2, none⟩ = some (.bool t.fields[k].s.down) ∧ W.cell? ⟨wr.heap.size, 3, none⟩ = some (.int .u8 t.fields[k].s.nulls) ∧ W.cell? ⟨wr.heap.size, 4, none⟩ = some (.bool t.fields[k].s.bnd) ∧ W.cell? ⟨wr.heap.size, 5, none⟩ = some (.bool t.fields[k].s.lb) ∧ W.cell? ⟨wr.heap.size, 6, none⟩ = some (.string t.fields[k].s.lm) ∧ W.cell? ⟨wr.heap.size, 7, none⟩ = some (.bool t.fields[k].s.hb) ∧ W.cell? ⟨wr.heap.size, 8, none⟩ = some (.string t.fields[k].s.hm) ∧ W.cell? ⟨wr.heap.size, 9, none⟩ = some (.int .i64 t.fields[k].s.most) ∧ W.cell? ⟨wr.heap.size, 10, none⟩ = some (.int .i64 t.fields[k].s.st) ∧ W.cell? ⟨wr.heap.size, 11, none⟩ = some (.bool t.fields[k].s.sh) ∧ W.cell? ⟨wr.heap.size, 12, none⟩ = some (.bool t.fields[k].s.ba) ∧ W.cell? ⟨wr.heap.size, 13, none⟩ = some (.slice a3 t.fields[k].fields.length c3))
                (first | exact ⟨x0, x1, x2, x3, x4, x5, x6, x7, x8, x9, x10, x11, x12, x13⟩ | exact ⟨(HB3.out.cell (by simp only; omega)).trans x0, (HB3.out.cell (by simp only; omega)).trans x1, (HB3.out.cell (by simp only; omega)).trans x2, (HB3.out.cell (by simp only; omega)).trans x3, (HB3.out.cell (by simp only; omega)).trans x4, (HB3.out.cell (by simp only; omega)).trans x5, (HB3.out.cell (by simp only; omega)).trans x6, (HB3.out.cell (by simp only; omega)).trans x7, (HB3.out.cell (by simp only; omega)).trans x8, (HB3.out.cell (by simp only; omega)).trans x9, (HB3.out.cell (by simp only; omega)).trans x10, (HB3.out.cell (by simp only; omega)).trans x11, (HB3.out.cell (by simp only; omega)).trans x12, (HB3.out.cell (by simp only; omega)).trans x13⟩ | exact ⟨(HB4.out.cell (by simp only; omega)).trans x0, (HB4.out.cell (by simp only; omega)).trans x1, (HB4.out.cell (by simp only; omega)).trans x2, (HB4.out.cell (by simp only; omega)).trans x3, (HB4.out.cell (by simp only; omega)).trans x4, (HB4.out.cell (by simp only; omega)).trans x5, (HB4.out.cell (by simp only; omega)).trans x6, (HB4.out.cell (by simp only; omega)).trans x7, (HB4.out.cell (by simp only; omega)).trans x8, (HB4.out.cell (by simp only; omega)).trans x9, (HB4.out.cell (by simp only; omega)).trans x10, (HB4.out.cell (by simp only; omega)).trans x11, (HB4.out.cell (by simp only; omega)).trans x12, (HB4.out.cell (by simp only; omega)).trans x13⟩)
                (first
                  | (go_simp; go_invoke; go_simp; go_at_call 226; refine (HAt.out _ (Below.refl _ _).drew).mono ?_; rintro e w3 ⟨rfl, hb3⟩; have HB3 := Lib.hid (show Below W1.heap.size W1 w3 from (Below.refl _ _).drew.trans (hb3.mono (Nat.le_refl _))))
                  | (go_at_call 44; refine (HC.out _ HB3.out).mono ?_; rintro e w4 ⟨hb4, b, v4, yv, rfl, hlb, hfl, ho4, hwy⟩; obtain ⟨A4, n4, m4, rfl⟩ := own_slice ho4; have HFl := Lib.hid hfl; have HO4 := Lib.hid ho4; have HWy := Lib.hid hwy; clear hfl ho4 hwy; have HB4 := Lib.hid (show Below W1.heap.size W1 w4 from HB3.out.trans (hb4.mono HB3.out.size)))))
            | fail
          clear x0 x1 x2 x3 x4 x5 x6 x7 x8 x9 x10 x11 x12 x13
          have HBw := Lib.hid (HBr.out.trans ((HBa.out.trans (HB4.out.mono (by omega))).mono (by omega)))
          have hz4 := HB4.out.size
          have hz3 := HB3.out.size
          obtain ⟨g0, g1, g2, g3⟩ := HFl.out.cells
          have hs : FT.fitL t.fields p.items 0 = some (cc, aa, k :: q, yy) := by rw [HS.out, FT.fitL_at hlt hkp, ← hr]
          have hbl : b < w4.heap.size := (Array.getElem?_eq_some_iff.1 HFl.out).1
          go_wp2_with (at_builtin; refine wpList_append_row rfl _ _ 45 rfl w4.heap.size 3 i0 (.int .i64 0) 1 8 Tryz.underlying45 hi hz0 hz1 hz2 rfl (by decide) _ 1 [.int .i64 (k : Int)] rfl (own_one w4 _) (.slice A4 n4 m4) _ q.length (pathVals q) rfl (HO4.out.alloc _) (pathVals_one q) (by have := HQl.out; unfold maxLen; omega) (by have := HQl.out; omega) (by simp) ?_; intro v6 w6 hown6 hgrow6; rw [Nat.add_comm] at hown6; obtain ⟨gg, cap6, rfl⟩ := ownsRow_succ hown6; have HO6 := Lib.hid hown6; have HG6 := Lib.hid (show (w4.alloc (.cells #[.int .i64 (k : Int)] 3)).grownBy w6 (some w4.heap.size) from hgrow6); clear hown6 hgrow6; have HB6 := Lib.hid (show Below w4.heap.size w4 w6 from ((Below.refl _ _).alloc (Nat.le_refl _) _).grown HG6.out (by simp) (fun j ej => by injection ej with ej; omega)); have HF6 := Lib.hid (show FlY w6 b cc aa (.slice A4 n4 m4) yv from (HB6.out.block _ (by omega)).trans HFl.out); obtain ⟨y0, y1, y2, y3⟩ := HF6.out.cells; have fv := HF6.out.free 2)
          go_ret
          rw [hs]
          refine ⟨(HBw.out.trans (HB6.out.mono (by omega))).setCell (by simp only; omega) _, b, .slice (some ⟨gg, 0, none⟩) (q.length + 1) cap6, yv, rfl, by omega, ?_, ownsRow_low (HO6.out.setOut (by simp only; omega) _) (by omega), ?_⟩
          · have h9 : w6.heap[b]? = _ := HF6.out
            unfold FlY
            simp [World.setCell, Array.getElem?_modify, h9]
          · rcases HWy.out with h | h | ⟨h, b2, e2, hl2, hf2⟩
            · exact .inl h
            · exact .inr (.inl h)
            · refine .inr (.inr ⟨h, b2, e2, by omega, ?_⟩)
              have hne : b2 ≠ b := by
                rintro rfl
                have h9 : w4.heap[b2]? = _ := HFl.out
                rw [show w4.heap[b2]? = _ from hf2] at h9
                simp at h9
                have := HTd.out.1
                omega
              have h8 : FltAt w6 b2 4 0 (.slice none 0 0) := (HB6.out.block _ hf2.lt).trans hf2
              exact (Below.heap_setCell _ _ _ _ (by simp only; omega)).trans h8
      · obtain rfl : k = t.fields.length := by omega
        have hs : FT.fitL t.fields p.items 0 = none := by rw [HS.out, FT.fitL_end (Nat.le_refl _)]
        go_wp2_with fail
        go_ret
        rw [hs]
        exact ⟨HBr.out, rfl⟩
  · have n2 : ((p.items.length : Int) != (t.fields.length : Int)) = true := by rw [bne_iff_ne]; omega
    rw [if_pos hn]
    clear hn
    go_enter Tryz.func71, Tryz.ntmps71
    go_wp2_with fail
    rw [← hW0]
    clear hW0
    go_region_held3 (fun W => W.cell? ⟨w.heap.size, 13, none⟩ = some (.slice a t.fields.length c))
      (first | exact x13 | exact (HB2.out.cell (by simp only; omega)).trans x13)
      (first | (go_simp; go_invoke; go_simp; go_at_call 228; refine (HLen.out _).mono ?_; rintro e w2 ⟨rfl, hb2⟩; have HB2 := Lib.hid (show Below W0.heap.size W0 w2 from (Below.refl _ _).drew.trans (hb2.mono (Nat.le_refl _)))))
    have hzq := HB2.out.size
    have HBs := Lib.hid (HB0.out.trans (HB2.out.mono (by omega)))
    clear x13
    go_wp2_with fail
    go_ret
    exact ⟨HBs.out.alloc (by omega) _, _, _, _, rfl, by omega, World.alloc_heap_new _ _, World.ownsRow_nil _ _ _ _, .inl ⟨rfl, rfl⟩⟩
end Go.Proofs.YtcjllhdbepchnaaGreatDoor
