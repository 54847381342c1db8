/-
  The law FitTurns, walked: one of four ways.
-/
import Derived.Test.YtcjllhdbepchnaaGreatDoorLAO
import Derived.Test.YtcjllhdbepchnaaGreatDoorLAQ
import Derived.Test.YtcjllhdbepchnaaGreatDoorLAS
import Derived.Test.YtcjllhdbepchnaaGreatDoorLAW
import Derived.Test.YtcjllhdbepchnaaGreatDoorLBA
namespace Go.Proofs.YtcjllhdbepchnaaGreatDoor
open Go.RowKit Go.WideShapes Ev
set_option linter.unusedVariables false
set_option maxRecDepth 100000 in
set_option maxHeartbeats 40000000 in
theorem fitTurns_A {w : World} (h : laidMetH Tryz.prog Rows.schemaChecksRow.laid w) (t : FT) (p : PT) (n : Int) (a : Option Addr) (c : Nat) (a' : Option Addr) (c' : Nat) (hok : t.s.ok) (hlc : t.fields.length ≤ c) (hc : c ≤ 140737488351232) (hf : FieldsAt w (· < w.heap.size) t.fields a) (hp : PartAt w (· < w.heap.size) p (partCells p a' c')) (hneg : n < 0) (hk7 : p.kind = 7) (hn1 : -9223372036854775808 ≤ n) (hn2 : n ≤ 9223372036854775807) :
    Calls Tryz.prog 5 #[.agg #[.string t.s.name, .int .u8 t.s.kind, .bool t.s.down, .int .u8 t.s.nulls, .bool t.s.bnd, .bool t.s.lb, .string t.s.lm, .bool t.s.hb, .string t.s.hm, .int .i64 t.s.most, .int .i64 t.s.st, .bool t.s.sh, .bool t.s.ba, .slice a t.fields.length c], .agg #[.int .u8 p.kind, .bool p.yes, .bool p.bel, .string p.mag, .string p.raw, .slice a' p.items.length c'], .int .i64 n] w (Ret (.bool true) w) := by
  obtain ⟨_, _, ep, hk256, _⟩ := hp.open
  have HL := Lib.hid h
  have HK7 := Lib.hid hk7
  clear hk7
  have HNeg := Lib.hid hneg
  clear hneg
  have HF := Lib.hid hf
  have HP := Lib.hid hp
  have HOk := Lib.hid hok
  have HK256 := Lib.hid hk256
  obtain ⟨W0, hW0⟩ : ∃ W0, W0 = (w.alloc (.cells #[.string t.s.name, .int .u8 t.s.kind, .bool t.s.down, .int .u8 t.s.nulls, .bool t.s.bnd, .bool t.s.lb, .string t.s.lm, .bool t.s.hb, .string t.s.hm, .int .i64 t.s.most, .int .i64 t.s.st, .bool t.s.sh, .bool t.s.ba, .slice a t.fields.length c] 57)).alloc (.cells #[.int .u8 p.kind, .bool p.yes, .bool p.bel, .string p.mag, .string p.raw, .slice a' p.items.length c'] 30) := ⟨_, rfl⟩
  have HC0 := Lib.hid (show Car w W0 w.heap.size #[.string t.s.name, .int .u8 t.s.kind, .bool t.s.down, .int .u8 t.s.nulls, .bool t.s.bnd, .bool t.s.lb, .string t.s.lm, .bool t.s.hb, .string t.s.hm, .int .i64 t.s.most, .int .i64 t.s.st, .bool t.s.sh, .bool t.s.ba, .slice a t.fields.length c] #[.int .u8 p.kind, .bool p.yes, .bool p.bel, .string p.mag, .string p.raw, .slice a' p.items.length c'] by
    refine ⟨by rw [hW0]; exact below_a2 _ _ _, by rw [hW0]; simp, by rw [hW0]; exact (FBox.new w _).below (below_a1 _ _) (by simp), ?_⟩
    rw [hW0]
    have h9 := World.alloc_heap_new (w.alloc (.cells #[.string t.s.name, .int .u8 t.s.kind, .bool t.s.down, .int .u8 t.s.nulls, .bool t.s.bnd, .bool t.s.lb, .string t.s.lm, .bool t.s.hb, .string t.s.hm, .int .i64 t.s.most, .int .i64 t.s.st, .bool t.s.sh, .bool t.s.ba, .slice a t.fields.length c] 57)) (.cells #[.int .u8 p.kind, .bool p.yes, .bool p.bel, .string p.mag, .string p.raw, .slice a' p.items.length c'] 30)
    rw [World.size_alloc] at h9
    exact h9)
  have HA := Lib.hid (awake12_any h HC0.out.b)
  have HW0 := Lib.hid hW0
  rw [hW0] at HA
  clear h hf hp hok hW0 hk256 ep
  go_enter Tryz.func5, Tryz.ntmps5
  go_wp2_with fail
  refine HA.out.mono ?_
  rintro e w1 ⟨rfl, hb1⟩
  rw [← HW0.out] at hb1
  have HC1 := Lib.hid (HC0.out.step (Nat.le_refl _) hb1)
  clear hb1 HA HC0
  obtain ⟨x0, x1, x2, x3, x4, x5, x6, x7, x8, x9, x10, x11, x12, x13⟩ := HC1.out.f.cells
  obtain ⟨y0, y1, y2, y3, y4, y5⟩ := pc_cells HC1.out.p
  have HWg := Lib.hid (weight12_any p a' c' w1 ((HP.out.below HC1.out.b).wide HC1.out.b.size))
  unfold partCells at HWg
  go_wp2_with fail
  refine HWg.out.mono ?_
  rintro e w2 ⟨m0, rfl, hb2⟩
  have HC2 := Lib.hid (HC1.out.step (Nat.le_refl _) hb2)
  clear hb2 HWg HC1 x0 x1 x2 x3 x4 x5 x6 x7 x8 x9 x10 x11 x12 x13 y0 y1 y2 y3 y4 y5
  by_cases hn : 67108864 < m0
  · go_wp2_with fail
    go_ret
    exact ⟨rfl, HC2.out.b⟩
  obtain ⟨x0, x1, x2, x3, x4, x5, x6, x7, x8, x9, x10, x11, x12, x13⟩ := HC2.out.f.cells
  obtain ⟨WA, hWA⟩ : ∃ WA, WA = w2.alloc (.cells #[.string t.s.name, .int .u8 t.s.kind, .bool t.s.down, .int .u8 t.s.nulls, .bool t.s.bnd, .bool t.s.lb, .string t.s.lm, .bool t.s.hb, .string t.s.hm, .int .i64 t.s.most, .int .i64 t.s.st, .bool t.s.sh, .bool t.s.ba, .slice a t.fields.length c] 57) := ⟨_, rfl⟩
  have hbA : Below w2.heap.size w2 WA := by rw [hWA]; exact below_a1 _ _
  have hzA : WA.heap.size = w2.heap.size + 1 := by rw [hWA]; simp
  have HCA := Lib.hid (HC2.out.step (Nat.le_refl _) hbA)
  have HFA := Lib.hid (show FieldsAt WA (· < WA.heap.size) [t] (some ⟨w2.heap.size, 0, none⟩) from fields_one HOk.out hlc hc ((HF.out.below HCA.out.b).wide HCA.out.b.size) (by omega) (by rw [hWA]; exact new_field w2 w2.heap.size t a c _ rfl))
  have HWd := Lib.hid (show Calls Tryz.prog 10 #[.slice (some ⟨w2.heap.size, 0, none⟩) 1 1, .int .i64 0] WA (WidePost [t] 0 WA) from fields12_any [t] (some ⟨w2.heap.size, 0, none⟩) 1 WA (by simp) (by omega) HFA.out)
  rw [hWA] at HWd
  have HWA := Lib.hid hWA
  clear hWA hbA
  go_wp2_with fail
  refine HWd.out.mono ?_
  rintro e w3 ⟨m2, rfl, hb3, _, _, _⟩
  rw [← HWA.out] at hb3
  have HC3 := Lib.hid (HCA.out.step (Nat.le_refl _) hb3)
  clear hb3 HWd HCA HFA HC2 x0 x1 x2 x3 x4 x5 x6 x7 x8 x9 x10 x11 x12 x13 hzA HWA hn
  by_cases hn : 67108864 < m2
  · go_wp2_with fail
    go_ret
    exact ⟨rfl, HC3.out.b⟩
  obtain ⟨y0, y1, y2, y3, y4, y5⟩ := pc_cells HC3.out.p
  have HMk := Lib.hid (refMake_any p a' c' w3 ((HP.out.below HC3.out.b).wide HC3.out.b.size))
  unfold partCells at HMk
  go_wp2_with fail
  refine HMk.out.mono ?_
  rintro e w4 ⟨rfl, hb4⟩
  have HC4 := Lib.hid (HC3.out.step (Nat.le_refl _) hb4)
  clear hb4 HMk HC3 y0 y1 y2 y3 y4 y5 hn
  obtain ⟨x0, x1, x2, x3, x4, x5, x6, x7, x8, x9, x10, x11, x12, x13⟩ := HC4.out.f.cells
  have HRf := Lib.hid (refField_any t a c w4 HOk.out hlc hc ((HF.out.below HC4.out.b).wide HC4.out.b.size))
  go_wp2_with fail
  refine HRf.out.mono ?_
  rintro e w5 ⟨rfl, hb5⟩
  have HC5 := Lib.hid (HC4.out.step (Nat.le_refl _) hb5)
  clear hb5 HRf HC4 x0 x1 x2 x3 x4 x5 x6 x7 x8 x9 x10 x11 x12 x13
  by_cases hw : p.why = 0
  case neg =>
    have e1 : (p.why != 0) = true := by rw [bne_iff_ne]; exact hw
    clear hw
    go_wp2_with fail
    go_ret
    exact ⟨rfl, HC5.out.b⟩
  by_cases h0 : (fieldWhy t).1 = 0
  case neg =>
    have e1 : (p.why != 0) = false := by rw [hw]; rfl
    have e2 : ((fieldWhy t).1 != 0) = true := by rw [bne_iff_ne]; exact h0
    clear hw h0
    go_wp2_with fail
    go_ret
    exact ⟨rfl, HC5.out.b⟩
  have e1 : (p.why != 0) = false := by rw [hw]; rfl
  have e2 : ((fieldWhy t).1 != 0) = false := by rw [h0]; rfl
  have hmay : p.may = true := by
    unfold PT.why at hw
    split at hw
    · omega
    · split at hw
      · assumption
      · omega
  have hdp : p.depth ≤ 16 := by
    unfold PT.why at hw
    rw [PT.deeper_depth] at hw
    by_cases h9 : 16 < p.depth
    · simp [h9] at hw
    · omega
  have HDp := Lib.hid hdp
  have HMay := Lib.hid hmay
  have HRaw := Lib.hid (RawOk.of_may p hmay HK256.out)
  have HWhy := Lib.hid hw
  have H0 := Lib.hid h0
  clear hmay hw h0 hdp
  obtain ⟨x0, x1, x2, x3, x4, x5, x6, x7, x8, x9, x10, x11, x12, x13⟩ := HC5.out.f.cells
  have HLs := Lib.hid (fitLeast_any t a c w5 HOk.out hlc hc ((HF.out.below HC5.out.b).wide HC5.out.b.size))
  go_wp2_with fail
  refine HLs.out.mono ?_
  rintro e w6 hp6
  obtain ⟨q, lv, x, hq, rfl, hb6, hv6, hqm, hx⟩ := lst_uniform hp6
  obtain ⟨_, rfl, rfl⟩ := hq.resolve_right (fun h => h.1 H0.out)
  obtain ⟨Tl, ul, rfl⟩ := (hx.resolve_right (fun h => by have := h.1; omega)).2
  have HC6 := Lib.hid (HC5.out.step (Nat.le_refl _) hb6)
  have HQ6 := Lib.hid (ValueAt.more (S' := (· < w6.heap.size)) (fun b hb => hb.2) _ _ hv6)
  clear hb6 hv6 hp6 HLs HC5 x0 x1 x2 x3 x4 x5 x6 x7 x8 x9 x10 x11 x12 x13 hqm hx hq
  obtain ⟨x0, x1, x2, x3, x4, x5, x6, x7, x8, x9, x10, x11, x12, x13⟩ := HC6.out.f.cells
  have HFl := Lib.hid (field_any t t.least (.iface Tl ul) a c w6 (RawOk.of_may _ (FT.least_why H0.out).2 (by rw [FT.least_kind]; have := HOk.out.2.1; exact this)) HOk.out hlc hc ((HF.out.below HC6.out.b).wide HC6.out.b.size) HQ6.out)
  have hfl : fieldAns t t.least = none := by unfold fieldAns; rw [if_pos H0.out]; exact FT.least_fit t _ _ (fieldWhy_ok.1 H0.out).1
  rw [hfl] at HFl
  clear hfl
  go_wp2_with fail
  refine HFl.out.mono ?_
  rintro e w7 ⟨_, rfl, hb7, rfl⟩
  have HC7 := Lib.hid (HC6.out.step (Nat.le_refl _) hb7)
  clear hb7 HFl HC6 HQ6 x0 x1 x2 x3 x4 x5 x6 x7 x8 x9 x10 x11 x12 x13
  obtain ⟨y0, y1, y2, y3, y4, y5⟩ := pc_cells HC7.out.p
  have HMv := Lib.hid (valMake_any p a' c' w7 ((HP.out.below HC7.out.b).wide HC7.out.b.size))
  unfold partCells at HMv
  go_wp2_with fail
  refine HMv.out.mono ?_
  rintro e w8 ⟨hb8, hp8⟩
  rcases hp8 with ⟨h9, _⟩ | ⟨h9, v, rfl, hv⟩
  · exact absurd HWhy.out h9
  have HC8 := Lib.hid (HC7.out.step (Nat.le_refl _) hb8)
  have HV8 := Lib.hid (ValueAt.more (S' := (· < w8.heap.size)) (fun b hb => hb.2) _ _ hv)
  clear hb8 h9 hv HMv HC7 y0 y1 y2 y3 y4 y5
  obtain ⟨x0, x1, x2, x3, x4, x5, x6, x7, x8, x9, x10, x11, x12, x13⟩ := HC8.out.f.cells
  have z2 : (w8.alloc (.cells #[.string t.s.name, .int .u8 t.s.kind, .bool t.s.down, .int .u8 t.s.nulls, .bool t.s.bnd, .bool t.s.lb, .string t.s.lm, .bool t.s.hb, .string t.s.hm, .int .i64 t.s.most, .int .i64 t.s.st, .bool t.s.sh, .bool t.s.ba, .slice a t.fields.length c] 57)).cell? ⟨w.heap.size, 2, none⟩ = some (.bool t.s.down) := by rw [World.cell?_alloc_lt _ _ _ (by have := HC8.out.z; simp only; omega)]; exact x2
  have hneg0 := HNeg.out
  have i1 := IntWalk.i64_in (n + 1) (by omega)
  have i2 := IntWalk.i64_in (-(n + 1)) (by omega)
  clear hneg0
  obtain ⟨m, hm, hm2⟩ := turn_neg n (by have := HNeg.out; omega)
  have hneg : n < 0 := by have := HNeg.out; omega
  obtain ⟨W9, hW9⟩ : ∃ W9, W9 = w8.alloc (.cells #[.string ⟨#[111, 116, 104, 101, 114]⟩, .int .u8 t.s.kind, .bool (!t.s.down), .int .u8 ((m : Nat) : Int), .bool t.s.bnd, .bool t.s.lb, .string t.s.lm, .bool t.s.hb, .string t.s.hm, .int .i64 t.s.most, .int .i64 t.s.st, .bool t.s.sh, .bool t.s.ba, .slice a t.fields.length c] 57) := ⟨_, rfl⟩
  have hb9 : Below w8.heap.size w8 W9 := by rw [hW9]; exact below_a1 _ _
  have hz9 : W9.heap.size = w8.heap.size + 1 := by rw [hW9]; simp
  have HC9 := Lib.hid (HC8.out.step (Nat.le_refl _) hb9)
  have HV9 := Lib.hid ((HV8.out.below hb9).wide hb9.size)
  have HX9 := Lib.hid (show FBox W9 w8.heap.size #[.string ⟨#[111, 116, 104, 101, 114]⟩, .int .u8 t.s.kind, .bool (!t.s.down), .int .u8 ((m : Nat) : Int), .bool t.s.bnd, .bool t.s.lb, .string t.s.lm, .bool t.s.hb, .string t.s.hm, .int .i64 t.s.most, .int .i64 t.s.st, .bool t.s.sh, .bool t.s.ba, .slice a t.fields.length c] by rw [hW9]; exact FBox.new w8 _)
  obtain ⟨z0, z1, z2, z3, z4, z5, z6, z7, z8, z9, z10, z11, z12, z13⟩ := HC9.out.f.cells
  rw [hW9] at z0 z1 z2 z3 z4 z5 z6 z7 z8 z9 z10 z11 z12 z13
  have HF1 := Lib.hid (field_any t p v a c W9 HRaw.out HOk.out hlc hc ((HF.out.below HC9.out.b).wide HC9.out.b.size) HV9.out)
  rw [hW9] at HF1
  have HW9 := Lib.hid hW9
  clear hW9 hb9 HV8
  go_wp2_with fail
  refine HF1.out.mono ?_
  rintro e w10 ⟨ev1, rfl, hb10, he1⟩
  rw [← HW9.out] at hb10
  have hz10 := hb10.size
  have HC10 := Lib.hid (HC9.out.step (Nat.le_refl _) hb10)
  have HV10 := Lib.hid ((HV9.out.below hb10).wide hb10.size)
  have HX10 := Lib.hid (HX9.out.below hb10 (by omega))
  clear hb10 HF1 HC9 HV9 HX9 z0 z1 z2 z3 z4 z5 z6 z7 z8 z9 z10 z11 z12 z13 x0 x1 x2 x3 x4 x5 x6 x7 x8 x9 x10 x11 x12 x13 hm HW9 HC8
  have hx0 : (fieldWhy (t.turned ⟨#[111, 116, 104, 101, 114]⟩ (!t.s.down) m)).1 = 0 := FT.turned_why H0.out (by decide +kernel) hm2
  have HF2 := Lib.hid (show Calls Tryz.prog 19 #[.agg #[.string ⟨#[111, 116, 104, 101, 114]⟩, .int .u8 t.s.kind, .bool (!t.s.down), .int .u8 ((m : Nat) : Int), .bool t.s.bnd, .bool t.s.lb, .string t.s.lm, .bool t.s.hb, .string t.s.hm, .int .i64 t.s.most, .int .i64 t.s.st, .bool t.s.sh, .bool t.s.ba, .slice a t.fields.length c], v] w10 (AnsPost (fieldAns (t.turned ⟨#[111, 116, 104, 101, 114]⟩ (!t.s.down) m) p) w10) from field_any (t.turned ⟨#[111, 116, 104, 101, 114]⟩ (!t.s.down) m) p v a c w10 HRaw.out ⟨(show (ByteArray.mk #[111, 116, 104, 101, 114]).size ≤ 140737488351232 by decide), HOk.out.2.1, by show m < 256; omega, HOk.out.2.2.2⟩ hlc hc ((HF.out.below HC10.out.b).wide HC10.out.b.size) HV10.out)
  have ha1 : fieldAns t p = FT.fit t p := by unfold fieldAns; rw [if_pos H0.out]
  have ha2 : fieldAns (t.turned ⟨#[111, 116, 104, 101, 114]⟩ (!t.s.down) m) p = FT.fit (t.turned ⟨#[111, 116, 104, 101, 114]⟩ (!t.s.down) m) p := by unfold fieldAns; rw [if_pos hx0]
  rw [ha1] at he1
  rw [ha2] at HF2
  clear ha1 ha2 hx0
  obtain ⟨z0, z1, z2, z3, z4, z5, z6, z7, z8, z9, z10, z11, z12, z13⟩ := HX10.out.cells
  have hone := HV10.out.one
  go_wp2_with fail
  refine HF2.out.mono ?_
  rintro e w11 ⟨ev2, rfl, hb11, he2⟩
  have hz11 := hb11.size
  have HC11 := Lib.hid (HC10.out.step (Nat.le_refl _) hb11)
  have HV11 := Lib.hid ((HV10.out.below hb11).wide hb11.size)
  have HX11 := Lib.hid (HX10.out.below hb11 (by omega))
  clear hb11 HF2 HC10 HV10 HX10 z0 z1 z2 z3 z4 z5 z6 z7 z8 z9 z10 z11 z12 z13
  have hk0 : p.kind ≠ 0 := by have := HK7.out; omega
  have hr2 : FT.fit (t.turned ⟨#[111, 116, 104, 101, 114]⟩ (!t.s.down) m) p = FT.fit t p := FT.turned_fit p hk0
  rw [hr2] at he2
  clear hr2
  obtain ⟨r1, hr1⟩ : ∃ r, r = FT.fit t p := ⟨_, rfl⟩
  rw [← hr1] at he1 he2
  have HR1 := Lib.hid hr1.symm
  clear hr1
  obtain ⟨aL, cL, rfl, hcL1, hcL2, _⟩ := (ValueAt.tuple HK7.out).1 HV11.out
  by_cases hdeep : p.depth < 16
  · rcases r1 with _ | ⟨c1, a1, q1, y1⟩
    · obtain rfl := he1
      obtain rfl := he2
      have k3 := (HX11.out.cells).2.2.2.1
      go_wp2_with fail
      go_quiet (fail)
      obtain ⟨WD, hWD⟩ : ∃ WD, WD = w11.drewN nq := ⟨_, rfl⟩
      rw [← hWD]
      have hbD : Below w11.heap.size w11 WD := by rw [hWD]; exact below_drewN (Below.refl _ _) _
      have hzD : WD.heap.size = w11.heap.size := by rw [hWD]; rfl
      clear hWD
      obtain ⟨WO, hWO⟩ : ∃ WO, WO = WD.alloc (.cells #[.iface 109 (.agg #[.slice aL p.items.length cL])] 37) := ⟨_, rfl⟩
      have hbO : Below w11.heap.size w11 WO := by rw [hWO]; exact hbD.alloc hbD.size _
      have hzO : WO.heap.size = WD.heap.size + 1 := by rw [hWO]; simp
      have hOc : WO.cell? ⟨WD.heap.size, 0, none⟩ = some (.iface 109 (.agg #[.slice aL p.items.length cL])) := by rw [hWO]; exact (BoxAt.new WD WD.heap.size (.iface 109 (.agg #[.slice aL p.items.length cL])) _ rfl).cell
      have HCO := Lib.hid (HC11.out.step (Nat.le_refl _) hbO)
      have HVO := Lib.hid ((HV11.out.below hbO).wide hbO.size)
      have HO := Lib.hid (show Calls Tryz.prog 26 #[.slice (some ⟨WD.heap.size, 0, none⟩) 1 1] WO (OfPost [p] WO) from of_any [p] (some ⟨WD.heap.size, 0, none⟩) 1 WO (by simp) (fun h => by cases h) (fun x hx => by rw [List.mem_singleton.1 hx]; exact hdeep) ⟨WD.heap.size, 0, _, rfl, by omega, hOc, HVO.out, trivial⟩)
      rw [hWO, hzD] at HO
      have HWO := Lib.hid hWO
      clear hWO hOc hbO hbD
      go_wp2_with fail
      refine HO.out.mono ?_
      rintro e w12 ⟨aT, cT, rfl, hcT1, hcT2, hb12, hvT⟩
      rw [← HWO.out] at hb12
      have HC12 := Lib.hid (HCO.out.step (Nat.le_refl _) hb12)
      have HV12 := Lib.hid ((HVO.out.below hb12).wide hb12.size)
      have HT12 := Lib.hid (show ValueAt w12 (· < w12.heap.size) (.mk 7 false false ⟨#[]⟩ ⟨#[]⟩ [p]) (.iface 109 (.agg #[.slice aT 1 cT])) from (ValueAt.tuple rfl).2 ⟨aT, cT, rfl, hcT1, hcT2, hvT⟩)
      clear hvT
      clear hb12 HO HCO HVO HWO k3 HC11 HX11 HV11
      obtain ⟨x0, x1, x2, x3, x4, x5, x6, x7, x8, x9, x10, x11, x12, x13⟩ := HC12.out.f.cells
      obtain ⟨WQ, hWQ⟩ : ∃ WQ, WQ = w12.alloc (.cells #[.string t.s.name, .int .u8 t.s.kind, .bool t.s.down, .int .u8 t.s.nulls, .bool t.s.bnd, .bool t.s.lb, .string t.s.lm, .bool t.s.hb, .string t.s.hm, .int .i64 t.s.most, .int .i64 t.s.st, .bool t.s.sh, .bool t.s.ba, .slice a t.fields.length c] 57) := ⟨_, rfl⟩
      have hbQ : Below w12.heap.size w12 WQ := by rw [hWQ]; exact below_a1 _ _
      have hzQ : WQ.heap.size = w12.heap.size + 1 := by rw [hWQ]; simp
      have HCQ := Lib.hid (HC12.out.step (Nat.le_refl _) hbQ)
      have HVQ := Lib.hid ((HV12.out.below hbQ).wide hbQ.size)
      have HFQ := Lib.hid (show FieldsAt WQ (· < WQ.heap.size) [t] (some ⟨w12.heap.size, 0, none⟩) from fields_one HOk.out hlc hc ((HF.out.below HCQ.out.b).wide HCQ.out.b.size) (by omega) (by rw [hWQ]; exact new_field w12 w12.heap.size t a c _ rfl))
      have HK := Lib.hid (show Calls Tryz.prog 14 #[.agg #[.int .i64 1, .slice (some ⟨w12.heap.size, 0, none⟩) 1 1], (.iface 109 (.agg #[.slice aT 1 cT]))] WQ (AnsPost (schemaAns 1 [t] (.mk 7 false false ⟨#[]⟩ ⟨#[]⟩ [p])) WQ) from check12_any 1 [t] (.mk 7 false false ⟨#[]⟩ ⟨#[]⟩ [p]) (.iface 109 (.agg #[.slice aT 1 cT])) (some ⟨w12.heap.size, 0, none⟩) 1 WQ (.mk (Nat.zero_le _) (fun x hx => by rw [List.mem_singleton.1 hx]; exact HRaw.out)) (by simp) (by omega) HFQ.out ((HT12.out.below hbQ).wide hbQ.size))
      rw [hWQ] at HK
      have HWQ := Lib.hid hWQ
      clear hWQ hbQ
      go_wp2_with fail
      refine HK.out.mono ?_
      rintro e w13 ⟨ev3, rfl, hb13, he13⟩
      rw [← HWQ.out] at hb13
      have HC13 := Lib.hid (HCQ.out.step (Nat.le_refl _) hb13)
      have HV13 := Lib.hid ((HVQ.out.below hb13).wide hb13.size)
      have hs13 : (schemaWhy 1 [t]).1 = 0 := (schemaWhy_one (by omega) (by omega)).2 H0.out
      have hs14 : schemaAns 1 [t] (.mk 7 false false ⟨#[]⟩ ⟨#[]⟩ [p]) = none := by
        unfold schemaAns
        rw [if_pos hs13]
        exact (FT.fit_one t p tupS rfl _ rfl rfl).2 HR1.out
      rw [hs14] at he13
      obtain rfl := he13
      clear hb13 HK HCQ HVQ HFQ HC12 HV12 HT12 HWQ x0 x1 x2 x3 x4 x5 x6 x7 x8 x9 x10 x11 x12 x13 hs13 hs14
      go_wp2_with fail
      go_quiet (fail)
      obtain ⟨WE, hWE⟩ : ∃ WE, WE = w13.drewN nq := ⟨_, rfl⟩
      rw [← hWE]
      have hbE : Below w13.heap.size w13 WE := by rw [hWE]; exact below_drewN (Below.refl _ _) _
      clear hWE
      have HAs := Lib.hid (asList_tup aL p.items.length cL WE)
      go_wp2_with fail
      refine HAs.out.mono ?_
      rintro e w14 ⟨rfl, hb14⟩
      have HC14 := Lib.hid ((HC13.out.step (Nat.le_refl _) hbE).step (Nat.le_refl _) hb14)
      have HV14 := Lib.hid ((((HV13.out.below hbE).wide hbE.size).below hb14).wide hb14.size)
      clear hb14 HAs HC13 HV13
      go_wp2_with fail
      obtain ⟨hlen, hfit⟩ := FT.fit_tuple HK7.out HR1.out
      have HFit := Lib.hid hfit
      have HLen := Lib.hid hlen
      have HVs := Lib.hid (show ValuesAt w14 (· < w14.heap.size) p.items aL by
        obtain ⟨a9, c9, e9, _, _, h9⟩ := (ValueAt.tuple HK7.out).1 HV14.out
        injection e9 with _ e9
        simp at e9
        rw [e9.1]; exact h9)
      have hn64 : t.fields.length ≤ 64 := fieldWhy_len H0.out
      have hpl : p.items.length ≤ 64 := by omega
      have HTl := Lib.hid (fun W => tupLen_any aL p.items.length cL W (by unfold maxLen; omega))
      clear HV14 hfit hlen
      go_loopw [23] (fun i wr => ∃ k : Nat, i = .int .i64 k ∧ k ≤ p.items.length ∧ Hid (Car w wr w.heap.size #[.string t.s.name, .int .u8 t.s.kind, .bool t.s.down, .int .u8 t.s.nulls, .bool t.s.bnd, .bool t.s.lb, .string t.s.lm, .bool t.s.hb, .string t.s.hm, .int .i64 t.s.most, .int .i64 t.s.st, .bool t.s.sh, .bool t.s.ba, .slice a t.fields.length c] #[.int .u8 p.kind, .bool p.yes, .bool p.bel, .string p.mag, .string p.raw, .slice a' p.items.length c']) ∧ Hid (Below w14.heap.size w14 wr)) (fun i _ => p.items.length - (intOf i).toNat)
      case atStart => exact ⟨0, rfl, by omega, HC14, Lib.hid (Below.refl _ _)⟩
      case round =>
        clear HC14
        obtain ⟨k, rfl, hk, HCr, HBr⟩ := hrel
        have HLn := Lib.hid (HTl.out wr)
        have hpk : (p.items.length : Int) ≤ 64 := by omega
        go_wp2_with fail
        refine HLn.out.mono ?_
        rintro e w15 ⟨rfl, hb15⟩
        have HC15 := Lib.hid (HCr.out.step (Nat.le_refl _) hb15)
        have HB15 := Lib.hid (HBr.out.trans (hb15.mono HBr.out.size))
        clear hb15 HLn HCr HBr
        obtain ⟨z0, z1, z2, z3, z4, z5, z6, z7, z8, z9, z10, z11, z12, z13⟩ := HC15.out.f.cells
        by_cases hlt : k < p.items.length
        · have hlt2 : k < t.fields.length := by have := HLen.out; omega
          obtain ⟨b, o, a3, c3, rfl, hb, hca, hfa⟩ := (HF.out.below HC15.out.b).get hlt2
          obtain ⟨b', o', u, rfl, hb', hu, hva⟩ := (HVs.out.below HB15.out).get hlt
          obtain ⟨k0, k1, k2, k3, k4, k5, k6, k7, k8, k9, k10, k11, k12, k13⟩ := hca.field
          obtain ⟨_, _, ee, hok3, hfl3, hfc3, hff3⟩ := hfa.open
          obtain ⟨rfl, rfl⟩ := fieldCells_inj ee
          have hb15 : b < w15.heap.size := by have := HC15.out.b.size; omega
          have hw15 : w.heap.size < w15.heap.size := by have := HC15.out.z; omega
          have hb15' : b' < w15.heap.size := by have := HB15.out.size; omega
          have HAt := Lib.hid (fun (W : World) (hbW : Below w15.heap.size w15 W) => tupAt_any b' o' p.items.length cL k (k : Int) u W (by unfold maxLen; omega) (by have := hbW.size; omega) rfl hlt ((hbW.cell (p := ⟨b', o' + k, none⟩) (by simp only; omega)).trans hu))
          have hak : fieldAns t.fields[k] p.items[k] = none := by
            unfold fieldAns
            rw [if_pos (fieldWhy_sub H0.out (List.getElem_mem hlt2))]
            exact HFit.out k hlt2 hlt
          have HFk := Lib.hid (fun (W : World) (hbW : Below w15.heap.size w15 W) => field_any t.fields[k] p.items[k] u a3 c3 W (HRaw.out.sub (List.getElem_mem hlt)) hok3 hfl3 hfc3 (((hff3.wide HC15.out.b.size).below hbW).wide hbW.size) (((hva.wide HB15.out.size).below hbW).wide hbW.size))
          rw [hak] at HFk
          clear hff3 hfa hca ee hok3 hva hu hak
          go_wp2_with fail
          go_region_held3 (fun W => W.cell? ⟨w.heap.size, 13, none⟩ = some (.slice (some ⟨b, o, none⟩) t.fields.length c) ∧ W.cell? ⟨b, o + k * 14, none⟩ = some (.string t.fields[k].s.name) ∧ W.cell? ⟨b, o + k * 14 + 1, none⟩ = some (.int .u8 t.fields[k].s.kind) ∧ W.cell? ⟨b, o + k * 14 + 2, none⟩ = some (.bool t.fields[k].s.down) ∧ W.cell? ⟨b, o + k * 14 + 3, none⟩ = some (.int .u8 t.fields[k].s.nulls) ∧ W.cell? ⟨b, o + k * 14 + 4, none⟩ = some (.bool t.fields[k].s.bnd) ∧ W.cell? ⟨b, o + k * 14 + 5, none⟩ = some (.bool t.fields[k].s.lb) ∧ W.cell? ⟨b, o + k * 14 + 6, none⟩ = some (.string t.fields[k].s.lm) ∧ W.cell? ⟨b, o + k * 14 + 7, none⟩ = some (.bool t.fields[k].s.hb) ∧ W.cell? ⟨b, o + k * 14 + 8, none⟩ = some (.string t.fields[k].s.hm) ∧ W.cell? ⟨b, o + k * 14 + 9, none⟩ = some (.int .i64 t.fields[k].s.most) ∧ W.cell? ⟨b, o + k * 14 + 10, none⟩ = some (.int .i64 t.fields[k].s.st) ∧ W.cell? ⟨b, o + k * 14 + 11, none⟩ = some (.bool t.fields[k].s.sh) ∧ W.cell? ⟨b, o + k * 14 + 12, none⟩ = some (.bool t.fields[k].s.ba) ∧ W.cell? ⟨b, o + k * 14 + 13, none⟩ = some (.slice a3 t.fields[k].fields.length c3))
            (first | exact ⟨z13, k0, k1, k2, k3, k4, k5, k6, k7, k8, k9, k10, k11, k12, k13⟩ | exact ⟨(HB3.out.cell (by simp only; omega)).trans z13, (HB3.out.cell (by simp only; omega)).trans k0, (HB3.out.cell (by simp only; omega)).trans k1, (HB3.out.cell (by simp only; omega)).trans k2, (HB3.out.cell (by simp only; omega)).trans k3, (HB3.out.cell (by simp only; omega)).trans k4, (HB3.out.cell (by simp only; omega)).trans k5, (HB3.out.cell (by simp only; omega)).trans k6, (HB3.out.cell (by simp only; omega)).trans k7, (HB3.out.cell (by simp only; omega)).trans k8, (HB3.out.cell (by simp only; omega)).trans k9, (HB3.out.cell (by simp only; omega)).trans k10, (HB3.out.cell (by simp only; omega)).trans k11, (HB3.out.cell (by simp only; omega)).trans k12, (HB3.out.cell (by simp only; omega)).trans k13⟩ | exact ⟨(HB4.out.cell (by simp only; omega)).trans z13, (HB4.out.cell (by simp only; omega)).trans k0, (HB4.out.cell (by simp only; omega)).trans k1, (HB4.out.cell (by simp only; omega)).trans k2, (HB4.out.cell (by simp only; omega)).trans k3, (HB4.out.cell (by simp only; omega)).trans k4, (HB4.out.cell (by simp only; omega)).trans k5, (HB4.out.cell (by simp only; omega)).trans k6, (HB4.out.cell (by simp only; omega)).trans k7, (HB4.out.cell (by simp only; omega)).trans k8, (HB4.out.cell (by simp only; omega)).trans k9, (HB4.out.cell (by simp only; omega)).trans k10, (HB4.out.cell (by simp only; omega)).trans k11, (HB4.out.cell (by simp only; omega)).trans k12, (HB4.out.cell (by simp only; omega)).trans k13⟩)
            (first
              | (go_simp; go_invoke; go_simp; go_at_call 226; refine (HAt.out _ (Below.refl _ _).drew).mono ?_; rintro e w16 ⟨rfl, hb16⟩; have HB3 := Lib.hid (show Below w15.heap.size w15 w16 from (Below.refl _ _).drew.trans (hb16.mono (Nat.le_refl _))))
              | (go_at_call 19; refine (HFk.out _ HB3.out).mono ?_; rintro e w17 ⟨_, rfl, hb17, rfl⟩; have HB4 := Lib.hid (show Below w15.heap.size w15 w17 from HB3.out.trans (hb17.mono HB3.out.size))))
          have HC17 := Lib.hid (HC15.out.step (Nat.le_refl _) HB4.out)
          have HB17 := Lib.hid (HB15.out.trans (HB4.out.mono HB15.out.size))
          clear z0 z1 z2 z3 z4 z5 z6 z7 z8 z9 z10 z11 z12 z13 k0 k1 k2 k3 k4 k5 k6 k7 k8 k9 k10 k11 k12 k13
          go_wp2_with fail
          go_roundw
          case rel => exact ⟨k + 1, by go_num, by omega, HC17, HB17⟩
          case measure => simp [intOf]; omega
        · obtain rfl : k = p.items.length := by omega
          have e9 : ((p.items.length : Int) == (t.fields.length : Int)) = true := by rw [HLen.out]; simp
          have HLn := Lib.hid (fun W => HTl.out W)
          go_wp2_with fail
          go_region_held3 (fun W => W.cell? ⟨w.heap.size, 13, none⟩ = some (.slice a t.fields.length c))
            (first | exact z13 | exact (HB3.out.cell (by simp only; have := HC15.out.z; omega)).trans z13)
            (first | (go_simp; go_invoke; go_simp; go_at_call 228; refine (HLn.out _).mono ?_; rintro e w16 ⟨rfl, hb16⟩; have HB3 := Lib.hid (show Below w15.heap.size w15 w16 from (Below.refl _ _).drew.trans (hb16.mono (Nat.le_refl _)))))
          have HC16 := Lib.hid (HC15.out.step (Nat.le_refl _) HB3.out)
          go_wp2_with fail
          go_ret
          exact ⟨rfl, HC16.out.b⟩
    · obtain ⟨bhe1, _, _, rfl, _, _, _, _⟩ := he1
      obtain ⟨bhe2, _, _, rfl, _, _, _, _⟩ := he2
      have k3 := (HX11.out.cells).2.2.2.1
      go_wp2_with fail
      go_quiet (fail)
      obtain ⟨WD, hWD⟩ : ∃ WD, WD = w11.drewN nq := ⟨_, rfl⟩
      rw [← hWD]
      have hbD : Below w11.heap.size w11 WD := by rw [hWD]; exact below_drewN (Below.refl _ _) _
      have hzD : WD.heap.size = w11.heap.size := by rw [hWD]; rfl
      clear hWD
      obtain ⟨WO, hWO⟩ : ∃ WO, WO = WD.alloc (.cells #[.iface 109 (.agg #[.slice aL p.items.length cL])] 37) := ⟨_, rfl⟩
      have hbO : Below w11.heap.size w11 WO := by rw [hWO]; exact hbD.alloc hbD.size _
      have hzO : WO.heap.size = WD.heap.size + 1 := by rw [hWO]; simp
      have hOc : WO.cell? ⟨WD.heap.size, 0, none⟩ = some (.iface 109 (.agg #[.slice aL p.items.length cL])) := by rw [hWO]; exact (BoxAt.new WD WD.heap.size (.iface 109 (.agg #[.slice aL p.items.length cL])) _ rfl).cell
      have HCO := Lib.hid (HC11.out.step (Nat.le_refl _) hbO)
      have HVO := Lib.hid ((HV11.out.below hbO).wide hbO.size)
      have HO := Lib.hid (show Calls Tryz.prog 26 #[.slice (some ⟨WD.heap.size, 0, none⟩) 1 1] WO (OfPost [p] WO) from of_any [p] (some ⟨WD.heap.size, 0, none⟩) 1 WO (by simp) (fun h => by cases h) (fun x hx => by rw [List.mem_singleton.1 hx]; exact hdeep) ⟨WD.heap.size, 0, _, rfl, by omega, hOc, HVO.out, trivial⟩)
      rw [hWO, hzD] at HO
      have HWO := Lib.hid hWO
      clear hWO hOc hbO hbD
      go_wp2_with fail
      refine HO.out.mono ?_
      rintro e w12 ⟨aT, cT, rfl, hcT1, hcT2, hb12, hvT⟩
      rw [← HWO.out] at hb12
      have HC12 := Lib.hid (HCO.out.step (Nat.le_refl _) hb12)
      have HV12 := Lib.hid ((HVO.out.below hb12).wide hb12.size)
      have HT12 := Lib.hid (show ValueAt w12 (· < w12.heap.size) (.mk 7 false false ⟨#[]⟩ ⟨#[]⟩ [p]) (.iface 109 (.agg #[.slice aT 1 cT])) from (ValueAt.tuple rfl).2 ⟨aT, cT, rfl, hcT1, hcT2, hvT⟩)
      clear hvT
      clear hb12 HO HCO HVO HWO k3 HC11 HX11 HV11
      obtain ⟨x0, x1, x2, x3, x4, x5, x6, x7, x8, x9, x10, x11, x12, x13⟩ := HC12.out.f.cells
      obtain ⟨WQ, hWQ⟩ : ∃ WQ, WQ = w12.alloc (.cells #[.string t.s.name, .int .u8 t.s.kind, .bool t.s.down, .int .u8 t.s.nulls, .bool t.s.bnd, .bool t.s.lb, .string t.s.lm, .bool t.s.hb, .string t.s.hm, .int .i64 t.s.most, .int .i64 t.s.st, .bool t.s.sh, .bool t.s.ba, .slice a t.fields.length c] 57) := ⟨_, rfl⟩
      have hbQ : Below w12.heap.size w12 WQ := by rw [hWQ]; exact below_a1 _ _
      have hzQ : WQ.heap.size = w12.heap.size + 1 := by rw [hWQ]; simp
      have HCQ := Lib.hid (HC12.out.step (Nat.le_refl _) hbQ)
      have HVQ := Lib.hid ((HV12.out.below hbQ).wide hbQ.size)
      have HFQ := Lib.hid (show FieldsAt WQ (· < WQ.heap.size) [t] (some ⟨w12.heap.size, 0, none⟩) from fields_one HOk.out hlc hc ((HF.out.below HCQ.out.b).wide HCQ.out.b.size) (by omega) (by rw [hWQ]; exact new_field w12 w12.heap.size t a c _ rfl))
      have HK := Lib.hid (show Calls Tryz.prog 14 #[.agg #[.int .i64 1, .slice (some ⟨w12.heap.size, 0, none⟩) 1 1], (.iface 109 (.agg #[.slice aT 1 cT]))] WQ (AnsPost (schemaAns 1 [t] (.mk 7 false false ⟨#[]⟩ ⟨#[]⟩ [p])) WQ) from check12_any 1 [t] (.mk 7 false false ⟨#[]⟩ ⟨#[]⟩ [p]) (.iface 109 (.agg #[.slice aT 1 cT])) (some ⟨w12.heap.size, 0, none⟩) 1 WQ (.mk (Nat.zero_le _) (fun x hx => by rw [List.mem_singleton.1 hx]; exact HRaw.out)) (by simp) (by omega) HFQ.out ((HT12.out.below hbQ).wide hbQ.size))
      rw [hWQ] at HK
      have HWQ := Lib.hid hWQ
      clear hWQ hbQ
      go_wp2_with fail
      refine HK.out.mono ?_
      rintro e w13 ⟨ev3, rfl, hb13, he13⟩
      rw [← HWQ.out] at hb13
      have HC13 := Lib.hid (HCQ.out.step (Nat.le_refl _) hb13)
      have HV13 := Lib.hid ((HVQ.out.below hb13).wide hb13.size)
      have hs13 : (schemaWhy 1 [t]).1 = 0 := (schemaWhy_one (by omega) (by omega)).2 H0.out
      obtain ⟨b13, hev⟩ : ∃ b, ev3 = .iface 91 (.pointer (some ⟨b, 0, none⟩)) := by
        have hne : schemaAns 1 [t] (.mk 7 false false ⟨#[]⟩ ⟨#[]⟩ [p]) ≠ none := by
          unfold schemaAns
          rw [if_pos hs13]
          intro h9
          have h8 := (FT.fit_one t p tupS rfl _ rfl rfl).1 h9
          rw [HR1.out] at h8
          cases h8
        revert he13 hne
        generalize schemaAns 1 [t] (.mk 7 false false ⟨#[]⟩ ⟨#[]⟩ [p]) = rr
        intro he13 hne
        rcases rr with _ | ⟨cc, aa, qq, yy⟩
        · exact absurd rfl hne
        · obtain ⟨b, _, _, e, _⟩ := he13
          exact ⟨b, e⟩
      subst hev
      clear he13 hb13 HK HCQ HVQ HFQ HC12 HV12 HT12 HWQ x0 x1 x2 x3 x4 x5 x6 x7 x8 x9 x10 x11 x12 x13 hs13
      go_wp2_with fail
      go_quiet (fail)
      obtain ⟨WE, hWE⟩ : ∃ WE, WE = w13.drewN nq := ⟨_, rfl⟩
      rw [← hWE]
      have hbE : Below w13.heap.size w13 WE := by rw [hWE]; exact below_drewN (Below.refl _ _) _
      clear hWE
      have HAs := Lib.hid (asList_tup aL p.items.length cL WE)
      go_wp2_with fail
      refine HAs.out.mono ?_
      rintro e w14 ⟨rfl, hb14⟩
      have HC14 := Lib.hid ((HC13.out.step (Nat.le_refl _) hbE).step (Nat.le_refl _) hb14)
      have HV14 := Lib.hid ((((HV13.out.below hbE).wide hbE.size).below hb14).wide hb14.size)
      clear hb14 HAs HC13 HV13
      go_wp2_with fail
      go_ret
      exact ⟨rfl, HC14.out.b⟩
  · rcases r1 with _ | ⟨c1, a1, q1, y1⟩
    · obtain rfl := he1
      obtain rfl := he2
      have k3 := (HX11.out.cells).2.2.2.1
      go_wp2_with fail
      go_quiet (fail)
      obtain ⟨WD, hWD⟩ : ∃ WD, WD = w11.drewN nq := ⟨_, rfl⟩
      rw [← hWD]
      have hbD : Below w11.heap.size w11 WD := by rw [hWD]; exact below_drewN (Below.refl _ _) _
      have hzD : WD.heap.size = w11.heap.size := by rw [hWD]; rfl
      clear hWD
      obtain ⟨WO, hWO⟩ : ∃ WO, WO = WD.alloc (.cells #[.iface 109 (.agg #[.slice aL p.items.length cL])] 37) := ⟨_, rfl⟩
      have hbO : Below w11.heap.size w11 WO := by rw [hWO]; exact hbD.alloc hbD.size _
      have hzO : WO.heap.size = WD.heap.size + 1 := by rw [hWO]; simp
      have hOc : WO.cell? ⟨WD.heap.size, 0, none⟩ = some (.iface 109 (.agg #[.slice aL p.items.length cL])) := by rw [hWO]; exact (BoxAt.new WD WD.heap.size (.iface 109 (.agg #[.slice aL p.items.length cL])) _ rfl).cell
      have HCO := Lib.hid (HC11.out.step (Nat.le_refl _) hbO)
      have HVO := Lib.hid ((HV11.out.below hbO).wide hbO.size)
      have HO := Lib.hid (of_deep p WD.heap.size (.iface 109 (.agg #[.slice aL p.items.length cL])) WO hdeep (by have := HDp.out; omega) (by omega) hOc HVO.out)
      rw [hWO, hzD] at HO
      have HWO := Lib.hid hWO
      clear hWO hOc hbO hbD
      go_wp2_with fail
      refine HO.out.mono ?_
      rintro e w12 ⟨rfl, hb12⟩
      rw [← HWO.out] at hb12
      have HC12 := Lib.hid (HCO.out.step (Nat.le_refl _) hb12)
      have HV12 := Lib.hid ((HVO.out.below hb12).wide hb12.size)
      have HT12 := Lib.hid (show ValueAt w12 (· < w12.heap.size) zeroPart .nilIface from (ValueAt.null rfl).2 rfl)
      clear hb12 HO HCO HVO HWO k3 HC11 HX11 HV11
      obtain ⟨x0, x1, x2, x3, x4, x5, x6, x7, x8, x9, x10, x11, x12, x13⟩ := HC12.out.f.cells
      obtain ⟨WQ, hWQ⟩ : ∃ WQ, WQ = w12.alloc (.cells #[.string t.s.name, .int .u8 t.s.kind, .bool t.s.down, .int .u8 t.s.nulls, .bool t.s.bnd, .bool t.s.lb, .string t.s.lm, .bool t.s.hb, .string t.s.hm, .int .i64 t.s.most, .int .i64 t.s.st, .bool t.s.sh, .bool t.s.ba, .slice a t.fields.length c] 57) := ⟨_, rfl⟩
      have hbQ : Below w12.heap.size w12 WQ := by rw [hWQ]; exact below_a1 _ _
      have hzQ : WQ.heap.size = w12.heap.size + 1 := by rw [hWQ]; simp
      have HCQ := Lib.hid (HC12.out.step (Nat.le_refl _) hbQ)
      have HVQ := Lib.hid ((HV12.out.below hbQ).wide hbQ.size)
      have HFQ := Lib.hid (show FieldsAt WQ (· < WQ.heap.size) [t] (some ⟨w12.heap.size, 0, none⟩) from fields_one HOk.out hlc hc ((HF.out.below HCQ.out.b).wide HCQ.out.b.size) (by omega) (by rw [hWQ]; exact new_field w12 w12.heap.size t a c _ rfl))
      have HK := Lib.hid (show Calls Tryz.prog 14 #[.agg #[.int .i64 1, .slice (some ⟨w12.heap.size, 0, none⟩) 1 1], .nilIface] WQ (AnsPost (schemaAns 1 [t] zeroPart) WQ) from check12_any 1 [t] zeroPart .nilIface (some ⟨w12.heap.size, 0, none⟩) 1 WQ (RawOk.of_may zeroPart rfl (by decide)) (by simp) (by omega) HFQ.out ((HT12.out.below hbQ).wide hbQ.size))
      rw [hWQ] at HK
      have HWQ := Lib.hid hWQ
      clear hWQ hbQ
      go_wp2_with fail
      refine HK.out.mono ?_
      rintro e w13 ⟨ev3, rfl, hb13, he13⟩
      rw [← HWQ.out] at hb13
      have HC13 := Lib.hid (HCQ.out.step (Nat.le_refl _) hb13)
      have HV13 := Lib.hid ((HVQ.out.below hb13).wide hb13.size)
      have hs13 : (schemaWhy 1 [t]).1 = 0 := (schemaWhy_one (by omega) (by omega)).2 H0.out
      clear hb13 HK HCQ HVQ HFQ HC12 HV12 HT12 HWQ x0 x1 x2 x3 x4 x5 x6 x7 x8 x9 x10 x11 x12 x13 hs13 he13
      go_wp2_with fail
      go_quiet (fail)
      obtain ⟨WE, hWE⟩ : ∃ WE, WE = w13.drewN nq := ⟨_, rfl⟩
      rw [← hWE]
      have hbE : Below w13.heap.size w13 WE := by rw [hWE]; exact below_drewN (Below.refl _ _) _
      clear hWE
      have HAs := Lib.hid (asList_tup aL p.items.length cL WE)
      go_wp2_with fail
      refine HAs.out.mono ?_
      rintro e w14 ⟨rfl, hb14⟩
      have HC14 := Lib.hid ((HC13.out.step (Nat.le_refl _) hbE).step (Nat.le_refl _) hb14)
      have HV14 := Lib.hid ((((HV13.out.below hbE).wide hbE.size).below hb14).wide hb14.size)
      clear hb14 HAs HC13 HV13
      go_wp2_with fail
      obtain ⟨hlen, hfit⟩ := FT.fit_tuple HK7.out HR1.out
      have HFit := Lib.hid hfit
      have HLen := Lib.hid hlen
      have HVs := Lib.hid (show ValuesAt w14 (· < w14.heap.size) p.items aL by
        obtain ⟨a9, c9, e9, _, _, h9⟩ := (ValueAt.tuple HK7.out).1 HV14.out
        injection e9 with _ e9
        simp at e9
        rw [e9.1]; exact h9)
      have hn64 : t.fields.length ≤ 64 := fieldWhy_len H0.out
      have hpl : p.items.length ≤ 64 := by omega
      have HTl := Lib.hid (fun W => tupLen_any aL p.items.length cL W (by unfold maxLen; omega))
      clear HV14 hfit hlen
      go_loopw [23] (fun i wr => ∃ k : Nat, i = .int .i64 k ∧ k ≤ p.items.length ∧ Hid (Car w wr w.heap.size #[.string t.s.name, .int .u8 t.s.kind, .bool t.s.down, .int .u8 t.s.nulls, .bool t.s.bnd, .bool t.s.lb, .string t.s.lm, .bool t.s.hb, .string t.s.hm, .int .i64 t.s.most, .int .i64 t.s.st, .bool t.s.sh, .bool t.s.ba, .slice a t.fields.length c] #[.int .u8 p.kind, .bool p.yes, .bool p.bel, .string p.mag, .string p.raw, .slice a' p.items.length c']) ∧ Hid (Below w14.heap.size w14 wr)) (fun i _ => p.items.length - (intOf i).toNat)
      case atStart => exact ⟨0, rfl, by omega, HC14, Lib.hid (Below.refl _ _)⟩
      case round =>
        clear HC14
        obtain ⟨k, rfl, hk, HCr, HBr⟩ := hrel
        have HLn := Lib.hid (HTl.out wr)
        have hpk : (p.items.length : Int) ≤ 64 := by omega
        go_wp2_with fail
        refine HLn.out.mono ?_
        rintro e w15 ⟨rfl, hb15⟩
        have HC15 := Lib.hid (HCr.out.step (Nat.le_refl _) hb15)
        have HB15 := Lib.hid (HBr.out.trans (hb15.mono HBr.out.size))
        clear hb15 HLn HCr HBr
        obtain ⟨z0, z1, z2, z3, z4, z5, z6, z7, z8, z9, z10, z11, z12, z13⟩ := HC15.out.f.cells
        by_cases hlt : k < p.items.length
        · have hlt2 : k < t.fields.length := by have := HLen.out; omega
          obtain ⟨b, o, a3, c3, rfl, hb, hca, hfa⟩ := (HF.out.below HC15.out.b).get hlt2
          obtain ⟨b', o', u, rfl, hb', hu, hva⟩ := (HVs.out.below HB15.out).get hlt
          obtain ⟨k0, k1, k2, k3, k4, k5, k6, k7, k8, k9, k10, k11, k12, k13⟩ := hca.field
          obtain ⟨_, _, ee, hok3, hfl3, hfc3, hff3⟩ := hfa.open
          obtain ⟨rfl, rfl⟩ := fieldCells_inj ee
          have hb15 : b < w15.heap.size := by have := HC15.out.b.size; omega
          have hw15 : w.heap.size < w15.heap.size := by have := HC15.out.z; omega
          have hb15' : b' < w15.heap.size := by have := HB15.out.size; omega
          have HAt := Lib.hid (fun (W : World) (hbW : Below w15.heap.size w15 W) => tupAt_any b' o' p.items.length cL k (k : Int) u W (by unfold maxLen; omega) (by have := hbW.size; omega) rfl hlt ((hbW.cell (p := ⟨b', o' + k, none⟩) (by simp only; omega)).trans hu))
          have hak : fieldAns t.fields[k] p.items[k] = none := by
            unfold fieldAns
            rw [if_pos (fieldWhy_sub H0.out (List.getElem_mem hlt2))]
            exact HFit.out k hlt2 hlt
          have HFk := Lib.hid (fun (W : World) (hbW : Below w15.heap.size w15 W) => field_any t.fields[k] p.items[k] u a3 c3 W (HRaw.out.sub (List.getElem_mem hlt)) hok3 hfl3 hfc3 (((hff3.wide HC15.out.b.size).below hbW).wide hbW.size) (((hva.wide HB15.out.size).below hbW).wide hbW.size))
          rw [hak] at HFk
          clear hff3 hfa hca ee hok3 hva hu hak
          go_wp2_with fail
          go_region_held3 (fun W => W.cell? ⟨w.heap.size, 13, none⟩ = some (.slice (some ⟨b, o, none⟩) t.fields.length c) ∧ W.cell? ⟨b, o + k * 14, none⟩ = some (.string t.fields[k].s.name) ∧ W.cell? ⟨b, o + k * 14 + 1, none⟩ = some (.int .u8 t.fields[k].s.kind) ∧ W.cell? ⟨b, o + k * 14 + 2, none⟩ = some (.bool t.fields[k].s.down) ∧ W.cell? ⟨b, o + k * 14 + 3, none⟩ = some (.int .u8 t.fields[k].s.nulls) ∧ W.cell? ⟨b, o + k * 14 + 4, none⟩ = some (.bool t.fields[k].s.bnd) ∧ W.cell? ⟨b, o + k * 14 + 5, none⟩ = some (.bool t.fields[k].s.lb) ∧ W.cell? ⟨b, o + k * 14 + 6, none⟩ = some (.string t.fields[k].s.lm) ∧ W.cell? ⟨b, o + k * 14 + 7, none⟩ = some (.bool t.fields[k].s.hb) ∧ W.cell? ⟨b, o + k * 14 + 8, none⟩ = some (.string t.fields[k].s.hm) ∧ W.cell? ⟨b, o + k * 14 + 9, none⟩ = some (.int .i64 t.fields[k].s.most) ∧ W.cell? ⟨b, o + k * 14 + 10, none⟩ = some (.int .i64 t.fields[k].s.st) ∧ W.cell? ⟨b, o + k * 14 + 11, none⟩ = some (.bool t.fields[k].s.sh) ∧ W.cell? ⟨b, o + k * 14 + 12, none⟩ = some (.bool t.fields[k].s.ba) ∧ W.cell? ⟨b, o + k * 14 + 13, none⟩ = some (.slice a3 t.fields[k].fields.length c3))
            (first | exact ⟨z13, k0, k1, k2, k3, k4, k5, k6, k7, k8, k9, k10, k11, k12, k13⟩ | exact ⟨(HB3.out.cell (by simp only; omega)).trans z13, (HB3.out.cell (by simp only; omega)).trans k0, (HB3.out.cell (by simp only; omega)).trans k1, (HB3.out.cell (by simp only; omega)).trans k2, (HB3.out.cell (by simp only; omega)).trans k3, (HB3.out.cell (by simp only; omega)).trans k4, (HB3.out.cell (by simp only; omega)).trans k5, (HB3.out.cell (by simp only; omega)).trans k6, (HB3.out.cell (by simp only; omega)).trans k7, (HB3.out.cell (by simp only; omega)).trans k8, (HB3.out.cell (by simp only; omega)).trans k9, (HB3.out.cell (by simp only; omega)).trans k10, (HB3.out.cell (by simp only; omega)).trans k11, (HB3.out.cell (by simp only; omega)).trans k12, (HB3.out.cell (by simp only; omega)).trans k13⟩ | exact ⟨(HB4.out.cell (by simp only; omega)).trans z13, (HB4.out.cell (by simp only; omega)).trans k0, (HB4.out.cell (by simp only; omega)).trans k1, (HB4.out.cell (by simp only; omega)).trans k2, (HB4.out.cell (by simp only; omega)).trans k3, (HB4.out.cell (by simp only; omega)).trans k4, (HB4.out.cell (by simp only; omega)).trans k5, (HB4.out.cell (by simp only; omega)).trans k6, (HB4.out.cell (by simp only; omega)).trans k7, (HB4.out.cell (by simp only; omega)).trans k8, (HB4.out.cell (by simp only; omega)).trans k9, (HB4.out.cell (by simp only; omega)).trans k10, (HB4.out.cell (by simp only; omega)).trans k11, (HB4.out.cell (by simp only; omega)).trans k12, (HB4.out.cell (by simp only; omega)).trans k13⟩)
            (first
              | (go_simp; go_invoke; go_simp; go_at_call 226; refine (HAt.out _ (Below.refl _ _).drew).mono ?_; rintro e w16 ⟨rfl, hb16⟩; have HB3 := Lib.hid (show Below w15.heap.size w15 w16 from (Below.refl _ _).drew.trans (hb16.mono (Nat.le_refl _))))
              | (go_at_call 19; refine (HFk.out _ HB3.out).mono ?_; rintro e w17 ⟨_, rfl, hb17, rfl⟩; have HB4 := Lib.hid (show Below w15.heap.size w15 w17 from HB3.out.trans (hb17.mono HB3.out.size))))
          have HC17 := Lib.hid (HC15.out.step (Nat.le_refl _) HB4.out)
          have HB17 := Lib.hid (HB15.out.trans (HB4.out.mono HB15.out.size))
          clear z0 z1 z2 z3 z4 z5 z6 z7 z8 z9 z10 z11 z12 z13 k0 k1 k2 k3 k4 k5 k6 k7 k8 k9 k10 k11 k12 k13
          go_wp2_with fail
          go_roundw
          case rel => exact ⟨k + 1, by go_num, by omega, HC17, HB17⟩
          case measure => simp [intOf]; omega
        · obtain rfl : k = p.items.length := by omega
          have e9 : ((p.items.length : Int) == (t.fields.length : Int)) = true := by rw [HLen.out]; simp
          have HLn := Lib.hid (fun W => HTl.out W)
          go_wp2_with fail
          go_region_held3 (fun W => W.cell? ⟨w.heap.size, 13, none⟩ = some (.slice a t.fields.length c))
            (first | exact z13 | exact (HB3.out.cell (by simp only; have := HC15.out.z; omega)).trans z13)
            (first | (go_simp; go_invoke; go_simp; go_at_call 228; refine (HLn.out _).mono ?_; rintro e w16 ⟨rfl, hb16⟩; have HB3 := Lib.hid (show Below w15.heap.size w15 w16 from (Below.refl _ _).drew.trans (hb16.mono (Nat.le_refl _)))))
          have HC16 := Lib.hid (HC15.out.step (Nat.le_refl _) HB3.out)
          go_wp2_with fail
          go_ret
          exact ⟨rfl, HC16.out.b⟩
    · obtain ⟨bhe1, _, _, rfl, _, _, _, _⟩ := he1
      obtain ⟨bhe2, _, _, rfl, _, _, _, _⟩ := he2
      have k3 := (HX11.out.cells).2.2.2.1
      go_wp2_with fail
      go_quiet (fail)
      obtain ⟨WD, hWD⟩ : ∃ WD, WD = w11.drewN nq := ⟨_, rfl⟩
      rw [← hWD]
      have hbD : Below w11.heap.size w11 WD := by rw [hWD]; exact below_drewN (Below.refl _ _) _
      have hzD : WD.heap.size = w11.heap.size := by rw [hWD]; rfl
      clear hWD
      obtain ⟨WO, hWO⟩ : ∃ WO, WO = WD.alloc (.cells #[.iface 109 (.agg #[.slice aL p.items.length cL])] 37) := ⟨_, rfl⟩
      have hbO : Below w11.heap.size w11 WO := by rw [hWO]; exact hbD.alloc hbD.size _
      have hzO : WO.heap.size = WD.heap.size + 1 := by rw [hWO]; simp
      have hOc : WO.cell? ⟨WD.heap.size, 0, none⟩ = some (.iface 109 (.agg #[.slice aL p.items.length cL])) := by rw [hWO]; exact (BoxAt.new WD WD.heap.size (.iface 109 (.agg #[.slice aL p.items.length cL])) _ rfl).cell
      have HCO := Lib.hid (HC11.out.step (Nat.le_refl _) hbO)
      have HVO := Lib.hid ((HV11.out.below hbO).wide hbO.size)
      have HO := Lib.hid (of_deep p WD.heap.size (.iface 109 (.agg #[.slice aL p.items.length cL])) WO hdeep (by have := HDp.out; omega) (by omega) hOc HVO.out)
      rw [hWO, hzD] at HO
      have HWO := Lib.hid hWO
      clear hWO hOc hbO hbD
      go_wp2_with fail
      refine HO.out.mono ?_
      rintro e w12 ⟨rfl, hb12⟩
      rw [← HWO.out] at hb12
      have HC12 := Lib.hid (HCO.out.step (Nat.le_refl _) hb12)
      have HV12 := Lib.hid ((HVO.out.below hb12).wide hb12.size)
      have HT12 := Lib.hid (show ValueAt w12 (· < w12.heap.size) zeroPart .nilIface from (ValueAt.null rfl).2 rfl)
      clear hb12 HO HCO HVO HWO k3 HC11 HX11 HV11
      obtain ⟨x0, x1, x2, x3, x4, x5, x6, x7, x8, x9, x10, x11, x12, x13⟩ := HC12.out.f.cells
      obtain ⟨WQ, hWQ⟩ : ∃ WQ, WQ = w12.alloc (.cells #[.string t.s.name, .int .u8 t.s.kind, .bool t.s.down, .int .u8 t.s.nulls, .bool t.s.bnd, .bool t.s.lb, .string t.s.lm, .bool t.s.hb, .string t.s.hm, .int .i64 t.s.most, .int .i64 t.s.st, .bool t.s.sh, .bool t.s.ba, .slice a t.fields.length c] 57) := ⟨_, rfl⟩
      have hbQ : Below w12.heap.size w12 WQ := by rw [hWQ]; exact below_a1 _ _
      have hzQ : WQ.heap.size = w12.heap.size + 1 := by rw [hWQ]; simp
      have HCQ := Lib.hid (HC12.out.step (Nat.le_refl _) hbQ)
      have HVQ := Lib.hid ((HV12.out.below hbQ).wide hbQ.size)
      have HFQ := Lib.hid (show FieldsAt WQ (· < WQ.heap.size) [t] (some ⟨w12.heap.size, 0, none⟩) from fields_one HOk.out hlc hc ((HF.out.below HCQ.out.b).wide HCQ.out.b.size) (by omega) (by rw [hWQ]; exact new_field w12 w12.heap.size t a c _ rfl))
      have HK := Lib.hid (show Calls Tryz.prog 14 #[.agg #[.int .i64 1, .slice (some ⟨w12.heap.size, 0, none⟩) 1 1], .nilIface] WQ (AnsPost (schemaAns 1 [t] zeroPart) WQ) from check12_any 1 [t] zeroPart .nilIface (some ⟨w12.heap.size, 0, none⟩) 1 WQ (RawOk.of_may zeroPart rfl (by decide)) (by simp) (by omega) HFQ.out ((HT12.out.below hbQ).wide hbQ.size))
      rw [hWQ] at HK
      have HWQ := Lib.hid hWQ
      clear hWQ hbQ
      go_wp2_with fail
      refine HK.out.mono ?_
      rintro e w13 ⟨ev3, rfl, hb13, he13⟩
      rw [← HWQ.out] at hb13
      have HC13 := Lib.hid (HCQ.out.step (Nat.le_refl _) hb13)
      have HV13 := Lib.hid ((HVQ.out.below hb13).wide hb13.size)
      have hs13 : (schemaWhy 1 [t]).1 = 0 := (schemaWhy_one (by omega) (by omega)).2 H0.out
      clear hb13 HK HCQ HVQ HFQ HC12 HV12 HT12 HWQ x0 x1 x2 x3 x4 x5 x6 x7 x8 x9 x10 x11 x12 x13 hs13 he13
      go_wp2_with fail
      go_quiet (fail)
      obtain ⟨WE, hWE⟩ : ∃ WE, WE = w13.drewN nq := ⟨_, rfl⟩
      rw [← hWE]
      have hbE : Below w13.heap.size w13 WE := by rw [hWE]; exact below_drewN (Below.refl _ _) _
      clear hWE
      have HAs := Lib.hid (asList_tup aL p.items.length cL WE)
      go_wp2_with fail
      refine HAs.out.mono ?_
      rintro e w14 ⟨rfl, hb14⟩
      have HC14 := Lib.hid ((HC13.out.step (Nat.le_refl _) hbE).step (Nat.le_refl _) hb14)
      have HV14 := Lib.hid ((((HV13.out.below hbE).wide hbE.size).below hb14).wide hb14.size)
      clear hb14 HAs HC13 HV13
      go_wp2_with fail
      go_ret
      exact ⟨rfl, HC14.out.b⟩
end Go.Proofs.YtcjllhdbepchnaaGreatDoor
