/-
  The law FitFields, walked.
-/
import Derived.Test.YtcjllhdbepchnaaGreatDoorLAH
import Derived.Test.YtcjllhdbepchnaaGreatDoorLZ
import Derived.Test.YtcjllhdbepchnaaGreatDoorLAO
import Derived.Test.YtcjllhdbepchnaaGreatDoorLAP
import Derived.Test.YtcjllhdbepchnaaGreatDoorLAM
import Derived.Test.YtcjllhdbepchnaaGreatDoorLAQ
namespace Go.Proofs.YtcjllhdbepchnaaGreatDoor
open Go.RowKit Go.WideShapes Ev
set_option linter.unusedVariables false
/-- A field in a row that was lent. -/
theorem lent_one {W : World} {t : FT} {g hi B : Nat} (h : LentAt W [t] g hi) (hB : hi ≤ B) : ∃ a c, W.cell? ⟨g, 0, none⟩ = some (.string t.s.name) ∧ CellsAt W g 0 (fieldCells t a c) ∧ t.s.ok ∧ t.fields.length ≤ c ∧ c ≤ 140737488351232 ∧ FieldsAt W (· < B) t.fields a := by
  obtain ⟨b, o, a, c, e, hb, hc, hf⟩ := (h.fields hB).get (i := 0) (by simp)
  injection e with e
  injection e with e1 e2
  subst e1; subst e2
  obtain ⟨_, _, ee, hok, hl, hcc, hff⟩ := hf.open
  obtain ⟨rfl, rfl⟩ := fieldCells_inj ee
  simp only [Nat.zero_mul, Nat.add_zero, List.getElem_cons_zero] at hc hok hl hff
  exact ⟨a, c, hc 0 _ rfl, hc, hok, hl, hcc, hff⟩
set_option maxRecDepth 100000 in
set_option maxHeartbeats 8000000 in
theorem fitFields_any {w : World} (h : laidMetH Tryz.prog Rows.schemaChecksRow.laid w) (t : FT) (p : PT) (a : Option Addr) (c : Nat) (a' : Option Addr) (c' : Nat) (hok : t.s.ok) (hlc : t.fields.length ≤ c) (hc : c ≤ 140737488351232) (hf : FieldsAt w (· < w.heap.size) t.fields a) (hp : PartAt w (· < w.heap.size) p (partCells p a' c')) :
    Calls Tryz.prog 4 #[.agg #[.string t.s.name, .int .u8 t.s.kind, .bool t.s.down, .int .u8 t.s.nulls, .bool t.s.bnd, .bool t.s.lb, .string t.s.lm, .bool t.s.hb, .string t.s.hm, .int .i64 t.s.most, .int .i64 t.s.st, .bool t.s.sh, .bool t.s.ba, .slice a t.fields.length c], .agg #[.int .u8 p.kind, .bool p.yes, .bool p.bel, .string p.mag, .string p.raw, .slice a' p.items.length c']] w (Ret (.bool true) w) := by
  obtain ⟨_, _, ep, hk256, _⟩ := hp.open
  have HL := Lib.hid h
  have HF := Lib.hid hf
  have HP := Lib.hid hp
  have HOk := Lib.hid hok
  have HK256 := Lib.hid hk256
  obtain ⟨W0, hW0⟩ : ∃ W0, W0 = (w.alloc (.cells #[.string t.s.name, .int .u8 t.s.kind, .bool t.s.down, .int .u8 t.s.nulls, .bool t.s.bnd, .bool t.s.lb, .string t.s.lm, .bool t.s.hb, .string t.s.hm, .int .i64 t.s.most, .int .i64 t.s.st, .bool t.s.sh, .bool t.s.ba, .slice a t.fields.length c] 57)).alloc (.cells #[.int .u8 p.kind, .bool p.yes, .bool p.bel, .string p.mag, .string p.raw, .slice a' p.items.length c'] 30) := ⟨_, rfl⟩
  have HC0 := Lib.hid (show Car w W0 w.heap.size #[.string t.s.name, .int .u8 t.s.kind, .bool t.s.down, .int .u8 t.s.nulls, .bool t.s.bnd, .bool t.s.lb, .string t.s.lm, .bool t.s.hb, .string t.s.hm, .int .i64 t.s.most, .int .i64 t.s.st, .bool t.s.sh, .bool t.s.ba, .slice a t.fields.length c] #[.int .u8 p.kind, .bool p.yes, .bool p.bel, .string p.mag, .string p.raw, .slice a' p.items.length c'] by
    refine ⟨by rw [hW0]; exact below_a2 _ _ _, by rw [hW0]; simp, by rw [hW0]; exact (FBox.new w _).below (below_a1 _ _) (by simp), ?_⟩
    rw [hW0]
    have h9 := World.alloc_heap_new (w.alloc (.cells #[.string t.s.name, .int .u8 t.s.kind, .bool t.s.down, .int .u8 t.s.nulls, .bool t.s.bnd, .bool t.s.lb, .string t.s.lm, .bool t.s.hb, .string t.s.hm, .int .i64 t.s.most, .int .i64 t.s.st, .bool t.s.sh, .bool t.s.ba, .slice a t.fields.length c] 57)) (.cells #[.int .u8 p.kind, .bool p.yes, .bool p.bel, .string p.mag, .string p.raw, .slice a' p.items.length c'] 30)
    rw [World.size_alloc] at h9
    exact h9)
  have HA := Lib.hid (awake12_any h HC0.out.b)
  have HW0 := Lib.hid hW0
  rw [hW0] at HA
  clear h hf hp hok hW0 hk256 ep
  go_enter Tryz.func4, Tryz.ntmps4
  go_wp2_with fail
  refine HA.out.mono ?_
  rintro e w1 ⟨rfl, hb1⟩
  rw [← HW0.out] at hb1
  have HC1 := Lib.hid (HC0.out.step (Nat.le_refl _) hb1)
  clear hb1 HA HC0
  obtain ⟨x0, x1, x2, x3, x4, x5, x6, x7, x8, x9, x10, x11, x12, x13⟩ := HC1.out.f.cells
  obtain ⟨y0, y1, y2, y3, y4, y5⟩ := pc_cells HC1.out.p
  have HWg := Lib.hid (weight12_any p a' c' w1 ((HP.out.below HC1.out.b).wide HC1.out.b.size))
  unfold partCells at HWg
  go_wp2_with fail
  refine HWg.out.mono ?_
  rintro e w2 ⟨n, rfl, hb2⟩
  have HC2 := Lib.hid (HC1.out.step (Nat.le_refl _) hb2)
  clear hb2 HWg HC1 x0 x1 x2 x3 x4 x5 x6 x7 x8 x9 x10 x11 x12 x13 y0 y1 y2 y3 y4 y5
  by_cases hn : 67108864 < n
  · go_wp2_with fail
    go_ret
    exact ⟨rfl, HC2.out.b⟩
  obtain ⟨x0, x1, x2, x3, x4, x5, x6, x7, x8, x9, x10, x11, x12, x13⟩ := HC2.out.f.cells
  obtain ⟨WA, hWA⟩ : ∃ WA, WA = w2.alloc (.cells #[.string t.s.name, .int .u8 t.s.kind, .bool t.s.down, .int .u8 t.s.nulls, .bool t.s.bnd, .bool t.s.lb, .string t.s.lm, .bool t.s.hb, .string t.s.hm, .int .i64 t.s.most, .int .i64 t.s.st, .bool t.s.sh, .bool t.s.ba, .slice a t.fields.length c] 57) := ⟨_, rfl⟩
  have hbA : Below w2.heap.size w2 WA := by rw [hWA]; exact below_a1 _ _
  have hzA : WA.heap.size = w2.heap.size + 1 := by rw [hWA]; simp
  have HCA := Lib.hid (HC2.out.step (Nat.le_refl _) hbA)
  have HFA := Lib.hid (show FieldsAt WA (· < WA.heap.size) [t] (some ⟨w2.heap.size, 0, none⟩) from fields_one HOk.out hlc hc ((HF.out.below HCA.out.b).wide HCA.out.b.size) (by omega) (by rw [hWA]; exact new_field w2 w2.heap.size t a c _ rfl))
  have HWd := Lib.hid (show Calls Tryz.prog 10 #[.slice (some ⟨w2.heap.size, 0, none⟩) 1 1, .int .i64 0] WA (WidePost [t] 0 WA) from fields12_any [t] (some ⟨w2.heap.size, 0, none⟩) 1 WA (by simp) (by omega) HFA.out)
  rw [hWA] at HWd
  have HWA := Lib.hid hWA
  clear hWA hbA
  go_wp2_with fail
  refine HWd.out.mono ?_
  rintro e w3 ⟨n2, rfl, hb3, _, _, hn2⟩
  rw [← HWA.out] at hb3
  have HC3 := Lib.hid (HCA.out.step (Nat.le_refl _) hb3)
  have HN2 := Lib.hid hn2
  clear hb3 HWd HCA HFA HC2 x0 x1 x2 x3 x4 x5 x6 x7 x8 x9 x10 x11 x12 x13 hn2 hzA HWA
  by_cases hn2 : 67108864 < n2
  · go_wp2_with fail
    go_ret
    exact ⟨rfl, HC3.out.b⟩
  have HSl := Lib.hid (HN2.out (by omega)).2
  clear HN2
  obtain ⟨y0, y1, y2, y3, y4, y5⟩ := pc_cells HC3.out.p
  have HMk := Lib.hid (refMake_any p a' c' w3 ((HP.out.below HC3.out.b).wide HC3.out.b.size))
  unfold partCells at HMk
  go_wp2_with fail
  refine HMk.out.mono ?_
  rintro e w4 ⟨rfl, hb4⟩
  have HC4 := Lib.hid (HC3.out.step (Nat.le_refl _) hb4)
  clear hb4 HMk HC3 y0 y1 y2 y3 y4 y5
  by_cases hw : p.why = 0
  case neg =>
    have e1 : (p.why != 0) = true := by rw [bne_iff_ne]; exact hw
    clear hw
    go_wp2_with fail
    go_ret
    exact ⟨rfl, HC4.out.b⟩
  have e1 : (p.why != 0) = false := by rw [hw]; rfl
  have hmay : p.may = true := by
    unfold PT.why at hw
    split at hw
    · omega
    · split at hw
      · assumption
      · omega
  have HMay := Lib.hid hmay
  have HRaw := Lib.hid (RawOk.of_may p hmay HK256.out)
  have HWhy := Lib.hid hw
  clear hmay hw
  obtain ⟨x0, x1, x2, x3, x4, x5, x6, x7, x8, x9, x10, x11, x12, x13⟩ := HC4.out.f.cells
  obtain ⟨WB, hWB⟩ : ∃ WB, WB = w4.alloc (.cells #[.string t.s.name, .int .u8 t.s.kind, .bool t.s.down, .int .u8 t.s.nulls, .bool t.s.bnd, .bool t.s.lb, .string t.s.lm, .bool t.s.hb, .string t.s.hm, .int .i64 t.s.most, .int .i64 t.s.st, .bool t.s.sh, .bool t.s.ba, .slice a t.fields.length c] 57) := ⟨_, rfl⟩
  have hbB : Below w4.heap.size w4 WB := by rw [hWB]; exact below_a1 _ _
  have hzB : WB.heap.size = w4.heap.size + 1 := by rw [hWB]; simp
  have HCB := Lib.hid (HC4.out.step (Nat.le_refl _) hbB)
  have HFB := Lib.hid (show FieldsAt WB (· < WB.heap.size) [t] (some ⟨w4.heap.size, 0, none⟩) from fields_one HOk.out hlc hc ((HF.out.below HCB.out.b).wide HCB.out.b.size) (by omega) (by rw [hWB]; exact new_field w4 w4.heap.size t a c _ rfl))
  have HLn := Lib.hid (show Calls Tryz.prog 13 #[.slice (some ⟨w4.heap.size, 0, none⟩) 1 1] WB (LentFPost [t] WB) from lentF_any [t] (some ⟨w4.heap.size, 0, none⟩) 1 WB HSl.out HFB.out)
  rw [hWB] at HLn
  have HWB := Lib.hid hWB
  clear hWB hbB
  go_wp2_with fail
  refine HLn.out.mono ?_
  rintro e w5 ⟨g, rfl, hb5, hg5, hl5⟩
  rw [← HWB.out] at hb5 hg5
  have HC5 := Lib.hid (HCB.out.step (Nat.le_refl _) hb5)
  obtain ⟨hi, hhi⟩ : ∃ hi, hi = w5.heap.size := ⟨_, rfl⟩
  rw [← hhi] at hl5
  have HL5 := Lib.hid hl5
  have hhi5 : hi ≤ w5.heap.size := by omega
  clear hb5 hl5 HLn HCB HFB HC4 x0 x1 x2 x3 x4 x5 x6 x7 x8 x9 x10 x11 x12 x13 hzB HWB hg5 hhi
  obtain ⟨y0, y1, y2, y3, y4, y5⟩ := pc_cells HC5.out.p
  have HMv := Lib.hid (valMake_any p a' c' w5 ((HP.out.below HC5.out.b).wide HC5.out.b.size))
  unfold partCells at HMv
  go_wp2_with fail
  refine HMv.out.mono ?_
  rintro e w6 ⟨hb6, hp6⟩
  rcases hp6 with ⟨h9, _⟩ | ⟨h9, v, rfl, hv⟩
  · exact absurd HWhy.out h9
  have HC6 := Lib.hid (HC5.out.step (Nat.le_refl _) hb6)
  have hz6 := hb6.size
  have HL6 := Lib.hid (HL5.out.far hb6 hhi5)
  have HV6 := Lib.hid (ValueAt.more (S' := (· < w6.heap.size)) (fun b hb => hb.2) _ _ hv)
  clear hb6 h9 hv HMv HC5 HL5 y0 y1 y2 y3 y4 y5
  obtain ⟨a3, c3, _, hcs, _, hl3, hc3, hf3⟩ := lent_one HL6.out (show hi ≤ w6.heap.size by omega)
  obtain ⟨k0, k1, k2, k3, k4, k5, k6, k7, k8, k9, k10, k11, k12, k13⟩ := field0 hcs
  have HFd := Lib.hid (field_any t p v a3 c3 w6 HRaw.out HOk.out hl3 hc3 hf3 HV6.out)
  clear hcs hf3
  go_wp2_with fail
  refine HFd.out.mono ?_
  rintro e w7 ⟨ev, rfl, hb7, he7⟩
  have HC7 := Lib.hid (HC6.out.step (Nat.le_refl _) hb7)
  have hz7 := hb7.size
  have HL7 := Lib.hid (HL6.out.far hb7 (by omega))
  have HE7 := Lib.hid (he7.low (lo' := w.heap.size) (by have := HC6.out.b.size; omega))
  clear hb7 he7 HFd HC6 HL6 HV6 k0 k1 k2 k3 k4 k5 k6 k7 k8 k9 k10 k11 k12 k13
  obtain ⟨x0, x1, x2, x3, x4, x5, x6, x7, x8, x9, x10, x11, x12, x13⟩ := HC7.out.f.cells
  obtain ⟨y0, y1, y2, y3, y4, y5⟩ := pc_cells HC7.out.p
  have HRw := Lib.hid (refFieldWhy_any t p a c a' c' w7 HRaw.out HOk.out hlc hc ((HF.out.below HC7.out.b).wide HC7.out.b.size) ((HP.out.below HC7.out.b).wide HC7.out.b.size))
  have hans := fieldAns_ok t p
  obtain ⟨r, hr⟩ : ∃ r, r = fieldAns t p := ⟨_, rfl⟩
  rw [← hr] at HRw HE7 hans
  have HAns := Lib.hid hans
  clear hr hans
  go_wp2_with fail
  refine HRw.out.mono ?_
  rintro e w8 ⟨A, n3, c3, rfl, hb8, ho8⟩
  obtain ⟨W8, hW8⟩ : ∃ W8, W8 = w8.alloc (.cells #[.int .i64 (frC r), .int .i64 (frA r), .slice A n3 c3] 47) := ⟨_, rfl⟩
  have hb8' : Below w7.heap.size w7 W8 := by rw [hW8]; exact hb8.alloc hb8.size _
  have hz8 := hb8.size
  have hzW8 : W8.heap.size = w8.heap.size + 1 := by rw [hW8]; simp
  have HC8 := Lib.hid (HC7.out.step (Nat.le_refl _) hb8')
  have HL8 := Lib.hid (HL7.out.far hb8' (by omega))
  have HV8 := Lib.hid (show VB3 W8 w8.heap.size (frC r) (frA r) (.slice A n3 c3) by rw [hW8]; exact World.alloc_heap_new w8 _)
  have HTl := Lib.hid (told_any (w0 := w) (w := W8) (lo := w.heap.size) HAns.out HL.out HC8.out.b (Nat.le_refl _) (HE7.out.below hb8') ((RowAt.of_own (by rw [hW8]; exact ho8.alloc _))))
  obtain ⟨v0, v1, v2⟩ := HV8.out.cells
  rw [hW8] at v0 v1 v2
  have HW8 := Lib.hid hW8
  clear hb8 hb8' ho8 hW8 HRw HC7 HL7 HE7 x0 x1 x2 x3 x4 x5 x6 x7 x8 x9 x10 x11 x12 x13 y0 y1 y2 y3 y4 y5
  go_wp2_with fail
  rw [← HW8.out]
  refine HTl.out.mono ?_
  rintro e w9 ⟨rfl, hb9⟩
  have HC9 := Lib.hid (HC8.out.step (Nat.le_refl _) hb9)
  have hz9 := hb9.size
  have HL9 := Lib.hid (HL8.out.far hb9 (by omega))
  clear hb9 HTl HC8 HL8 HV8 v0 v1 v2 HW8
  obtain ⟨a4, c4, _, hcs, _, hl4, hc4, hf4⟩ := lent_one HL9.out (show hi ≤ w9.heap.size by omega)
  obtain ⟨k0, k1, k2, k3, k4, k5, k6, k7, k8, k9, k10, k11, k12, k13⟩ := field0 hcs
  have HLs := Lib.hid (fitLeast_any t a4 c4 w9 HOk.out hl4 hc4 hf4)
  clear hcs hf4
  go_wp2_with fail
  refine HLs.out.mono ?_
  rintro e w10 hp10
  obtain ⟨q, lv, x, hq, rfl, hb10, hv10, hqm, hx⟩ := lst_uniform hp10
  have HC10 := Lib.hid (HC9.out.step (Nat.le_refl _) hb10)
  have hz10 := hb10.size
  have HL10 := Lib.hid (HL9.out.far hb10 (by omega))
  have HQ10 := Lib.hid (ValueAt.more (S' := (· < w10.heap.size)) (fun b hb => hb.2) _ _ hv10)
  have HQm := Lib.hid hqm
  have HX := Lib.hid hx
  have HQ := Lib.hid hq
  clear hb10 hv10 hp10 HLs HC9 HL9 k0 k1 k2 k3 k4 k5 k6 k7 k8 k9 k10 k11 k12 k13 hqm hx hq
  obtain ⟨x0, x1, x2, x3, x4, x5, x6, x7, x8, x9, x10, x11, x12, x13⟩ := HC10.out.f.cells
  have HRl := Lib.hid (refLeastF_any t a c w10 HOk.out hlc hc ((HF.out.below HC10.out.b).wide HC10.out.b.size))
  go_wp2_with fail
  refine HRl.out.mono ?_
  rintro e w11 ⟨hb11, q', x', a5, c5, hq', rfl, hp11⟩
  obtain ⟨rfl, rfl⟩ : q' = q ∧ x' = x := by
    rcases HQ.out with ⟨h1, h2, h3⟩ | ⟨h1, h2, h3⟩ <;> rcases hq' with ⟨k1, k2, k3⟩ | ⟨k1, k2, k3⟩
    · exact ⟨k2.trans h2.symm, k3.trans h3.symm⟩
    · exact absurd h1 k1
    · exact absurd k1 h1
    · exact ⟨k2.trans h2.symm, k3.trans h3.symm⟩
  unfold partCells
  obtain ⟨W11, hW11⟩ : ∃ W11, W11 = w11.alloc (.cells #[.int .u8 q'.kind, .bool q'.yes, .bool q'.bel, .string q'.mag, .string q'.raw, .slice a5 q'.items.length c5] 30) := ⟨_, rfl⟩
  have hb11' : Below w10.heap.size w10 W11 := by rw [hW11]; exact hb11.alloc hb11.size _
  have hz11 := hb11.size
  have hzW11 : W11.heap.size = w11.heap.size + 1 := by rw [hW11]; simp
  have HC11 := Lib.hid (HC10.out.step (Nat.le_refl _) hb11')
  have HL11 := Lib.hid (HL10.out.far hb11' (by omega))
  have HQ11 := Lib.hid ((HQ10.out.below hb11').wide (by omega : w10.heap.size ≤ W11.heap.size))
  have HPq := Lib.hid (show PcBox W11 w11.heap.size #[.int .u8 q'.kind, .bool q'.yes, .bool q'.bel, .string q'.mag, .string q'.raw, .slice a5 q'.items.length c5] by rw [hW11]; exact World.alloc_heap_new w11 _)
  have HPt := Lib.hid (show PartAt W11 (· < W11.heap.size) q' (partCells q' a5 c5) from PartAt.more (fun b hb => by have := hb.2; omega) _ _ (PartAt.keep (fun p hp => by rw [hW11]; exact World.cell?_alloc_lt _ _ _ hp.2) _ _ hp11))
  have HW11 := Lib.hid hW11
  clear hb11 hb11' hp11 hW11 HRl HC10 HL10 HQ10 x0 x1 x2 x3 x4 x5 x6 x7 x8 x9 x10 x11 x12 x13 hq'
  obtain ⟨x0, x1, x2, x3, x4, x5, x6, x7, x8, x9, x10, x11, x12, x13⟩ := HC11.out.f.cells
  have k1 := (And.intro x0 (And.intro x1 (And.intro x2 (And.intro x3 (And.intro x4 (And.intro x5 (And.intro x6 (And.intro x7 (And.intro x8 (And.intro x9 (And.intro x10 (And.intro x11 (And.intro x12 x13)))))))))))))
  rw [HW11.out] at k1
  obtain ⟨x0, x1, x2, x3, x4, x5, x6, x7, x8, x9, x10, x11, x12, x13⟩ := k1
  obtain ⟨WC, hWC⟩ : ∃ WC, WC = W11.alloc (.cells #[.string t.s.name, .int .u8 t.s.kind, .bool t.s.down, .int .u8 t.s.nulls, .bool t.s.bnd, .bool t.s.lb, .string t.s.lm, .bool t.s.hb, .string t.s.hm, .int .i64 t.s.most, .int .i64 t.s.st, .bool t.s.sh, .bool t.s.ba, .slice a t.fields.length c] 57) := ⟨_, rfl⟩
  have hbC : Below W11.heap.size W11 WC := by rw [hWC]; exact below_a1 _ _
  have hzC : WC.heap.size = W11.heap.size + 1 := by rw [hWC]; simp
  have HCC := Lib.hid (HC11.out.step (Nat.le_refl _) hbC)
  have HFC := Lib.hid (show FieldsAt WC (· < WC.heap.size) [t] (some ⟨w11.heap.size + 1, 0, none⟩) from fields_one HOk.out hlc hc ((HF.out.below HCC.out.b).wide HCC.out.b.size) (by omega) (by rw [hWC]; exact new_field W11 (w11.heap.size + 1) t a c _ (by omega)))
  have HLC := Lib.hid (HL11.out.far hbC (by omega))
  have HKp := Lib.hid (show Calls Tryz.prog 15 #[.slice (some ⟨g, 0, none⟩) 1 3, .slice (some ⟨w11.heap.size + 1, 0, none⟩) 1 1] WC (Ret (.bool true) WC) from keptF_any [t] g hi (some ⟨w11.heap.size + 1, 0, none⟩) 1 WC HLC.out (by omega) HFC.out (by simp) HSl.out)
  have HQC := Lib.hid ((HQ11.out.below hbC).wide (by omega : W11.heap.size ≤ WC.heap.size))
  have HPC := Lib.hid (HPq.out.step hbC (by omega))
  have HPtC := Lib.hid ((HPt.out.below hbC).wide (by omega : W11.heap.size ≤ WC.heap.size))
  have HWC := Lib.hid hWC
  clear hWC hbC HC11 HL11 HQ11 HPq HPt
  have HWCC := Lib.hid (HWC.out.trans (by rw [HW11.out]))
  rw [HWCC.out] at HKp
  go_wp2_with fail
  refine HKp.out.mono ?_
  rintro e w12 ⟨rfl, hb12⟩
  rw [← HWCC.out] at hb12
  have HC12 := Lib.hid (HCC.out.step (Nat.le_refl _) hb12)
  have hz12 := hb12.size
  have HQ12 := Lib.hid ((HQC.out.below hb12).wide hz12)
  have HP12 := Lib.hid (HPC.out.step hb12 (by omega))
  have HPt12 := Lib.hid ((HPtC.out.below hb12).wide hz12)
  clear hb12 HKp HCC HLC HFC HQC HPC HPtC x0 x1 x2 x3 x4 x5 x6 x7 x8 x9 x10 x11 x12 x13 HWC HWCC HW11
  have HTe := Lib.hid (tell_ex q' lv w12 HQm.out HQ12.out)
  go_wp2_with fail
  refine HTe.out.mono ?_
  rintro e w13 ⟨a6, c6, rfl, hb13, hp13⟩
  obtain ⟨W13, hW13⟩ : ∃ W13, W13 = w13.alloc (.cells #[.int .u8 q'.kind, .bool q'.yes, .bool q'.bel, .string q'.mag, .string q'.raw, .slice a6 q'.items.length c6] 30) := ⟨_, rfl⟩
  have hb13' : Below w12.heap.size w12 W13 := by rw [hW13]; exact hb13.alloc hb13.size _
  have hz13 := hb13.size
  have hzW13 : W13.heap.size = w13.heap.size + 1 := by rw [hW13]; simp
  have HC13 := Lib.hid (HC12.out.step (Nat.le_refl _) hb13')
  have HPn := Lib.hid (show PcBox W13 w13.heap.size #[.int .u8 q'.kind, .bool q'.yes, .bool q'.bel, .string q'.mag, .string q'.raw, .slice a6 q'.items.length c6] by rw [hW13]; exact World.alloc_heap_new w13 _)
  have HP13 := Lib.hid (HP12.out.step hb13' (by omega))
  have HPt13 := Lib.hid ((HPt12.out.below hb13').wide (by omega : w12.heap.size ≤ W13.heap.size))
  have HPn13 := Lib.hid (show PartAt W13 (· < W13.heap.size) q' (partCells q' a6 c6) from PartAt.more (fun b hb => by have := hb.2; omega) _ _ (PartAt.keep (fun p hp => by rw [hW13]; exact World.cell?_alloc_lt _ _ _ hp.2) _ _ hp13))
  obtain ⟨m0, m1, m2, m3, m4, m5⟩ := pc_cells HPn.out
  obtain ⟨l0, l1, l2, l3, l4, l5⟩ := pc_cells HP13.out
  rw [hW13] at m0 m1 m2 m3 m4 m5 l0 l1 l2 l3 l4 l5
  have HSm := Lib.hid (same00_any q' a6 c6 a5 c5 W13 HPn13.out HPt13.out)
  unfold partCells at HSm
  have HW13 := Lib.hid hW13
  clear hb13 hb13' hp13 hW13 HTe HC12 HQ12 HP12 HPt12
  go_wp2_with fail
  rw [← HW13.out]
  refine HSm.out.mono ?_
  rintro e w14 ⟨rfl, hb14⟩
  have HC14 := Lib.hid (HC13.out.step (Nat.le_refl _) hb14)
  clear hb14 HSm HC13 HPn HP13 HPt13 HPn13 m0 m1 m2 m3 m4 m5 l0 l1 l2 l3 l4 l5 HW13
  rcases HX.out with ⟨rfl, Ty, u, rfl⟩ | ⟨rfl, rfl⟩
  · go_wp2_with fail
    go_ret
    exact ⟨rfl, HC14.out.b⟩
  · go_wp2_with fail
    go_ret
    exact ⟨rfl, HC14.out.b⟩
end Go.Proofs.YtcjllhdbepchnaaGreatDoor
