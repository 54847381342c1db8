/-
  The law FitChecks, walked.
-/
import Derived.Test.YtcjllhdbepchnaaGreatDoorLAU
import Derived.Test.YtcjllhdbepchnaaGreatDoorLAP
import Derived.Test.YtcjllhdbepchnaaGreatDoorLAM
import Derived.Test.YtcjllhdbepchnaaGreatDoorLAQ
import Derived.Test.YtcjllhdbepchnaaGreatDoorLZ
namespace Go.Proofs.YtcjllhdbepchnaaGreatDoor
open Go.RowKit Go.WideShapes Ev
set_option linter.unusedVariables false
/-- What is carried through the law: the boxes of what is handed in. -/
structure Cas (w W : World) (T : Nat) (limit : Int) (A : Option Addr) (n c : Nat) (p : Array Value) : Prop where
  b : Below w.heap.size w W
  z : T + 2 ≤ W.heap.size
  s : SBx W T limit A n c
  p : PcBox W (T + 1) p
theorem Cas.scr {w W W' : World} {T x y n c : Nat} {limit : Int} {A : Option Addr} {p : Array Value} (h : Cas w W T limit A n c p) (hT : w.heap.size ≤ T) (hs : Scr x y W W') (hx : T + 2 ≤ x) : Cas w W' T limit A n c p :=
  ⟨⟨hs.os.trans h.b.os, hs.tape.trans h.b.tape, hs.output.trans h.b.output, Nat.le_trans h.b.size hs.size, fun k hk => (hs.block k (by have := h.b.size; omega) (.inl (by omega))).trans (h.b.block k hk)⟩, Nat.le_trans h.z hs.size, (hs.block T (by have := h.z; omega) (.inl (by omega))).trans h.s, (hs.block (T + 1) (by have := h.z; omega) (.inl (by omega))).trans h.p⟩
theorem Cas.step {w W W' : World} {T n c : Nat} {limit : Int} {A : Option Addr} {p : Array Value} (h : Cas w W T limit A n c p) (hT : w.heap.size ≤ T) (hb : Below W.heap.size W W') : Cas w W' T limit A n c p :=
  h.scr hT (Scr.of (x := T + 2) hb (Nat.le_refl _)) (Nat.le_refl _)
/-- Values that lie below a place. -/
theorem val_scr {W W' : World} {p : PT} {v : Value} {B x y : Nat} (h : ValueAt W (· < B) p v) (hs : Scr x y W W') (hx : B ≤ x) (hB : B ≤ W.heap.size) : ValueAt W' (· < B) p v :=
  ValueAt.keep (fun q hq => cell_of_heap (hs.block q.block (by omega) (.inl (by omega)))) p v h
theorem lent_scr {W W' : World} {l : List FT} {g hi x y : Nat} (h : LentAt W l g hi) (hs : Scr x y W W') (hd : hi ≤ x ∨ y ≤ g) (hW : hi ≤ W.heap.size) : LentAt W' l g hi :=
  h.keep fun b h1 h2 => hs.block b (by omega) (by omega)
theorem vb3_scr {W W' : World} {b x y : Nat} {c a : Int} {v : Value} (h : VB3 W b c a v) (hs : Scr x y W W') (hd : b < x ∨ y ≤ b) (hW : b < W.heap.size) : VB3 W' b c a v := (hs.block b hW hd).trans h
theorem sbx_scr {W W' : World} {b x y n c : Nat} {limit : Int} {A : Option Addr} (h : SBx W b limit A n c) (hs : Scr x y W W') (hd : b < x ∨ y ≤ b) (hW : b < W.heap.size) : SBx W' b limit A n c := (hs.block b hW hd).trans h
theorem VB3.free {W : World} {b : Nat} {c a : Int} {v : Value} (h : VB3 W b c a v) (i : Nat) : W.frozen? ⟨b, i, none⟩ = false := by simp [World.frozen?, show W.heap[b]? = _ from h]
theorem VB3.put {W : World} {b : Nat} {c a c2 a2 : Int} {v v2 : Value} (h : VB3 W b c a v) : VB3 (((W.setCell ⟨b, 0, none⟩ (.int .i64 c2)).setCell ⟨b, 1, none⟩ (.int .i64 a2)).setCell ⟨b, 2, none⟩ v2) b c2 a2 v2 := by
  have h9 : W.heap[b]? = _ := h
  unfold VB3
  simp [World.setCell, Array.getElem?_modify, h9]
theorem Scr.set {W : World} {p : Addr} {x y : Nat} (hp : x ≤ p.block ∧ p.block < y) (u : Value) : Scr x y W (W.setCell p u) :=
  ⟨rfl, rfl, rfl, by simp, fun b _ hd => Below.heap_setCell _ _ _ _ (by omega)⟩
theorem scr_two {W W' : World} {B x y : Nat} (h : Below B W W') (hB : W.heap.size ≤ B) : Scr x y W W' := ⟨h.os, h.tape, h.output, h.size, fun b hb _ => h.block b (by omega)⟩
theorem scr_cell {W W' : World} {p : Addr} {x y : Nat} (h : Scr x y W W') (hp : p.block < W.heap.size) (hd : p.block < x ∨ y ≤ p.block) : W'.cell? p = W.cell? p := cell_of_heap (h.block p.block hp hd)
theorem lent_field {W : World} {l : List FT} {g hi B k : Nat} (h : LentAt W l g hi) (hB : hi ≤ B) (hk : k < l.length) : ∃ a c, CellsAt W g (k * 14) (fieldCells l[k] a c) ∧ l[k].s.ok ∧ l[k].fields.length ≤ c ∧ c ≤ 140737488351232 ∧ FieldsAt W (· < B) l[k].fields a := by
  obtain ⟨b, o, a, c, e, hb, hc, hf⟩ := (h.fields hB).get hk
  injection e with e
  injection e with e1 e2
  subst e1; subst e2
  obtain ⟨_, _, ee, hok, hl, hcc, hff⟩ := hf.open
  obtain ⟨rfl, rfl⟩ := fieldCells_inj ee
  rw [Nat.zero_add] at hc
  exact ⟨a, c, hc, hok, hl, hcc, hff⟩
theorem PT.items_why {p : PT} (hm : p.may = true) (hd : p.depth ≤ 16) {x : PT} (hx : x ∈ p.items) : x.why = 0 := by
  have h7 : p.kind = 7 := by
    by_cases h7 : p.kind = 7
    · exact h7
    · obtain ⟨k, y, b, m, r, l⟩ := p
      obtain ⟨rfl, _⟩ := may_flat (by simpa [PT.kind] using h7) hm
      cases hx
  have h1 := (PT.may_items hm h7).2 x hx
  have h2 := PT.depth_tuple h7
  have h3 := PT.depthL_le.1 (Nat.le_refl (PT.depthL p.items)) x hx
  unfold PT.why
  rw [PT.deeper_depth, decide_eq_false (by omega), h1]; rfl
set_option maxRecDepth 100000 in
set_option maxHeartbeats 16000000 in
theorem fitChecks_any {w : World} (h : laidMetH Tryz.prog Rows.schemaChecksRow.laid w) (limit : Int) (l : List FT) (p : PT) (a : Option Addr) (c : Nat) (a' : Option Addr) (c' : Nat) (hlc : l.length ≤ c) (hc : c ≤ 140737488351232) (hf : FieldsAt w (· < w.heap.size) l a) (hp : PartAt w (· < w.heap.size) p (partCells p a' c')) :
    Calls Tryz.prog 3 #[.agg #[.int .i64 limit, .slice a l.length c], .agg #[.int .u8 p.kind, .bool p.yes, .bool p.bel, .string p.mag, .string p.raw, .slice a' p.items.length c']] w (Ret (.bool true) w) := by
  obtain ⟨_, _, ep, hk256, _, _, _, _, hits⟩ := hp.open
  obtain ⟨rfl, rfl⟩ : a' = _ ∧ c' = _ := by simpa [partCells] using ep
  have HL := Lib.hid h
  have HI := Lib.hid hits
  have HF := Lib.hid hf
  have HP := Lib.hid hp
  have HK256 := Lib.hid hk256
  obtain ⟨T, hT⟩ : ∃ T, T = w.heap.size := ⟨_, rfl⟩
  obtain ⟨W0, hW0⟩ : ∃ W0, W0 = (w.alloc (.cells #[.int .i64 limit, .slice a l.length c] 24)).alloc (.cells #[.int .u8 p.kind, .bool p.yes, .bool p.bel, .string p.mag, .string p.raw, .slice a' p.items.length c'] 30) := ⟨_, rfl⟩
  have HC0 := Lib.hid (show Cas w W0 w.heap.size limit a l.length c #[.int .u8 p.kind, .bool p.yes, .bool p.bel, .string p.mag, .string p.raw, .slice a' p.items.length c'] by
    refine ⟨by rw [hW0]; exact below_a2 _ _ _, by rw [hW0]; simp, by rw [hW0]; exact (Below.heap_alloc _ _ _ (by simp)).trans (World.alloc_heap_new w _), ?_⟩
    rw [hW0]
    have h9 := World.alloc_heap_new (w.alloc (.cells #[.int .i64 limit, .slice a l.length c] 24)) (.cells #[.int .u8 p.kind, .bool p.yes, .bool p.bel, .string p.mag, .string p.raw, .slice a' p.items.length c'] 30)
    rw [World.size_alloc] at h9
    exact h9)
  have HA := Lib.hid (awake12_any h HC0.out.b)
  have HW0 := Lib.hid hW0
  rw [hW0] at HA
  clear h hf hp hW0 hk256 ep hT hits
  go_enter Tryz.func3, Tryz.ntmps3
  go_wp2_with fail
  refine HA.out.mono ?_
  rintro e w1 ⟨rfl, hb1⟩
  rw [← HW0.out] at hb1
  have HC1 := Lib.hid (HC0.out.step (Nat.le_refl _) hb1)
  clear hb1 HA HC0
  obtain ⟨s0, s1⟩ := HC1.out.s.cells
  obtain ⟨y0, y1, y2, y3, y4, y5⟩ := pc_cells HC1.out.p
  have HWg := Lib.hid (weight12_any p a' c' w1 ((HP.out.below HC1.out.b).wide HC1.out.b.size))
  unfold partCells at HWg
  go_wp2_with fail
  refine HWg.out.mono ?_
  rintro e w2 ⟨m0, rfl, hb2⟩
  have HC2 := Lib.hid (HC1.out.step (Nat.le_refl _) hb2)
  clear hb2 HWg HC1 s0 s1 y0 y1 y2 y3 y4 y5
  by_cases hn : 67108864 < m0
  · go_wp2_with fail
    go_ret
    exact ⟨rfl, HC2.out.b⟩
  obtain ⟨s0, s1⟩ := HC2.out.s.cells
  have HWd := Lib.hid (fields12_any l a c w2 hlc hc ((HF.out.below HC2.out.b).wide HC2.out.b.size))
  go_wp2_with fail
  refine HWd.out.mono ?_
  rintro e w3 ⟨m2, rfl, hb3, _, _, hm2⟩
  have HC3 := Lib.hid (HC2.out.step (Nat.le_refl _) hb3)
  have HM2 := Lib.hid hm2
  clear hb3 HWd HC2 s0 s1 hn hm2
  by_cases hn : 67108864 < m2
  · go_wp2_with fail
    go_ret
    exact ⟨rfl, HC3.out.b⟩
  have HSl := Lib.hid (HM2.out (by omega)).2
  clear HM2
  obtain ⟨y0, y1, y2, y3, y4, y5⟩ := pc_cells HC3.out.p
  have HMk := Lib.hid (refMake_any p a' c' w3 ((HP.out.below HC3.out.b).wide HC3.out.b.size))
  unfold partCells at HMk
  go_wp2_with fail
  refine HMk.out.mono ?_
  rintro e w4 ⟨rfl, hb4⟩
  have HC4 := Lib.hid (HC3.out.step (Nat.le_refl _) hb4)
  clear hb4 HMk HC3 y0 y1 y2 y3 y4 y5 hn
  by_cases hw : p.why = 0
  case neg =>
    have e1 : (p.why != 0) = true := by rw [bne_iff_ne]; exact hw
    clear hw
    go_wp2_with fail
    go_ret
    exact ⟨rfl, HC4.out.b⟩
  have e1 : (p.why != 0) = false := by rw [hw]; rfl
  have hmay : p.may = true := by
    unfold PT.why at hw
    split at hw
    · omega
    · split at hw
      · assumption
      · omega
  have hdp : p.depth ≤ 16 := by
    unfold PT.why at hw
    rw [PT.deeper_depth] at hw
    by_cases h9 : 16 < p.depth
    · simp [h9] at hw
    · omega
  have HIw := Lib.hid (fun (x : PT) (hx : x ∈ p.items) => PT.items_why hmay hdp hx)
  have HMay := Lib.hid hmay
  have HRaw := Lib.hid (RawOk.of_may p hmay HK256.out)
  have HWhy := Lib.hid hw
  clear hmay hw hdp
  obtain ⟨y0, y1, y2, y3, y4, y5⟩ := pc_cells HC4.out.p
  have HMv := Lib.hid (valMake_any p a' c' w4 ((HP.out.below HC4.out.b).wide HC4.out.b.size))
  unfold partCells at HMv
  go_wp2_with fail
  refine HMv.out.mono ?_
  rintro e w5 ⟨hb5, hp5⟩
  rcases hp5 with ⟨h9, _⟩ | ⟨h9, v, rfl, hv⟩
  · exact absurd HWhy.out h9
  have HC5 := Lib.hid (HC4.out.step (Nat.le_refl _) hb5)
  obtain ⟨bX, hbX⟩ : ∃ b, b = w5.heap.size := ⟨_, rfl⟩
  have HV5 := Lib.hid (ValueAt.more (S' := (· < bX)) (fun b hb => by have := hb.2; omega) _ _ hv)
  have hone := hv.one
  clear hb5 h9 hv HMv HC4 y0 y1 y2 y3 y4 y5
  obtain ⟨W5, hW5⟩ : ∃ W5, W5 = w5.alloc (.cells #[.int .i64 limit, .slice a l.length c] 24) := ⟨_, rfl⟩
  have hb5 : Below w5.heap.size w5 W5 := by rw [hW5]; exact below_a1 _ _
  have hz5 : W5.heap.size = bX + 1 := by rw [hW5, hbX]; simp
  have HC5' := Lib.hid (HC5.out.step (Nat.le_refl _) hb5)
  have HX5 := Lib.hid (show SBx W5 bX limit a l.length c by rw [hW5, hbX]; exact World.alloc_heap_new w5 _)
  have HV5' := Lib.hid (val_scr HV5.out (Scr.of (x := bX) hb5 (Nat.le_refl _)) (Nat.le_refl _) (by omega))
  have HLn := Lib.hid (lentF_any l a c W5 HSl.out ((HF.out.below HC5'.out.b).wide HC5'.out.b.size))
  obtain ⟨s0, s1⟩ := HC5.out.s.cells
  obtain ⟨t0, t1⟩ := HC5'.out.s.cells
  rw [hW5] at HLn t0 t1
  have HW5 := Lib.hid hW5
  have hTb : w.heap.size + 2 ≤ bX := by have := HC5.out.z; omega
  have HbX := Lib.hid hbX
  clear hW5 hb5 HC5 HV5 hbX
  go_wp2_with fail
  rw [← HbX.out]
  refine HLn.out.mono ?_
  rintro e w6 ⟨g, rfl, hb6, hg6, hl6⟩
  rw [← HW5.out] at hb6 hg6
  have hz6 := hb6.size
  have HC6 := Lib.hid (HC5'.out.step (Nat.le_refl _) hb6)
  have HX6 := Lib.hid (show SBx w6 bX limit a l.length c from (hb6.block _ (by omega)).trans HX5.out)
  obtain ⟨hi, hhi⟩ : ∃ hi, hi = w6.heap.size := ⟨_, rfl⟩
  rw [← hhi] at hl6
  have hhi6 : hi ≤ w6.heap.size := by omega
  have hhi7 : w6.heap.size ≤ hi := by omega
  clear hhi
  have hgl := hl6.lt
  have x0 := HX6.out.cells.1
  have x1 := HX6.out.cells.2
  have f1 : w6.frozen? ⟨bX, 1, none⟩ = false := by simp [World.frozen?, show w6.heap[bX]? = _ from HX6.out]
  obtain ⟨W6, hW6⟩ : ∃ W6, W6 = w6.setCell ⟨bX, 1, none⟩ (.slice (some ⟨g, 0, none⟩) l.length (l.length + 2)) := ⟨_, rfl⟩
  have hs6 : Scr bX (bX + 1) w6 W6 := by rw [hW6]; exact Scr.set ⟨by simp, by simp⟩ _
  have hzW6 : W6.heap.size = w6.heap.size := by rw [hW6]; simp
  have HCW := Lib.hid (HC6.out.scr (Nat.le_refl _) hs6 hTb)
  have HXW := Lib.hid (show SBx W6 bX limit (some ⟨g, 0, none⟩) l.length (l.length + 2) by
    rw [hW6]
    have h9 : w6.heap[bX]? = _ := HX6.out
    unfold SBx
    simp [World.setCell, Array.getElem?_modify, h9])
  have HLW := Lib.hid (lent_scr hl6 hs6 (.inr (by omega)) (by omega))
  have HVW := Lib.hid (val_scr (val_scr HV5'.out (Scr.of (x := bX) hb6 (Nat.le_refl _)) (Nat.le_refl _) (by omega)) hs6 (Nat.le_refl _) (by omega))
  have HW6 := Lib.hid hW6
  obtain ⟨z0, z1⟩ := HXW.out.cells
  rw [hW6] at z0 z1
  have hln : l.length + 2 ≤ 140737488351232 := by have := HSl.out.len; omega
  have HK1 := Lib.hid (check12_any limit l p v (some ⟨g, 0, none⟩) (l.length + 2) W6 HRaw.out (by omega) hln (HLW.out.fields (by omega)) (HVW.out.wide (by omega)))
  rw [hW6] at HK1
  clear hW6 hs6 hb6 hl6 HLn HC5' HX5 HV5' HC6 HX6 s0 s1 t0 t1 HW5
  obtain ⟨r, hr⟩ : ∃ r, r = schemaAns limit l p := ⟨_, rfl⟩
  have HAns := Lib.hid (show AnsOk r by rw [hr]; exact schemaAns_ok limit l p)
  rw [← hr] at HK1
  go_wp2_with fail
  refine HK1.out.mono ?_
  rintro e w7 ⟨ev1, rfl, hb7, he7⟩
  rw [← HW6.out] at hb7 he7
  have hz7 := hb7.size
  have HC7 := Lib.hid (HCW.out.step (Nat.le_refl _) hb7)
  have HX7 := Lib.hid (sbx_scr HXW.out (Scr.of (x := 0) hb7 (Nat.le_refl _)) (.inr (by omega)) (by omega))
  have HL7 := Lib.hid (HLW.out.far hb7 (by omega))
  have HV7 := Lib.hid (val_scr HVW.out (Scr.of (x := bX) hb7 (Nat.le_refl _)) (Nat.le_refl _) (by omega))
  have HE7 := Lib.hid he7.own
  clear hb7 he7 HK1 HCW HXW HLW HVW z0 z1 x0 x1 f1 HW6
  obtain ⟨x0, x1⟩ := HX7.out.cells
  have HK2 := Lib.hid (check12_any limit l p v (some ⟨g, 0, none⟩) (l.length + 2) w7 HRaw.out (by omega) hln (HL7.out.fields (by omega)) (HV7.out.wide (by omega)))
  rw [← hr] at HK2
  go_wp2_with fail
  refine HK2.out.mono ?_
  rintro e w8 ⟨ev2, rfl, hb8, he8⟩
  have hz8 := hb8.size
  have HC8 := Lib.hid (HC7.out.step (Nat.le_refl _) hb8)
  have HX8 := Lib.hid (sbx_scr HX7.out (Scr.of (x := 0) hb8 (Nat.le_refl _)) (.inr (by omega)) (by omega))
  have HL8 := Lib.hid (HL7.out.far hb8 (by omega))
  have HV8 := Lib.hid (val_scr HV7.out (Scr.of (x := bX) hb8 (Nat.le_refl _)) (Nat.le_refl _) (by omega))
  have HE8 := Lib.hid (HE7.out.scr (Scr.of (x := 0) hb8 (Nat.le_refl _)) (.inl (by omega)) (by omega))
  have HG8 := Lib.hid he8.own
  clear hb8 he8 HK2 HC7 HX7 HL7 HV7 HE7 x0 x1
  obtain ⟨x0, x1⟩ := HX8.out.cells
  obtain ⟨s0, s1⟩ := HC8.out.s.cells
  have HK3 := Lib.hid (keptF_any l g hi a c w8 HL8.out (by omega) ((HF.out.below HC8.out.b).wide HC8.out.b.size) HSl.out.len HSl.out)
  go_wp2_with fail
  refine HK3.out.mono ?_
  rintro e w9 ⟨rfl, hb9⟩
  have hz9 := hb9.size
  have HC9 := Lib.hid (HC8.out.step (Nat.le_refl _) hb9)
  have HX9 := Lib.hid (sbx_scr HX8.out (Scr.of (x := 0) hb9 (Nat.le_refl _)) (.inr (by omega)) (by omega))
  have HL9 := Lib.hid (HL8.out.far hb9 (by omega))
  have HV9 := Lib.hid (val_scr HV8.out (Scr.of (x := bX) hb9 (Nat.le_refl _)) (Nat.le_refl _) (by omega))
  have HE9 := Lib.hid (HE8.out.scr (Scr.of (x := 0) hb9 (Nat.le_refl _)) (.inl (by omega)) (by omega))
  have HG9 := Lib.hid (HG8.out.scr (Scr.of (x := 0) hb9 (Nat.le_refl _)) (.inl (by omega)) (by omega))
  clear hb9 HK3 HC8 HX8 HL8 HV8 HE8 HG8 x0 x1 s0 s1
  obtain ⟨s0, s1⟩ := HC9.out.s.cells
  obtain ⟨y0, y1, y2, y3, y4, y5⟩ := pc_cells HC9.out.p
  have HRw := Lib.hid (refCheckWhy_any limit l p a c a' c' w9 HRaw.out hlc hc ((HF.out.below HC9.out.b).wide HC9.out.b.size) ((HP.out.below HC9.out.b).wide HC9.out.b.size))
  rw [← hr] at HRw
  clear hr
  go_wp2_with fail
  refine HRw.out.mono ?_
  rintro e w10 ⟨A, n3, c3, rfl, hb10, ho10⟩
  obtain ⟨bV, hbV⟩ : ∃ b, b = w10.heap.size := ⟨_, rfl⟩
  have HbV := Lib.hid hbV
  obtain ⟨W10, hW10⟩ : ∃ W10, W10 = w10.alloc (.cells #[.int .i64 (frC r), .int .i64 (frA r), .slice A n3 c3] 47) := ⟨_, rfl⟩
  have hb10' : Below w9.heap.size w9 W10 := by rw [hW10]; exact hb10.alloc hb10.size _
  have hz10 := hb10.size
  have hzW10 : W10.heap.size = bV + 1 := by rw [hW10, hbV]; simp
  have HC10 := Lib.hid (HC9.out.step (Nat.le_refl _) hb10')
  have HX10 := Lib.hid (sbx_scr HX9.out (Scr.of (x := 0) hb10' (Nat.le_refl _)) (.inr (by omega)) (by omega))
  have HL10 := Lib.hid (HL9.out.far hb10' (by omega))
  have HV10 := Lib.hid (val_scr HV9.out (Scr.of (x := bX) hb10' (Nat.le_refl _)) (Nat.le_refl _) (by omega))
  have HE10 := Lib.hid (HE9.out.scr (Scr.of (x := 0) hb10' (Nat.le_refl _)) (.inl (by omega)) (by omega))
  have HG10 := Lib.hid (HG9.out.scr (Scr.of (x := 0) hb10' (Nat.le_refl _)) (.inl (by omega)) (by omega))
  have HB10 := Lib.hid (show VB3 W10 bV (frC r) (frA r) (.slice A n3 c3) by rw [hW10, hbV]; exact World.alloc_heap_new w10 _)
  have HO10 := Lib.hid (show W10.ownsRow w9.heap.size 3 1 (.slice A n3 c3) (frP r).length (pathVals (frP r)) by rw [hW10]; exact ho10.alloc _)
  have HR10 := Lib.hid (show RowIn w9.heap.size W10.heap.size W10 (.slice A n3 c3) (pathVals (frP r)) from RowIn.of (RowAt.of_own HO10.out) (fun b o n c e => by
    obtain ⟨_, ⟨e2, _⟩ | ⟨g2, _, _, e2, h2, _⟩⟩ := HO10.out
    · rw [e] at e2; cases e2
    · rw [e] at e2; injection e2 with e2; injection e2 with e2; injection e2 with e2; omega))
  have HT1 := Lib.hid (told_any (w0 := w) (w := W10) (lo := w.heap.size) HAns.out HL.out HC10.out.b (Nat.le_refl _) (HE10.out.ans.low (by have := HC10.out.z; omega)) (RowAt.of_own HO10.out))
  obtain ⟨v0, v1, v2⟩ := HB10.out.cells
  rw [hW10] at v0 v1 v2
  have HW10 := Lib.hid hW10
  clear hb10 hb10' ho10 hW10 HRw HC9 HX9 HL9 HV9 HE9 HG9 s0 s1 y0 y1 y2 y3 y4 y5 HO10
  have hbV1 : bV ≤ w10.heap.size := by omega
  have hbV2 : w10.heap.size ≤ bV := by omega
  rw [hbV] at v0 v1 v2
  clear hbV
  go_wp2_with fail
  rw [← HW10.out, ← HbV.out]
  refine HT1.out.mono ?_
  rintro e w11 ⟨rfl, hb11⟩
  have hz11 := hb11.size
  have HC11 := Lib.hid (HC10.out.step (Nat.le_refl _) hb11)
  have HX11 := Lib.hid (sbx_scr HX10.out (Scr.of (x := 0) hb11 (Nat.le_refl _)) (.inr (by omega)) (by omega))
  have HL11 := Lib.hid (HL10.out.far hb11 (by omega))
  have HV11 := Lib.hid (val_scr HV10.out (Scr.of (x := bX) hb11 (Nat.le_refl _)) (Nat.le_refl _) (by omega))
  have HE11 := Lib.hid (HE10.out.scr (Scr.of (x := 0) hb11 (Nat.le_refl _)) (.inl (by omega)) (by omega))
  have HG11 := Lib.hid (HG10.out.scr (Scr.of (x := 0) hb11 (Nat.le_refl _)) (.inl (by omega)) (by omega))
  have HB11 := Lib.hid (vb3_scr HB10.out (Scr.of (x := 0) hb11 (Nat.le_refl _)) (.inr (by omega)) (by omega))
  have HR11 := Lib.hid (HR10.out.scr (Scr.of (x := 0) hb11 (Nat.le_refl _)) (.inl (by omega)) (by omega))
  clear hb11 HT1 HC10 HX10 HL10 HV10 HE10 HG10 HB10 HR10 v0 v1 v2 HW10
  have HSp := Lib.hid (spoilY HAns.out HL.out HC11.out.b HE11.out)
  go_wp2_with fail
  refine HSp.out.mono ?_
  rintro e w12 ⟨rfl, hs12⟩
  have hz12 := hs12.size
  have HC12 := Lib.hid (HC11.out.scr (Nat.le_refl _) hs12 (by have := HC11.out.z; omega))
  have HX12 := Lib.hid (sbx_scr HX11.out hs12 (.inl (by omega)) (by omega))
  have HL12 := Lib.hid (lent_scr HL11.out hs12 (.inl (by omega)) (by omega))
  have HV12 := Lib.hid (val_scr HV11.out hs12 (by omega) (by omega))
  have HG12 := Lib.hid (HG11.out.scr hs12 (.inl (by omega)) (by omega))
  have HB12 := Lib.hid (vb3_scr HB11.out hs12 (.inr (by omega)) (by omega))
  have HR12 := Lib.hid (HR11.out.scr hs12 (.inl (by omega)) (by omega))
  clear hs12 HSp HC11 HX11 HL11 HV11 HE11 HG11 HB11 HR11
  have HT2 := Lib.hid (told_any (w0 := w) (w := w12) (lo := w.heap.size) HAns.out HL.out HC12.out.b (Nat.le_refl _) (HG12.out.ans.low (by have := HC12.out.z; omega)) (HR12.out.row (by omega)))
  obtain ⟨v0, v1, v2⟩ := HB12.out.cells
  go_wp2_with fail
  refine HT2.out.mono ?_
  rintro e w13 ⟨rfl, hb13⟩
  have hz13 := hb13.size
  have HC13 := Lib.hid (HC12.out.step (Nat.le_refl _) hb13)
  have HX13 := Lib.hid (sbx_scr HX12.out (Scr.of (x := 0) hb13 (Nat.le_refl _)) (.inr (by omega)) (by omega))
  have HL13 := Lib.hid (HL12.out.far hb13 (by omega))
  have HV13 := Lib.hid (val_scr HV12.out (Scr.of (x := bX) hb13 (Nat.le_refl _)) (Nat.le_refl _) (by omega))
  have HB13 := Lib.hid (vb3_scr HB12.out (Scr.of (x := 0) hb13 (Nat.le_refl _)) (.inr (by omega)) (by omega))
  clear hb13 HT2 HC12 HX12 HL12 HV12 HG12 HB12 HR12 v0 v1 v2
  go_wp2_with fail
  have hv13 : bV < w13.heap.size := by omega
  have hbx : bX < g := by omega
  have hgi : g < hi := hgl
  have hiv : hi ≤ bV := by omega
  clear hbV1 hbV2 hz13 hz12 hz11 hzW10 hz10 hz9 hz8 hz7 hzW6 hz6 hz5 hhi6 hhi7 hg6
  go_loopw [17] (fun i wr => ∃ (k : Nat) (cv av : Int) (A9 : Option Addr) (n9 c9 : Nat), i = .int .i64 k ∧ k ≤ l.length ∧ bV < wr.heap.size ∧ Hid (Cas w wr w.heap.size limit a l.length c #[.int .u8 p.kind, .bool p.yes, .bool p.bel, .string p.mag, .string p.raw, .slice a' p.items.length c']) ∧ Hid (SBx wr bX limit (some ⟨g, 0, none⟩) l.length (l.length + 2)) ∧ Hid (LentAt wr l g hi) ∧ Hid (ValueAt wr (· < bX) p v) ∧ Hid (VB3 wr bV cv av (.slice A9 n9 c9))) (fun i _ => l.length - (intOf i).toNat)
  case atStart => exact ⟨0, frC r, frA r, A, n3, c3, rfl, by omega, hv13, HC13, HX13, HL13, HV13, HB13⟩
  case round =>
    clear HC13 HX13 HL13 HV13 HB13 hv13
    obtain ⟨k, cv, av, A9, n9, c9, rfl, hk, hvz, HC, HX, HLt, HV, HB⟩ := hrel
    by_cases hlt : k < l.length
    · by_cases h70 : k < 70
      · obtain ⟨s0, s1⟩ := HC.out.s.cells
        by_cases hki : k < p.items.length
        · have p5 : (wr.alloc (.cells #[.int .u8 0, .bool false, .bool false, .string ⟨#[]⟩, .string ⟨#[]⟩, .slice none 0 0] 30)).cell? ⟨w.heap.size + 1, 5, none⟩ = some (.slice a' p.items.length c') := by rw [World.cell?_alloc_lt _ _ _ (by have := HC.out.z; simp only; omega)]; exact (pc_cells HC.out.p).2.2.2.2.2
          obtain ⟨b2, o2, a2, c2, rfl, hb2, j0, j1, j2, j3, j4, j5, hqp0⟩ := (HI.out.below HC.out.b).cells hki
          have hb2' : b2 < wr.heap.size := by have := HC.out.b.size; have : b2 < w.heap.size := hb2; omega
          have hqp := hqp0.wide HC.out.b.size
          have i0 := (World.cell?_alloc_lt wr (.cells #[.int .u8 0, .bool false, .bool false, .string ⟨#[]⟩, .string ⟨#[]⟩, .slice none 0 0] 30) ⟨b2, o2 + k * 6, none⟩ hb2').trans j0
          have i1 := (World.cell?_alloc_lt wr (.cells #[.int .u8 0, .bool false, .bool false, .string ⟨#[]⟩, .string ⟨#[]⟩, .slice none 0 0] 30) ⟨b2, o2 + k * 6 + 1, none⟩ hb2').trans j1
          have i2 := (World.cell?_alloc_lt wr (.cells #[.int .u8 0, .bool false, .bool false, .string ⟨#[]⟩, .string ⟨#[]⟩, .slice none 0 0] 30) ⟨b2, o2 + k * 6 + 2, none⟩ hb2').trans j2
          have i3 := (World.cell?_alloc_lt wr (.cells #[.int .u8 0, .bool false, .bool false, .string ⟨#[]⟩, .string ⟨#[]⟩, .slice none 0 0] 30) ⟨b2, o2 + k * 6 + 3, none⟩ hb2').trans j3
          have i4 := (World.cell?_alloc_lt wr (.cells #[.int .u8 0, .bool false, .bool false, .string ⟨#[]⟩, .string ⟨#[]⟩, .slice none 0 0] 30) ⟨b2, o2 + k * 6 + 4, none⟩ hb2').trans j4
          have i5 := (World.cell?_alloc_lt wr (.cells #[.int .u8 0, .bool false, .bool false, .string ⟨#[]⟩, .string ⟨#[]⟩, .slice none 0 0] 30) ⟨b2, o2 + k * 6 + 5, none⟩ hb2').trans j5
          clear j0 j1 j2 j3 j4 j5 hqp0
          obtain ⟨bQ, hbQ0⟩ : ∃ b, b = wr.heap.size := ⟨_, rfl⟩
          obtain ⟨WQ, hWQ⟩ : ∃ WQ, WQ = wr.alloc (.cells #[.int .u8 p.items[k].kind, .bool p.items[k].yes, .bool p.items[k].bel, .string p.items[k].mag, .string p.items[k].raw, .slice a2 p.items[k].items.length c2] 30) := ⟨_, rfl⟩
          have hbQ : Below wr.heap.size wr WQ := by rw [hWQ]; exact below_a1 _ _
          have hzQ : WQ.heap.size = wr.heap.size + 1 := by rw [hWQ]; simp
          have HCQ := Lib.hid (HC.out.step (Nat.le_refl _) hbQ)
          have HXQ := Lib.hid (sbx_scr HX.out (Scr.of (x := 0) hbQ (Nat.le_refl _)) (.inr (by omega)) (by omega))
          have HLQ := Lib.hid (HLt.out.far hbQ (by omega))
          have HVQ := Lib.hid (val_scr HV.out (Scr.of (x := bX) hbQ (Nat.le_refl _)) (Nat.le_refl _) (by omega))
          have HBQ := Lib.hid (vb3_scr HB.out (Scr.of (x := 0) hbQ (Nat.le_refl _)) (.inr (by omega)) (by omega))
          have HQb := Lib.hid (show PcBox WQ bQ #[.int .u8 p.items[k].kind, .bool p.items[k].yes, .bool p.items[k].bel, .string p.items[k].mag, .string p.items[k].raw, .slice a2 p.items[k].items.length c2] by rw [hWQ, hbQ0]; exact World.alloc_heap_new wr _)
          have HQp := Lib.hid (show PartAt WQ (· < WQ.heap.size) p.items[k] (partCells p.items[k] a2 c2) from (hqp.below hbQ).wide hbQ.size)
          have HM := Lib.hid (valMake_any p.items[k] a2 c2 WQ HQp.out)
          unfold partCells at HM
          rw [hWQ] at HM
          have HWQ := Lib.hid hWQ
          have HbQ0 := Lib.hid hbQ0
          have hbQ1 : bQ ≤ wr.heap.size := by omega
          have hbQ2 : wr.heap.size ≤ bQ := by omega
          clear hWQ hbQ hqp hbQ0
          go_wp2_with fail
          refine HM.out.mono ?_
          rw [← HbQ0.out]
          rintro e w21 ⟨hb21, hp21⟩
          rw [← HWQ.out] at hb21
          rcases hp21 with ⟨h9, _⟩ | ⟨_, u, rfl, hu⟩
          · exact absurd (HIw.out _ (List.getElem_mem hki)) h9
          have hz21 := hb21.size
          have HC21 := Lib.hid (HCQ.out.step (Nat.le_refl _) hb21)
          have HX21 := Lib.hid (sbx_scr HXQ.out (Scr.of (x := 0) hb21 (Nat.le_refl _)) (.inr (by omega)) (by omega))
          have HL21 := Lib.hid (HLQ.out.far hb21 (by omega))
          have HV21 := Lib.hid (val_scr HVQ.out (Scr.of (x := bX) hb21 (Nat.le_refl _)) (Nat.le_refl _) (by omega))
          have HB21 := Lib.hid (vb3_scr HBQ.out (Scr.of (x := 0) hb21 (Nat.le_refl _)) (.inr (by omega)) (by omega))
          have HQ21 := Lib.hid (HQb.out.step hb21 (by omega))
          have HP21 := Lib.hid ((HQp.out.below hb21).wide hz21)
          have HU21 := Lib.hid (ValueAt.more (S' := (· < w21.heap.size)) (fun b hb => hb.2) _ _ hu)
          have honeu := hu.one
          clear hb21 hu HM HCQ HXQ HLQ HVQ HBQ HQb HQp HWQ HC HX HLt HV HB s0 s1 p5
          obtain ⟨a3, c3, hcs, hok3, hl3, hc3, hf3⟩ := lent_field HL21.out (show hi ≤ w21.heap.size by omega) hlt
          obtain ⟨k0, k1, k2, k3, k4, k5, k6, k7, k8, k9, k10, k11, k12, k13⟩ := hcs.field
          obtain ⟨x0, x1⟩ := HX21.out.cells
          have HFd := Lib.hid (field_any l[k] p.items[k] u a3 c3 w21 (HRaw.out.sub (List.getElem_mem hki)) hok3 hl3 hc3 hf3 HU21.out)
          obtain ⟨r2, hr2⟩ : ∃ r, r = fieldAns l[k] p.items[k] := ⟨_, rfl⟩
          have HA2 := Lib.hid (show AnsOk r2 by rw [hr2]; exact fieldAns_ok _ _)
          rw [← hr2] at HFd
          clear hcs hf3
          go_wp2_with fail
          refine HFd.out.mono ?_
          rintro e w22 ⟨ev, rfl, hb22, he22⟩
          have hz22 := hb22.size
          have HC22 := Lib.hid (HC21.out.step (Nat.le_refl _) hb22)
          have HX22 := Lib.hid (sbx_scr HX21.out (Scr.of (x := 0) hb22 (Nat.le_refl _)) (.inr (by omega)) (by omega))
          have HL22 := Lib.hid (HL21.out.far hb22 (by omega))
          have HV22 := Lib.hid (val_scr HV21.out (Scr.of (x := bX) hb22 (Nat.le_refl _)) (Nat.le_refl _) (by omega))
          have HB22 := Lib.hid (vb3_scr HB21.out (Scr.of (x := 0) hb22 (Nat.le_refl _)) (.inr (by omega)) (by omega))
          have HQ22 := Lib.hid (HQ21.out.step hb22 (by omega))
          have HP22 := Lib.hid ((HP21.out.below hb22).wide hz22)
          have HE22 := Lib.hid he22.own
          clear hb22 he22 HFd HC21 HX21 HL21 HV21 HB21 HQ21 HP21 HU21 k0 k1 k2 k3 k4 k5 k6 k7 k8 k9 k10 k11 k12 k13 x0 x1 hok3 hl3 hc3
          obtain ⟨b, o, a4, c4, rfl, hb, hca, hfa⟩ := (HF.out.below HC22.out.b).get hlt
          obtain ⟨k0, k1, k2, k3, k4, k5, k6, k7, k8, k9, k10, k11, k12, k13⟩ := hca.field
          obtain ⟨_, _, ee, hok4, hl4, hc4, hf4⟩ := hfa.open
          obtain ⟨rfl, rfl⟩ := fieldCells_inj ee
          obtain ⟨s0, s1⟩ := HC22.out.s.cells
          obtain ⟨m0, m1, m2, m3, m4, m5⟩ := pc_cells HQ22.out
          have hbw : b < w.heap.size := hb
          have hzw := HC22.out.z
          have HRw := Lib.hid (fun (W : World) (hbW : Below w22.heap.size w22 W) => refFieldWhy_any l[k] p.items[k] a4 c4 a2 c2 W (HRaw.out.sub (List.getElem_mem hki)) hok4 hl4 hc4 (((hf4.wide (by omega)).below hbW).wide hbW.size) ((HP22.out.below hbW).wide hbW.size))
          rw [← hr2] at HRw
          clear hfa hca ee hf4 hr2
          go_wp2_with fail
          go_region_held3 (fun W => W.cell? ⟨w.heap.size, 1, none⟩ = some (.slice (some ⟨b, o, none⟩) l.length c) ∧ W.cell? ⟨b, o + k * 14, none⟩ = some (.string l[k].s.name) ∧ W.cell? ⟨b, o + k * 14 + 1, none⟩ = some (.int .u8 l[k].s.kind) ∧ W.cell? ⟨b, o + k * 14 + 2, none⟩ = some (.bool l[k].s.down) ∧ W.cell? ⟨b, o + k * 14 + 3, none⟩ = some (.int .u8 l[k].s.nulls) ∧ W.cell? ⟨b, o + k * 14 + 4, none⟩ = some (.bool l[k].s.bnd) ∧ W.cell? ⟨b, o + k * 14 + 5, none⟩ = some (.bool l[k].s.lb) ∧ W.cell? ⟨b, o + k * 14 + 6, none⟩ = some (.string l[k].s.lm) ∧ W.cell? ⟨b, o + k * 14 + 7, none⟩ = some (.bool l[k].s.hb) ∧ W.cell? ⟨b, o + k * 14 + 8, none⟩ = some (.string l[k].s.hm) ∧ W.cell? ⟨b, o + k * 14 + 9, none⟩ = some (.int .i64 l[k].s.most) ∧ W.cell? ⟨b, o + k * 14 + 10, none⟩ = some (.int .i64 l[k].s.st) ∧ W.cell? ⟨b, o + k * 14 + 11, none⟩ = some (.bool l[k].s.sh) ∧ W.cell? ⟨b, o + k * 14 + 12, none⟩ = some (.bool l[k].s.ba) ∧ W.cell? ⟨b, o + k * 14 + 13, none⟩ = some (.slice a4 l[k].fields.length c4) ∧ W.cell? ⟨bQ, 0, none⟩ = some (.int .u8 p.items[k].kind) ∧ W.cell? ⟨bQ, 1, none⟩ = some (.bool p.items[k].yes) ∧ W.cell? ⟨bQ, 2, none⟩ = some (.bool p.items[k].bel) ∧ W.cell? ⟨bQ, 3, none⟩ = some (.string p.items[k].mag) ∧ W.cell? ⟨bQ, 4, none⟩ = some (.string p.items[k].raw) ∧ W.cell? ⟨bQ, 5, none⟩ = some (.slice a2 p.items[k].items.length c2))
            (first | exact ⟨s1, k0, k1, k2, k3, k4, k5, k6, k7, k8, k9, k10, k11, k12, k13, m0, m1, m2, m3, m4, m5⟩ | exact ⟨(scr_cell HS3.out (by simp only; omega) (by simp only; omega)).trans s1, (scr_cell HS3.out (by simp only; omega) (by simp only; omega)).trans k0, (scr_cell HS3.out (by simp only; omega) (by simp only; omega)).trans k1, (scr_cell HS3.out (by simp only; omega) (by simp only; omega)).trans k2, (scr_cell HS3.out (by simp only; omega) (by simp only; omega)).trans k3, (scr_cell HS3.out (by simp only; omega) (by simp only; omega)).trans k4, (scr_cell HS3.out (by simp only; omega) (by simp only; omega)).trans k5, (scr_cell HS3.out (by simp only; omega) (by simp only; omega)).trans k6, (scr_cell HS3.out (by simp only; omega) (by simp only; omega)).trans k7, (scr_cell HS3.out (by simp only; omega) (by simp only; omega)).trans k8, (scr_cell HS3.out (by simp only; omega) (by simp only; omega)).trans k9, (scr_cell HS3.out (by simp only; omega) (by simp only; omega)).trans k10, (scr_cell HS3.out (by simp only; omega) (by simp only; omega)).trans k11, (scr_cell HS3.out (by simp only; omega) (by simp only; omega)).trans k12, (scr_cell HS3.out (by simp only; omega) (by simp only; omega)).trans k13, (scr_cell HS3.out (by simp only; omega) (by simp only; omega)).trans m0, (scr_cell HS3.out (by simp only; omega) (by simp only; omega)).trans m1, (scr_cell HS3.out (by simp only; omega) (by simp only; omega)).trans m2, (scr_cell HS3.out (by simp only; omega) (by simp only; omega)).trans m3, (scr_cell HS3.out (by simp only; omega) (by simp only; omega)).trans m4, (scr_cell HS3.out (by simp only; omega) (by simp only; omega)).trans m5⟩ | exact ⟨(scr_cell HS4.out (by simp only; omega) (by simp only; omega)).trans s1, (scr_cell HS4.out (by simp only; omega) (by simp only; omega)).trans k0, (scr_cell HS4.out (by simp only; omega) (by simp only; omega)).trans k1, (scr_cell HS4.out (by simp only; omega) (by simp only; omega)).trans k2, (scr_cell HS4.out (by simp only; omega) (by simp only; omega)).trans k3, (scr_cell HS4.out (by simp only; omega) (by simp only; omega)).trans k4, (scr_cell HS4.out (by simp only; omega) (by simp only; omega)).trans k5, (scr_cell HS4.out (by simp only; omega) (by simp only; omega)).trans k6, (scr_cell HS4.out (by simp only; omega) (by simp only; omega)).trans k7, (scr_cell HS4.out (by simp only; omega) (by simp only; omega)).trans k8, (scr_cell HS4.out (by simp only; omega) (by simp only; omega)).trans k9, (scr_cell HS4.out (by simp only; omega) (by simp only; omega)).trans k10, (scr_cell HS4.out (by simp only; omega) (by simp only; omega)).trans k11, (scr_cell HS4.out (by simp only; omega) (by simp only; omega)).trans k12, (scr_cell HS4.out (by simp only; omega) (by simp only; omega)).trans k13, (scr_cell HS4.out (by simp only; omega) (by simp only; omega)).trans m0, (scr_cell HS4.out (by simp only; omega) (by simp only; omega)).trans m1, (scr_cell HS4.out (by simp only; omega) (by simp only; omega)).trans m2, (scr_cell HS4.out (by simp only; omega) (by simp only; omega)).trans m3, (scr_cell HS4.out (by simp only; omega) (by simp only; omega)).trans m4, (scr_cell HS4.out (by simp only; omega) (by simp only; omega)).trans m5⟩)
            (first
              | (go_at_call 20; refine (HRw.out _ (Below.refl _ _).drew).mono ?_; rintro e w23 ⟨A2, n2, c2, rfl, hb23, ho23⟩; have hbb := (Below.refl w22.heap.size w22).drew.trans (hb23.mono (Nat.le_refl _)); have HBb := Lib.hid hbb; have HS3 := Lib.hid (scr_two (x := bV) (y := bV + 1) hbb (Nat.le_refl _)); clear hbb hb23; have HO23 := Lib.hid ho23; clear ho23; have HB23 := Lib.hid (vb3_scr HB22.out (Scr.of (x := 0) HBb.out (Nat.le_refl _)) (.inr (by omega)) (by omega)); obtain ⟨g0, g1, g2⟩ := HB23.out.cells; have f0 := HB23.out.free 0; have f1 := HB23.out.free 1; have f2 := HB23.out.free 2; have HS4 := Lib.hid (show Scr bV (bV + 1) w22 (((w23.setCell ⟨bV, 0, none⟩ (.int .i64 (frC r2))).setCell ⟨bV, 1, none⟩ (.int .i64 (frA r2))).setCell ⟨bV, 2, none⟩ (.slice A2 n2 c2)) from (((HS3.out.trans (Scr.set (p := ⟨bV, 0, none⟩) ⟨by simp, by simp⟩ _)).trans (Scr.set (p := ⟨bV, 1, none⟩) ⟨by simp, by simp⟩ _)).trans (Scr.set (p := ⟨bV, 2, none⟩) ⟨by simp, by simp⟩ _)))))
          obtain ⟨W24, hW24⟩ : ∃ W, W = (((w23.setCell ⟨bV, 0, none⟩ (.int .i64 (frC r2))).setCell ⟨bV, 1, none⟩ (.int .i64 (frA r2))).setCell ⟨bV, 2, none⟩ (.slice A2 n2 c2)) := ⟨_, rfl⟩
          rw [← hW24]
          have hz23 := HBb.out.size
          have hzW24 : W24.heap.size = w23.heap.size := by rw [hW24]; simp
          have HS := Lib.hid (show Scr bV (bV + 1) w22 W24 by rw [hW24]; exact HS4.out)
          have HC24 := Lib.hid (HC22.out.scr (Nat.le_refl _) HS.out (by omega))
          have HX24 := Lib.hid (sbx_scr HX22.out HS.out (.inl (by omega)) (by omega))
          have HL24 := Lib.hid (lent_scr HL22.out HS.out (.inl (by omega)) (by omega))
          have HV24 := Lib.hid (val_scr HV22.out HS.out (by omega) (by omega))
          have HB24 := Lib.hid (show VB3 W24 bV (frC r2) (frA r2) (.slice A2 n2 c2) by rw [hW24]; exact HB23.out.put)
          have HE24 := Lib.hid (HE22.out.scr HS.out (.inl (by omega)) (by omega))
          have HO24 := Lib.hid (show W24.ownsRow w22.heap.size 3 1 (.slice A2 n2 c2) (frP r2).length (pathVals (frP r2)) by rw [hW24]; exact ((HO23.out.setOut (by simp only [World.size_drew]; omega) _).setOut (by simp only [World.size_drew]; omega) _).setOut (by simp only [World.size_drew]; omega) _)
          have HT := Lib.hid (told_any (w0 := w) (w := W24) (lo := w.heap.size) HA2.out HL.out HC24.out.b (Nat.le_refl _) (HE24.out.ans.low (by omega)) (RowAt.of_own HO24.out))
          clear hW24 HS HS3 HS4 HBb HB23 HO23 HC22 HX22 HL22 HV22 HB22 HQ22 HP22 HE22 HRw s0 s1 k0 k1 k2 k3 k4 k5 k6 k7 k8 k9 k10 k11 k12 k13 m0 m1 m2 m3 m4 m5 g0 g1 g2 f0 f1 f2
          obtain ⟨v0, v1, v2⟩ := HB24.out.cells
          go_wp2_with fail
          refine HT.out.mono ?_
          rintro e w25 ⟨rfl, hb25⟩
          have hz25 := hb25.size
          have HC25 := Lib.hid (HC24.out.step (Nat.le_refl _) hb25)
          have HX25 := Lib.hid (sbx_scr HX24.out (Scr.of (x := 0) hb25 (Nat.le_refl _)) (.inr (by omega)) (by omega))
          have HL25 := Lib.hid (HL24.out.far hb25 (by omega))
          have HV25 := Lib.hid (val_scr HV24.out (Scr.of (x := bX) hb25 (Nat.le_refl _)) (Nat.le_refl _) (by omega))
          have HB25 := Lib.hid (vb3_scr HB24.out (Scr.of (x := 0) hb25 (Nat.le_refl _)) (.inr (by omega)) (by omega))
          clear hb25 HT HC24 HX24 HL24 HV24 HB24 HE24 HO24 v0 v1 v2
          go_wp2_with fail
          go_roundw
          case rel => exact ⟨k + 1, frC r2, frA r2, A2, n2, c2, by go_num, by omega, by omega, HC25, HX25, HL25, HV25, HB25⟩
          case measure => simp [intOf]; omega
        · have p5 : (wr.alloc (.cells #[.int .u8 0, .bool false, .bool false, .string ⟨#[]⟩, .string ⟨#[]⟩, .slice none 0 0] 30)).cell? ⟨w.heap.size + 1, 5, none⟩ = some (.slice a' p.items.length c') := by rw [World.cell?_alloc_lt _ _ _ (by have := HC.out.z; simp only; omega)]; exact (pc_cells HC.out.p).2.2.2.2.2
          have hqp : PartAt wr (· < wr.heap.size) zeroPart (partCells zeroPart none 0) := PartAt.shut (by decide) (Nat.zero_le _) (Nat.zero_le _) (Nat.le_refl _) (Nat.zero_le _) trivial
          obtain ⟨bQ, hbQ0⟩ : ∃ b, b = wr.heap.size := ⟨_, rfl⟩
          obtain ⟨WQ, hWQ⟩ : ∃ WQ, WQ = wr.alloc (.cells #[.int .u8 zeroPart.kind, .bool zeroPart.yes, .bool zeroPart.bel, .string zeroPart.mag, .string zeroPart.raw, .slice none zeroPart.items.length 0] 30) := ⟨_, rfl⟩
          have hbQ : Below wr.heap.size wr WQ := by rw [hWQ]; exact below_a1 _ _
          have hzQ : WQ.heap.size = wr.heap.size + 1 := by rw [hWQ]; simp
          have HCQ := Lib.hid (HC.out.step (Nat.le_refl _) hbQ)
          have HXQ := Lib.hid (sbx_scr HX.out (Scr.of (x := 0) hbQ (Nat.le_refl _)) (.inr (by omega)) (by omega))
          have HLQ := Lib.hid (HLt.out.far hbQ (by omega))
          have HVQ := Lib.hid (val_scr HV.out (Scr.of (x := bX) hbQ (Nat.le_refl _)) (Nat.le_refl _) (by omega))
          have HBQ := Lib.hid (vb3_scr HB.out (Scr.of (x := 0) hbQ (Nat.le_refl _)) (.inr (by omega)) (by omega))
          have HQb := Lib.hid (show PcBox WQ bQ #[.int .u8 zeroPart.kind, .bool zeroPart.yes, .bool zeroPart.bel, .string zeroPart.mag, .string zeroPart.raw, .slice none zeroPart.items.length 0] by rw [hWQ, hbQ0]; exact World.alloc_heap_new wr _)
          have HQp := Lib.hid (show PartAt WQ (· < WQ.heap.size) zeroPart (partCells zeroPart none 0) from (hqp.below hbQ).wide hbQ.size)
          have HM := Lib.hid (valMake_any zeroPart none 0 WQ HQp.out)
          unfold partCells at HM
          rw [hWQ] at HM
          have HWQ := Lib.hid hWQ
          have HbQ0 := Lib.hid hbQ0
          have hbQ1 : bQ ≤ wr.heap.size := by omega
          have hbQ2 : wr.heap.size ≤ bQ := by omega
          clear hWQ hbQ hqp hbQ0
          go_wp2_with fail
          refine HM.out.mono ?_
          rw [← HbQ0.out]
          rintro e w21 ⟨hb21, hp21⟩
          rw [← HWQ.out] at hb21
          rcases hp21 with ⟨h9, _⟩ | ⟨_, u, rfl, hu⟩
          · exact absurd (show zeroPart.why = 0 by rfl) h9
          have hz21 := hb21.size
          have HC21 := Lib.hid (HCQ.out.step (Nat.le_refl _) hb21)
          have HX21 := Lib.hid (sbx_scr HXQ.out (Scr.of (x := 0) hb21 (Nat.le_refl _)) (.inr (by omega)) (by omega))
          have HL21 := Lib.hid (HLQ.out.far hb21 (by omega))
          have HV21 := Lib.hid (val_scr HVQ.out (Scr.of (x := bX) hb21 (Nat.le_refl _)) (Nat.le_refl _) (by omega))
          have HB21 := Lib.hid (vb3_scr HBQ.out (Scr.of (x := 0) hb21 (Nat.le_refl _)) (.inr (by omega)) (by omega))
          have HQ21 := Lib.hid (HQb.out.step hb21 (by omega))
          have HP21 := Lib.hid ((HQp.out.below hb21).wide hz21)
          have HU21 := Lib.hid (ValueAt.more (S' := (· < w21.heap.size)) (fun b hb => hb.2) _ _ hu)
          have honeu := hu.one
          clear hb21 hu HM HCQ HXQ HLQ HVQ HBQ HQb HQp HWQ HC HX HLt HV HB s0 s1 p5
          obtain ⟨a3, c3, hcs, hok3, hl3, hc3, hf3⟩ := lent_field HL21.out (show hi ≤ w21.heap.size by omega) hlt
          obtain ⟨k0, k1, k2, k3, k4, k5, k6, k7, k8, k9, k10, k11, k12, k13⟩ := hcs.field
          obtain ⟨x0, x1⟩ := HX21.out.cells
          have HFd := Lib.hid (field_any l[k] zeroPart u a3 c3 w21 (RawOk.of_may zeroPart rfl (by decide)) hok3 hl3 hc3 hf3 HU21.out)
          obtain ⟨r2, hr2⟩ : ∃ r, r = fieldAns l[k] zeroPart := ⟨_, rfl⟩
          have HA2 := Lib.hid (show AnsOk r2 by rw [hr2]; exact fieldAns_ok _ _)
          rw [← hr2] at HFd
          clear hcs hf3
          go_wp2_with fail
          refine HFd.out.mono ?_
          rintro e w22 ⟨ev, rfl, hb22, he22⟩
          have hz22 := hb22.size
          have HC22 := Lib.hid (HC21.out.step (Nat.le_refl _) hb22)
          have HX22 := Lib.hid (sbx_scr HX21.out (Scr.of (x := 0) hb22 (Nat.le_refl _)) (.inr (by omega)) (by omega))
          have HL22 := Lib.hid (HL21.out.far hb22 (by omega))
          have HV22 := Lib.hid (val_scr HV21.out (Scr.of (x := bX) hb22 (Nat.le_refl _)) (Nat.le_refl _) (by omega))
          have HB22 := Lib.hid (vb3_scr HB21.out (Scr.of (x := 0) hb22 (Nat.le_refl _)) (.inr (by omega)) (by omega))
          have HQ22 := Lib.hid (HQ21.out.step hb22 (by omega))
          have HP22 := Lib.hid ((HP21.out.below hb22).wide hz22)
          have HE22 := Lib.hid he22.own
          clear hb22 he22 HFd HC21 HX21 HL21 HV21 HB21 HQ21 HP21 HU21 k0 k1 k2 k3 k4 k5 k6 k7 k8 k9 k10 k11 k12 k13 x0 x1 hok3 hl3 hc3
          obtain ⟨b, o, a4, c4, rfl, hb, hca, hfa⟩ := (HF.out.below HC22.out.b).get hlt
          obtain ⟨k0, k1, k2, k3, k4, k5, k6, k7, k8, k9, k10, k11, k12, k13⟩ := hca.field
          obtain ⟨_, _, ee, hok4, hl4, hc4, hf4⟩ := hfa.open
          obtain ⟨rfl, rfl⟩ := fieldCells_inj ee
          obtain ⟨s0, s1⟩ := HC22.out.s.cells
          obtain ⟨m0, m1, m2, m3, m4, m5⟩ := pc_cells HQ22.out
          have hbw : b < w.heap.size := hb
          have hzw := HC22.out.z
          have HRw := Lib.hid (fun (W : World) (hbW : Below w22.heap.size w22 W) => refFieldWhy_any l[k] zeroPart a4 c4 none 0 W (RawOk.of_may zeroPart rfl (by decide)) hok4 hl4 hc4 (((hf4.wide (by omega)).below hbW).wide hbW.size) ((HP22.out.below hbW).wide hbW.size))
          rw [← hr2] at HRw
          clear hfa hca ee hf4 hr2
          go_wp2_with fail
          go_region_held3 (fun W => W.cell? ⟨w.heap.size, 1, none⟩ = some (.slice (some ⟨b, o, none⟩) l.length c) ∧ W.cell? ⟨b, o + k * 14, none⟩ = some (.string l[k].s.name) ∧ W.cell? ⟨b, o + k * 14 + 1, none⟩ = some (.int .u8 l[k].s.kind) ∧ W.cell? ⟨b, o + k * 14 + 2, none⟩ = some (.bool l[k].s.down) ∧ W.cell? ⟨b, o + k * 14 + 3, none⟩ = some (.int .u8 l[k].s.nulls) ∧ W.cell? ⟨b, o + k * 14 + 4, none⟩ = some (.bool l[k].s.bnd) ∧ W.cell? ⟨b, o + k * 14 + 5, none⟩ = some (.bool l[k].s.lb) ∧ W.cell? ⟨b, o + k * 14 + 6, none⟩ = some (.string l[k].s.lm) ∧ W.cell? ⟨b, o + k * 14 + 7, none⟩ = some (.bool l[k].s.hb) ∧ W.cell? ⟨b, o + k * 14 + 8, none⟩ = some (.string l[k].s.hm) ∧ W.cell? ⟨b, o + k * 14 + 9, none⟩ = some (.int .i64 l[k].s.most) ∧ W.cell? ⟨b, o + k * 14 + 10, none⟩ = some (.int .i64 l[k].s.st) ∧ W.cell? ⟨b, o + k * 14 + 11, none⟩ = some (.bool l[k].s.sh) ∧ W.cell? ⟨b, o + k * 14 + 12, none⟩ = some (.bool l[k].s.ba) ∧ W.cell? ⟨b, o + k * 14 + 13, none⟩ = some (.slice a4 l[k].fields.length c4) ∧ W.cell? ⟨bQ, 0, none⟩ = some (.int .u8 zeroPart.kind) ∧ W.cell? ⟨bQ, 1, none⟩ = some (.bool zeroPart.yes) ∧ W.cell? ⟨bQ, 2, none⟩ = some (.bool zeroPart.bel) ∧ W.cell? ⟨bQ, 3, none⟩ = some (.string zeroPart.mag) ∧ W.cell? ⟨bQ, 4, none⟩ = some (.string zeroPart.raw) ∧ W.cell? ⟨bQ, 5, none⟩ = some (.slice none zeroPart.items.length 0))
            (first | exact ⟨s1, k0, k1, k2, k3, k4, k5, k6, k7, k8, k9, k10, k11, k12, k13, m0, m1, m2, m3, m4, m5⟩ | exact ⟨(scr_cell HS3.out (by simp only; omega) (by simp only; omega)).trans s1, (scr_cell HS3.out (by simp only; omega) (by simp only; omega)).trans k0, (scr_cell HS3.out (by simp only; omega) (by simp only; omega)).trans k1, (scr_cell HS3.out (by simp only; omega) (by simp only; omega)).trans k2, (scr_cell HS3.out (by simp only; omega) (by simp only; omega)).trans k3, (scr_cell HS3.out (by simp only; omega) (by simp only; omega)).trans k4, (scr_cell HS3.out (by simp only; omega) (by simp only; omega)).trans k5, (scr_cell HS3.out (by simp only; omega) (by simp only; omega)).trans k6, (scr_cell HS3.out (by simp only; omega) (by simp only; omega)).trans k7, (scr_cell HS3.out (by simp only; omega) (by simp only; omega)).trans k8, (scr_cell HS3.out (by simp only; omega) (by simp only; omega)).trans k9, (scr_cell HS3.out (by simp only; omega) (by simp only; omega)).trans k10, (scr_cell HS3.out (by simp only; omega) (by simp only; omega)).trans k11, (scr_cell HS3.out (by simp only; omega) (by simp only; omega)).trans k12, (scr_cell HS3.out (by simp only; omega) (by simp only; omega)).trans k13, (scr_cell HS3.out (by simp only; omega) (by simp only; omega)).trans m0, (scr_cell HS3.out (by simp only; omega) (by simp only; omega)).trans m1, (scr_cell HS3.out (by simp only; omega) (by simp only; omega)).trans m2, (scr_cell HS3.out (by simp only; omega) (by simp only; omega)).trans m3, (scr_cell HS3.out (by simp only; omega) (by simp only; omega)).trans m4, (scr_cell HS3.out (by simp only; omega) (by simp only; omega)).trans m5⟩ | exact ⟨(scr_cell HS4.out (by simp only; omega) (by simp only; omega)).trans s1, (scr_cell HS4.out (by simp only; omega) (by simp only; omega)).trans k0, (scr_cell HS4.out (by simp only; omega) (by simp only; omega)).trans k1, (scr_cell HS4.out (by simp only; omega) (by simp only; omega)).trans k2, (scr_cell HS4.out (by simp only; omega) (by simp only; omega)).trans k3, (scr_cell HS4.out (by simp only; omega) (by simp only; omega)).trans k4, (scr_cell HS4.out (by simp only; omega) (by simp only; omega)).trans k5, (scr_cell HS4.out (by simp only; omega) (by simp only; omega)).trans k6, (scr_cell HS4.out (by simp only; omega) (by simp only; omega)).trans k7, (scr_cell HS4.out (by simp only; omega) (by simp only; omega)).trans k8, (scr_cell HS4.out (by simp only; omega) (by simp only; omega)).trans k9, (scr_cell HS4.out (by simp only; omega) (by simp only; omega)).trans k10, (scr_cell HS4.out (by simp only; omega) (by simp only; omega)).trans k11, (scr_cell HS4.out (by simp only; omega) (by simp only; omega)).trans k12, (scr_cell HS4.out (by simp only; omega) (by simp only; omega)).trans k13, (scr_cell HS4.out (by simp only; omega) (by simp only; omega)).trans m0, (scr_cell HS4.out (by simp only; omega) (by simp only; omega)).trans m1, (scr_cell HS4.out (by simp only; omega) (by simp only; omega)).trans m2, (scr_cell HS4.out (by simp only; omega) (by simp only; omega)).trans m3, (scr_cell HS4.out (by simp only; omega) (by simp only; omega)).trans m4, (scr_cell HS4.out (by simp only; omega) (by simp only; omega)).trans m5⟩)
            (first
              | (go_at_call 20; refine (HRw.out _ (Below.refl _ _).drew).mono ?_; rintro e w23 ⟨A2, n2, c2, rfl, hb23, ho23⟩; have hbb := (Below.refl w22.heap.size w22).drew.trans (hb23.mono (Nat.le_refl _)); have HBb := Lib.hid hbb; have HS3 := Lib.hid (scr_two (x := bV) (y := bV + 1) hbb (Nat.le_refl _)); clear hbb hb23; have HO23 := Lib.hid ho23; clear ho23; have HB23 := Lib.hid (vb3_scr HB22.out (Scr.of (x := 0) HBb.out (Nat.le_refl _)) (.inr (by omega)) (by omega)); obtain ⟨g0, g1, g2⟩ := HB23.out.cells; have f0 := HB23.out.free 0; have f1 := HB23.out.free 1; have f2 := HB23.out.free 2; have HS4 := Lib.hid (show Scr bV (bV + 1) w22 (((w23.setCell ⟨bV, 0, none⟩ (.int .i64 (frC r2))).setCell ⟨bV, 1, none⟩ (.int .i64 (frA r2))).setCell ⟨bV, 2, none⟩ (.slice A2 n2 c2)) from (((HS3.out.trans (Scr.set (p := ⟨bV, 0, none⟩) ⟨by simp, by simp⟩ _)).trans (Scr.set (p := ⟨bV, 1, none⟩) ⟨by simp, by simp⟩ _)).trans (Scr.set (p := ⟨bV, 2, none⟩) ⟨by simp, by simp⟩ _)))))
          obtain ⟨W24, hW24⟩ : ∃ W, W = (((w23.setCell ⟨bV, 0, none⟩ (.int .i64 (frC r2))).setCell ⟨bV, 1, none⟩ (.int .i64 (frA r2))).setCell ⟨bV, 2, none⟩ (.slice A2 n2 c2)) := ⟨_, rfl⟩
          rw [← hW24]
          have hz23 := HBb.out.size
          have hzW24 : W24.heap.size = w23.heap.size := by rw [hW24]; simp
          have HS := Lib.hid (show Scr bV (bV + 1) w22 W24 by rw [hW24]; exact HS4.out)
          have HC24 := Lib.hid (HC22.out.scr (Nat.le_refl _) HS.out (by omega))
          have HX24 := Lib.hid (sbx_scr HX22.out HS.out (.inl (by omega)) (by omega))
          have HL24 := Lib.hid (lent_scr HL22.out HS.out (.inl (by omega)) (by omega))
          have HV24 := Lib.hid (val_scr HV22.out HS.out (by omega) (by omega))
          have HB24 := Lib.hid (show VB3 W24 bV (frC r2) (frA r2) (.slice A2 n2 c2) by rw [hW24]; exact HB23.out.put)
          have HE24 := Lib.hid (HE22.out.scr HS.out (.inl (by omega)) (by omega))
          have HO24 := Lib.hid (show W24.ownsRow w22.heap.size 3 1 (.slice A2 n2 c2) (frP r2).length (pathVals (frP r2)) by rw [hW24]; exact ((HO23.out.setOut (by simp only [World.size_drew]; omega) _).setOut (by simp only [World.size_drew]; omega) _).setOut (by simp only [World.size_drew]; omega) _)
          have HT := Lib.hid (told_any (w0 := w) (w := W24) (lo := w.heap.size) HA2.out HL.out HC24.out.b (Nat.le_refl _) (HE24.out.ans.low (by omega)) (RowAt.of_own HO24.out))
          clear hW24 HS HS3 HS4 HBb HB23 HO23 HC22 HX22 HL22 HV22 HB22 HQ22 HP22 HE22 HRw s0 s1 k0 k1 k2 k3 k4 k5 k6 k7 k8 k9 k10 k11 k12 k13 m0 m1 m2 m3 m4 m5 g0 g1 g2 f0 f1 f2
          obtain ⟨v0, v1, v2⟩ := HB24.out.cells
          go_wp2_with fail
          refine HT.out.mono ?_
          rintro e w25 ⟨rfl, hb25⟩
          have hz25 := hb25.size
          have HC25 := Lib.hid (HC24.out.step (Nat.le_refl _) hb25)
          have HX25 := Lib.hid (sbx_scr HX24.out (Scr.of (x := 0) hb25 (Nat.le_refl _)) (.inr (by omega)) (by omega))
          have HL25 := Lib.hid (HL24.out.far hb25 (by omega))
          have HV25 := Lib.hid (val_scr HV24.out (Scr.of (x := bX) hb25 (Nat.le_refl _)) (Nat.le_refl _) (by omega))
          have HB25 := Lib.hid (vb3_scr HB24.out (Scr.of (x := 0) hb25 (Nat.le_refl _)) (.inr (by omega)) (by omega))
          clear hb25 HT HC24 HX24 HL24 HV24 HB24 HE24 HO24 v0 v1 v2
          go_wp2_with fail
          go_roundw
          case rel => exact ⟨k + 1, frC r2, frA r2, A2, n2, c2, by go_num, by omega, by omega, HC25, HX25, HL25, HV25, HB25⟩
          case measure => simp [intOf]; omega
      · obtain ⟨s0, s1⟩ := HC.out.s.cells
        obtain ⟨x0, x1⟩ := HX.out.cells
        have HK4 := Lib.hid (keptF_any l g hi a c wr HLt.out (by omega) ((HF.out.below HC.out.b).wide HC.out.b.size) HSl.out.len HSl.out)
        go_wp2_with fail
        refine HK4.out.mono ?_
        rintro e w31 ⟨rfl, hb31⟩
        have hz31 := hb31.size
        have HC31 := Lib.hid (HC.out.step (Nat.le_refl _) hb31)
        have HV31 := Lib.hid (val_scr HV.out (Scr.of (x := bX) hb31 (Nat.le_refl _)) (Nat.le_refl _) (by omega))
        clear hb31 HK4 HC HX HLt HV HB x0 x1 s0 s1
        have HTe := Lib.hid (tell_ex p v w31 HMay.out (HV31.out.wide (by omega)))
        go_wp2_with fail
        refine HTe.out.mono ?_
        rintro e w32 ⟨a6, c6, rfl, hb32, hp32⟩
        obtain ⟨W32, hW32⟩ : ∃ W, W = w32.alloc (.cells #[.int .u8 p.kind, .bool p.yes, .bool p.bel, .string p.mag, .string p.raw, .slice a6 p.items.length c6] 30) := ⟨_, rfl⟩
        have hb32' : Below w31.heap.size w31 W32 := by rw [hW32]; exact hb32.alloc hb32.size _
        have hz32 := hb32.size
        have hzW32 : W32.heap.size = w32.heap.size + 1 := by rw [hW32]; simp
        have HC32 := Lib.hid (HC31.out.step (Nat.le_refl _) hb32')
        have HPn := Lib.hid (show PcBox W32 w32.heap.size #[.int .u8 p.kind, .bool p.yes, .bool p.bel, .string p.mag, .string p.raw, .slice a6 p.items.length c6] by rw [hW32]; exact World.alloc_heap_new w32 _)
        have HPt := Lib.hid (show PartAt W32 (· < W32.heap.size) p (partCells p a6 c6) from PartAt.more (fun b hb => by have := hb.2; omega) _ _ (PartAt.keep (fun p hp => by rw [hW32]; exact World.cell?_alloc_lt _ _ _ hp.2) _ _ hp32))
        obtain ⟨m0, m1, m2, m3, m4, m5⟩ := pc_cells HPn.out
        obtain ⟨l0, l1, l2, l3, l4, l5⟩ := pc_cells HC32.out.p
        rw [hW32] at m0 m1 m2 m3 m4 m5 l0 l1 l2 l3 l4 l5
        have HSm := Lib.hid (same00_any p a6 c6 a' c' W32 HPt.out ((HP.out.below HC32.out.b).wide HC32.out.b.size))
        unfold partCells at HSm
        have HW32 := Lib.hid hW32
        clear hb32 hb32' hp32 hW32 HTe HC31 HV31
        go_wp2_with fail
        rw [← HW32.out]
        refine HSm.out.mono ?_
        rintro e w33 ⟨rfl, hb33⟩
        have HC33 := Lib.hid (HC32.out.step (Nat.le_refl _) hb33)
        clear hb33 HSm HC32 HPn HPt m0 m1 m2 m3 m4 m5 l0 l1 l2 l3 l4 l5 HW32
        go_wp2_with fail
        go_ret
        exact ⟨rfl, HC33.out.b⟩
    · obtain rfl : k = l.length := by omega
      obtain ⟨s0, s1⟩ := HC.out.s.cells
      obtain ⟨x0, x1⟩ := HX.out.cells
      have HK4 := Lib.hid (keptF_any l g hi a c wr HLt.out (by omega) ((HF.out.below HC.out.b).wide HC.out.b.size) HSl.out.len HSl.out)
      go_wp2_with fail
      refine HK4.out.mono ?_
      rintro e w31 ⟨rfl, hb31⟩
      have hz31 := hb31.size
      have HC31 := Lib.hid (HC.out.step (Nat.le_refl _) hb31)
      have HV31 := Lib.hid (val_scr HV.out (Scr.of (x := bX) hb31 (Nat.le_refl _)) (Nat.le_refl _) (by omega))
      clear hb31 HK4 HC HX HLt HV HB x0 x1 s0 s1
      have HTe := Lib.hid (tell_ex p v w31 HMay.out (HV31.out.wide (by omega)))
      go_wp2_with fail
      refine HTe.out.mono ?_
      rintro e w32 ⟨a6, c6, rfl, hb32, hp32⟩
      obtain ⟨W32, hW32⟩ : ∃ W, W = w32.alloc (.cells #[.int .u8 p.kind, .bool p.yes, .bool p.bel, .string p.mag, .string p.raw, .slice a6 p.items.length c6] 30) := ⟨_, rfl⟩
      have hb32' : Below w31.heap.size w31 W32 := by rw [hW32]; exact hb32.alloc hb32.size _
      have hz32 := hb32.size
      have hzW32 : W32.heap.size = w32.heap.size + 1 := by rw [hW32]; simp
      have HC32 := Lib.hid (HC31.out.step (Nat.le_refl _) hb32')
      have HPn := Lib.hid (show PcBox W32 w32.heap.size #[.int .u8 p.kind, .bool p.yes, .bool p.bel, .string p.mag, .string p.raw, .slice a6 p.items.length c6] by rw [hW32]; exact World.alloc_heap_new w32 _)
      have HPt := Lib.hid (show PartAt W32 (· < W32.heap.size) p (partCells p a6 c6) from PartAt.more (fun b hb => by have := hb.2; omega) _ _ (PartAt.keep (fun p hp => by rw [hW32]; exact World.cell?_alloc_lt _ _ _ hp.2) _ _ hp32))
      obtain ⟨m0, m1, m2, m3, m4, m5⟩ := pc_cells HPn.out
      obtain ⟨l0, l1, l2, l3, l4, l5⟩ := pc_cells HC32.out.p
      rw [hW32] at m0 m1 m2 m3 m4 m5 l0 l1 l2 l3 l4 l5
      have HSm := Lib.hid (same00_any p a6 c6 a' c' W32 HPt.out ((HP.out.below HC32.out.b).wide HC32.out.b.size))
      unfold partCells at HSm
      have HW32 := Lib.hid hW32
      clear hb32 hb32' hp32 hW32 HTe HC31 HV31
      go_wp2_with fail
      rw [← HW32.out]
      refine HSm.out.mono ?_
      rintro e w33 ⟨rfl, hb33⟩
      have HC33 := Lib.hid (HC32.out.step (Nat.le_refl _) hb33)
      clear hb33 HSm HC32 HPn HPt m0 m1 m2 m3 m4 m5 l0 l1 l2 l3 l4 l5 HW32
      go_wp2_with fail
      go_ret
      exact ⟨rfl, HC33.out.b⟩
end Go.Proofs.YtcjllhdbepchnaaGreatDoor
