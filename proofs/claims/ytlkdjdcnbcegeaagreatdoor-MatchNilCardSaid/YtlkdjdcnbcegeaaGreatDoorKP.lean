/-
  ucd.mark, of a mark's text.
-/
import Derived.Test.YtlkdjdcnbcegeaaGreatDoorKM
import Derived.Test.YtlkdjdcnbcegeaaGreatDoorKO
namespace Go.Proofs.YtlkdjdcnbcegeaaGreatDoor
open Go.RowKit Go.WideShapes
set_option linter.unusedVariables false
set_option linter.unusedSimpArgs false
/-- What is known of strconv.Itoa, from the world w on. -/
def ItoaHere (w : World) : Prop := ∀ n : Nat, n ≤ 254 → ∀ W, Below w.heap.size w W → Calls Tryz.prog 85 #[.int .i64 n] W (Ret (.string (txt (Lib.decDigits n))) W)
theorem ItoaHere.on {w W : World} (h : ItoaHere w) (hb : Below w.heap.size w W) : ItoaHere W := fun n hn W' hb' => h n hn W' (hb.trans (hb'.mono hb.size))
theorem dec_no59 {n : Nat} (hn : n ≤ 254) : (59 : UInt8) ∉ Lib.decDigits n := by
  have h : (List.range 255).all (fun n => decide ((59 : UInt8) ∉ Lib.decDigits n)) = true := by kernel_rfl
  exact of_decide_eq_true (List.all_eq_true.1 h n (List.mem_range.2 (by omega)))
theorem mkCut_no {m : MK} (hc : 0 ≤ m.cls ∧ m.cls ≤ 254) : ∀ y ∈ mkCut m, (59 : UInt8) ∉ y := by
  intro y hy
  simp only [mkCut, List.mem_cons, List.not_mem_nil, or_false] at hy
  rcases hy with rfl | rfl | rfl
  · exact hexW_no hexU_ne59 _
  · exact dec_no59 (by omega)
  · exact pts_no59 _
theorem own_box_off {w : World} {N n size B : Nat} {e e2 : TypeId} {v : Value} {xs : List Value} {cs : Array Value} {fr : Nat × Nat} (h : w.ownsRow N e size v n xs) (hb : w.heap[B]? = some (.cells cs e2 fr)) (hne : e ≠ e2) : some B ≠ v.ownBlock := by
  rcases h.2 with ⟨rfl, _⟩ | ⟨g, cap, cur, rfl, _, hg, _⟩
  · simp [Value.ownBlock]
  · intro e3
    have : B = g := by simpa [Value.ownBlock] using e3
    subst this
    rw [hb] at hg
    cases hg
    exact hne rfl
/-- What holds while a mark's parts are read. -/
structure MInv (w wr : World) (T R2 : Nat) (m : MK) (k : Nat) (vo : Value) : Prop where
  b : Below w.heap.size w wr
  t : wr.heap[T]? = some (.cells #[.int .i64 m.pt, .int .i64 m.cls, vo] 75 (0, 0))
  r : wr.heap[R2]? = some (.cells ((hexs m.parts).map fun y => Value.string (txt y)).toArray 9 (0, 0))
  q : wr.heap[w.heap.size]? = some (.cells #[.int .i64 0, .int .i64 0, .slice none 0 0] 75 (0, 0))
  o : wr.ownsRow (T + 1) 3 1 vo k (intCells (m.parts.take k))
  nT : w.heap.size < T
  z : T < wr.heap.size
theorem MInv.below {w wr w' : World} {T R2 : Nat} {m : MK} {k : Nat} {vo : Value} (h : MInv w wr T R2 m k vo) (hb : Below wr.heap.size wr w') : MInv w w' T R2 m k vo :=
  ⟨h.b.trans (hb.mono h.b.size), (hb.block T h.z).trans h.t, (hb.block R2 (Array.getElem?_eq_some_iff.1 h.r).1).trans h.r, (hb.block _ (by have := h.nT; have := h.z; omega)).trans h.q, own_under h.o hb, h.nT, Nat.lt_of_lt_of_le h.z hb.size⟩
theorem pts_atleast : ∀ l : List Int, l.length ≤ (ptsText l).length
  | [] => by simp
  | [p] => by simp [ptsText, Lib.join, List.intercalate, List.intersperse]; rw [hexW_len]; omega
  | p :: q :: r => by
    have ih := pts_atleast (q :: r)
    unfold ptsText at ih ⊢
    rw [List.map_cons, List.map_cons, join_more]
    rw [List.map_cons] at ih
    simp only [List.length_append, List.length_cons] at ih ⊢
    omega
theorem mInv_next {w wa w5 : World} {T R2 k g c : Nat} {m : MK} {vo : Value} {p : Int} (h : MInv w wa T R2 m k vo) (hg : wa.grownBy w5 vo.ownBlock) (ho : w5.ownsRow (T + 1) 3 1 (.slice (some ⟨g, 0, none⟩) (k + 1) c) (k + 1) (intCells (m.parts.take k) ++ [.int .i64 p])) (hk : m.parts.take (k + 1) = m.parts.take k ++ [p]) (hR : R2 ≠ T) :
    MInv w (w5.setCell ⟨T, 2, none⟩ (.slice (some ⟨g, 0, none⟩) (k + 1) c)) T R2 m (k + 1) (.slice (some ⟨g, 0, none⟩) (k + 1) c) := by
  have hT := h.z
  have hN := h.nT
  have hlo : ∀ j, vo.ownBlock = some j → T + 1 ≤ j := fun j e => (h.o.lt j e).1
  have hT5 := (hg.block T h.z (own_box_off h.o h.t (by decide))).trans h.t
  have hR5 := (hg.block R2 (Array.getElem?_eq_some_iff.1 h.r).1 (own_box_off h.o h.r (by decide))).trans h.r
  have hQ5 := (hg.block w.heap.size (by omega) (own_box_off h.o h.q (by decide))).trans h.q
  have hgl : T + 1 ≤ g := (ho.lt g rfl).1
  have hT6 := heap_setCell_same w5 T 2 _ _ (.slice (some ⟨g, 0, none⟩) (k + 1) c) hT5
  refine ⟨(h.b.grown hg h.b.size (fun j e => by have := hlo j e; omega)).setCell (p := ⟨T, 2, none⟩) (show w.heap.size ≤ T by omega) _, by simpa using hT6, (Below.heap_setCell _ _ _ _ (by show R2 ≠ T; exact hR)).trans hR5, (Below.heap_setCell _ _ _ _ (by show w.heap.size ≠ T; omega)).trans hQ5, ?_, hN, by simp; have := hg.size; omega⟩
  rw [hk]
  have e : intCells (m.parts.take k ++ [p]) = intCells (m.parts.take k) ++ [.int .i64 p] := by simp [intCells]
  rw [e]
  refine ⟨ho.1, ?_⟩
  rcases ho.2 with ⟨e, _⟩ | ⟨g', cap, cur, e, h2, h3, h4⟩
  · cases e
  · refine Or.inr ⟨g', cap, cur, e, h2, ?_, h4⟩
    rw [Below.heap_setCell _ _ _ _ (by show g' ≠ T; omega)]
    exact h3
set_option maxRecDepth 100000 in
set_option maxHeartbeats 8000000 in
theorem mark_ok (m : MK) (hm : m.may = true) (hsz : (txt m.text).size < 4294967281) (mx : Int) (w : World) (HX : UHere w) (HI : ItoaHere w) (hmx : w.cell? ⟨lays146_ren.g 1, 0, none⟩ = some (.int .i64 mx)) :
    Calls Tryz.prog 54 #[.string (txt m.text)] w fun e w' => ∃ v, e = .returned (.agg #[.int .i64 m.pt, .int .i64 m.cls, v]) ∧ Below w.heap.size w w' ∧ w'.ownsRow w.heap.size 3 1 v m.parts.length (intCells m.parts) := by
  obtain ⟨hfp, hcl, hpa⟩ := may_of hm
  have HX0 := Lib.hid HX
  have HI0 := Lib.hid HI
  have HM := Lib.hid hmx
  have hM0 : lays146_ren.g 1 < w.heap.size := Lib.lt_of_cell hmx
  have HB0 := Lib.hid (Below.refl w.heap.size w)
  have hsz3 := hsz
  rw [mk_cut] at hsz3
  have HS := Lib.hid (fun W hW => splitBy_ok 59 (mkCut m) (by simp [mkCut]) (mkCut_no hcl) hsz3 mx W hW)
  rw [← mk_cut] at HS
  have HFP := Lib.hid hfp
  have HPA := Lib.hid hpa
  obtain ⟨C, hC⟩ := Int.eq_ofNat_of_zero_le hcl.1
  have hC2 : C ≤ 254 := by omega
  have hpl : (txt (ptsText m.parts)).size < 4294967281 := by
    rw [txt_size] at hsz ⊢
    have : m.text.length = m.head.length + (ptsText m.parts).length := by simp [MK.text]
    omega
  have HPL := Lib.hid hpl
  clear HX HI hmx hfp hpa hsz hsz3 hm hpl
  generalize txt m.text = S at HS ⊢
  go_enter Tryz.func54, Tryz.ntmps54
  go_wp2_with fail
  have HQ0 := Lib.hid (World.alloc_heap_new w (.cells #[Value.int .i64 0, Value.int .i64 0, Value.slice none 0 0] 75))
  have HB1 := Lib.hid (HB0.out.alloc (Nat.le_refl _) (.cells #[Value.int .i64 0, Value.int .i64 0, Value.slice none 0 0] 75))
  refine (HS.out _ ((HB1.out.cell (p := ⟨lays146_ren.g 1, 0, none⟩) hM0).trans HM.out)).mono ?_
  rintro e w2 ⟨rfl, rfl⟩
  rw [show (mkCut m).length = 3 from rfl]
  have hQ2 : ((w.alloc (.cells #[Value.int .i64 0, Value.int .i64 0, Value.slice none 0 0] 75)).alloc (.cells ((mkCut m).map fun y => Value.string (txt y)).toArray 9)).heap[w.heap.size]? = some (.cells #[Value.int .i64 0, Value.int .i64 0, Value.slice none 0 0] 75 (0, 0)) := by
    rw [Below.heap_alloc _ _ _ (by simp)]; exact HQ0.out
  have hR2 := World.alloc_heap_new (w.alloc (.cells #[Value.int .i64 0, Value.int .i64 0, Value.slice none 0 0] 75)) (.cells ((mkCut m).map fun y => Value.string (txt y)).toArray 9)
  have hB2 := HB1.out.alloc (by simp) (.cells ((mkCut m).map fun y => Value.string (txt y)).toArray 9)
  rw [World.size_alloc] at hR2 ⊢
  generalize ((w.alloc (.cells #[Value.int .i64 0, Value.int .i64 0, Value.slice none 0 0] 75)).alloc (.cells ((mkCut m).map fun y => Value.string (txt y)).toArray 9)) = w2 at hQ2 hR2 hB2 ⊢
  have hc0 : w2.cell? ⟨w.heap.size + 1, 0, none⟩ = some (.string (txt (hexW m.pt.toNat))) := by simp [World.cell?, hR2, mkCut]
  have HB2 := Lib.hid hB2
  have HQ2 := Lib.hid hQ2
  have HR2 := Lib.hid hR2
  have HRd := Lib.hid (read_ok HFP.out w2 (HX0.out.on hB2))
  have hz2 : w.heap.size + 1 < w2.heap.size := (Array.getElem?_eq_some_iff.1 hR2).1
  clear hQ2 hR2 hB2 HQ0 HB1 HB0 HS
  go_wp2_with fail
  refine HRd.out.mono ?_
  rintro e w3 ⟨rfl, hb3⟩
  have HB3 := Lib.hid (HB2.out.trans (hb3.mono (by omega)))
  have HQ3 := Lib.hid ((hb3.block _ (by omega)).trans HQ2.out)
  have HR3 := Lib.hid ((hb3.block _ hz2).trans HR2.out)
  have hz3 : w.heap.size + 1 < w3.heap.size := by have := hb3.size; omega
  have hc1 : w3.cell? ⟨w.heap.size + 1, 1, none⟩ = some (.string (txt (Lib.decDigits C))) := by simp [World.cell?, HR3.out, mkCut, hC]
  have HAt := Lib.hid (fun W => atoi_ok C hC2 W)
  have HIt := Lib.hid (fun W hb => HI0.out C hC2 W hb)
  clear hb3 HB2 HQ2 HR2 hc0 HRd
  generalize txt (Lib.decDigits C) = s1 at hc1 HAt HIt
  go_wp2_with fail
  have HB4 := Lib.hid (HB3.out.alloc (by omega) (.cells #[Value.int .i64 m.pt, Value.int .i64 0, Value.slice none 0 0] 75))
  have hT4 := World.alloc_heap_new w3 (.cells #[Value.int .i64 m.pt, Value.int .i64 0, Value.slice none 0 0] 75)
  have hQ4 := (Below.heap_alloc w3 (.cells #[Value.int .i64 m.pt, Value.int .i64 0, Value.slice none 0 0] 75) w.heap.size (by omega)).trans HQ3.out
  have hR4 := (Below.heap_alloc w3 (.cells #[Value.int .i64 m.pt, Value.int .i64 0, Value.slice none 0 0] 75) (w.heap.size + 1) hz3).trans HR3.out
  have hs4 : (w3.alloc (.cells #[Value.int .i64 m.pt, Value.int .i64 0, Value.slice none 0 0] 75)).heap.size = w3.heap.size + 1 := by simp
  generalize (w3.alloc (.cells #[Value.int .i64 m.pt, Value.int .i64 0, Value.slice none 0 0] 75)) = w4 at HB4 hT4 hQ4 hR4 hs4 ⊢
  generalize hT : w3.heap.size = T at hT4 hs4 ⊢
  have hTz : w.heap.size + 1 < T := by omega
  refine (HAt.out w4).mono ?_
  rintro e w5 ⟨rfl, hb5⟩
  have HB5 := Lib.hid (HB4.out.trans (hb5.mono (by omega)))
  have hz5 : T < w5.heap.size := by have := hb5.size; omega
  have HT5 := Lib.hid ((hb5.block _ (by omega)).trans hT4)
  have HQ5 := Lib.hid ((hb5.block _ (by omega)).trans hQ4)
  have HR5 := Lib.hid ((hb5.block _ (by omega)).trans hR4)
  have hc1' : w5.cell? ⟨w.heap.size + 1, 1, none⟩ = some (.string s1) := by
    rw [hb5.cell (by show w.heap.size + 1 < _; omega), ← hc1]
    simp only [World.cell?, hR4, HR3.out]
  have hC254 : decide ((254 : Int) < C) = false := decide_eq_false (by omega)
  have hC255 : ((254 : Int) < C) = False := eq_false (by omega)
  have hC0 : decide ((C : Int) < 0) = false := decide_eq_false (by omega)
  clear hT4 hQ4 hR4 HB4 hb5 HQ3 HR3 HB3 hc1 HAt hT hs4 hz3
  go_wp2_with fail
  have hS0 : Below w5.heap.size w5 w5 ∧ w5.cell? ⟨w.heap.size + 1, 1, none⟩ = some (.string s1) := ⟨Below.refl _ _, hc1'⟩
  clear hc1'
  go_region_held3 (fun W => Below w5.heap.size w5 W ∧ W.cell? ⟨w.heap.size + 1, 1, none⟩ = some (.string s1))
    (first | exact hS0 | exact ⟨hS0.1.drew, hS0.2⟩)
    (first | (go_at_call 85; refine (HIt.out _ (by first | exact HB5.out.trans (hS0.1.mono (by omega)) | exact HB5.out.trans (hS0.1.drew.mono (by omega)))).mono ?_; rintro e w6 ⟨rfl, hb6⟩; have hS0 : Below w5.heap.size w5 w6 ∧ w6.cell? ⟨w.heap.size + 1, 1, none⟩ = some (.string s1) := ⟨hS0.1.drew.trans (hb6.mono (by exact hS0.1.drew.size)), (hb6.cell (by show w.heap.size + 1 < _; have := hS0.1.drew.size; omega)).trans hS0.2⟩))
  have HB6 := Lib.hid (HB5.out.trans (hS0.1.mono (by omega)))
  have hT6 := (hS0.1.block T hz5).trans HT5.out
  have HQ6 := Lib.hid ((hS0.1.block w.heap.size (by omega)).trans HQ5.out)
  have HR6 := Lib.hid ((hS0.1.block (w.heap.size + 1) (by omega)).trans HR5.out)
  have hz6 : T < w6.heap.size := Nat.lt_of_lt_of_le hz5 hS0.1.size
  have hcT1 : w6.cell? ⟨T, 1, none⟩ = some (.int .i64 0) := by simp [World.cell?, hT6]
  have hfT1 : w6.frozen? ⟨T, 1, none⟩ = false := by simp [World.frozen?, hT6]
  have hc2 : w6.cell? ⟨w.heap.size + 1, 2, none⟩ = some (.string (txt (ptsText m.parts))) := by simp [World.cell?, HR6.out, mkCut]
  have HT6 := Lib.hid hT6
  have HTC := Lib.hid (show w6.heap[T]? = some (.cells #[.int .i64 m.pt, .int .i64 0, .slice none 0 0] 75 (0, 0)) from hT6)
  clear hS0 hT6 HT5 HQ5 HR5 HB5 HIt hC254 hC255
  clear hb6
  clear hc2
  go_upto_region 9 with fail
  have hT7 := heap_setCell_same w6 T 1 _ _ (.int .i64 C) HTC.out
  have HT7 := Lib.hid (show (w6.setCell ⟨T, 1, none⟩ (.int .i64 C)).heap[T]? = some (.cells #[.int .i64 m.pt, .int .i64 C, .slice none 0 0] 75 (0, 0)) by simpa using hT7)
  have HQ7 := Lib.hid ((Below.heap_setCell w6 ⟨T, 1, none⟩ (.int .i64 C) w.heap.size (by show w.heap.size ≠ T; omega)).trans HQ6.out)
  have HR7 := Lib.hid ((Below.heap_setCell w6 ⟨T, 1, none⟩ (.int .i64 C) (w.heap.size + 1) (by show w.heap.size + 1 ≠ T; omega)).trans HR6.out)
  have HB7 := Lib.hid (HB6.out.setCell (p := ⟨T, 1, none⟩) (show w.heap.size ≤ T by omega) (.int .i64 C))
  have hz7 : T < (w6.setCell ⟨T, 1, none⟩ (.int .i64 C)).heap.size := by simpa using hz6
  clear hT7
  generalize w6.setCell ⟨T, 1, none⟩ (.int .i64 C) = w7 at HT7 HQ7 HR7 HB7 hz7 ⊢
  have hc2 : w7.cell? ⟨w.heap.size + 1, 2, none⟩ = some (.string (txt (ptsText m.parts))) := by simp [World.cell?, HR7.out, mkCut]
  clear HB6 HQ6 HR6 HT6 HTC hcT1 hfT1 hz6
  have hmc : m.cls = (C : Int) := hC
  by_cases hp0 : m.parts = []
  · have hem : (txt (ptsText m.parts)).toList.isEmpty = true := by rw [hp0, ← decide_eq_emptyBytes]; exact decide_eq_true rfl
    generalize txt (ptsText m.parts) = s2 at hc2 hem
    have he0 : w7.cell? ⟨T, 0, none⟩ = some (.int .i64 m.pt) := by simp [World.cell?, HT7.out]
    have hg0 : w7.cell? ⟨w.heap.size, 0, none⟩ = some (.int .i64 0) := by simp [World.cell?, HQ7.out]
    have hh0 : w7.frozen? ⟨w.heap.size, 0, none⟩ = false := by simp [World.frozen?, HQ7.out]
    have he1 : w7.cell? ⟨T, 1, none⟩ = some (.int .i64 C) := by simp [World.cell?, HT7.out]
    have hg1 : w7.cell? ⟨w.heap.size, 1, none⟩ = some (.int .i64 0) := by simp [World.cell?, HQ7.out]
    have hh1 : w7.frozen? ⟨w.heap.size, 1, none⟩ = false := by simp [World.frozen?, HQ7.out]
    have he2 : w7.cell? ⟨T, 2, none⟩ = some (.slice none 0 0) := by simp [World.cell?, HT7.out]
    have hg2 : w7.cell? ⟨w.heap.size, 2, none⟩ = some (.slice none 0 0) := by simp [World.cell?, HQ7.out]
    have hh2 : w7.frozen? ⟨w.heap.size, 2, none⟩ = false := by simp [World.frozen?, HQ7.out]
    go_wp2_with fail
    have hs0 := heap_setCell_same w7 w.heap.size 0 _ _ (.int .i64 m.pt) HQ7.out
    have hs1 := heap_setCell_same (w7.setCell ⟨w.heap.size, 0, none⟩ (.int .i64 m.pt)) w.heap.size 1 _ _ (.int .i64 C) hs0
    have hs2 := heap_setCell_same ((w7.setCell ⟨w.heap.size, 0, none⟩ (.int .i64 m.pt)).setCell ⟨w.heap.size, 1, none⟩ (.int .i64 C)) w.heap.size 2 _ _ (.slice none 0 0) hs1
    have hBz : Below w.heap.size w (((w7.setCell ⟨w.heap.size, 0, none⟩ (.int .i64 m.pt)).setCell ⟨w.heap.size, 1, none⟩ (.int .i64 C)).setCell ⟨w.heap.size, 2, none⟩ (.slice none 0 0)) := (((HB7.out).setCell (Nat.le_refl w.heap.size) _).setCell (Nat.le_refl w.heap.size) _).setCell (Nat.le_refl w.heap.size) _
    have hOz : (((w7.setCell ⟨w.heap.size, 0, none⟩ (.int .i64 m.pt)).setCell ⟨w.heap.size, 1, none⟩ (.int .i64 C)).setCell ⟨w.heap.size, 2, none⟩ (.slice none 0 0)).ownsRow w.heap.size 3 1 (.slice none 0 0) m.parts.length (intCells m.parts) := by rw [hp0]; exact World.ownsRow_nil _ _ _ _
    generalize (((w7.setCell ⟨w.heap.size, 0, none⟩ (.int .i64 m.pt)).setCell ⟨w.heap.size, 1, none⟩ (.int .i64 C)).setCell ⟨w.heap.size, 2, none⟩ (.slice none 0 0)) = W at hs2 hBz hOz ⊢
    simp at hs2
    have hr0 : W.cell? ⟨w.heap.size, 0, none⟩ = some (.int .i64 m.pt) := by simp [World.cell?, hs2]
    have hr1 : W.cell? ⟨w.heap.size, 1, none⟩ = some (.int .i64 C) := by simp [World.cell?, hs2]
    have hr2 : W.cell? ⟨w.heap.size, 2, none⟩ = some (.slice none 0 0) := by simp [World.cell?, hs2]
    (try simp only [Exit.inBlock, Exit.then])
    refine bodyPost_ret (by simp [results, Tryz.results54, go_sem, hr0, hr1, hr2, Result.andThen]; try rfl) rfl ?_
    exact ⟨_, by rw [hmc], hBz, hOz⟩
  · have hem : (txt (ptsText m.parts)).toList.isEmpty = false := by
      rw [← decide_eq_emptyBytes]
      refine decide_eq_false fun h => ?_
      have h2 := congrArg ByteArray.size h
      rw [txt_size] at h2
      obtain ⟨p, r, hpr⟩ : ∃ p r, m.parts = p :: r := by
        cases hh : m.parts with
        | nil => exact absurd hh hp0
        | cons p r => exact ⟨p, r, rfl⟩
      rw [hpr] at h2
      simp only [ptsText, List.map_cons, Lib.join_cons, List.length_append] at h2
      have h4 : 4 ≤ (hexW p.toNat).length := by rw [hexW_len]; omega
      simp at h2
      rw [h2.1] at h4
      simp at h4
    have HSp := Lib.hid (splitBy_ok 32 (hexs m.parts) (by simpa [hexs] using hp0) (fun y hy => by
      obtain ⟨p, _, rfl⟩ := List.mem_map.1 hy
      exact hexW_no hexU_ne32 _) HPL.out mx w7 ((HB7.out.cell hM0).trans HM.out))
    have hj2 : Lib.join (hexs m.parts) [32] = ptsText m.parts := rfl
    rw [hj2, show (hexs m.parts).length = m.parts.length by simp [hexs]] at HSp
    have hlen7 : m.parts.length ≤ 4294967281 := by
      have h := HPL.out
      rw [txt_size] at h
      have : m.parts.length ≤ (ptsText m.parts).length := pts_atleast m.parts
      omega
    generalize txt (ptsText m.parts) = s2 at hc2 hem HSp
    go_wp2_with fail
    refine HSp.out.mono ?_
    rintro e w8 ⟨rfl, rfl⟩
    have hb8 : Below w7.heap.size w7 (w7.alloc (.cells ((hexs m.parts).map fun y => Value.string (txt y)).toArray 9)) := (Below.refl _ w7).alloc (Nat.le_refl _) _
    have HI8 := Lib.hid (show MInv w (w7.alloc (.cells ((hexs m.parts).map fun y => Value.string (txt y)).toArray 9)) T w7.heap.size m 0 (.slice none 0 0) from ⟨HB7.out.trans (hb8.mono (by omega)), by rw [hmc]; exact (hb8.block T hz7).trans HT7.out, World.alloc_heap_new w7 _, (hb8.block _ (by omega)).trans HQ7.out, World.ownsRow_nil _ _ _ _, by omega, by simp; omega⟩)
    have hR2T : w7.heap.size ≠ T := by omega
    clear hb8 hc2 HSp
    generalize w7.heap.size = R2 at HI8 hR2T ⊢
    clear HT7 HQ7 HR7 HB7 hz7
    obtain ⟨i6, ihi, ihz0, ihz1, ihz2⟩ := info_parts int_info
    go_wp2_with fail
    go_loopw [59] (fun t59 wr => ∃ (k : Nat) (vo : Value), t59 = .int .i64 k ∧ k ≤ m.parts.length ∧ Hid (MInv w wr T R2 m k vo)) (fun t59 _ => m.parts.length - (intOf t59).toNat)
    case atStart => exact ⟨0, _, rfl, by omega, HI8⟩
    case round =>
      clear HI8
      obtain ⟨k, vo, rfl, hk, HMI⟩ := hrel
      by_cases hkl : k < m.parts.length
      · have hcl : wr.cell? ⟨R2, k, none⟩ = some (.string (txt (hexW m.parts[k].toNat))) := by
          simp only [World.cell?, HMI.out.r]
          simp [hexs, hkl]
        have HK1 := Lib.hid (show m.parts.take (k + 1) = m.parts.take k ++ [m.parts[k]] from List.take_succ_eq_append_getElem hkl)
        have hfk : fitsB m.parts[k] = true := List.all_eq_true.1 HPA.out _ (List.getElem_mem hkl)
        have HRp := Lib.hid (read_ok hfk wr.drew (show UHere wr.drew from HX0.out.on HMI.out.b.drew))
        generalize m.parts[k] = p at hcl HK1 HRp
        generalize txt (hexW p.toNat) = s3 at hcl HRp
        have hcd : wr.drew.cell? ⟨T, 2, none⟩ = some vo := by show wr.cell? _ = _; simp [World.cell?, HMI.out.t]
        clear hfk
        go_upto_region 13 with fail
        refine wp_region_noPanic ?_
        refine wp_region_held_drew (S := fun _ => True) (by kernel_rfl) trivial (fun hHd0 => ?_)
        (try simp only [Act.put, List.setIfInBounds_toArray, List.set_cons_zero, List.set_cons_succ])
        refine wpAnyH_take (i := 0) (oi := ?_) (v := ?_) ?_ (by kernel_rfl) (by kernel_rfl) (by kernel_rfl) (fun _ _ _ h => h) (Or.inl ⟨?_, ?_⟩) hHd0 ?_
        rotate_left 2
        · (simp only [List.getElem?_toArray, List.getElem?_cons_zero]; rfl)
        · rfl
        · (intro w hSw; go_simp; (try with_reducible rfl))
        (try simp only [Act.put, List.setIfInBounds_toArray, List.set_cons_zero, List.set_cons_succ])
        refine wpAnyH_take (i := 2) (oi := ?_) (v := ?_) ?_ (by kernel_rfl) (by kernel_rfl) (by kernel_rfl) (fun _ _ _ h => h) (Or.inl ⟨?_, ?_⟩) hHd0 ?_
        rotate_left 2
        · (simp only [List.getElem?_toArray, List.getElem?_cons_succ, List.getElem?_cons_zero]; rfl)
        · rfl
        · (intro w hSw; go_simp; (try with_reducible rfl))
        (try simp only [Act.put, List.setIfInBounds_toArray, List.set_cons_zero, List.set_cons_succ])
        refine wpAnyH_ready (rs := [1, 3]) (by kernel_rfl) (by simp) ?_
        refine AllReadyH.cons (by rfl) (fun K hK => ?_) ?_
        · go_simp
          refine hK.out _ _ trivial (fun hHd1 => ?_)
          clear hK K
          (try simp only [Act.put, List.setIfInBounds_toArray, List.set_cons_zero, List.set_cons_succ])
          refine wpAnyH_ready (rs := [3]) (by kernel_rfl) (by simp) ?_
          refine AllReadyH.cons (by rfl) (fun K hK => ?_) AllReadyH.nil
          go_simp
          go_at_call 83
          refine (HRp.out).mono ?_
          rintro e w2 ⟨rfl, hb2⟩
          have hB2 := (Below.refl wr.heap.size wr).drew.trans hb2
          have hs2 : wr.heap.size ≤ w2.heap.size := hB2.size
          have hI2 := HMI.out.below hB2
          have hcv2 : w2.cell? ⟨T, 2, none⟩ = some vo := by simp [World.cell?, hI2.t]
          have hIa := hI2.below ((Below.refl _ w2).alloc (Nat.le_refl _) (.cells #[Value.int .i64 p] 3))
          have hcva : (w2.alloc (.cells #[Value.int .i64 p] 3)).cell? ⟨T, 2, none⟩ = some vo := by simp [World.cell?, hIa.t]
          have HI2 := Lib.hid hI2
          have HIa := Lib.hid hIa
          clear hb2 hB2 hI2 hIa hcd
          refine hK.out _ _ trivial (fun hHd2 => ?_)
          clear hK K
          (try simp only [Act.put, List.setIfInBounds_toArray, List.set_cons_zero, List.set_cons_succ])
          refine wpAnyH_ready (rs := [4]) (by kernel_rfl) (by simp) ?_
          refine AllReadyH.cons (by rfl) (fun K hK => ?_) AllReadyH.nil
          go_simp
          refine hK.out _ _ trivial (fun hHd3 => ?_)
          clear hK K
          (try simp only [Act.put, List.setIfInBounds_toArray, List.set_cons_zero, List.set_cons_succ])
          refine wpAnyH_ready (rs := [5]) (by kernel_rfl) (by simp) ?_
          refine AllReadyH.cons (by rfl) (fun K hK => ?_) AllReadyH.nil
          rw [if_pos (by rfl)]
          refine wp_append_own _ _ _ 24 rfl (T + 1) 3 i6 (.int .i64 0) 1 8 Tryz.underlying24 ihi ihz0 ihz1 ihz2 rfl (by decide) _ _ _ rfl HIa.out.o ⟨w2.heap.size, 0, none⟩ 1 1 [.int .i64 p] rfl rfl (World.news_of_block (cs := #[.int .i64 p]) (t := 3) (fr := (0, 0)) (heap_alloc_new w2 _)) (by simp [Value.oneCell']) (by unfold maxLen; omega) (by omega) (by have := HIa.out.z; omega) ?_
          intro v5 w5 hown5 hgrow5 hne5
          obtain ⟨g5, c5, rfl⟩ : ∃ g c, v5 = .slice (some ⟨g, 0, none⟩) (k + 1) c := by
            rcases hown5.2 with ⟨e, h0⟩ | ⟨g, cap, cur, e, _⟩
            · exact absurd h0 (by omega)
            · exact ⟨g, cap, e⟩
          have hne6 : some T ≠ vo.ownBlock := own_box_off HIa.out.o HIa.out.t (by decide)
          have hT5 := (hgrow5.block T HIa.out.z hne6).trans HIa.out.t
          have hc5 : w5.cell? ⟨T, 2, none⟩ = some vo := by simp [World.cell?, hT5]
          have hf5 : w5.frozen? ⟨T, 2, none⟩ = false := by simp [World.frozen?, hT5]
          have HT5 := Lib.hid hT5
          have HO5 := Lib.hid hown5
          have HG5 := Lib.hid hgrow5
          clear hT5 hown5 hgrow5 hne5 hcv2 hcva
          refine hK.out _ _ trivial (fun hHd4 => ?_)
          clear hK K
          (try simp only [Act.put, List.setIfInBounds_toArray, List.set_cons_zero, List.set_cons_succ])
          refine wpAnyH_take (i := 6) (oi := ?_) (v := ?_) ?_ (by kernel_rfl) (by kernel_rfl) (by kernel_rfl) (fun _ _ _ h => h) (Or.inl ⟨?_, ?_⟩) hHd4 ?_
          rotate_left 2
          · (simp only [List.getElem?_toArray, List.getElem?_cons_succ, List.getElem?_cons_zero]; rfl)
          · rfl
          · (intro w hSw; go_simp; (try with_reducible rfl))
          (try simp only [Act.put, List.setIfInBounds_toArray, List.set_cons_zero, List.set_cons_succ])
          refine wpAnyH_ready (rs := [7]) (by kernel_rfl) (by simp) ?_
          refine AllReadyH.cons (by rfl) (fun K hK => ?_) AllReadyH.nil
          go_simp
          refine hK.out _ _ trivial (fun hHd5 => ?_)
          clear hK K
          (try simp only [Act.put, List.setIfInBounds_toArray, List.set_cons_zero, List.set_cons_succ])
          refine wpAnyH_done (by kernel_rfl) ?_ _
          refine NoPanic.normal ?_
          have HN := Lib.hid (show MInv w (w5.setCell ⟨T, 2, none⟩ (.slice (some ⟨g5, 0, none⟩) (k + 1) c5)) T R2 m (k + 1) (.slice (some ⟨g5, 0, none⟩) (k + 1) c5) from mInv_next HIa.out HG5.out HO5.out HK1.out hR2T)
          clear HT5 HO5 HG5 hc5 hf5 HI2 HIa
          go_wp2_with fail
          go_roundw
          case rel => exact ⟨k + 1, _, by go_num, by omega, HN⟩
          case measure => simp [intOf]; omega
        refine AllReadyH.cons (by rfl) (fun K hK => ?_) AllReadyH.nil
        go_simp
        go_at_call 83
        refine (HRp.out).mono ?_
        rintro e w2 ⟨rfl, hb2⟩
        have hB2 := (Below.refl wr.heap.size wr).drew.trans hb2
        have hs2 : wr.heap.size ≤ w2.heap.size := hB2.size
        have hI2 := HMI.out.below hB2
        have hcv2 : w2.cell? ⟨T, 2, none⟩ = some vo := by simp [World.cell?, hI2.t]
        have hIa := hI2.below ((Below.refl _ w2).alloc (Nat.le_refl _) (.cells #[Value.int .i64 p] 3))
        have hcva : (w2.alloc (.cells #[Value.int .i64 p] 3)).cell? ⟨T, 2, none⟩ = some vo := by simp [World.cell?, hIa.t]
        have HI2 := Lib.hid hI2
        have HIa := Lib.hid hIa
        clear hb2 hB2 hI2 hIa hcd
        refine hK.out _ _ trivial (fun hHd6 => ?_)
        clear hK K
        (try simp only [Act.put, List.setIfInBounds_toArray, List.set_cons_zero, List.set_cons_succ])
        refine wpAnyH_ready (rs := [1, 4]) (by kernel_rfl) (by simp) ?_
        refine AllReadyH.cons (by rfl) (fun K hK => ?_) ?_
        · go_simp
          refine hK.out _ _ trivial (fun hHd7 => ?_)
          clear hK K
          (try simp only [Act.put, List.setIfInBounds_toArray, List.set_cons_zero, List.set_cons_succ])
          refine wpAnyH_ready (rs := [4]) (by kernel_rfl) (by simp) ?_
          refine AllReadyH.cons (by rfl) (fun K hK => ?_) AllReadyH.nil
          go_simp
          refine hK.out _ _ trivial (fun hHd8 => ?_)
          clear hK K
          (try simp only [Act.put, List.setIfInBounds_toArray, List.set_cons_zero, List.set_cons_succ])
          refine wpAnyH_ready (rs := [5]) (by kernel_rfl) (by simp) ?_
          refine AllReadyH.cons (by rfl) (fun K hK => ?_) AllReadyH.nil
          rw [if_pos (by rfl)]
          refine wp_append_own _ _ _ 24 rfl (T + 1) 3 i6 (.int .i64 0) 1 8 Tryz.underlying24 ihi ihz0 ihz1 ihz2 rfl (by decide) _ _ _ rfl HIa.out.o ⟨w2.heap.size, 0, none⟩ 1 1 [.int .i64 p] rfl rfl (World.news_of_block (cs := #[.int .i64 p]) (t := 3) (fr := (0, 0)) (heap_alloc_new w2 _)) (by simp [Value.oneCell']) (by unfold maxLen; omega) (by omega) (by have := HIa.out.z; omega) ?_
          intro v5 w5 hown5 hgrow5 hne5
          obtain ⟨g5, c5, rfl⟩ : ∃ g c, v5 = .slice (some ⟨g, 0, none⟩) (k + 1) c := by
            rcases hown5.2 with ⟨e, h0⟩ | ⟨g, cap, cur, e, _⟩
            · exact absurd h0 (by omega)
            · exact ⟨g, cap, e⟩
          have hne6 : some T ≠ vo.ownBlock := own_box_off HIa.out.o HIa.out.t (by decide)
          have hT5 := (hgrow5.block T HIa.out.z hne6).trans HIa.out.t
          have hc5 : w5.cell? ⟨T, 2, none⟩ = some vo := by simp [World.cell?, hT5]
          have hf5 : w5.frozen? ⟨T, 2, none⟩ = false := by simp [World.frozen?, hT5]
          have HT5 := Lib.hid hT5
          have HO5 := Lib.hid hown5
          have HG5 := Lib.hid hgrow5
          clear hT5 hown5 hgrow5 hne5 hcv2 hcva
          refine hK.out _ _ trivial (fun hHd9 => ?_)
          clear hK K
          (try simp only [Act.put, List.setIfInBounds_toArray, List.set_cons_zero, List.set_cons_succ])
          refine wpAnyH_take (i := 6) (oi := ?_) (v := ?_) ?_ (by kernel_rfl) (by kernel_rfl) (by kernel_rfl) (fun _ _ _ h => h) (Or.inl ⟨?_, ?_⟩) hHd9 ?_
          rotate_left 2
          · (simp only [List.getElem?_toArray, List.getElem?_cons_succ, List.getElem?_cons_zero]; rfl)
          · rfl
          · (intro w hSw; go_simp; (try with_reducible rfl))
          (try simp only [Act.put, List.setIfInBounds_toArray, List.set_cons_zero, List.set_cons_succ])
          refine wpAnyH_ready (rs := [7]) (by kernel_rfl) (by simp) ?_
          refine AllReadyH.cons (by rfl) (fun K hK => ?_) AllReadyH.nil
          go_simp
          refine hK.out _ _ trivial (fun hHd10 => ?_)
          clear hK K
          (try simp only [Act.put, List.setIfInBounds_toArray, List.set_cons_zero, List.set_cons_succ])
          refine wpAnyH_done (by kernel_rfl) ?_ _
          refine NoPanic.normal ?_
          have HN := Lib.hid (show MInv w (w5.setCell ⟨T, 2, none⟩ (.slice (some ⟨g5, 0, none⟩) (k + 1) c5)) T R2 m (k + 1) (.slice (some ⟨g5, 0, none⟩) (k + 1) c5) from mInv_next HIa.out HG5.out HO5.out HK1.out hR2T)
          clear HT5 HO5 HG5 hc5 hf5 HI2 HIa
          go_wp2_with fail
          go_roundw
          case rel => exact ⟨k + 1, _, by go_num, by omega, HN⟩
          case measure => simp [intOf]; omega
        refine AllReadyH.cons (by rfl) (fun K hK => ?_) AllReadyH.nil
        go_simp
        refine hK.out _ _ trivial (fun hHd11 => ?_)
        clear hK K
        (try simp only [Act.put, List.setIfInBounds_toArray, List.set_cons_zero, List.set_cons_succ])
        refine wpAnyH_ready (rs := [1]) (by kernel_rfl) (by simp) ?_
        refine AllReadyH.cons (by rfl) (fun K hK => ?_) AllReadyH.nil
        go_simp
        refine hK.out _ _ trivial (fun hHd12 => ?_)
        clear hK K
        (try simp only [Act.put, List.setIfInBounds_toArray, List.set_cons_zero, List.set_cons_succ])
        refine wpAnyH_ready (rs := [5]) (by kernel_rfl) (by simp) ?_
        refine AllReadyH.cons (by rfl) (fun K hK => ?_) AllReadyH.nil
        rw [if_pos (by rfl)]
        refine wp_append_own _ _ _ 24 rfl (T + 1) 3 i6 (.int .i64 0) 1 8 Tryz.underlying24 ihi ihz0 ihz1 ihz2 rfl (by decide) _ _ _ rfl HIa.out.o ⟨w2.heap.size, 0, none⟩ 1 1 [.int .i64 p] rfl rfl (World.news_of_block (cs := #[.int .i64 p]) (t := 3) (fr := (0, 0)) (heap_alloc_new w2 _)) (by simp [Value.oneCell']) (by unfold maxLen; omega) (by omega) (by have := HIa.out.z; omega) ?_
        intro v5 w5 hown5 hgrow5 hne5
        obtain ⟨g5, c5, rfl⟩ : ∃ g c, v5 = .slice (some ⟨g, 0, none⟩) (k + 1) c := by
          rcases hown5.2 with ⟨e, h0⟩ | ⟨g, cap, cur, e, _⟩
          · exact absurd h0 (by omega)
          · exact ⟨g, cap, e⟩
        have hne6 : some T ≠ vo.ownBlock := own_box_off HIa.out.o HIa.out.t (by decide)
        have hT5 := (hgrow5.block T HIa.out.z hne6).trans HIa.out.t
        have hc5 : w5.cell? ⟨T, 2, none⟩ = some vo := by simp [World.cell?, hT5]
        have hf5 : w5.frozen? ⟨T, 2, none⟩ = false := by simp [World.frozen?, hT5]
        have HT5 := Lib.hid hT5
        have HO5 := Lib.hid hown5
        have HG5 := Lib.hid hgrow5
        clear hT5 hown5 hgrow5 hne5 hcv2 hcva
        refine hK.out _ _ trivial (fun hHd13 => ?_)
        clear hK K
        (try simp only [Act.put, List.setIfInBounds_toArray, List.set_cons_zero, List.set_cons_succ])
        refine wpAnyH_take (i := 6) (oi := ?_) (v := ?_) ?_ (by kernel_rfl) (by kernel_rfl) (by kernel_rfl) (fun _ _ _ h => h) (Or.inl ⟨?_, ?_⟩) hHd13 ?_
        rotate_left 2
        · (simp only [List.getElem?_toArray, List.getElem?_cons_succ, List.getElem?_cons_zero]; rfl)
        · rfl
        · (intro w hSw; go_simp; (try with_reducible rfl))
        (try simp only [Act.put, List.setIfInBounds_toArray, List.set_cons_zero, List.set_cons_succ])
        refine wpAnyH_ready (rs := [7]) (by kernel_rfl) (by simp) ?_
        refine AllReadyH.cons (by rfl) (fun K hK => ?_) AllReadyH.nil
        go_simp
        refine hK.out _ _ trivial (fun hHd14 => ?_)
        clear hK K
        (try simp only [Act.put, List.setIfInBounds_toArray, List.set_cons_zero, List.set_cons_succ])
        refine wpAnyH_done (by kernel_rfl) ?_ _
        refine NoPanic.normal ?_
        have HN := Lib.hid (show MInv w (w5.setCell ⟨T, 2, none⟩ (.slice (some ⟨g5, 0, none⟩) (k + 1) c5)) T R2 m (k + 1) (.slice (some ⟨g5, 0, none⟩) (k + 1) c5) from mInv_next HIa.out HG5.out HO5.out HK1.out hR2T)
        clear HT5 HO5 HG5 hc5 hf5 HI2 HIa
        go_wp2_with fail
        go_roundw
        case rel => exact ⟨k + 1, _, by go_num, by omega, HN⟩
        case measure => simp [intOf]; omega
      · have hkk : k = m.parts.length := by omega
        subst hkk
        have hI9 := HMI.out
        have HT9 := Lib.hid (show wr.heap[T]? = some (.cells #[.int .i64 m.pt, .int .i64 C, vo] 75 (0, 0)) by rw [← hmc]; exact hI9.t)
        have HQ9 := Lib.hid hI9.q
        have HB9 := Lib.hid hI9.b
        have HO9 := Lib.hid hI9.o
        obtain ⟨g9, c9, rfl⟩ : ∃ g c, vo = .slice (some ⟨g, 0, none⟩) m.parts.length c := by
          rcases hI9.o.2 with ⟨e, h0⟩ | ⟨g, cap, cur, e, _⟩
          · exact absurd h0 (by have := List.length_pos_iff.2 hp0; omega)
          · exact ⟨g, cap, e⟩
        have hlo : T + 1 ≤ g9 := (HO9.out.lt g9 rfl).1
        clear hI9
        have he0 : wr.cell? ⟨T, 0, none⟩ = some (.int .i64 m.pt) := by simp [World.cell?, HT9.out]
        have hg0 : wr.cell? ⟨w.heap.size, 0, none⟩ = some (.int .i64 0) := by simp [World.cell?, HQ9.out]
        have hh0 : wr.frozen? ⟨w.heap.size, 0, none⟩ = false := by simp [World.frozen?, HQ9.out]
        have he1 : wr.cell? ⟨T, 1, none⟩ = some (.int .i64 C) := by simp [World.cell?, HT9.out]
        have hg1 : wr.cell? ⟨w.heap.size, 1, none⟩ = some (.int .i64 0) := by simp [World.cell?, HQ9.out]
        have hh1 : wr.frozen? ⟨w.heap.size, 1, none⟩ = false := by simp [World.frozen?, HQ9.out]
        have he2 : wr.cell? ⟨T, 2, none⟩ = some (.slice (some ⟨g9, 0, none⟩) m.parts.length c9) := by simp [World.cell?, HT9.out]
        have hg2 : wr.cell? ⟨w.heap.size, 2, none⟩ = some (.slice none 0 0) := by simp [World.cell?, HQ9.out]
        have hh2 : wr.frozen? ⟨w.heap.size, 2, none⟩ = false := by simp [World.frozen?, HQ9.out]
        go_wp2_with fail
        have hs0 := heap_setCell_same wr w.heap.size 0 _ _ (.int .i64 m.pt) HQ9.out
        have hs1 := heap_setCell_same (wr.setCell ⟨w.heap.size, 0, none⟩ (.int .i64 m.pt)) w.heap.size 1 _ _ (.int .i64 C) hs0
        have hs2 := heap_setCell_same ((wr.setCell ⟨w.heap.size, 0, none⟩ (.int .i64 m.pt)).setCell ⟨w.heap.size, 1, none⟩ (.int .i64 C)) w.heap.size 2 _ _ (.slice (some ⟨g9, 0, none⟩) m.parts.length c9) hs1
        have hBz : Below w.heap.size w (((wr.setCell ⟨w.heap.size, 0, none⟩ (.int .i64 m.pt)).setCell ⟨w.heap.size, 1, none⟩ (.int .i64 C)).setCell ⟨w.heap.size, 2, none⟩ (.slice (some ⟨g9, 0, none⟩) m.parts.length c9)) := (((HB9.out).setCell (Nat.le_refl w.heap.size) _).setCell (Nat.le_refl w.heap.size) _).setCell (Nat.le_refl w.heap.size) _
        have hOz : (((wr.setCell ⟨w.heap.size, 0, none⟩ (.int .i64 m.pt)).setCell ⟨w.heap.size, 1, none⟩ (.int .i64 C)).setCell ⟨w.heap.size, 2, none⟩ (.slice (some ⟨g9, 0, none⟩) m.parts.length c9)).ownsRow w.heap.size 3 1 (.slice (some ⟨g9, 0, none⟩) m.parts.length c9) m.parts.length (intCells m.parts) := by
          have h := HO9.out
          rw [List.take_length] at h
          refine ⟨h.1, ?_⟩
          rcases h.2 with ⟨e, _⟩ | ⟨g, cap, cur, e, h2, h3, h4⟩
          · cases e
          · refine Or.inr ⟨g, cap, cur, e, by omega, ?_, h4⟩
            rw [Below.heap_setCell _ _ _ _ (by show g ≠ w.heap.size; omega), Below.heap_setCell _ _ _ _ (by show g ≠ w.heap.size; omega), Below.heap_setCell _ _ _ _ (by show g ≠ w.heap.size; omega)]
            exact h3
        generalize (((wr.setCell ⟨w.heap.size, 0, none⟩ (.int .i64 m.pt)).setCell ⟨w.heap.size, 1, none⟩ (.int .i64 C)).setCell ⟨w.heap.size, 2, none⟩ (.slice (some ⟨g9, 0, none⟩) m.parts.length c9)) = W at hs2 hBz hOz ⊢
        simp at hs2
        have hr0 : W.cell? ⟨w.heap.size, 0, none⟩ = some (.int .i64 m.pt) := by simp [World.cell?, hs2]
        have hr1 : W.cell? ⟨w.heap.size, 1, none⟩ = some (.int .i64 C) := by simp [World.cell?, hs2]
        have hr2 : W.cell? ⟨w.heap.size, 2, none⟩ = some (.slice (some ⟨g9, 0, none⟩) m.parts.length c9) := by simp [World.cell?, hs2]
        (try simp only [Exit.inBlock, Exit.then])
        refine bodyPost_ret (by simp [results, Tryz.results54, go_sem, hr0, hr1, hr2, Result.andThen]; try rfl) rfl ?_
        exact ⟨_, by rw [hmc], hBz, hOz⟩
end Go.Proofs.YtlkdjdcnbcegeaaGreatDoor
