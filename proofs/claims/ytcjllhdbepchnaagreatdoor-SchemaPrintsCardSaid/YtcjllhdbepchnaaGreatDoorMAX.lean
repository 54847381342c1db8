/-
  The law SchemaPrints, walked.
-/
import Derived.Test.YtcjllhdbepchnaaGreatDoorMAU
import Derived.Test.YtcjllhdbepchnaaGreatDoorMAV
import Derived.Test.YtcjllhdbepchnaaGreatDoorMAW
namespace Go.Proofs.YtcjllhdbepchnaaGreatDoor
open Go.RowKit Go.WideShapes
set_option linter.unusedVariables false
/-- A schema's block. -/
def SB (W : World) (b : Nat) (limit : Int) (A : Option Addr) (n c : Nat) : Prop := W.heap[b]? = some (.cells #[.int .i64 limit, .slice A n c] 24 (0, 0))
/-- A verdict's block. -/
def VB (W : World) (b : Nat) (code : Int) (v : Value) : Prop := W.heap[b]? = some (.cells #[.int .i64 code, .int .i64 0, v] 47 (0, 0))
section
variable {W W' : World} {b n c : Nat} {limit code : Int} {A : Option Addr} {v : Value}
theorem SB.cells (h : SB W b limit A n c) : W.cell? ⟨b, 0, none⟩ = some (.int .i64 limit) ∧ W.cell? ⟨b, 1, none⟩ = some (.slice A n c) := by simp [World.cell?, show W.heap[b]? = _ from h]
theorem VB.cells (h : VB W b code v) : W.cell? ⟨b, 0, none⟩ = some (.int .i64 code) ∧ W.cell? ⟨b, 1, none⟩ = some (.int .i64 0) ∧ W.cell? ⟨b, 2, none⟩ = some v := by simp [World.cell?, show W.heap[b]? = _ from h]
end
set_option maxRecDepth 100000 in
set_option maxHeartbeats 4000000 in
theorem law_any {w : World} (h : laidMetH Tryz.prog Rows.schemaChecksRow.laid w) (limit : Int) (l : List FT) (A : Option Addr) (c : Nat) (hf : FieldsAt w (· < w.heap.size) l A) (hlc : l.length ≤ c) (hc : c ≤ 140737488351232) :
    Calls Tryz.prog 7 #[.agg #[.int .i64 limit, .slice A l.length c]] w (Ret (.bool true) w) := by
  have HL := Lib.hid h
  have HF := Lib.hid hf
  have HB0 := Lib.hid (below_a1 w (.cells #[.int .i64 limit, .slice A l.length c] 24))
  have HS0 := Lib.hid (show SB (w.alloc (.cells #[.int .i64 limit, .slice A l.length c] 24)) w.heap.size limit A l.length c from World.alloc_heap_new w _)
  have HA := Lib.hid (awake_any h HB0.out)
  have htold := prtWhy_told limit l
  obtain ⟨r, hr⟩ : ∃ r, r = prtWhy limit l := ⟨_, rfl⟩
  obtain ⟨tx, htx⟩ : ∃ tx, tx = prtText limit l := ⟨_, rfl⟩
  have HT := Lib.hid (show (r.1 = 0 ∧ r.2 = []) ∨ (r.1 = 2 ∧ r.2 = []) ∨ (111 ≤ r.1 ∧ r.1 ≤ 116 ∧ r.2.length ≤ 17) by rw [hr]; exact htold)
  have HR := Lib.hid hr
  have HTX := Lib.hid htx
  clear h hf htold hr htx
  go_enter Tryz.func7, Tryz.ntmps7
  go_wp2_with fail
  refine HA.out.mono ?_
  rintro e w1 ⟨rfl, hb1⟩
  have hz1 := hb1.size
  rw [World.size_alloc] at hz1
  have HS1 := Lib.hid (show SB w1 w.heap.size limit A l.length c from (hb1.block _ (by simp)).trans HS0.out)
  have HB1 := Lib.hid (HB0.out.trans (hb1.mono (by simp)))
  obtain ⟨s0, s1⟩ := HS1.out.cells
  clear hb1 HA HB0 HS0
  go_wp2_with fail
  refine (fvast_any l A c w1 hlc hc ((HF.out.below HB1.out).wide (by omega))).mono ?_
  rintro e w2 ⟨v, rfl, hb2, hv⟩
  have hz2 := hb2.size
  have HS2 := Lib.hid (show SB w2 w.heap.size limit A l.length c from (hb2.block _ (by omega)).trans HS1.out)
  have HB2 := Lib.hid (HB1.out.trans (hb2.mono (by omega)))
  clear hb2 s0 s1 HS1 HB1
  cases v with
  | true =>
    go_wp2_with fail
    go_ret
    exact ⟨rfl, HB2.out⟩
  | false =>
    have HSl := Lib.hid (hv rfl)
    clear hv
    obtain ⟨s0, s1⟩ := HS2.out.cells
    go_wp2_with fail
    have HLn := Lib.hid (lentF_any l A c)
    have HZ := Lib.hid (below_a1 w2.drew (.cells #[.int .i64 0, .slice none 0 0] 24))
    have hzz : (w2.drew.alloc (.cells #[.int .i64 0, .slice none 0 0] 24)).heap.size = w2.heap.size + 1 := by simp
    have HXZ := Lib.hid (show SB (w2.drew.alloc (.cells #[.int .i64 0, .slice none 0 0] 24)) w2.heap.size 0 none 0 0 from World.alloc_heap_new w2.drew _)
    have hw2s : w.heap.size ≤ w2.heap.size := by omega
    have hzd : w2.drew.heap.size = w2.heap.size := rfl
    have HFZ := Lib.hid (show FieldsAt (w2.drew.alloc (.cells #[.int .i64 0, .slice none 0 0] 24)) (· < (w2.drew.alloc (.cells #[.int .i64 0, .slice none 0 0] 24)).heap.size) l A from ((HF.out.below HB2.out.drew).below (HZ.out.mono (by omega))).wide (by omega))
    have KA := Lib.hid (fun (W : World) (hb : Below w2.heap.size w2.drew W) => (⟨(hb.cell (by simp only; omega)).trans s0, (hb.cell (by simp only; omega)).trans s1⟩ : W.cell? ⟨w.heap.size, 0, none⟩ = some (.int .i64 limit) ∧ W.cell? ⟨w.heap.size, 1, none⟩ = some (.slice A l.length c)))
    go_region_held3 (fun W => W.cell? ⟨w.heap.size, 0, none⟩ = some (.int .i64 limit) ∧ W.cell? ⟨w.heap.size, 1, none⟩ = some (.slice A l.length c))
      (first | exact ⟨s0, s1⟩ | exact KA.out _ HZ.out | exact KA.out _ HB4.out | exact KA.out _ (HB4.out.alloc (by have := HB4.out.size; simp only [World.size_drew] at this; omega) _) | exact KA.out _ ((HB4.out.setCell (by simp only; omega) _).setCell (by simp only; omega) _))
      (first
        | (go_at_call 13; refine (HLn.out w2.drew HSl.out ((HF.out.below HB2.out.drew).wide (by simp only [World.size_drew]; omega))).mono ?_; rintro e w4 ⟨g, rfl, hb4, hg4, hl4⟩; have HB4 := Lib.hid (show Below w2.heap.size w2.drew w4 from hb4); have hord := Lib.hid (show True from trivial))
        | (go_at_call 13; refine (HLn.out (w2.drew.alloc (.cells #[.int .i64 0, .slice none 0 0] 24)) HSl.out HFZ.out).mono ?_; rintro e w4 ⟨g, rfl, hb4, hg4, hl4⟩; have HB4 := Lib.hid (show Below w2.heap.size w2.drew w4 from HZ.out.trans (hb4.mono (by rw [hzz]; omega))); have HX4 := Lib.hid (show SB w4 w2.heap.size 0 none 0 0 from (hb4.block _ (by rw [hzz]; omega)).trans HXZ.out); obtain ⟨x0, x1⟩ := HX4.out.cells; have f0 : w4.frozen? ⟨w2.heap.size, 0, none⟩ = false := (by simp [World.frozen?, show w4.heap[w2.heap.size]? = _ from HX4.out]); have f1 : w4.frozen? ⟨w2.heap.size, 1, none⟩ = false := (by simp [World.frozen?, show w4.heap[w2.heap.size]? = _ from HX4.out])))
    case' refine_2.refine_3.refine_3.refine_3.refine_3.refine_1.refine_2.refine_3.refine_1.refine_2.refine_1.refine_2 =>
      obtain ⟨W4, hW4⟩ : ∃ W4, W4 = w4.alloc (Obj.cells #[.int .i64 limit, .slice (some ⟨g, 0, none⟩) l.length (l.length + 2)] 24) := ⟨_, rfl⟩
      rw [← hW4]
      obtain ⟨X, hX⟩ : ∃ X, X = w4.heap.size := ⟨_, rfl⟩
      obtain ⟨hi, hhi⟩ : ∃ hi, hi = w4.heap.size := ⟨_, rfl⟩
      rw [← hhi] at hl4
      rw [← hX]
      have hz4 : W4.heap.size = w4.heap.size + 1 := by rw [hW4]; simp
      have hw24 : w2.heap.size ≤ w4.heap.size := HB4.out.size
      have hg2 : w2.heap.size ≤ g := hg4
      have hB24 : Below w2.heap.size w2.drew W4 := by rw [hW4]; exact HB4.out.alloc hw24 _
      have HX := Lib.hid (show SB W4 X limit (some ⟨g, 0, none⟩) l.length (l.length + 2) by rw [hW4, hX]; exact World.alloc_heap_new w4 _)
      have HL4 := Lib.hid (show LentAt W4 l g hi by rw [hW4]; exact hl4.far (below_a1 _ _) (by omega))
      have hXp : (X < g ∨ hi ≤ X) ∧ w2.heap.size ≤ X ∧ X < W4.heap.size ∧ hi ≤ W4.heap.size ∧ w2.heap.size ≤ W4.heap.size := by omega
      clear hW4 hX hz4 hw24 hg4 hl4 hhi HB4 KA
    case' refine_2.refine_3.refine_3.refine_3.refine_3.refine_2.refine_1.refine_2.refine_1.refine_2.refine_3.refine_1.refine_2 =>
      obtain ⟨W4, hW4⟩ : ∃ W4, W4 = (w4.setCell ⟨w2.heap.size, 0, none⟩ (.int .i64 limit)).setCell ⟨w2.heap.size, 1, none⟩ (.slice (some ⟨g, 0, none⟩) l.length (l.length + 2)) := ⟨_, rfl⟩
      rw [← hW4]
      obtain ⟨hi, hhi⟩ : ∃ hi, hi = w4.heap.size := ⟨_, rfl⟩
      rw [← hhi] at hl4
      have hz4 : W4.heap.size = w4.heap.size := by rw [hW4]; simp
      have hw24 : w2.heap.size ≤ w4.heap.size := HB4.out.size
      rw [hzz] at hg4
      have hgl := hl4.lt
      have hX4l : w2.heap.size < w4.heap.size := by omega
      have hg2 : w2.heap.size ≤ g := by omega
      have hB24 : Below w2.heap.size w2.drew W4 := by rw [hW4]; exact (HB4.out.setCell (by simp only; omega) _).setCell (by simp only; omega) _
      obtain ⟨X, hX⟩ : ∃ X, X = w2.heap.size := ⟨_, rfl⟩
      have HX := Lib.hid (show SB W4 X limit (some ⟨g, 0, none⟩) l.length (l.length + 2) by
        rw [hW4, hX]
        have h9 : w4.heap[w2.heap.size]? = _ := HX4.out
        unfold SB
        simp [World.setCell, Array.getElem?_modify, h9])
      have HL4 := Lib.hid (show LentAt W4 l g hi by rw [hW4]; exact hl4.keep fun b hb1 hb2 => ((Below.heap_setCell _ _ _ _ (by simp only; omega)).trans (Below.heap_setCell _ _ _ _ (by simp only; omega))))
      have hXp : (X < g ∨ hi ≤ X) ∧ w2.heap.size ≤ X ∧ X < W4.heap.size ∧ hi ≤ W4.heap.size ∧ w2.heap.size ≤ W4.heap.size := by omega
      rw [← hX]
      clear hW4 hX hz4 hw24 hg4 hl4 hhi HB4 KA HX4 x0 x1 f0 f1 hgl hX4l
    all_goals (
      have hgl := HL4.out.lt
      have hB4 : Below w.heap.size w W4 := HB2.out.drew.trans (hB24.mono (by omega))
      have HB4 := Lib.hid hB4
      have HS4 := Lib.hid (show SB W4 w.heap.size limit A l.length c from (hB24.block _ (by omega)).trans HS2.out)
      clear hB24 hB4 s0 s1 HZ HXZ hzz HLn HS2 HB2
      obtain ⟨s0, s1⟩ := HS4.out.cells
      have HRC := Lib.hid (refPrt_any limit l A c W4 ((HF.out.below HB4.out).wide (by omega)) hlc hc)
      rw [← HR.out, ← HTX.out] at HRC
      go_wp2_with fail
      refine HRC.out.mono ?_
      rintro e w5 ⟨vp, rfl, hb5, hq5, hlat5⟩
      have hz5 := hb5.size
      have hin5 := RowIn.of hq5 hlat5
      obtain ⟨Av, cv, rfl, _, _⟩ := hq5
      rw [pathVals_len] at hin5 ⊢
      obtain ⟨W5, hW5⟩ : ∃ W5, W5 = w5.alloc (Obj.cells #[.int .i64 r.1, .int .i64 0, .slice Av r.2.length cv] 47) := ⟨_, rfl⟩
      have hzW5 : W5.heap.size = w5.heap.size + 1 := by rw [hW5]; simp
      have hb45 : Below W4.heap.size W4 W5 := by rw [hW5]; exact hb5.alloc hz5 _
      have HV5 := Lib.hid (show VB W5 w5.heap.size r.1 (.slice Av r.2.length cv) by rw [hW5]; exact World.alloc_heap_new w5 _)
      have HQ5 := Lib.hid (show RowIn W4.heap.size w5.heap.size W5 (.slice Av r.2.length cv) (pathVals r.2) by rw [hW5]; exact hin5.scr (Scr.of (x := 0) (below_a1 _ _) (Nat.le_refl _)) (.inl (by omega)) (Nat.le_refl _))
      have HX5 := Lib.hid (show SB W5 X limit (some ⟨g, 0, none⟩) l.length (l.length + 2) from (hb45.block _ (by omega)).trans HX.out)
      have HS5 := Lib.hid (show SB W5 w.heap.size limit A l.length c from (hb45.block _ (by omega)).trans HS4.out)
      have HL5 := Lib.hid (HL4.out.far hb45 (by omega))
      have HB5 := Lib.hid (HB4.out.trans (hb45.mono (by omega)))
      clear s0 s1
      obtain ⟨x0, x1⟩ := HX5.out.cells
      have y0 : (w5.alloc (Obj.cells #[.int .i64 r.1, .int .i64 0, .slice Av r.2.length cv] 47)).cell? ⟨X, 0, none⟩ = some (.int .i64 limit) := by rw [← hW5]; exact x0
      have y1 : (w5.alloc (Obj.cells #[.int .i64 r.1, .int .i64 0, .slice Av r.2.length cv] 47)).cell? ⟨X, 1, none⟩ = some (.slice (some ⟨g, 0, none⟩) l.length (l.length + 2)) := by rw [← hW5]; exact x1
      have hln : l.length + 2 ≤ 140737488351232 := by have := HSl.out.len; omega
      have HC5 := Lib.hid (schPrt_any limit l (some ⟨g, 0, none⟩) (l.length + 2) HL.out HB5.out (HL5.out.fields (by omega)) (by omega) hln)
      rw [← HR.out, ← HTX.out] at HC5
      have HW5 := Lib.hid hW5
      clear hW5
      go_wp2_with fail
      rw [← HW5.out]
      clear HW5 hin5 hlat5 hb5 HX HS4 HL4 HB4 HRC y0 y1
      refine HC5.out.mono ?_
      rintro e w6 ⟨va, rfl, hb6, he6⟩
      have hz6 := hb6.size
      have HA6 := Lib.hid he6.own
      have HV6 := Lib.hid (show VB w6 w5.heap.size r.1 (.slice Av r.2.length cv) from (hb6.block _ (by omega)).trans HV5.out)
      have HQ6 := Lib.hid (HQ5.out.scr (Scr.of (x := 0) hb6 (Nat.le_refl _)) (.inl (by omega)) (by omega))
      have HX6 := Lib.hid (show SB w6 X limit (some ⟨g, 0, none⟩) l.length (l.length + 2) from (hb6.block _ (by omega)).trans HX5.out)
      have HS6 := Lib.hid (show SB w6 w.heap.size limit A l.length c from (hb6.block _ (by omega)).trans HS5.out)
      have HL6 := Lib.hid (HL5.out.far hb6 (by omega))
      have HB6 := Lib.hid (HB5.out.trans (hb6.mono (by omega)))
      clear x0 x1 he6 hb6 HV5 HQ5 HX5 HS5 HL5 HB5 HC5
      obtain ⟨x0, x1⟩ := HX6.out.cells
      have HC6 := Lib.hid (schPrt_any limit l (some ⟨g, 0, none⟩) (l.length + 2) HL.out HB6.out (HL6.out.fields (by omega)) (by omega) hln)
      rw [← HR.out, ← HTX.out] at HC6
      go_wp2_with fail
      refine HC6.out.mono ?_
      rintro e w7 ⟨vb, rfl, hb7, he7⟩
      have hz7 := hb7.size
      have HE7 := Lib.hid he7.own
      have HA7 := Lib.hid (HA6.out.scr (Scr.of (x := 0) hb7 (Nat.le_refl _)) (.inl (by omega)) (by omega))
      have HV7 := Lib.hid (show VB w7 w5.heap.size r.1 (.slice Av r.2.length cv) from (hb7.block _ (by omega)).trans HV6.out)
      have HQ7 := Lib.hid (HQ6.out.scr (Scr.of (x := 0) hb7 (Nat.le_refl _)) (.inl (by omega)) (by omega))
      have HX7 := Lib.hid (show SB w7 X limit (some ⟨g, 0, none⟩) l.length (l.length + 2) from (hb7.block _ (by omega)).trans HX6.out)
      have HS7 := Lib.hid (show SB w7 w.heap.size limit A l.length c from (hb7.block _ (by omega)).trans HS6.out)
      have HL7 := Lib.hid (HL6.out.far hb7 (by omega))
      have HB7 := Lib.hid (HB6.out.trans (hb7.mono (by omega)))
      clear x0 x1 he7 hb7 HA6 HV6 HQ6 HX6 HS6 HL6 HB6 HC6
      obtain ⟨v0, v1, v2⟩ := HV7.out.cells
      have HI7 := Lib.hid (keepIs_p HT.out HL.out HB7.out (by omega) HA7.out (HQ7.out.row (by omega)))
      go_wp2_with fail
      refine HI7.out.mono ?_
      rintro e w8 ⟨rfl, hb8⟩
      have hz8 := hb8.size
      have HE8 := Lib.hid (HE7.out.scr (Scr.of (x := 0) hb8 (Nat.le_refl _)) (.inl (by omega)) (by omega))
      have HV8 := Lib.hid (show VB w8 w5.heap.size r.1 (.slice Av r.2.length cv) from (hb8.block _ (by omega)).trans HV7.out)
      have HQ8 := Lib.hid (HQ7.out.scr (Scr.of (x := 0) hb8 (Nat.le_refl _)) (.inl (by omega)) (by omega))
      have HX8 := Lib.hid (show SB w8 X limit (some ⟨g, 0, none⟩) l.length (l.length + 2) from (hb8.block _ (by omega)).trans HX7.out)
      have HS8 := Lib.hid (show SB w8 w.heap.size limit A l.length c from (hb8.block _ (by omega)).trans HS7.out)
      have HL8 := Lib.hid (HL7.out.far hb8 (by omega))
      have HB8 := Lib.hid (HB7.out.trans (hb8.mono (by omega)))
      clear v0 v1 v2 hb8 HE7 HA7 HV7 HQ7 HX7 HS7 HL7 HB7 HI7
      obtain ⟨v0, v1, v2⟩ := HV8.out.cells
      have HI8 := Lib.hid (keepIs_p HT.out HL.out HB8.out (by omega) HE8.out (HQ8.out.row (by omega)))
      go_wp2_with fail
      refine HI8.out.mono ?_
      rintro e w9 ⟨rfl, hb9⟩
      have hz9 := hb9.size
      have HX9 := Lib.hid (show SB w9 X limit (some ⟨g, 0, none⟩) l.length (l.length + 2) from (hb9.block _ (by omega)).trans HX8.out)
      have HS9 := Lib.hid (show SB w9 w.heap.size limit A l.length c from (hb9.block _ (by omega)).trans HS8.out)
      have HL9 := Lib.hid (HL8.out.far hb9 (by omega))
      have HB9 := Lib.hid (HB8.out.trans (hb9.mono (by omega)))
      clear v0 v1 v2 hb9 HE8 HV8 HQ8 HX8 HS8 HL8 HB8 HI8
      obtain ⟨x0, x1⟩ := HX9.out.cells
      obtain ⟨s0, s1⟩ := HS9.out.cells
      have HK9 := Lib.hid (keptF_any l g hi A c w9 HL9.out (by omega) ((HF.out.below HB9.out).wide (by omega)) HSl.out.len HSl.out)
      go_wp2_with fail
      refine HK9.out.mono ?_
      rintro e w10 ⟨rfl, hb10⟩
      have HB10 := Lib.hid (HB9.out.trans (hb10.mono (by omega)))
      clear x0 x1 s0 s1 hb10 HX9 HS9 HL9 HB9 HK9
      go_wp2_with fail
      go_ret
      exact ⟨rfl, HB10.out⟩)
end Go.Proofs.YtcjllhdbepchnaaGreatDoor
