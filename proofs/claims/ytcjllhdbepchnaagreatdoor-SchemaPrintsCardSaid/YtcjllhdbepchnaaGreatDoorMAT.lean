/-
  ref11.Print: a schema's text, or what is wrong.
-/
import Derived.Test.YtcjllhdbepchnaaGreatDoorMAO
import Derived.Test.YtcjllhdbepchnaaGreatDoorMAS
import Derived.Test.YtcjllhdbepchnaaGreatDoorMAD
namespace Go.Proofs.YtcjllhdbepchnaaGreatDoor
open Go.RowKit Go.WideShapes
set_option linter.unusedVariables false
/-- What is wrong with a schema's text. -/
def prtWhy (limit : Int) (l : List FT) : Int × List Nat := if (schemaWhy limit l).1 = 0 then (if 65536 < (schText limit l).length then (2, []) else (0, [])) else schemaWhy limit l
/-- A schema's text, or nothing. -/
def prtText (limit : Int) (l : List FT) : List UInt8 := if (prtWhy limit l).1 = 0 then schText limit l else []
mutual
theorem FT.allFine_of {w : World} {S : Nat → Prop} : ∀ (t : FT) (d : Nat) (ahead : List FT) (cs : List Value), FT.good d ahead t = true → FieldAt w S t cs → t.allFine
  | .mk s l, d, ahead, cs, h, hf => by
    obtain ⟨a, c, e, hok, h1, h2, h3⟩ := (show ∃ a c, cs = fieldCells (.mk s l) a c ∧ s.ok ∧ l.length ≤ c ∧ c ≤ 140737488351232 ∧ FieldsAt w S l a from hf)
    have hg := h
    rw [FT.good_eq] at hg
    simp only [Bool.and_eq_true] at hg
    rw [FT.allFine]
    exact ⟨FT.fine_of h hok, FT.allFineL_of l (d + 1) [] a hg.2 h3⟩
theorem FT.allFineL_of {w : World} {S : Nat → Prop} : ∀ (l : List FT) (d : Nat) (ahead : List FT) (a : Option Addr), FT.goodL d ahead l = true → FieldsAt w S l a → FT.allFineL l
  | [], d, ahead, a, h, hf => by rw [FT.allFineL]; trivial
  | t :: r, d, ahead, a, h, hf => by
    obtain ⟨b, o, cs, e, hb, hc, h1, h2⟩ := (show ∃ b o cs, a = some ⟨b, o, none⟩ ∧ S b ∧ CellsAt w b o cs ∧ FieldAt w S t cs ∧ FieldsAt w S r (some ⟨b, o + 14, none⟩) from hf)
    rw [FT.goodL, Bool.and_eq_true] at h
    rw [FT.allFineL]
    exact ⟨FT.allFine_of t d ahead cs h.1 h1, FT.allFineL_of r d _ _ h.2 h2⟩
end
theorem prtWhy_told (limit : Int) (l : List FT) : ((prtWhy limit l).1 = 0 ∧ (prtWhy limit l).2 = []) ∨ ((prtWhy limit l).1 = 2 ∧ (prtWhy limit l).2 = []) ∨ (111 ≤ (prtWhy limit l).1 ∧ (prtWhy limit l).1 ≤ 116 ∧ (prtWhy limit l).2.length ≤ 17) := by
  have h := schemaWhy_told limit l
  unfold prtWhy
  split
  · split
    · exact .inr (.inl ⟨rfl, rfl⟩)
    · exact .inl ⟨rfl, rfl⟩
  · exact .inr (.inr (h.resolve_left fun k => by simp_all))
theorem text_few {limit : Int} {l : List FT} (h1 : 1 ≤ limit) (h2 : limit ≤ 65536) (h3 : FT.allFineL l) (h4 : FT.countL l ≤ 64) : (FT.linesL [] l).length ≤ 272384 ∧ (Lib.decDigits limit.toNat).length ≤ 20 := by
  have := take_few (ind := []) h3 h4 (by simp) l.length
  rw [List.take_length] at this
  exact ⟨this, dec_few (by omega)⟩
/-- A verdict's block. -/
def PV (W : World) (b : Nat) (code : Int) (v : Value) : Prop := W.heap[b]? = some (.cells #[.int .i64 code, .int .i64 0, v] 47 (0, 0))
theorem PV.cells {W : World} {b : Nat} {code : Int} {v : Value} (h : PV W b code v) : W.cell? ⟨b, 0, none⟩ = some (.int .i64 code) ∧ W.cell? ⟨b, 1, none⟩ = some (.int .i64 0) ∧ W.cell? ⟨b, 2, none⟩ = some v := by simp [World.cell?, show W.heap[b]? = _ from h]
/-- A schema's block. -/
def PS (W : World) (b : Nat) (limit : Int) (v : Value) : Prop := W.heap[b]? = some (.cells #[.int .i64 limit, v] 24 (0, 0))
theorem PS.cells {W : World} {b : Nat} {limit : Int} {v : Value} (h : PS W b limit v) : W.cell? ⟨b, 0, none⟩ = some (.int .i64 limit) ∧ W.cell? ⟨b, 1, none⟩ = some v := by simp [World.cell?, show W.heap[b]? = _ from h]
theorem fin_scr (W : World) (T : Nat) (x0 x1 x2 : Value) : Scr T (T + 1) W (((W.setCell ⟨T, 0, none⟩ x0).setCell ⟨T, 1, none⟩ x1).setCell ⟨T, 2, none⟩ x2) :=
  ⟨rfl, rfl, rfl, by simp, fun b hb h => by rw [Below.heap_setCell _ _ _ _ (by simp only; omega), Below.heap_setCell _ _ _ _ (by simp only; omega), Below.heap_setCell _ _ _ _ (by simp only; omega)]⟩
theorem Scr.drewR {g hi : Nat} {w W : World} (h : Scr g hi w W) : Scr g hi w W.drew := ⟨h.os, h.tape, h.output, h.size, h.block⟩
theorem fin_below {B T : Nat} {w W : World} (h : Below B w W) (hT : B ≤ T) (x0 x1 x2 : Value) : Below B w (((W.setCell ⟨T, 0, none⟩ x0).setCell ⟨T, 1, none⟩ x1).setCell ⟨T, 2, none⟩ x2) :=
  ((h.setCell (by simp only; omega) _).setCell (by simp only; omega) _).setCell (by simp only; omega) _
theorem row_fin {W W' : World} {lo T : Nat} {v : Value} {vs : List Value} (h : RowAt W W.heap.size v vs) (hl : Later lo v) (hT : T < lo) (hs : Scr T (T + 1) W W') : RowAt W' W'.heap.size v vs :=
  ((RowIn.of h hl).scr hs (.inl (by omega)) (Nat.le_refl _)).row hs.size
def PPost (r : Int × List Nat) (t : List UInt8) (w : World) (e : Ending) (w' : World) : Prop := ∃ vp, e = .returned (.tuple #[.string (txt t), .agg #[.int .i64 r.1, .int .i64 0, vp]]) ∧ Below w.heap.size w w' ∧ RowAt w' w'.heap.size vp (pathVals r.2) ∧ Later w.heap.size vp
set_option maxRecDepth 100000 in
set_option maxHeartbeats 4000000 in
theorem refPrt_any (limit : Int) (l : List FT) (a : Option Addr) (c : Nat) (w : World) (hf : FieldsAt w (· < w.heap.size) l a) (hlc : l.length ≤ c) (hc : c ≤ 140737488351232) :
    Calls Tryz.prog 34 #[.agg #[.int .i64 limit, .slice a l.length c]] w (PPost (prtWhy limit l) (prtText limit l) w) := by
  have HB0 := Lib.hid (below_a2 w (Obj.cells #[.int .i64 limit, .slice a l.length c] 24) (Obj.cells #[.int .i64 0, .int .i64 0, .slice none 0 0] 47))
  have HW0 := Lib.hid (WBox.new (w.alloc (Obj.cells #[.int .i64 limit, .slice a l.length c] 24)) (w.heap.size + 1) (by simp))
  have HS0 := Lib.hid (show PS ((w.alloc (Obj.cells #[.int .i64 limit, .slice a l.length c] 24)).alloc (Obj.cells #[.int .i64 0, .int .i64 0, .slice none 0 0] 47)) w.heap.size limit (.slice a l.length c) from ((below_a1 (w.alloc (Obj.cells #[.int .i64 limit, .slice a l.length c] 24)) (Obj.cells #[.int .i64 0, .int .i64 0, .slice none 0 0] 47)).block _ (by simp)).trans (World.alloc_heap_new w _))
  have HC := Lib.hid (refCheck_any limit l a c ((w.alloc (Obj.cells #[.int .i64 limit, .slice a l.length c] 24)).alloc (Obj.cells #[.int .i64 0, .int .i64 0, .slice none 0 0] 47)) ((hf.below HB0.out).wide HB0.out.size) hlc hc)
  have HF := Lib.hid hf
  have htold := schemaWhy_told limit l
  have HOk := Lib.hid (fun (h : (schemaWhy limit l).1 = 0) => schemaWhy_ok.1 h)
  have HWh := Lib.hid (show prtWhy limit l = (if (schemaWhy limit l).1 = 0 then (if 65536 < (schText limit l).length then (2, []) else (0, [])) else schemaWhy limit l) from rfl)
  have HTx := Lib.hid (show prtText limit l = (if (prtWhy limit l).1 = 0 then schText limit l else []) from rfl)
  obtain ⟨r, hr⟩ : ∃ r, r = schemaWhy limit l := ⟨_, rfl⟩
  rw [← hr] at HC htold HOk HWh
  clear hr hf
  obtain ⟨code, p⟩ := r
  go_enter Tryz.func34, Tryz.ntmps34
  go_wp2_with fail
  refine HC.out.mono ?_
  rintro e w3 ⟨vp, rfl, hb3, hq3, hlat3⟩
  have hz3 := hb3.size
  simp only [World.size_alloc] at hz3
  have HW3 := Lib.hid (HW0.out.below hb3 (by simp))
  have HS3 := Lib.hid (show PS w3 w.heap.size limit (.slice a l.length c) from (hb3.block _ (by simp; omega)).trans HS0.out)
  have HB3 := Lib.hid (HB0.out.trans (hb3.mono (by simp; omega)))
  have HQ3 := Lib.hid hq3
  have HLt3 := Lib.hid hlat3
  obtain ⟨A, cp, rfl, _, _⟩ := hq3
  clear hb3 hlat3 HC HW0 HB0 HS0
  simp only at *
  by_cases h0 : code = 0
  · subst h0
    obtain ⟨m1, m2, m3, m4, m5⟩ := HOk.out rfl
    obtain ⟨n, rfl⟩ := Int.eq_ofNat_of_zero_le (show 0 ≤ limit by omega)
    have hfine := FT.allFineL_of l 0 [] a m4 HF.out
    obtain ⟨tf1, tf2⟩ := text_few m1 m2 hfine m5
    rw [Int.toNat_natCast] at tf2
    obtain rfl : p = [] := by
      rcases htold with h | h
      · exact h.2
      · omega
    obtain ⟨wd, hwd⟩ : ∃ wd, wd = w3.alloc (Obj.cells #[.int .i64 0, .int .i64 0, .slice A (pathVals []).length cp] 47) := ⟨_, rfl⟩
    have hzd : wd.heap.size = w3.heap.size + 1 := by rw [hwd]; simp
    have HVd := Lib.hid (show PV wd w3.heap.size 0 (.slice A (pathVals []).length cp) by rw [hwd]; exact World.alloc_heap_new w3 _)
    have HSd := Lib.hid (show PS wd w.heap.size n (.slice a l.length c) by rw [hwd]; exact ((below_a1 w3 _).block _ (by omega)).trans HS3.out)
    have HWd := Lib.hid (show WBox wd (w.heap.size + 1) by rw [hwd]; exact HW3.out.below (below_a1 w3 _) (by omega))
    have HQd := Lib.hid (show RowIn (w.heap.size + 2) wd.heap.size wd (.slice A (pathVals []).length cp) (pathVals []) by
      rw [hwd]
      have h9 := (RowIn.of HQ3.out HLt3.out).scr (Scr.of (x := 0) (below_a1 w3 (Obj.cells #[.int .i64 0, .int .i64 0, .slice A (pathVals []).length cp] 47)) (Nat.le_refl _)) (.inl (by omega)) (Nat.le_refl _)
      exact RowIn.of ((RowIn.row h9 (by simp)).more (Nat.le_refl _)) (by simpa using HLt3.out))
    have HBd := Lib.hid (show Below w.heap.size w wd by rw [hwd]; exact HB3.out.alloc (by omega) _)
    have KS := Lib.hid (fun (W : World) (hb : Below wd.heap.size wd W) => (⟨(hb.cell (by simp only; omega)).trans HSd.out.cells.1, (hb.cell (by simp only; omega)).trans HSd.out.cells.2⟩ : W.cell? ⟨w.heap.size, 0, none⟩ = some (.int .i64 n) ∧ W.cell? ⟨w.heap.size, 1, none⟩ = some (.slice a l.length c)))
    have HDc := Lib.hid (fun W => decimal_any n W (by omega))
    have HLn := Lib.hid (fun (W : World) (hb : Below wd.heap.size wd W) => show Calls Tryz.prog 64 #[.slice a l.length c, .string ⟨#[]⟩] W (Ret (.string (txt (FT.linesL [] l))) W) from lines_any l [] a c W hlc hc (((HF.out.below HBd.out).wide (by omega) : FieldsAt wd (· < wd.heap.size) l a).below hb |>.wide hb.size) hfine m5 (by simp; omega))
    have HC0 := Lib.hid (Below.refl wd.heap.size wd)
    have z1 : (9223372036854775807 < 6 + (txt (Lib.decDigits n)).size) = False := by rw [txt_size]; exact eq_false (by omega)
    have z2 : (9223372036854775807 < 6 + (txt (Lib.decDigits n)).size + 1) = False := by rw [txt_size]; exact eq_false (by omega)
    have z3 : (9223372036854775807 < 6 + (txt (Lib.decDigits n)).size + 1 + (txt (FT.linesL [] l)).size) = False := by rw [txt_size, txt_size]; exact eq_false (by omega)
    have HSE := Lib.hid (show (⟨#[108, 105, 109, 105, 116, 32]⟩ ++ txt (Lib.decDigits n) ++ ⟨#[10]⟩ ++ txt (FT.linesL [] l) : ByteArray) = txt (schText n l) from by rw [show (⟨#[108, 105, 109, 105, 116, 32]⟩ : ByteArray) = txt wLimit from rfl, show (⟨#[10]⟩ : ByteArray) = txt [10] from rfl, txt_append, txt_append, txt_append]; rfl)
    have hq0 : wd.cell? ⟨w3.heap.size, 0, none⟩ = some (.int .i64 0) := HVd.out.cells.1
    have HWD := Lib.hid hwd
    clear hfine m4 HOk hwd
    go_wp2_with fail
    rw [← HWD.out]
    clear HWD
    go_region_held3 (fun W => W.cell? ⟨w.heap.size, 0, none⟩ = some (.int .i64 n) ∧ W.cell? ⟨w.heap.size, 1, none⟩ = some (.slice a l.length c))
      (first | exact KS.out _ HC0.out.drew | exact KS.out _ HC6.out | exact KS.out _ HC5.out)
      (first
        | (go_at_call 63; refine (HDc.out _).mono ?_; rintro e w5 ⟨rfl, hb5⟩; have HC5 := Lib.hid (HC0.out.drew.trans (hb5.mono (Nat.le_refl _))))
        | (go_at_call 64; refine (HLn.out _ HC5.out).mono ?_; rintro e w6 ⟨rfl, hb6⟩; have HC6 := Lib.hid (HC5.out.trans (hb6.mono HC5.out.size))))
    rw [HSE.out]
    have hMl : (schText n l).length ≤ 300000 := by
      unfold schText
      simp only [List.length_append, wLimit, List.length_cons, List.length_nil, Int.toNat_natCast]
      omega
    obtain ⟨M, hM⟩ : ∃ M, M = schText n l := ⟨_, rfl⟩
    have HWh2 := HWh.out
    have HTx2 := HTx.out
    replace HWh2 := HWh2.trans (if_pos (by first | rfl | trivial))
    rw [← hM] at hMl HWh2 HTx2 ⊢
    have hsz : (txt M).size = M.length := txt_size M
    have HV6 := Lib.hid (show PV w6 w3.heap.size 0 (.slice A (pathVals []).length cp) from (HC6.out.block _ (by omega)).trans HVd.out)
    have HW6 := Lib.hid (HWd.out.below HC6.out (by omega))
    have HB6 := Lib.hid (HBd.out.trans (HC6.out.mono HBd.out.size))
    have HQ6 := Lib.hid (HQd.out.scr (Scr.of (x := 0) HC6.out (Nat.le_refl _)) (.inl (by omega)) (Nat.le_refl _))
    have hz6 := HC6.out.size
    clear HC0 HC5 HC6 KS HDc HLn HSE HVd HWd HQd HBd z1 z2 z3 hq0 HSd tf1 tf2 hM
    have f0 := HW6.out.free 0
    have f1 := HW6.out.free 1
    have f2 := HW6.out.free 2
    obtain ⟨g0, g1, g2⟩ := HW6.out.cells
    by_cases hgt : 65536 < M.length
    · have ht1 : (65536 : Int) < ((txt M).size : Int) := by omega
      rw [if_pos hgt] at HWh2
      rw [HWh2, if_neg (by decide)] at HTx2
      have HWh3 := Lib.hid HWh2
      have HTx3 := Lib.hid HTx2
      clear HWh HTx HWh2 HTx2 hgt
      go_wp2_with fail
      rw [HWh3.out, HTx3.out]
      refine bodyPost_ret (by
        obtain ⟨q0, q1, q2⟩ := HW6.out.filled (.int .i64 2) (.int .i64 0) (.slice none 0 0)
        simp [results, Tryz.results34, go_sem, q0, q1, q2]
        try rfl) rfl ?_
      exact ⟨_, rfl, fin_below HB6.out (by omega) _ _ _, RowAt.nil _ _ _, fun _ _ _ _ e => by cases e⟩
    · have ht1 : ¬ (65536 : Int) < ((txt M).size : Int) := by omega
      rw [if_neg hgt] at HWh2
      rw [HWh2, if_pos rfl] at HTx2
      have HWh3 := Lib.hid HWh2
      have HTx3 := Lib.hid HTx2
      clear HWh HTx HWh2 HTx2 hgt
      obtain ⟨v0, v1, v2⟩ := HV6.out.cells
      have hn1 : w.heap.size + 1 ≠ w3.heap.size := by omega
      go_wp2_with fail
      go_region_held3 (fun W => W.cell? ⟨w3.heap.size, 0, none⟩ = some (.int .i64 0) ∧ W.cell? ⟨w3.heap.size, 1, none⟩ = some (.int .i64 0) ∧ W.cell? ⟨w3.heap.size, 2, none⟩ = some (.slice A (pathVals []).length cp)) (go_keep) (fail)
      go_wp2_with fail
      rw [HWh3.out, HTx3.out]
      refine bodyPost_ret (by
        obtain ⟨q0, q1, q2⟩ := HW6.out.filled (.int .i64 0) (.int .i64 0) (.slice A (pathVals []).length cp)
        simp [results, Tryz.results34, go_sem, q0, q1, q2]
        try rfl) rfl ?_
      have hq6 := HQ6.out.scr (fin_scr w6 (w.heap.size + 1) (.int .i64 0) (.int .i64 0) (.slice A (pathVals []).length cp)).drewR (.inl (by omega)) hz6
      exact ⟨_, rfl, (fin_below HB6.out (by omega) _ _ _).drew, hq6.row (by simp; omega), fun b o m k e => by have := HLt3.out b o m k e; simp at this; omega⟩
  · have e0 : (code != 0) = true := by rw [bne_iff_ne]; exact h0
    have hwd := HW3.out.below (below_a1 w3 (Obj.cells #[.int .i64 code, .int .i64 0, .slice A (pathVals p).length cp] 47)) (by omega)
    have HBd := HB3.out.alloc (by omega) (Obj.cells #[.int .i64 code, .int .i64 0, .slice A (pathVals p).length cp] 47)
    obtain ⟨g0, g1, g2⟩ := hwd.cells
    have f0 := hwd.free 0
    have f1 := hwd.free 1
    have f2 := hwd.free 2
    have hn1 : w.heap.size + 1 ≠ w3.heap.size := by omega
    have v0 : (w3.alloc (Obj.cells #[.int .i64 code, .int .i64 0, .slice A (pathVals p).length cp] 47)).cell? ⟨w3.heap.size, 0, none⟩ = some (.int .i64 code) := by simp
    have v1 : (w3.alloc (Obj.cells #[.int .i64 code, .int .i64 0, .slice A (pathVals p).length cp] 47)).cell? ⟨w3.heap.size, 1, none⟩ = some (.int .i64 0) := by simp
    have v2 : (w3.alloc (Obj.cells #[.int .i64 code, .int .i64 0, .slice A (pathVals p).length cp] 47)).cell? ⟨w3.heap.size, 2, none⟩ = some (.slice A (pathVals p).length cp) := by simp
    go_wp2_with fail
    go_region_held3 (fun W => W.cell? ⟨w3.heap.size, 0, none⟩ = some (.int .i64 code) ∧ W.cell? ⟨w3.heap.size, 1, none⟩ = some (.int .i64 0) ∧ W.cell? ⟨w3.heap.size, 2, none⟩ = some (.slice A (pathVals p).length cp)) (go_keep) (fail)
    go_wp2_with fail
    have HE := HWh.out
    rw [if_neg h0] at HE
    have HT := HTx.out
    rw [HE, if_neg h0] at HT
    rw [HE, HT]
    refine bodyPost_ret (by
      obtain ⟨q0, q1, q2⟩ := hwd.filled (.int .i64 code) (.int .i64 0) (.slice A (pathVals p).length cp)
      simp [results, Tryz.results34, go_sem, q0, q1, q2]
      try rfl) rfl ?_
    have hq : RowAt (w3.alloc (Obj.cells #[.int .i64 code, .int .i64 0, .slice A (pathVals p).length cp] 47)) (w3.alloc (Obj.cells #[.int .i64 code, .int .i64 0, .slice A (pathVals p).length cp] 47)).heap.size (.slice A (pathVals p).length cp) (pathVals p) := (HQ3.out.below (below_a1 _ _)).more (by simp)
    have hl2 : Later (w.heap.size + 2) (.slice A (pathVals p).length cp) := by simpa using HLt3.out
    exact ⟨_, rfl, (fin_below HBd (by omega) _ _ _).drew, row_fin (T := w.heap.size + 1) hq hl2 (by omega) (fin_scr _ _ _ _ _).drewR, fun b o m k e => by have := hl2 b o m k e; omega⟩
end Go.Proofs.YtcjllhdbepchnaaGreatDoor
