/-
  ref12.FieldWhy: what is told of a value of a field.
-/
import Derived.Test.YtcjllhdbepchnaaGreatDoorLAC
import Derived.Test.YtcjllhdbepchnaaGreatDoorLAG
namespace Go.Proofs.YtcjllhdbepchnaaGreatDoor
open Go.RowKit Go.WideShapes
set_option linter.unusedVariables false
/-- What it tells. -/
def RWhyPost (r : FR) (w : World) (e : Ending) (w' : World) : Prop := ∃ A n c, e = .returned (.tuple #[.agg #[.int .i64 (frC r), .int .i64 (frA r), .slice A n c], .int .i64 (frY r)]) ∧ Below w.heap.size w w' ∧ w'.ownsRow w.heap.size 3 1 (.slice A n c) (frP r).length (pathVals (frP r))
set_option maxRecDepth 100000 in
set_option maxHeartbeats 2000000 in
theorem refFieldWhy_any (t : FT) (p : PT) (a : Option Addr) (c : Nat) (a' : Option Addr) (c' : Nat) (w : World) (hraw : RawOk p) (hok : t.s.ok) (hlc : t.fields.length ≤ c) (hc : c ≤ 140737488351232) (hf : FieldsAt w (· < w.heap.size) t.fields a) (hp : PartAt w (· < w.heap.size) p (partCells p a' c')) :
    Calls Tryz.prog 20 #[.agg #[.string t.s.name, .int .u8 t.s.kind, .bool t.s.down, .int .u8 t.s.nulls, .bool t.s.bnd, .bool t.s.lb, .string t.s.lm, .bool t.s.hb, .string t.s.hm, .int .i64 t.s.most, .int .i64 t.s.st, .bool t.s.sh, .bool t.s.ba, .slice a t.fields.length c], .agg #[.int .u8 p.kind, .bool p.yes, .bool p.bel, .string p.mag, .string p.raw, .slice a' p.items.length c']] w (RWhyPost (fieldAns t p) w) := by
  obtain ⟨W3, hW3⟩ : ∃ W3, W3 = ((w.alloc (.cells #[.string t.s.name, .int .u8 t.s.kind, .bool t.s.down, .int .u8 t.s.nulls, .bool t.s.bnd, .bool t.s.lb, .string t.s.lm, .bool t.s.hb, .string t.s.hm, .int .i64 t.s.most, .int .i64 t.s.st, .bool t.s.sh, .bool t.s.ba, .slice a t.fields.length c] 57)).alloc (.cells #[.int .u8 p.kind, .bool p.yes, .bool p.bel, .string p.mag, .string p.raw, .slice a' p.items.length c'] 30)).alloc (.cells #[.int .i64 0, .int .i64 0, .slice none 0 0] 47) := ⟨_, rfl⟩
  have HX := Lib.hid (fun (w2 : World) (hb : Below W3.heap.size W3 w2) => inner_boxes _ _ w W3 w2 hW3 hb)
  obtain ⟨_, _, _, hb3, hz3⟩ := HX.out W3 (Below.refl _ _)
  have HC := Lib.hid (refField_any t a c W3 hok hlc hc ((hf.below hb3).wide hb3.size))
  have HIn := Lib.hid (fun (W : World) (hb : Below w.heap.size w W) (h0 : (fieldWhy t).1 = 0) => inner_any t p a c a' c' W (by have := fieldWhy_deep h0; omega) hraw hok hlc hc ((hf.below hb).wide hb.size) ((hp.below hb).wide hb.size))
  obtain ⟨r, hr⟩ : ∃ r, r = fieldAns t p := ⟨_, rfl⟩
  rw [← hr]
  have HR := Lib.hid hr
  have HW := Lib.hid hW3
  rw [hW3] at HC
  clear hf hp hraw hok hr hW3 hb3
  go_enter Tryz.func20, Tryz.ntmps20
  go_wp2_with fail
  refine HC.out.mono ?_
  rintro e w4 ⟨rfl, hb4⟩
  rw [← HW.out] at hb4
  obtain ⟨hx4, hp4, hw4, hB4, hz4⟩ := HX.out w4 hb4
  have HX4 := Lib.hid hx4
  have HP4 := Lib.hid hp4
  have HV4 := Lib.hid hw4
  have HB4 := Lib.hid hB4
  clear hb4 hx4 hp4 hw4 hB4 HC
  by_cases h0 : (fieldWhy t).1 = 0
  · have ha : r = FT.fit t p := by rw [HR.out]; unfold fieldAns; rw [if_pos h0]
    have HI := Lib.hid (HIn.out w4 HB4.out h0)
    rw [← ha] at HI
    have e0 : ((fieldWhy t).1 != 0) = false := by rw [h0]; rfl
    clear ha HR HIn h0
    obtain ⟨x0, x1, x2, x3, x4, x5, x6, x7, x8, x9, x10, x11, x12, x13⟩ := HX4.out.cells
    obtain ⟨y0, y1, y2, y3, y4, y5⟩ := HP4.out.cells
    go_wp2_with fail
    refine HI.out.mono ?_
    rintro e w5 ⟨hb5, hp5⟩
    have hz5 := hb5.size
    have hwd := HV4.out.below hb5 (by omega)
    have HB5 := Lib.hid (HB4.out.trans (hb5.mono (by omega)))
    clear x0 x1 x2 x3 x4 x5 x6 x7 x8 x9 x10 x11 x12 x13 y0 y1 y2 y3 y4 y5 hb5 HI
    obtain ⟨g0, g1, g2⟩ := hwd.cells
    have f0 := hwd.free 0
    have f1 := hwd.free 1
    have f2 := hwd.free 2
    rcases r with _ | ⟨cc, aa, q, yy⟩
    · obtain rfl := hp5
      go_wp2_with fail
      refine bodyPost_ret (by obtain ⟨q0, q1, q2⟩ := hwd.filled (.int .i64 0) (.int .i64 0) (.slice none 0 0); simp [results, Tryz.results20, go_sem, q0, q1, q2]; try rfl) rfl ?_
      exact ⟨none, 0, 0, rfl, ((HB5.out.setCell (by simp only; omega) _).setCell (by simp only; omega) _).setCell (by simp only; omega) _, World.ownsRow_nil _ _ _ _⟩
    · obtain ⟨v, rfl, ho⟩ := hp5
      obtain ⟨A, n, m, rfl⟩ := own_slice ho
      have HO := Lib.hid ho
      clear ho
      go_wp2_with fail
      refine bodyPost_ret (by obtain ⟨q0, q1, q2⟩ := hwd.filled (.int .i64 cc) (.int .i64 aa) (.slice A n m); simp [results, Tryz.results20, go_sem, q0, q1, q2]; try rfl) rfl ?_
      refine ⟨A, n, m, rfl, ((HB5.out.setCell (by simp only; omega) _).setCell (by simp only; omega) _).setCell (by simp only; omega) _, ?_⟩
      have hlo : w.heap.size + 2 < w4.heap.size := by omega
      exact ownsRow_low (((HO.out.setOut (by simp only; omega) _).setOut (by simp only; omega) _).setOut (by simp only; omega) _) (by omega)
  · have ha : r = some (1, 0, [], (fieldWhy t).1) := by rw [HR.out]; unfold fieldAns; rw [if_neg h0]
    have e0 : ((fieldWhy t).1 != 0) = true := by rw [bne_iff_ne]; exact h0
    subst ha
    clear HR HIn h0
    have hwd := HV4.out
    obtain ⟨g0, g1, g2⟩ := hwd.cells
    have f0 := hwd.free 0
    have f1 := hwd.free 1
    have f2 := hwd.free 2
    go_wp2_with fail
    refine bodyPost_ret (by obtain ⟨q0, q1, q2⟩ := hwd.filled (.int .i64 1) (.int .i64 0) (.slice none 0 0); simp [results, Tryz.results20, go_sem, q0, q1, q2]; try rfl) rfl ?_
    exact ⟨none, 0, 0, rfl, ((HB4.out.setCell (by simp only; omega) _).setCell (by simp only; omega) _).setCell (by simp only; omega) _, World.ownsRow_nil _ _ _ _⟩
end Go.Proofs.YtcjllhdbepchnaaGreatDoor
