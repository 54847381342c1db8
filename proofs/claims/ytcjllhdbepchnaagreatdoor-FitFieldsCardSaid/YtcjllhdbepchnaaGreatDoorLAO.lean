/-
  fit.Least: a value of a field.
-/
import Derived.Test.YtcjllhdbepchnaaGreatDoorLAL
import Derived.Test.YtcjllhdbepchnaaGreatDoorLX
import Derived.Test.YtcjllhdbepchnaaGreatDoorLZ
import Derived.Test.YtcjllhdbepchnaaGreatDoorLY
import Derived.Test.YtcjllhdbepchnaaGreatDoorLAN
/-! fit.Least: a value of a field. -/
namespace Go.Proofs.YtcjllhdbepchnaaGreatDoor
open Go.RowKit Go.WideShapes
set_option linter.unusedVariables false
/-- What Least tells. -/
def LstPost (t : FT) (w : World) (e : Ending) (w' : World) : Prop := Below w.heap.size w w' ∧ (((fieldWhy t).1 = 0 ∧ ∃ v, e = .returned (.tuple #[v, .int .i64 0]) ∧ ValueAt w' (fun b => w.heap.size ≤ b ∧ b < w'.heap.size) t.least v) ∨ ((fieldWhy t).1 ≠ 0 ∧ e = .returned (.tuple #[.nilIface, .int .i64 1])))
set_option maxRecDepth 100000 in
set_option maxHeartbeats 2000000 in
theorem fitLeast_any (t : FT) (a : Option Addr) (c : Nat) (w : World) (hok : t.s.ok) (hlc : t.fields.length ≤ c) (hc : c ≤ 140737488351232) (hf : FieldsAt w (· < w.heap.size) t.fields a) :
    Calls Tryz.prog 23 #[.agg #[.string t.s.name, .int .u8 t.s.kind, .bool t.s.down, .int .u8 t.s.nulls, .bool t.s.bnd, .bool t.s.lb, .string t.s.lm, .bool t.s.hb, .string t.s.hm, .int .i64 t.s.most, .int .i64 t.s.st, .bool t.s.sh, .bool t.s.ba, .slice a t.fields.length c]] w (LstPost t w) := by
  have hb1 := below_a1 w (.cells #[.string t.s.name, .int .u8 t.s.kind, .bool t.s.down, .int .u8 t.s.nulls, .bool t.s.bnd, .bool t.s.lb, .string t.s.lm, .bool t.s.hb, .string t.s.hm, .int .i64 t.s.most, .int .i64 t.s.st, .bool t.s.sh, .bool t.s.ba, .slice a t.fields.length c] 57)
  have HX1 := Lib.hid (FBox.new w #[.string t.s.name, .int .u8 t.s.kind, .bool t.s.down, .int .u8 t.s.nulls, .bool t.s.bnd, .bool t.s.lb, .string t.s.lm, .bool t.s.hb, .string t.s.hm, .int .i64 t.s.most, .int .i64 t.s.st, .bool t.s.sh, .bool t.s.ba, .slice a t.fields.length c])
  have HC := Lib.hid (refused_any t a c _ hok hlc hc ((hf.below hb1).wide hb1.size))
  have HLs := Lib.hid (fun (W : World) (hb : Below w.heap.size w W) (h0 : (fieldWhy t).1 = 0) => least_any t a c W 0 [] (fieldWhy_ok.1 h0).1 (fieldWhy_ok.1 h0).2 hok ((hf.below hb).wide hb.size))
  have HB1 := Lib.hid hb1
  clear hb1 hf hok
  by_cases h0 : (fieldWhy t).1 = 0
  · have HM := Lib.hid (fun (a2 : Option Addr) (c2 : Nat) (W : World) (hp : PartAt W (· < W.heap.size) t.least (partCells t.least a2 c2)) => valMake_any t.least a2 c2 W hp)
    have hwhy : t.least.why = 0 := by
      obtain ⟨h1, h2⟩ := FT.least_why h0
      unfold PT.why
      rw [h1, h2]; rfl
    have HWy := Lib.hid hwhy
    have H0 := Lib.hid h0
    clear h0 hwhy
    unfold partCells at HM
    go_enter Tryz.func23, Tryz.ntmps23
    go_wp2_with fail
    refine HC.out.mono ?_
    rintro e w2 ⟨u, rfl, hb2, he2⟩
    have hz2 := hb2.size
    rw [World.size_alloc] at hz2 he2
    unfold ErrAt at he2
    rw [if_pos H0.out] at he2
    subst he2
    have HB2 := Lib.hid (HB1.out.trans (hb2.mono (by simp)))
    have HX2 := Lib.hid (HX1.out.below hb2 (by simp))
    clear hb2 HC HX1 HB1
    have HL2 := Lib.hid (HLs.out w2 HB2.out H0.out)
    obtain ⟨x0, x1, x2, x3, x4, x5, x6, x7, x8, x9, x10, x11, x12, x13⟩ := HX2.out.cells
    go_wp2_with fail
    refine HL2.out.mono ?_
    rintro e w3 ⟨a2, c2, rfl, hb3, hp3⟩
    have hz3 := hb3.size
    have HB3 := Lib.hid (HB2.out.trans (hb3.mono (by omega)))
    have HM3 := Lib.hid (HM.out a2 c2 w3 (PartAt.more (fun b hb => hb.2) _ _ hp3))
    clear hb3 hp3 HL2 HM HLs x0 x1 x2 x3 x4 x5 x6 x7 x8 x9 x10 x11 x12 x13
    go_wp2_with fail
    refine HM3.out.mono ?_
    rintro e w4 ⟨hb4, hp4⟩
    have hz4 := hb4.size
    have HB4 := Lib.hid (HB3.out.trans (hb4.mono (by omega)))
    rcases hp4 with ⟨h9, _⟩ | ⟨h9, v, rfl, hv⟩
    · exact absurd HWy.out h9
    · have HV := Lib.hid (ValueAt.more (S' := fun b => w.heap.size ≤ b ∧ b < w4.heap.size) (fun b hb => ⟨by have := hb.1; omega, hb.2⟩) _ _ hv)
      clear hv hb4 HM3 h9
      go_wp2_with fail
      go_ret2
      exact ⟨HB4.out, .inl ⟨H0.out, v, rfl, HV.out⟩⟩
  · have hk := (schemaWhy_told 65536 [t]).resolve_left (fun h => h0 h.1)
    have H0 := Lib.hid h0
    clear h0 hk
    go_enter Tryz.func23, Tryz.ntmps23
    go_wp2_with fail
    refine HC.out.mono ?_
    rintro e w2 ⟨u, rfl, hb2, he2⟩
    have hz2 := hb2.size
    rw [World.size_alloc] at hz2 he2
    unfold ErrAt at he2
    rw [if_neg H0.out] at he2
    obtain ⟨b, rp, rfl, _, _, _⟩ := he2
    have HB2 := Lib.hid (HB1.out.trans (hb2.mono (by simp)))
    clear hb2 HC HX1 HB1
    go_wp2_with fail
    go_ret2
    exact ⟨HB2.out, .inr ⟨H0.out, rfl⟩⟩
theorem lst_uniform {t : FT} {w w' : World} {e : Ending} (h : LstPost t w e w') : ∃ (q : PT) (lv : Value) (x : Int), (((fieldWhy t).1 = 0 ∧ q = t.least ∧ x = 0) ∨ ((fieldWhy t).1 ≠ 0 ∧ q = zeroPart ∧ x = 1)) ∧ e = .returned (.tuple #[lv, .int .i64 x]) ∧ Below w.heap.size w w' ∧ ValueAt w' (fun b => w.heap.size ≤ b ∧ b < w'.heap.size) q lv ∧ q.may = true ∧ ((x = 0 ∧ ∃ Ty u, lv = .iface Ty u) ∨ (x = 1 ∧ lv = .nilIface)) := by
  obtain ⟨hb, ⟨h0, v, he, hv⟩ | ⟨h0, he⟩⟩ := h
  · refine ⟨_, v, 0, .inl ⟨h0, rfl, rfl⟩, he, hb, hv, (FT.least_why h0).2, .inl ⟨rfl, ?_⟩⟩
    have hk := odd_kind (fieldWhy_odd h0)
    have hk0 : t.least.kind ≠ 0 := by rw [FT.least_kind]; omega
    by_cases k1 : t.least.kind = 1
    · exact ⟨_, _, (ValueAt.truth k1).1 hv⟩
    by_cases k2 : t.least.kind = 2
    · exact ⟨_, _, ((ValueAt.whole k2).1 hv).1⟩
    by_cases k7 : t.least.kind = 7
    · obtain ⟨a, c, e, _⟩ := (ValueAt.tuple k7).1 hv
      exact ⟨_, _, e⟩
    · exact ⟨_, _, ((ValueAt.row hk0 k1 k2 k7).1 hv).1⟩
  · exact ⟨zeroPart, .nilIface, 1, .inr ⟨h0, rfl, rfl⟩, he, hb, (ValueAt.null rfl).2 rfl, rfl, .inr ⟨rfl, rfl⟩⟩
end Go.Proofs.YtcjllhdbepchnaaGreatDoor

/-! ref12.Least: a value of a field. -/
namespace Go.Proofs.YtcjllhdbepchnaaGreatDoor
open Go.RowKit Go.WideShapes
set_option linter.unusedVariables false
def RLstPost (t : FT) (w : World) (e : Ending) (w' : World) : Prop := Below w.heap.size w w' ∧ ∃ (q : PT) (x : Int) (a : Option Addr) (c : Nat), (((fieldWhy t).1 = 0 ∧ q = t.least ∧ x = 0) ∨ ((fieldWhy t).1 ≠ 0 ∧ q = zeroPart ∧ x = 1)) ∧ e = .returned (.tuple #[.agg (partCells q a c).toArray, .int .i64 x]) ∧ PartAt w' (fun b => w.heap.size ≤ b ∧ b < w'.heap.size) q (partCells q a c)
set_option maxRecDepth 100000 in
set_option maxHeartbeats 2000000 in
theorem refLeastF_any (t : FT) (a : Option Addr) (c : Nat) (w : World) (hok : t.s.ok) (hlc : t.fields.length ≤ c) (hc : c ≤ 140737488351232) (hf : FieldsAt w (· < w.heap.size) t.fields a) :
    Calls Tryz.prog 24 #[.agg #[.string t.s.name, .int .u8 t.s.kind, .bool t.s.down, .int .u8 t.s.nulls, .bool t.s.bnd, .bool t.s.lb, .string t.s.lm, .bool t.s.hb, .string t.s.hm, .int .i64 t.s.most, .int .i64 t.s.st, .bool t.s.sh, .bool t.s.ba, .slice a t.fields.length c]] w (RLstPost t w) := by
  obtain ⟨W2, hW2⟩ : ∃ W2, W2 = (w.alloc (.cells #[.string t.s.name, .int .u8 t.s.kind, .bool t.s.down, .int .u8 t.s.nulls, .bool t.s.bnd, .bool t.s.lb, .string t.s.lm, .bool t.s.hb, .string t.s.hm, .int .i64 t.s.most, .int .i64 t.s.st, .bool t.s.sh, .bool t.s.ba, .slice a t.fields.length c] 57)).alloc (.cells #[.int .u8 0, .bool false, .bool false, .string ⟨#[]⟩, .string ⟨#[]⟩, .slice none 0 0] 30) := ⟨_, rfl⟩
  have hz2 : W2.heap.size = w.heap.size + 2 := by rw [hW2]; simp
  have hb2 : Below w.heap.size w W2 := by rw [hW2]; exact below_a2 _ _ _
  have HX := Lib.hid (show FBox W2 w.heap.size #[.string t.s.name, .int .u8 t.s.kind, .bool t.s.down, .int .u8 t.s.nulls, .bool t.s.bnd, .bool t.s.lb, .string t.s.lm, .bool t.s.hb, .string t.s.hm, .int .i64 t.s.most, .int .i64 t.s.st, .bool t.s.sh, .bool t.s.ba, .slice a t.fields.length c] by rw [hW2]; exact (FBox.new w _).below (below_a1 _ _) (by simp))
  have HR := Lib.hid (show RBox W2 (w.heap.size + 1) by rw [hW2]; exact RBox.new _ _ (by simp))
  have HC := Lib.hid (refField_any t a c W2 hok hlc hc ((hf.below hb2).wide hb2.size))
  have HLs := Lib.hid (fun (W : World) (hb : Below w.heap.size w W) (h0 : (fieldWhy t).1 = 0) => refLeast_any t a c W 0 [] (fieldWhy_ok.1 h0).1 (fieldWhy_ok.1 h0).2 hok ((hf.below hb).wide hb.size))
  have HB := Lib.hid hb2
  have HW := Lib.hid hW2
  rw [hW2] at HC
  clear hb2 hf hok hW2
  by_cases h0 : (fieldWhy t).1 = 0
  · have e0 : ((fieldWhy t).1 != 0) = false := by rw [h0]; rfl
    have H0 := Lib.hid h0
    clear h0
    go_enter Tryz.func24, Tryz.ntmps24
    go_wp2_with fail
    refine HC.out.mono ?_
    rintro e w3 ⟨rfl, hb3⟩
    rw [← HW.out] at hb3
    have hz3 := hb3.size
    have HB3 := Lib.hid (HB.out.trans (hb3.mono (by omega)))
    have HX3 := Lib.hid (HX.out.below hb3 (by omega))
    have HR3 := Lib.hid (HR.out.below hb3 (by omega))
    have HL3 := Lib.hid (HLs.out w3 HB3.out H0.out)
    clear hb3 HC HX HB HR HLs
    obtain ⟨x0, x1, x2, x3, x4, x5, x6, x7, x8, x9, x10, x11, x12, x13⟩ := HX3.out.cells
    go_wp2_with fail
    refine HL3.out.mono ?_
    rintro e w4 ⟨a2, c2, rfl, hb4, hp4⟩
    have hz4 := hb4.size
    have HB4 := Lib.hid (HB3.out.trans (hb4.mono (by omega)))
    have HR4 := Lib.hid (HR3.out.below hb4 (by omega))
    have HP4 := Lib.hid (PartAt.more (S' := fun b => w3.heap.size ≤ b ∧ b < w4.heap.size) (fun b hb => hb) _ _ hp4)
    clear hb4 hp4 HL3 x0 x1 x2 x3 x4 x5 x6 x7 x8 x9 x10 x11 x12 x13
    obtain ⟨r0, r1, r2, r3, r4, r5⟩ := HR4.out.cells
    have f0 := HR4.out.free 0
    have f1 := HR4.out.free 1
    have f2 := HR4.out.free 2
    have f3 := HR4.out.free 3
    have f4 := HR4.out.free 4
    have f5 := HR4.out.free 5
    go_wp2_with fail
    obtain ⟨q0, q1, q2, q3, q4, q5⟩ := HR4.out.filled (.int .u8 t.least.kind) (.bool t.least.yes) (.bool t.least.bel) (.string t.least.mag) (.string t.least.raw) (.slice a2 t.least.items.length c2)
    refine bodyPost_ret (by simp [results, Tryz.results24, go_sem, q0, q1, q2, q3, q4, q5]; try rfl) rfl ?_
    have hk : ∀ p : Addr, w3.heap.size ≤ p.block → ∀ W (o : Nat) (u : Value), (World.setCell W ⟨w.heap.size + 1, o, none⟩ u).cell? p = W.cell? p := fun p hp W o u => World.cell?_setCell_other W _ p u (fun e => by have := congrArg Addr.block e; simp only at this; omega)
    refine ⟨(((((HB4.out.setCell (by simp only; omega) _).setCell (by simp only; omega) _).setCell (by simp only; omega) _).setCell (by simp only; omega) _).setCell (by simp only; omega) _).setCell (by simp only; omega) _, t.least, 0, a2, c2, .inl ⟨H0.out, rfl, rfl⟩, rfl, ?_⟩
    refine PartAt.more (S := fun b => w3.heap.size ≤ b ∧ b < w4.heap.size) (fun b hb => ⟨by have := hb.1; omega, by simp; exact hb.2⟩) _ _ (PartAt.keep (fun p hp => ?_) _ _ HP4.out)
    rw [hk p hp.1, hk p hp.1, hk p hp.1, hk p hp.1, hk p hp.1, hk p hp.1]
  · have e0 : ((fieldWhy t).1 != 0) = true := by rw [bne_iff_ne]; exact h0
    have H0 := Lib.hid h0
    clear h0
    go_enter Tryz.func24, Tryz.ntmps24
    go_wp2_with fail
    refine HC.out.mono ?_
    rintro e w3 ⟨rfl, hb3⟩
    rw [← HW.out] at hb3
    have hz3 := hb3.size
    have HB3 := Lib.hid (HB.out.trans (hb3.mono (by omega)))
    have HR3 := Lib.hid (HR.out.below hb3 (by omega))
    clear hb3 HC HX HB HR HLs
    obtain ⟨r0, r1, r2, r3, r4, r5⟩ := HR3.out.cells
    have f0 := HR3.out.free 0
    have f1 := HR3.out.free 1
    have f2 := HR3.out.free 2
    have f3 := HR3.out.free 3
    have f4 := HR3.out.free 4
    have f5 := HR3.out.free 5
    go_wp2_with fail
    obtain ⟨q0, q1, q2, q3, q4, q5⟩ := HR3.out.filled (.int .u8 0) (.bool false) (.bool false) (.string ⟨#[]⟩) (.string ⟨#[]⟩) (.slice none 0 0)
    refine bodyPost_ret (by simp [results, Tryz.results24, go_sem, q0, q1, q2, q3, q4, q5]; try rfl) rfl ?_
    exact ⟨(((((HB3.out.setCell (by simp only; omega) _).setCell (by simp only; omega) _).setCell (by simp only; omega) _).setCell (by simp only; omega) _).setCell (by simp only; omega) _).setCell (by simp only; omega) _, zeroPart, 1, none, 0, .inr ⟨H0.out, rfl, rfl⟩, rfl, PartAt.shut (by decide) (Nat.zero_le _) (Nat.zero_le _) (Nat.le_refl _) (Nat.zero_le _) trivial⟩
end Go.Proofs.YtcjllhdbepchnaaGreatDoor
