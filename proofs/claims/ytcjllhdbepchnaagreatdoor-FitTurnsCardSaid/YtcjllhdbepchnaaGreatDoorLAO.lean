/-
  fit.Least: a value of a field.
-/
import Derived.Test.YtcjllhdbepchnaaGreatDoorLAL
import Derived.Test.YtcjllhdbepchnaaGreatDoorLX
import Derived.Test.YtcjllhdbepchnaaGreatDoorLZ
import Derived.Test.YtcjllhdbepchnaaGreatDoorLY
namespace Go.Proofs.YtcjllhdbepchnaaGreatDoor
open Go.RowKit Go.WideShapes
set_option linter.unusedVariables false
/-- What Least tells. -/
def LstPost (t : FT) (w : World) (e : Ending) (w' : World) : Prop := Below w.heap.size w w' ∧ (((fieldWhy t).1 = 0 ∧ ∃ v, e = .returned (.tuple #[v, .int .i64 0]) ∧ ValueAt w' (fun b => w.heap.size ≤ b ∧ b < w'.heap.size) t.least v) ∨ ((fieldWhy t).1 ≠ 0 ∧ e = .returned (.tuple #[.nilIface, .int .i64 1])))
set_option maxRecDepth 100000 in
set_option maxHeartbeats 2000000 in
theorem fitLeast_any (t : FT) (a : Option Addr) (c : Nat) (w : World) (hok : t.s.ok) (hlc : t.fields.length ≤ c) (hc : c ≤ 140737488351232) (hf : FieldsAt w (· < w.heap.size) t.fields a) :
    Calls Tryz.prog 23 #[.agg #[.string t.s.name, .int .u8 t.s.kind, .bool t.s.down, .int .u8 t.s.nulls, .bool t.s.bnd, .bool t.s.lb, .string t.s.lm, .bool t.s.hb, .string t.s.hm, .int .i64 t.s.most, .int .i64 t.s.st, .bool t.s.sh, .bool t.s.ba, .slice a t.fields.length c]] w (LstPost t w) := by
  have hb1 := below_a1 w (.cells #[.string t.s.name, .int .u8 t.s.kind, .bool t.s.down, .int .u8 t.s.nulls, .bool t.s.bnd, .bool t.s.lb, .string t.s.lm, .bool t.s.hb, .string t.s.hm, .int .i64 t.s.most, .int .i64 t.s.st, .bool t.s.sh, .bool t.s.ba, .slice a t.fields.length c] 57)
  have HX1 := Lib.hid (FBox.new w #[.string t.s.name, .int .u8 t.s.kind, .bool t.s.down, .int .u8 t.s.nulls, .bool t.s.bnd, .bool t.s.lb, .string t.s.lm, .bool t.s.hb, .string t.s.hm, .int .i64 t.s.most, .int .i64 t.s.st, .bool t.s.sh, .bool t.s.ba, .slice a t.fields.length c])
  have HC := Lib.hid (refused_any t a c _ hok hlc hc ((hf.below hb1).wide hb1.size))
  have HLs := Lib.hid (fun (W : World) (hb : Below w.heap.size w W) (h0 : (fieldWhy t).1 = 0) => least_any t a c W 0 [] (fieldWhy_ok.1 h0).1 (fieldWhy_ok.1 h0).2 hok ((hf.below hb).wide hb.size))
  have HB1 := Lib.hid hb1
  clear hb1 hf hok
  by_cases h0 : (fieldWhy t).1 = 0
  · have HM := Lib.hid (fun (a2 : Option Addr) (c2 : Nat) (W : World) (hp : PartAt W (· < W.heap.size) t.least (partCells t.least a2 c2)) => valMake_any t.least a2 c2 W hp)
    have hwhy : t.least.why = 0 := by
      obtain ⟨h1, h2⟩ := FT.least_why h0
      unfold PT.why
      rw [h1, h2]; rfl
    have HWy := Lib.hid hwhy
    have H0 := Lib.hid h0
    clear h0 hwhy
    unfold partCells at HM
    go_enter Tryz.func23, Tryz.ntmps23
    go_wp2_with fail
    refine HC.out.mono ?_
    rintro e w2 ⟨u, rfl, hb2, he2⟩
    have hz2 := hb2.size
    rw [World.size_alloc] at hz2 he2
    unfold ErrAt at he2
    rw [if_pos H0.out] at he2
    subst he2
    have HB2 := Lib.hid (HB1.out.trans (hb2.mono (by simp)))
    have HX2 := Lib.hid (HX1.out.below hb2 (by simp))
    clear hb2 HC HX1 HB1
    have HL2 := Lib.hid (HLs.out w2 HB2.out H0.out)
    obtain ⟨x0, x1, x2, x3, x4, x5, x6, x7, x8, x9, x10, x11, x12, x13⟩ := HX2.out.cells
    go_wp2_with fail
    refine HL2.out.mono ?_
    rintro e w3 ⟨a2, c2, rfl, hb3, hp3⟩
    have hz3 := hb3.size
    have HB3 := Lib.hid (HB2.out.trans (hb3.mono (by omega)))
    have HM3 := Lib.hid (HM.out a2 c2 w3 (PartAt.more (fun b hb => hb.2) _ _ hp3))
    clear hb3 hp3 HL2 HM HLs x0 x1 x2 x3 x4 x5 x6 x7 x8 x9 x10 x11 x12 x13
    go_wp2_with fail
    refine HM3.out.mono ?_
    rintro e w4 ⟨hb4, hp4⟩
    have hz4 := hb4.size
    have HB4 := Lib.hid (HB3.out.trans (hb4.mono (by omega)))
    rcases hp4 with ⟨h9, _⟩ | ⟨h9, v, rfl, hv⟩
    · exact absurd HWy.out h9
    · have HV := Lib.hid (ValueAt.more (S' := fun b => w.heap.size ≤ b ∧ b < w4.heap.size) (fun b hb => ⟨by have := hb.1; omega, hb.2⟩) _ _ hv)
      clear hv hb4 HM3 h9
      go_wp2_with fail
      go_ret2
      exact ⟨HB4.out, .inl ⟨H0.out, v, rfl, HV.out⟩⟩
  · have hk := (schemaWhy_told 65536 [t]).resolve_left (fun h => h0 h.1)
    have H0 := Lib.hid h0
    clear h0 hk
    go_enter Tryz.func23, Tryz.ntmps23
    go_wp2_with fail
    refine HC.out.mono ?_
    rintro e w2 ⟨u, rfl, hb2, he2⟩
    have hz2 := hb2.size
    rw [World.size_alloc] at hz2 he2
    unfold ErrAt at he2
    rw [if_neg H0.out] at he2
    obtain ⟨b, rp, rfl, _, _, _⟩ := he2
    have HB2 := Lib.hid (HB1.out.trans (hb2.mono (by simp)))
    clear hb2 HC HX1 HB1
    go_wp2_with fail
    go_ret2
    exact ⟨HB2.out, .inr ⟨H0.out, rfl⟩⟩
theorem lst_uniform {t : FT} {w w' : World} {e : Ending} (h : LstPost t w e w') : ∃ (q : PT) (lv : Value) (x : Int), (((fieldWhy t).1 = 0 ∧ q = t.least ∧ x = 0) ∨ ((fieldWhy t).1 ≠ 0 ∧ q = zeroPart ∧ x = 1)) ∧ e = .returned (.tuple #[lv, .int .i64 x]) ∧ Below w.heap.size w w' ∧ ValueAt w' (fun b => w.heap.size ≤ b ∧ b < w'.heap.size) q lv ∧ q.may = true ∧ ((x = 0 ∧ ∃ Ty u, lv = .iface Ty u) ∨ (x = 1 ∧ lv = .nilIface)) := by
  obtain ⟨hb, ⟨h0, v, he, hv⟩ | ⟨h0, he⟩⟩ := h
  · refine ⟨_, v, 0, .inl ⟨h0, rfl, rfl⟩, he, hb, hv, (FT.least_why h0).2, .inl ⟨rfl, ?_⟩⟩
    have hk := odd_kind (fieldWhy_odd h0)
    have hk0 : t.least.kind ≠ 0 := by rw [FT.least_kind]; omega
    by_cases k1 : t.least.kind = 1
    · exact ⟨_, _, (ValueAt.truth k1).1 hv⟩
    by_cases k2 : t.least.kind = 2
    · exact ⟨_, _, ((ValueAt.whole k2).1 hv).1⟩
    by_cases k7 : t.least.kind = 7
    · obtain ⟨a, c, e, _⟩ := (ValueAt.tuple k7).1 hv
      exact ⟨_, _, e⟩
    · exact ⟨_, _, ((ValueAt.row hk0 k1 k2 k7).1 hv).1⟩
  · exact ⟨zeroPart, .nilIface, 1, .inr ⟨h0, rfl, rfl⟩, he, hb, (ValueAt.null rfl).2 rfl, rfl, .inr ⟨rfl, rfl⟩⟩
end Go.Proofs.YtcjllhdbepchnaaGreatDoor
