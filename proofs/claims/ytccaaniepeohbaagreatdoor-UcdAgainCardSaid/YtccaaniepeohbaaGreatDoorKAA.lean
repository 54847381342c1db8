/-
  Marks in memory; ref04.may: may a mark be printed?
-/
import Derived.Test.YtccaaniepeohbaaGreatDoorKL
namespace Go.Proofs.YtccaaniepeohbaaGreatDoor
open Go.RowKit Go.WideShapes
set_option linter.unusedVariables false
set_option linter.unusedSimpArgs false
def MarksAt (w : World) (B : Nat) (l : List MK) (A : Option Addr) : Prop :=
  0 < l.length → ∃ b o, A = some ⟨b, o, none⟩ ∧ b < B ∧ ∀ i (h : i < l.length), ∃ v, w.cell? ⟨b, o + i * 3, none⟩ = some (.int .i64 l[i].pt) ∧ w.cell? ⟨b, o + i * 3 + 1, none⟩ = some (.int .i64 l[i].cls) ∧ w.cell? ⟨b, o + i * 3 + 2, none⟩ = some v ∧ RowM w B v l[i].parts.length (intCells l[i].parts)
section
variable {w w' : World} {B B' : Nat} {l : List MK} {A : Option Addr}
theorem MarksAt.below (h : MarksAt w B l A) (hb : Below B w w') : MarksAt w' B l A := fun h0 => by
  obtain ⟨b, o, e, hbl, h1⟩ := h h0
  refine ⟨b, o, e, hbl, fun i hi => ?_⟩
  obtain ⟨v, g0, g1, g2, g3⟩ := h1 i hi
  exact ⟨v, (hb.cell hbl).trans g0, (hb.cell hbl).trans g1, (hb.cell hbl).trans g2, g3.below hb⟩
theorem MarksAt.more (h : MarksAt w B l A) (hB : B ≤ B') : MarksAt w B' l A := fun h0 => by
  obtain ⟨b, o, e, hbl, h1⟩ := h h0
  refine ⟨b, o, e, by omega, fun i hi => ?_⟩
  obtain ⟨v, g0, g1, g2, g3⟩ := h1 i hi
  exact ⟨v, g0, g1, g2, g3.more hB⟩
theorem MarksAt.some_ (h : MarksAt w B l A) (hl : 0 < l.length) : ∃ b o, A = some ⟨b, o, none⟩ := by
  obtain ⟨b, o, e, _⟩ := h hl
  exact ⟨b, o, e⟩
theorem MarksAt.at_ {b o : Nat} (h : MarksAt w B l (some ⟨b, o, none⟩)) {i : Nat} (hi : i < l.length) : b < B ∧ ∃ v, w.cell? ⟨b, o + i * 3, none⟩ = some (.int .i64 l[i].pt) ∧ w.cell? ⟨b, o + i * 3 + 1, none⟩ = some (.int .i64 l[i].cls) ∧ w.cell? ⟨b, o + i * 3 + 2, none⟩ = some v ∧ RowM w B v l[i].parts.length (intCells l[i].parts) := by
  obtain ⟨b', o', e, hbl, h1⟩ := h (by omega)
  injection e with e
  injection e with e1 e2
  subst e1 e2
  exact ⟨hbl, h1 i hi⟩
end
/-- A mark's box. -/
def MBox (W : World) (B : Nat) (p c : Int) (v : Value) : Prop := W.heap[B]? = some (.cells #[.int .i64 p, .int .i64 c, v] 36 (0, 0))
section
variable {W W' : World} {B : Nat} {p c : Int} {v : Value}
theorem MBox.cells (h : MBox W B p c v) : W.cell? ⟨B, 0, none⟩ = some (.int .i64 p) ∧ W.cell? ⟨B, 1, none⟩ = some (.int .i64 c) ∧ W.cell? ⟨B, 2, none⟩ = some v := by simp [World.cell?, show W.heap[B]? = _ from h]
theorem MBox.lt (h : MBox W B p c v) : B < W.heap.size := (Array.getElem?_eq_some_iff.1 h).1
theorem MBox.below (h : MBox W B p c v) {N : Nat} (hb : Below N W W') (hN : B < N) : MBox W' B p c v := (hb.block _ hN).trans h
theorem MBox.new (W : World) (p c : Int) (v : Value) : MBox (W.alloc (.cells #[.int .i64 p, .int .i64 c, v] 36)) W.heap.size p c v := World.alloc_heap_new W _
end
theorem may_no1 {m : MK} (h : fitsB m.pt = false) : m.may = false := by simp [MK.may, h]
theorem may_no2 {m : MK} (h : ¬ (0 ≤ m.cls ∧ m.cls ≤ 254)) : m.may = false := by simp only [MK.may, decide_eq_false h, Bool.and_false, Bool.false_and]
theorem may_no3 {m : MK} (h : m.parts.all fitsB = false) : m.may = false := by simp [MK.may, h]
theorem may_ok {m : MK} (h1 : fitsB m.pt = true) (h2 : 0 ≤ m.cls ∧ m.cls ≤ 254) (h3 : m.parts.all fitsB = true) : m.may = true := by simp only [MK.may, h1, decide_eq_true h2, h3, Bool.and_true]
set_option maxRecDepth 100000 in
set_option maxHeartbeats 4000000 in
theorem refMay_any (m : MK) (v : Value) (w : World) (h : RowM w w.heap.size v m.parts.length (intCells m.parts)) : Calls Tryz.prog 20 #[.agg #[.int .i64 m.pt, .int .i64 m.cls, v]] w (Ret (.bool m.may) w) := by
  have H1 := Lib.hid h
  obtain ⟨A1, c1, rfl, hc1, hm1, _⟩ := h
  have HB0 := Lib.hid (below_a1 w (.cells #[.int .i64 m.pt, .int .i64 m.cls, .slice A1 m.parts.length c1] 36))
  have HX0 := Lib.hid (MBox.new w m.pt m.cls (.slice A1 m.parts.length c1))
  have hz0 : (w.alloc (.cells #[.int .i64 m.pt, .int .i64 m.cls, .slice A1 m.parts.length c1] 36)).heap.size = w.heap.size + 1 := by simp
  have HP := Lib.hid refPoint_any
  have HS := Lib.hid refSyl_any
  have HN1 := Lib.hid (@may_no1 m)
  have HN2 := Lib.hid (@may_no2 m)
  have HN3 := Lib.hid (@may_no3 m)
  have HOk := Lib.hid (@may_ok m)
  obtain ⟨pt, cls, ps⟩ := m
  simp only at *
  go_enter Tryz.func20, Tryz.ntmps20
  go_wp2_with fail
  refine (HP.out _ _).mono ?_
  rintro e w1 ⟨rfl, hb1⟩
  have HB1 := Lib.hid (HB0.out.trans (hb1.mono (by omega)))
  have HX1 := Lib.hid (HX0.out.below hb1 (by omega))
  have hz1 := hb1.size
  clear hb1 HB0 HX0
  obtain ⟨x0, x1, x2⟩ := HX1.out.cells
  cases hp : pointB pt with
  | false =>
    have HR := Lib.hid (HN1.out (by unfold fitsB; rw [hp]; rfl))
    clear hp
    go_wp2_with fail
    go_ret
    exact ret_b HR.out.symm HB1.out
  | true =>
    go_wp2_with fail
    refine (HS.out _ _).mono ?_
    rintro e w2 ⟨rfl, hb2⟩
    have HB2 := Lib.hid (HB1.out.trans (hb2.mono HB1.out.size))
    have HX2 := Lib.hid (HX1.out.below hb2 HX1.out.lt)
    clear hb2 x0 x1 x2 HX1 HB1
    obtain ⟨x0, x1, x2⟩ := HX2.out.cells
    cases hs : sylB pt with
    | true =>
      have HR := Lib.hid (HN1.out (by unfold fitsB; rw [hp, hs]; rfl))
      clear hp hs
      go_wp2_with fail
      go_ret
      exact ret_b HR.out.symm HB2.out
    | false =>
      have HF := Lib.hid (show fitsB pt = true by unfold fitsB; rw [hp, hs]; rfl)
      clear hp hs
      by_cases hc0 : cls < 0
      · have HR := Lib.hid (HN2.out (by omega))
        go_wp2_with fail
        go_ret
        exact ret_b HR.out.symm HB2.out
      · by_cases hc2 : 254 < cls
        · have HR := Lib.hid (HN2.out (by omega))
          go_wp2_with fail
          go_ret
          exact ret_b HR.out.symm HB2.out
        · have HC := Lib.hid (show 0 ≤ cls ∧ cls ≤ 254 by omega)
          go_wp2_with fail
          clear x0 x1 x2 hc0 hc2
          go_loopw [3] (fun i wr => ∃ (k : Nat), i = .int .i64 k ∧ k ≤ ps.length ∧ Hid ((ps.take k).all fitsB = true) ∧ Hid (Below w.heap.size w wr) ∧ Hid (MBox wr w.heap.size pt cls (.slice A1 ps.length c1))) (fun i _ => ps.length - (intOf i).toNat)
          case atStart => exact ⟨0, rfl, by omega, Lib.hid rfl, HB2, HX2⟩
          case round =>
            clear HB2 HX2
            obtain ⟨k, rfl, hk, HA, HB, HX⟩ := hrel
            have hwz := HB.out.size
            have hXl := HX.out.lt
            obtain ⟨x0, x1, x2⟩ := HX.out.cells
            by_cases hlt : k < ps.length
            · obtain ⟨b1, o1, d1, e1, hb1, g1⟩ := (H1.out.below HB.out).int hlt
              injection e1 with e1 _ ec1; subst e1 ec1
              have hltI : (k : Int) < (ps.length : Int) := by omega
              go_wp2_with fail
              refine (HP.out _ _).mono ?_
              rintro e w3 ⟨rfl, hb3⟩
              have HB3 := Lib.hid (HB.out.trans (hb3.mono hwz))
              have HX3 := Lib.hid (HX.out.below hb3 hXl)
              have g3 := (hb3.cell (p := ⟨b1, o1 + k, none⟩) (by simp only; omega)).trans g1
              clear hb3 x0 x1 x2
              obtain ⟨x0, x1, x2⟩ := HX3.out.cells
              cases hp : pointB ps[k] with
              | false =>
                have HR := Lib.hid (HN3.out (all_bad hlt (by unfold fitsB; rw [hp]; rfl)))
                clear hp
                go_wp2_with fail
                go_ret
                exact ret_b HR.out.symm HB3.out
              | true =>
                have hw3 := HB3.out.size
                go_wp2_with fail
                refine (HS.out _ _).mono ?_
                rintro e w4 ⟨rfl, hb4⟩
                have HB4 := Lib.hid (HB3.out.trans (hb4.mono hw3))
                have HX4 := Lib.hid (HX3.out.below hb4 HX3.out.lt)
                clear hb4 x0 x1 x2
                cases hs : sylB ps[k] with
                | true =>
                  have HR := Lib.hid (HN3.out (all_bad hlt (by unfold fitsB; rw [hp, hs]; rfl)))
                  clear hp hs
                  go_wp2_with fail
                  go_ret
                  exact ret_b HR.out.symm HB4.out
                | false =>
                  have HA' := Lib.hid (all_take_succ hlt HA.out (show fitsB ps[k] = true by unfold fitsB; rw [hp, hs]; rfl))
                  clear hp hs
                  go_wp2_with fail
                  go_roundw
                  case rel => exact ⟨k + 1, by go_num, by omega, HA', HB4, HX4⟩
                  case measure => simp [intOf]; omega
            · obtain rfl : k = ps.length := by omega
              have HR := Lib.hid (HOk.out HF.out HC.out (show ps.all fitsB = true by have h9 := HA.out; rwa [List.take_length] at h9))
              clear hlt HA
              go_wp2_with fail
              go_ret
              exact ret_b HR.out.symm HB.out
end Go.Proofs.YtccaaniepeohbaaGreatDoor
