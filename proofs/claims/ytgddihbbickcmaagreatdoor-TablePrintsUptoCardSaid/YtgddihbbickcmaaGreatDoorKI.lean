/-
  ref06.may: may an entry be printed?
-/
import Derived.Test.YtgddihbbickcmaaGreatDoorKF
import Derived.Test.YtgddihbbickcmaaGreatDoorKH
namespace Go.Proofs.YtgddihbbickcmaaGreatDoor
open Go.RowKit Go.WideShapes
set_option linter.unusedVariables false
/-- An entry's box. -/
def EBox (W : World) (B : Nat) (v1 v2 : Value) : Prop := W.heap[B]? = some (.cells #[v1, v2] 33 (0, 0))
section
variable {W W' : World} {B : Nat} {v1 v2 : Value}
theorem EBox.cells (h : EBox W B v1 v2) : W.cell? ⟨B, 0, none⟩ = some v1 ∧ W.cell? ⟨B, 1, none⟩ = some v2 := by simp [World.cell?, show W.heap[B]? = _ from h]
theorem EBox.lt (h : EBox W B v1 v2) : B < W.heap.size := (Array.getElem?_eq_some_iff.1 h).1
theorem EBox.below (h : EBox W B v1 v2) {N : Nat} (hb : Below N W W') (hN : B < N) : EBox W' B v1 v2 := (hb.block _ hN).trans h
theorem EBox.new (W : World) (v1 v2 : Value) : EBox (W.alloc (.cells #[v1, v2] 33)) W.heap.size v1 v2 := World.alloc_heap_new W _
end
theorem all_take_succ {α : Type} {p : α → Bool} {l : List α} {k : Nat} (hk : k < l.length) (h : (l.take k).all p = true) (hp : p l[k] = true) : (l.take (k + 1)).all p = true := by
  rw [List.take_succ_eq_append_getElem hk, List.all_append, h]; simp [hp]
theorem all_bad {α : Type} {p : α → Bool} {l : List α} {k : Nat} (hk : k < l.length) (hp : p l[k] = false) : l.all p = false := by
  rw [List.all_eq_false]
  exact ⟨l[k], List.getElem_mem hk, by simp [hp]⟩
theorem may_pts {x : EN} (h : x.pts.all pointB = false) : x.may = false := by simp [EN.may, h]
theorem may_els {x : EN} (h : x.els.all rightB = false) : x.may = false := by simp [EN.may, h]
theorem may_len {x : EN} (h : ¬ (1 ≤ x.pts.length ∧ x.pts.length ≤ 8 ∧ 1 ≤ x.els.length ∧ x.els.length ≤ 16)) : x.may = false := by simp only [EN.may, decide_eq_false h, Bool.false_and]
theorem may_ok {x : EN} (h : 1 ≤ x.pts.length ∧ x.pts.length ≤ 8 ∧ 1 ≤ x.els.length ∧ x.els.length ≤ 16) (h1 : x.pts.all pointB = true) (h2 : x.els.all rightB = true) : x.may = true := by simp only [EN.may, decide_eq_true h, h1, h2, Bool.true_and]
set_option maxRecDepth 100000 in
set_option maxHeartbeats 2000000 in
theorem refMay_any (x : EN) (v1 v2 : Value) (w : World) (h : EntAt w w.heap.size x v1 v2) : Calls Tryz.prog 15 #[.agg #[v1, v2]] w (Ret (.bool x.may) w) := by
  have H1 := Lib.hid h.1
  have H2 := Lib.hid h.2
  obtain ⟨⟨A1, c1, rfl, hc1, hm1, _⟩, ⟨A2, c2, rfl, hc2, hm2, _⟩⟩ := h
  have HB0 := Lib.hid (below_a1 w (.cells #[.slice A1 x.pts.length c1, .slice A2 x.els.length c2] 33))
  have HX0 := Lib.hid (EBox.new w (.slice A1 x.pts.length c1) (.slice A2 x.els.length c2))
  have HP := Lib.hid refPoint_any
  have HG := Lib.hid refRight_any
  by_cases hl : 1 ≤ x.pts.length ∧ x.pts.length ≤ 8 ∧ 1 ≤ x.els.length ∧ x.els.length ≤ 16
  · have HL := Lib.hid hl
    have l1 : ¬ (x.pts.length : Int) < 1 := by omega
    have l2 : ¬ (8 : Int) < (x.pts.length : Int) := by omega
    have l3 : ¬ (x.els.length : Int) < 1 := by omega
    have l4 : ¬ (16 : Int) < (x.els.length : Int) := by omega
    clear hl
    go_enter Tryz.func15, Tryz.ntmps15
    go_wp2_with fail
    clear l1 l2 l3 l4
    go_loopw [3] (fun i wr => ∃ (k : Nat), i = .int .i64 k ∧ k ≤ x.pts.length ∧ Hid ((x.pts.take k).all pointB = true) ∧ Hid (Below w.heap.size w wr) ∧ Hid (EBox wr w.heap.size (.slice A1 x.pts.length c1) (.slice A2 x.els.length c2))) (fun i _ => x.pts.length - (intOf i).toNat)
    case atStart => exact ⟨0, rfl, by omega, Lib.hid rfl, HB0, HX0⟩
    case round =>
      clear HB0 HX0
      obtain ⟨k, rfl, hk, HA, HB, HX⟩ := hrel
      have hwz := HB.out.size
      have hXl := HX.out.lt
      obtain ⟨x0, x1⟩ := HX.out.cells
      by_cases hlt : k < x.pts.length
      · obtain ⟨b1, o1, d1, e1, hb1, g1⟩ := (H1.out.below HB.out).int hlt
        injection e1 with e1 _ ec1; subst e1 ec1
        have hltI : (k : Int) < (x.pts.length : Int) := by omega
        go_wp2_with fail
        refine (HP.out _ _).mono ?_
        rintro e w2 ⟨rfl, hb2⟩
        have HB2 := Lib.hid (HB.out.trans (hb2.mono hwz))
        have HX2 := Lib.hid (HX.out.below hb2 hXl)
        clear hb2 x0 x1
        cases hp : pointB x.pts[k] with
        | true =>
          have HA' := Lib.hid (all_take_succ hlt HA.out hp)
          clear hp
          go_wp2_with fail
          go_roundw
          case rel => exact ⟨k + 1, by go_num, by omega, HA', HB2, HX2⟩
          case measure => simp [intOf]; omega
        | false =>
          have HR := Lib.hid (may_pts (all_bad hlt hp))
          clear hp
          go_wp2_with fail
          go_ret
          exact ret_b HR.out.symm HB2.out
      · obtain rfl : k = x.pts.length := by omega
        have HA1 := Lib.hid (show x.pts.all pointB = true by have h9 := HA.out; rwa [List.take_length] at h9)
        clear hlt HA
        go_wp2_with fail
        go_loopw [4] (fun i wr => ∃ (k : Nat), i = .int .i64 k ∧ k ≤ x.els.length ∧ Hid ((x.els.take k).all rightB = true) ∧ Hid (Below w.heap.size w wr) ∧ Hid (EBox wr w.heap.size (.slice A1 x.pts.length c1) (.slice A2 x.els.length c2))) (fun i _ => x.els.length - (intOf i).toNat)
        case atStart => exact ⟨0, rfl, by omega, Lib.hid rfl, HB, HX⟩
        case round =>
          clear HB HX x0 x1 hwz hXl
          obtain ⟨k, rfl, hk, HA, HB, HX⟩ := hrel
          have hwz := HB.out.size
          have hXl := HX.out.lt
          obtain ⟨x0, x1⟩ := HX.out.cells
          by_cases hlt : k < x.els.length
          · obtain ⟨b1, o1, d1, e1, hb1, g0, g1, g2, g3⟩ := (H2.out.below HB.out).el hlt
            injection e1 with e1 _ ec1; subst e1 ec1
            have hltI : (k : Int) < (x.els.length : Int) := by omega
            go_wp2_with fail
            refine (HG.out x.els[k] _).mono ?_
            rintro e w2 ⟨rfl, hb2⟩
            have HB2 := Lib.hid (HB.out.trans (hb2.mono hwz))
            have HX2 := Lib.hid (HX.out.below hb2 hXl)
            clear hb2 x0 x1
            cases hp : rightB x.els[k] with
            | true =>
              have HA' := Lib.hid (all_take_succ hlt HA.out hp)
              clear hp
              go_wp2_with fail
              go_roundw
              case rel => exact ⟨k + 1, by go_num, by omega, HA', HB2, HX2⟩
              case measure => simp [intOf]; omega
            | false =>
              have HR := Lib.hid (may_els (all_bad hlt hp))
              clear hp
              go_wp2_with fail
              go_ret
              exact ret_b HR.out.symm HB2.out
          · obtain rfl : k = x.els.length := by omega
            have HR := Lib.hid (may_ok HL.out HA1.out (show x.els.all rightB = true by have h9 := HA.out; rwa [List.take_length] at h9))
            clear hlt HA
            go_wp2_with fail
            go_ret
            exact ret_b HR.out.symm HB.out
  · have HR := Lib.hid (may_len hl)
    have hc : x.pts.length < 1 ∨ 8 < x.pts.length ∨ (¬ x.pts.length < 1 ∧ ¬ 8 < x.pts.length ∧ x.els.length < 1) ∨ (¬ x.pts.length < 1 ∧ ¬ 8 < x.pts.length ∧ ¬ x.els.length < 1 ∧ 16 < x.els.length) := by omega
    clear hl
    rcases hc with hc | hc | ⟨h1, h2, hc⟩ | ⟨h1, h2, h3, hc⟩
    · have l1 : (x.pts.length : Int) < 1 := by omega
      go_enter Tryz.func15, Tryz.ntmps15
      go_wp2_with fail
      go_ret
      exact ret_b HR.out.symm HB0.out
    · have l1 : ¬ (x.pts.length : Int) < 1 := by omega
      have l2 : (8 : Int) < (x.pts.length : Int) := by omega
      go_enter Tryz.func15, Tryz.ntmps15
      go_wp2_with fail
      go_ret
      exact ret_b HR.out.symm HB0.out
    · have l1 : ¬ (x.pts.length : Int) < 1 := by omega
      have l2 : ¬ (8 : Int) < (x.pts.length : Int) := by omega
      have l3 : (x.els.length : Int) < 1 := by omega
      go_enter Tryz.func15, Tryz.ntmps15
      go_wp2_with fail
      go_ret
      exact ret_b HR.out.symm HB0.out
    · have l1 : ¬ (x.pts.length : Int) < 1 := by omega
      have l2 : ¬ (8 : Int) < (x.pts.length : Int) := by omega
      have l3 : ¬ (x.els.length : Int) < 1 := by omega
      have l4 : (16 : Int) < (x.els.length : Int) := by omega
      go_enter Tryz.func15, Tryz.ntmps15
      go_wp2_with fail
      go_ret
      exact ret_b HR.out.symm HB0.out
end Go.Proofs.YtgddihbbickcmaaGreatDoor
