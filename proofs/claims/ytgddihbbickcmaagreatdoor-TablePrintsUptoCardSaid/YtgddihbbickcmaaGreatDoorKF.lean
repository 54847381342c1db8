/-
  ref06.element.
-/
import Derived.Test.YtgddihbbickcmaaGreatDoorKE
namespace Go.Proofs.YtgddihbbickcmaaGreatDoor
open Go.RowKit Go.WideShapes
set_option linter.unusedVariables false
/-- An element's box. -/
def ElS (w : World) (B : Nat) (v : Bool) (p s t : Int) (W : World) : Prop := Below w.heap.size w W ∧ B < W.heap.size ∧ W.cell? ⟨B, 0, none⟩ = some (.bool v) ∧ W.cell? ⟨B, 1, none⟩ = some (.int .i64 p) ∧ W.cell? ⟨B, 2, none⟩ = some (.int .i64 s) ∧ W.cell? ⟨B, 3, none⟩ = some (.int .i64 t)
theorem ElS.new (w : World) (v : Bool) (p s t : Int) (T : TypeId) : ElS w w.heap.size v p s t (w.alloc (.cells #[.bool v, .int .i64 p, .int .i64 s, .int .i64 t] T)) := by
  have h := World.alloc_heap_new w (.cells #[.bool v, .int .i64 p, .int .i64 s, .int .i64 t] T)
  refine ⟨below_a1 _ _, by simp, ?_, ?_, ?_, ?_⟩ <;> (simp only [World.cell?, h]; rfl)
theorem ElS.below {w W W' : World} {B : Nat} {v : Bool} {p s t : Int} (h : ElS w B v p s t W) (hb : Below W.heap.size W W') : ElS w B v p s t W' := by
  obtain ⟨h1, h2, h3, h4, h5, h6⟩ := h
  exact ⟨h1.trans (hb.mono h1.size), Nat.lt_of_lt_of_le h2 hb.size, (hb.cell h2).trans h3, (hb.cell h2).trans h4, (hb.cell h2).trans h5, (hb.cell h2).trans h6⟩
theorem ElS.drew {w W : World} {B : Nat} {v : Bool} {p s t : Int} (h : ElS w B v p s t W) : ElS w B v p s t W.drew := h.below (Below.refl _ _).drew
set_option maxRecDepth 100000 in
set_option maxHeartbeats 2000000 in
theorem refElem_nat (v : Bool) (p s t : Nat) (hp : p ≤ 65535) (hs : s ≤ 65535) (ht : t ≤ 65535) (w : World) : Calls Tryz.prog 33 #[.agg #[.bool v, .int .i64 p, .int .i64 s, .int .i64 t]] w (Ret (.string (txt (EL.text ⟨v, p, s, t⟩))) w) := by
  have HD := Lib.hid (fun (n : Nat) (hn : n ≤ 65535) W => digits_any n W (by omega))
  have HS0 := Lib.hid (ElS.new w v p s t)
  have lp := hexW_word hp
  have ls := hexW_word hs
  have lt := hexW_word ht
  have z1 : (9223372036854775807 < 2 + (txt (hexW p)).size) = False := eq_false (by rw [txt_size]; omega)
  have z2 : (9223372036854775807 < 2 + (txt (hexW p)).size + 1) = False := eq_false (by rw [txt_size]; omega)
  have z3 : (9223372036854775807 < 2 + (txt (hexW p)).size + 1 + (txt (hexW s)).size) = False := eq_false (by rw [txt_size, txt_size]; omega)
  have z4 : (9223372036854775807 < 2 + (txt (hexW p)).size + 1 + (txt (hexW s)).size + 1) = False := eq_false (by rw [txt_size, txt_size]; omega)
  have z5 : (9223372036854775807 < 2 + (txt (hexW p)).size + 1 + (txt (hexW s)).size + 1 + (txt (hexW t)).size) = False := eq_false (by rw [txt_size, txt_size, txt_size]; omega)
  have z6 : (9223372036854775807 < 2 + (txt (hexW p)).size + 1 + (txt (hexW s)).size + 1 + (txt (hexW t)).size + 1) = False := eq_false (by rw [txt_size, txt_size, txt_size]; omega)
  cases v
  case false =>
    go_enter Tryz.func33, Tryz.ntmps33
    go_wp2_with fail
    have hS0 := HS0.out 35
    go_region_held3 (fun W => Below w.heap.size w W ∧ w.heap.size < W.heap.size ∧ W.cell? ⟨w.heap.size, 0, none⟩ = some (.bool false) ∧ W.cell? ⟨w.heap.size, 1, none⟩ = some (.int .i64 p) ∧ W.cell? ⟨w.heap.size, 2, none⟩ = some (.int .i64 s) ∧ W.cell? ⟨w.heap.size, 3, none⟩ = some (.int .i64 t))
      (first | exact hS0 | exact hS0.drew)
      (first | (go_at_call 32; refine (HD.out _ (by assumption) _).mono ?_; rintro e w2 ⟨rfl, hb2⟩; have hS0 := ElS.below (w := w) (B := w.heap.size) (v := false) (p := p) (s := s) (t := t) (by assumption) hb2))
    go_wp2_with fail
    go_ret
    refine ret_s ?_ hS0.1
    show txt [91] ++ txt [46] ++ txt (hexW p) ++ txt [46] ++ txt (hexW s) ++ txt [46] ++ txt (hexW t) ++ txt [93] = _
    simp only [txt_append, EL.text, Int.toNat_natCast]
    simp
  case true =>
    go_enter Tryz.func33, Tryz.ntmps33
    go_wp2_with fail
    have hS0 := HS0.out 35
    go_region_held3 (fun W => Below w.heap.size w W ∧ w.heap.size < W.heap.size ∧ W.cell? ⟨w.heap.size, 0, none⟩ = some (.bool true) ∧ W.cell? ⟨w.heap.size, 1, none⟩ = some (.int .i64 p) ∧ W.cell? ⟨w.heap.size, 2, none⟩ = some (.int .i64 s) ∧ W.cell? ⟨w.heap.size, 3, none⟩ = some (.int .i64 t))
      (first | exact hS0 | exact hS0.drew)
      (first | (go_at_call 32; refine (HD.out _ (by assumption) _).mono ?_; rintro e w2 ⟨rfl, hb2⟩; have hS0 := ElS.below (w := w) (B := w.heap.size) (v := true) (p := p) (s := s) (t := t) (by assumption) hb2))
    go_wp2_with fail
    go_ret
    refine ret_s ?_ hS0.1
    show txt [91] ++ txt [42] ++ txt (hexW p) ++ txt [46] ++ txt (hexW s) ++ txt [46] ++ txt (hexW t) ++ txt [93] = _
    simp only [txt_append, EL.text, Int.toNat_natCast]
    simp
theorem refElem_any (e : EL) (he : rightB e = true) (w : World) : Calls Tryz.prog 33 #[.agg #[.bool e.v, .int .i64 e.p, .int .i64 e.s, .int .i64 e.t]] w (Ret (.string (txt e.text)) w) := by
  obtain ⟨h1, h2, h3, h4, h5, h6⟩ := rightB_of he
  obtain ⟨v, p, s, t⟩ := e
  obtain ⟨p, rfl⟩ := Int.eq_ofNat_of_zero_le h1
  obtain ⟨s, rfl⟩ := Int.eq_ofNat_of_zero_le h3
  obtain ⟨t, rfl⟩ := Int.eq_ofNat_of_zero_le h5
  simp only at h2 h4 h6
  exact refElem_nat v p s t (by omega) (by omega) (by omega) w
end Go.Proofs.YtgddihbbickcmaaGreatDoor
