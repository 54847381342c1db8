/-
  ucd.Load's deferred function: a fault is caught; nothing to catch.
-/
import Derived.Test.YtccaaniepeohbaaGreatDoorKV
namespace Go.Proofs.YtccaaniepeohbaaGreatDoor
open Go.RowKit Go.WideShapes
set_option linter.unusedVariables false
set_option linter.unusedSimpArgs false
theorem assert_fault (c : Int) (xT : TypeId) (w : World) : (Instr.typeAssert (.iface 48 (.agg #[.int .i64 c])) xT 48 true).run Tryz.prog w = .ok (.tuple #[.agg #[.int .i64 c], .bool true]) w := by
  simp [Instr.typeAssert, run_underlying Tryz.underlying48, go_sem, Result.andThen]
/-- The three results' boxes, and the line's. -/
structure Boxes (w : World) (P0 P1 P2 A : Nat) (x y z n : Value) : Prop where
  a : w.heap[P0]? = some (.cells #[x] 30 (0, 0))
  b : w.heap[P1]? = some (.cells #[y] 25 (0, 0))
  c : w.heap[P2]? = some (.cells #[z] 3 (0, 0))
  d : w.heap[A]? = some (.cells #[n] 3 (0, 0))
theorem Boxes.keep {w w' : World} {P0 P1 P2 A : Nat} {x y z n : Value} (h : Boxes w P0 P1 P2 A x y z n) (h0 : w'.heap[P0]? = w.heap[P0]?) (h1 : w'.heap[P1]? = w.heap[P1]?) (h2 : w'.heap[P2]? = w.heap[P2]?) (h3 : w'.heap[A]? = w.heap[A]?) : Boxes w' P0 P1 P2 A x y z n :=
  ⟨h0.trans h.a, h1.trans h.b, h2.trans h.c, h3.trans h.d⟩
theorem Boxes.lt {w : World} {P0 P1 P2 A : Nat} {x y z n : Value} (h : Boxes w P0 P1 P2 A x y z n) : P0 < w.heap.size ∧ P1 < w.heap.size ∧ P2 < w.heap.size ∧ A < w.heap.size :=
  ⟨(Array.getElem?_eq_some_iff.1 h.a).1, (Array.getElem?_eq_some_iff.1 h.b).1, (Array.getElem?_eq_some_iff.1 h.c).1, (Array.getElem?_eq_some_iff.1 h.d).1⟩
set_option maxRecDepth 100000 in
set_option maxHeartbeats 2000000 in
theorem catch_idle (P0 P1 P2 A : Nat) (w : World) :
    CallsD Tryz.prog 25 #[.pointer (some ⟨A, 0, none⟩), .pointer (some ⟨P0, 0, none⟩), .pointer (some ⟨P1, 0, none⟩), .pointer (some ⟨P2, 0, none⟩)] .returning w fun e u' w' => e = .returned (.tuple #[]) ∧ u' = .returning ∧ w' = w := by
  refine callsD_of_wpS Tryz.func25 rfl fun c₀ cs hu => ?_
  apply wpS_seq
  apply wpS_region
  simp [wpOpsS, go_sem, recoverD, hu, Tryz.ntmps25, Exit.thenS]
  refine wpS_of_wp ?_
  change Code.wp _ _ _ { tmps := #[.pointer (some ⟨A, 0, none⟩), .pointer (some ⟨P0, 0, none⟩), .pointer (some ⟨P1, 0, none⟩), .pointer (some ⟨P2, 0, none⟩), .nilIface, undef, undef, .nilIface, undef, undef, undef, undef, undef, undef, undef, undef, undef, undef, undef, undef, undef], defers := [] } w
  go_wp2_with fail
  exact ⟨rfl, _, (by cases c₀; simp only at hu; subst hu; rfl), _, results_none rfl _ _ _, rfl, rfl, rfl⟩
set_option maxRecDepth 100000 in
set_option maxHeartbeats 2000000 in
theorem catch_fault (P0 P1 P2 A : Nat) (x y z : Value) (code line : Int) (older : List PanicEntry) (w : World) (h : Boxes w P0 P1 P2 A x y z (.int .i64 line)) (hd : P0 ≠ P1 ∧ P0 ≠ P2 ∧ P1 ≠ P2 ∧ A ≠ P0 ∧ A ≠ P1 ∧ A ≠ P2) (B : Nat) (hB : B ≤ P0 ∧ B ≤ P1 ∧ B ≤ P2) :
    CallsD Tryz.prog 25 #[.pointer (some ⟨A, 0, none⟩), .pointer (some ⟨P0, 0, none⟩), .pointer (some ⟨P1, 0, none⟩), .pointer (some ⟨P2, 0, none⟩)] (.panicking ({ v := .iface 48 (.agg #[.int .i64 code]), recovered := false } :: older)) w fun e u' w' =>
      e = .returned (.tuple #[]) ∧ u' = .panicking ({ v := .iface 48 (.agg #[.int .i64 code]), recovered := true } :: older) ∧ Below B w w' ∧ w'.cell? ⟨P0, 0, none⟩ = some (.pointer none) ∧ w'.cell? ⟨P1, 0, none⟩ = some (.int .i64 code) ∧ w'.cell? ⟨P2, 0, none⟩ = some (.int .i64 line) := by
  refine callsD_of_wpS Tryz.func25 rfl fun c₀ cs hu => ?_
  apply wpS_seq
  apply wpS_region
  simp [wpOpsS, go_sem, recoverD, hu, Tryz.ntmps25, Exit.thenS]
  refine wpS_of_wp ?_
  change Code.wp _ _ _ { tmps := #[.pointer (some ⟨A, 0, none⟩), .pointer (some ⟨P0, 0, none⟩), .pointer (some ⟨P1, 0, none⟩), .pointer (some ⟨P2, 0, none⟩), .iface 48 (.agg #[.int .i64 code]), undef, undef, .iface 48 (.agg #[.int .i64 code]), undef, undef, undef, undef, undef, undef, undef, undef, undef, undef, undef, undef, undef], defers := [] } w
  have hta := assert_fault code
  obtain ⟨l0, l1, l2, l3⟩ := h.lt
  obtain ⟨d1, d2, d3, d4, d5, d6⟩ := hd
  have HBo := Lib.hid h
  clear h
  go_upto_region 5 with fail
  have hX_0 := World.alloc_heap_new w (.cells #[.int .i64 code] 48)
  have hP0_0 := (Below.heap_alloc w (.cells #[.int .i64 code] 48) P0 l0).trans HBo.out.a
  have hP1_0 := (Below.heap_alloc w (.cells #[.int .i64 code] 48) P1 l1).trans HBo.out.b
  have hP2_0 := (Below.heap_alloc w (.cells #[.int .i64 code] 48) P2 l2).trans HBo.out.c
  have hA_0 := (Below.heap_alloc w (.cells #[.int .i64 code] 48) A l3).trans HBo.out.d
  have hb1 : Below B w (w.alloc (.cells #[.int .i64 code] 48)) := (Below.refl B w).alloc (by omega) _
  generalize w.alloc (.cells #[.int .i64 code] 48) = w1 at hX_0 hP0_0 hP1_0 hP2_0 hA_0 hb1 ⊢
  have hP0_1 : (w1.setCell ⟨P0, 0, none⟩ (.pointer none)).heap[P0]? = some (.cells #[(.pointer none)] 30 (0, 0)) := by have h9 := heap_setCell_same w1 P0 0 _ _ (.pointer none) hP0_0; simpa using h9
  have hP1_1 := (Below.heap_setCell w1 ⟨P0, 0, none⟩ (.pointer none) P1 (by show P1 ≠ P0; omega)).trans hP1_0
  have hP2_1 := (Below.heap_setCell w1 ⟨P0, 0, none⟩ (.pointer none) P2 (by show P2 ≠ P0; omega)).trans hP2_0
  have hA_1 := (Below.heap_setCell w1 ⟨P0, 0, none⟩ (.pointer none) A (by show A ≠ P0; omega)).trans hA_0
  have hX_1 := (Below.heap_setCell w1 ⟨P0, 0, none⟩ (.pointer none) w.heap.size (by show w.heap.size ≠ P0; omega)).trans hX_0
  have hP0_2 := (Below.heap_setCell (w1.setCell ⟨P0, 0, none⟩ (.pointer none)) ⟨P1, 0, none⟩ (.int .i64 code) P0 (by show P0 ≠ P1; omega)).trans hP0_1
  have hP1_2 : ((w1.setCell ⟨P0, 0, none⟩ (.pointer none)).setCell ⟨P1, 0, none⟩ (.int .i64 code)).heap[P1]? = some (.cells #[(.int .i64 code)] 25 (0, 0)) := by have h9 := heap_setCell_same (w1.setCell ⟨P0, 0, none⟩ (.pointer none)) P1 0 _ _ (.int .i64 code) hP1_1; simpa using h9
  have hP2_2 := (Below.heap_setCell (w1.setCell ⟨P0, 0, none⟩ (.pointer none)) ⟨P1, 0, none⟩ (.int .i64 code) P2 (by show P2 ≠ P1; omega)).trans hP2_1
  have hA_2 := (Below.heap_setCell (w1.setCell ⟨P0, 0, none⟩ (.pointer none)) ⟨P1, 0, none⟩ (.int .i64 code) A (by show A ≠ P1; omega)).trans hA_1
  have hX_2 := (Below.heap_setCell (w1.setCell ⟨P0, 0, none⟩ (.pointer none)) ⟨P1, 0, none⟩ (.int .i64 code) w.heap.size (by show w.heap.size ≠ P1; omega)).trans hX_1
  have hP0_3 := (Below.heap_setCell ((w1.setCell ⟨P0, 0, none⟩ (.pointer none)).setCell ⟨P1, 0, none⟩ (.int .i64 code)) ⟨P2, 0, none⟩ (.int .i64 line) P0 (by show P0 ≠ P2; omega)).trans hP0_2
  have hP1_3 := (Below.heap_setCell ((w1.setCell ⟨P0, 0, none⟩ (.pointer none)).setCell ⟨P1, 0, none⟩ (.int .i64 code)) ⟨P2, 0, none⟩ (.int .i64 line) P1 (by show P1 ≠ P2; omega)).trans hP1_2
  have hP2_3 : (((w1.setCell ⟨P0, 0, none⟩ (.pointer none)).setCell ⟨P1, 0, none⟩ (.int .i64 code)).setCell ⟨P2, 0, none⟩ (.int .i64 line)).heap[P2]? = some (.cells #[(.int .i64 line)] 3 (0, 0)) := by have h9 := heap_setCell_same ((w1.setCell ⟨P0, 0, none⟩ (.pointer none)).setCell ⟨P1, 0, none⟩ (.int .i64 code)) P2 0 _ _ (.int .i64 line) hP2_2; simpa using h9
  have hA_3 := (Below.heap_setCell ((w1.setCell ⟨P0, 0, none⟩ (.pointer none)).setCell ⟨P1, 0, none⟩ (.int .i64 code)) ⟨P2, 0, none⟩ (.int .i64 line) A (by show A ≠ P2; omega)).trans hA_2
  have hX_3 := (Below.heap_setCell ((w1.setCell ⟨P0, 0, none⟩ (.pointer none)).setCell ⟨P1, 0, none⟩ (.int .i64 code)) ⟨P2, 0, none⟩ (.int .i64 line) w.heap.size (by show w.heap.size ≠ P2; omega)).trans hX_2
  have hk0 : w1.cell? ⟨w.heap.size, 0, none⟩ = some (.int .i64 code) ∧ w1.cell? ⟨A, 0, none⟩ = some (.int .i64 line) ∧ w1.frozen? ⟨P0, 0, none⟩ = false ∧ w1.frozen? ⟨P1, 0, none⟩ = false ∧ w1.frozen? ⟨P2, 0, none⟩ = false := ⟨by simp [World.cell?, hX_0], by simp [World.cell?, hA_0], by simp [World.frozen?, hP0_0], by simp [World.frozen?, hP1_0], by simp [World.frozen?, hP2_0]⟩
  have hk1 : (w1.setCell ⟨P0, 0, none⟩ (.pointer none)).cell? ⟨w.heap.size, 0, none⟩ = some (.int .i64 code) ∧ (w1.setCell ⟨P0, 0, none⟩ (.pointer none)).cell? ⟨A, 0, none⟩ = some (.int .i64 line) ∧ (w1.setCell ⟨P0, 0, none⟩ (.pointer none)).frozen? ⟨P0, 0, none⟩ = false ∧ (w1.setCell ⟨P0, 0, none⟩ (.pointer none)).frozen? ⟨P1, 0, none⟩ = false ∧ (w1.setCell ⟨P0, 0, none⟩ (.pointer none)).frozen? ⟨P2, 0, none⟩ = false := ⟨by simp [World.cell?, hX_1], by simp [World.cell?, hA_1], by simp [World.frozen?, hP0_1], by simp [World.frozen?, hP1_1], by simp [World.frozen?, hP2_1]⟩
  have hk2 : ((w1.setCell ⟨P0, 0, none⟩ (.pointer none)).setCell ⟨P1, 0, none⟩ (.int .i64 code)).cell? ⟨w.heap.size, 0, none⟩ = some (.int .i64 code) ∧ ((w1.setCell ⟨P0, 0, none⟩ (.pointer none)).setCell ⟨P1, 0, none⟩ (.int .i64 code)).cell? ⟨A, 0, none⟩ = some (.int .i64 line) ∧ ((w1.setCell ⟨P0, 0, none⟩ (.pointer none)).setCell ⟨P1, 0, none⟩ (.int .i64 code)).frozen? ⟨P0, 0, none⟩ = false ∧ ((w1.setCell ⟨P0, 0, none⟩ (.pointer none)).setCell ⟨P1, 0, none⟩ (.int .i64 code)).frozen? ⟨P1, 0, none⟩ = false ∧ ((w1.setCell ⟨P0, 0, none⟩ (.pointer none)).setCell ⟨P1, 0, none⟩ (.int .i64 code)).frozen? ⟨P2, 0, none⟩ = false := ⟨by simp [World.cell?, hX_2], by simp [World.cell?, hA_2], by simp [World.frozen?, hP0_2], by simp [World.frozen?, hP1_2], by simp [World.frozen?, hP2_2]⟩
  have hk3 : (((w1.setCell ⟨P0, 0, none⟩ (.pointer none)).setCell ⟨P1, 0, none⟩ (.int .i64 code)).setCell ⟨P2, 0, none⟩ (.int .i64 line)).cell? ⟨w.heap.size, 0, none⟩ = some (.int .i64 code) ∧ (((w1.setCell ⟨P0, 0, none⟩ (.pointer none)).setCell ⟨P1, 0, none⟩ (.int .i64 code)).setCell ⟨P2, 0, none⟩ (.int .i64 line)).cell? ⟨A, 0, none⟩ = some (.int .i64 line) ∧ (((w1.setCell ⟨P0, 0, none⟩ (.pointer none)).setCell ⟨P1, 0, none⟩ (.int .i64 code)).setCell ⟨P2, 0, none⟩ (.int .i64 line)).frozen? ⟨P0, 0, none⟩ = false ∧ (((w1.setCell ⟨P0, 0, none⟩ (.pointer none)).setCell ⟨P1, 0, none⟩ (.int .i64 code)).setCell ⟨P2, 0, none⟩ (.int .i64 line)).frozen? ⟨P1, 0, none⟩ = false ∧ (((w1.setCell ⟨P0, 0, none⟩ (.pointer none)).setCell ⟨P1, 0, none⟩ (.int .i64 code)).setCell ⟨P2, 0, none⟩ (.int .i64 line)).frozen? ⟨P2, 0, none⟩ = false := ⟨by simp [World.cell?, hX_3], by simp [World.cell?, hA_3], by simp [World.frozen?, hP0_3], by simp [World.frozen?, hP1_3], by simp [World.frozen?, hP2_3]⟩
  have hc0 : w1.cell? ⟨P0, 0, none⟩ = some x := by simp [World.cell?, hP0_0]
  have hc1 : (w1.setCell ⟨P0, 0, none⟩ (.pointer none)).cell? ⟨P1, 0, none⟩ = some y := by simp [World.cell?, hP1_1]
  have hc2 : ((w1.setCell ⟨P0, 0, none⟩ (.pointer none)).setCell ⟨P1, 0, none⟩ (.int .i64 code)).cell? ⟨P2, 0, none⟩ = some z := by simp [World.cell?, hP2_2]
  have HZP0 := Lib.hid (show (((w1.setCell ⟨P0, 0, none⟩ (.pointer none)).setCell ⟨P1, 0, none⟩ (.int .i64 code)).setCell ⟨P2, 0, none⟩ (.int .i64 line)).cell? ⟨P0, 0, none⟩ = some (.pointer none) by simp [World.cell?, hP0_3])
  have HZP1 := Lib.hid (show (((w1.setCell ⟨P0, 0, none⟩ (.pointer none)).setCell ⟨P1, 0, none⟩ (.int .i64 code)).setCell ⟨P2, 0, none⟩ (.int .i64 line)).cell? ⟨P1, 0, none⟩ = some (.int .i64 code) by simp [World.cell?, hP1_3])
  have HZP2 := Lib.hid (show (((w1.setCell ⟨P0, 0, none⟩ (.pointer none)).setCell ⟨P1, 0, none⟩ (.int .i64 code)).setCell ⟨P2, 0, none⟩ (.int .i64 line)).cell? ⟨P2, 0, none⟩ = some (.int .i64 line) by simp [World.cell?, hP2_3])
  have HB1 := Lib.hid hb1
  clear hP0_0 hP1_0 hP2_0 hA_0 hX_0 hP0_1 hP1_1 hP2_1 hA_1 hX_1 hP0_2 hP1_2 hP2_2 hA_2 hX_2 hP0_3 hP1_3 hP2_3 hA_3 hX_3 hb1
  go_region_held3 (fun W => W.cell? ⟨w.heap.size, 0, none⟩ = some (.int .i64 code) ∧ W.cell? ⟨A, 0, none⟩ = some (.int .i64 line) ∧ W.frozen? ⟨P0, 0, none⟩ = false ∧ W.frozen? ⟨P1, 0, none⟩ = false ∧ W.frozen? ⟨P2, 0, none⟩ = false)
    (first | exact hk0 | exact hk1 | exact hk2 | exact hk3)
    (first | fail)
  go_wp2_with fail
  exact ⟨rfl, _, rfl, _, results_none rfl _ _ _, rfl, rfl, (((HB1.out.setCell (p := ⟨P0, 0, none⟩) hB.1 _).setCell (p := ⟨P1, 0, none⟩) hB.2.1 _).setCell (p := ⟨P2, 0, none⟩) hB.2.2 _).drew, HZP0.out, HZP1.out, HZP2.out⟩
end Go.Proofs.YtccaaniepeohbaaGreatDoor
