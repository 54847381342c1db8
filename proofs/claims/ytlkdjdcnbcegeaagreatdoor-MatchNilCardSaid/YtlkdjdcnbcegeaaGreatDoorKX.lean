/-
  table.rowOf, and rows as keys.
-/
import Derived.Test.YtlkdjdcnbcegeaaGreatDoorKD
import Derived.Test.YtlkdjdcnbcegeaaGreatDoorKB
import Derived.Test.YtlkdjdcnbcegeaaGreatDoorKN
import Derived.Laws.CopyOwn
namespace Go.Proofs.YtlkdjdcnbcegeaaGreatDoor
open Go.RowKit Go.WideShapes
set_option linter.unusedVariables false
set_option linter.unusedSimpArgs false
/-- A row's nine cells. -/
def rowCells (l : List Int) : List Value := .int .i64 l.length :: (intCells l ++ List.replicate (8 - l.length) (.int .i64 0))
def rowVal (l : List Int) : Value := .agg (rowCells l).toArray
theorem rowCells_len {l : List Int} (h : l.length ≤ 8) : (rowCells l).length = 9 := by simp [rowCells, intCells]; omega
theorem list_nine {α : Type} {l : List α} (h : l.length = 9) : ∃ a b c d e f g i j, l = [a, b, c, d, e, f, g, i, j] := by
  match l, h with
  | [a, b, c, d, e, f, g, i, j], _ => exact ⟨a, b, c, d, e, f, g, i, j, rfl⟩
theorem rowCells_ints {l : List Int} (h : l.length ≤ 8) : ∃ a b c d e f g i j : Int, rowCells l = [.int .i64 a, .int .i64 b, .int .i64 c, .int .i64 d, .int .i64 e, .int .i64 f, .int .i64 g, .int .i64 i, .int .i64 j] := by
  have hm : rowCells l = (((l.length : Int) :: (l ++ List.replicate (8 - l.length) 0)).map (Value.int .i64)) := by simp [rowCells, intCells]
  obtain ⟨a, b, c, d, e, f, g, i, j, hl⟩ := list_nine (l := (l.length : Int) :: (l ++ List.replicate (8 - l.length) 0)) (by simp; omega)
  exact ⟨a, b, c, d, e, f, g, i, j, by rw [hm, hl]; rfl⟩
theorem rowCells_inj {a b : List Int} (ha : a.length ≤ 8) (hb : b.length ≤ 8) (h : rowCells a = rowCells b) : a = b := by
  simp only [rowCells, List.cons.injEq, Value.int.injEq, true_and] at h
  have hl : a.length = b.length := by omega
  have h2 := List.append_inj_left h.2 (by simp [intCells, hl])
  have hg := congrArg (List.map (fun v => match v with | Value.int _ n => n | _ => 0)) h2
  simpa [intCells, Function.comp_def] using hg
theorem splice_row (l : List Int) (h : l.length ≤ 8) : splice (Value.int .i64 l.length :: List.replicate 8 (.int .i64 0)) 1 (intCells l) = rowCells l := by
  simp only [splice, rowCells, List.take_succ_cons, List.take_zero, List.cons_append, List.nil_append, intCells, List.length_map, Nat.add_comm 1, List.drop_succ_cons, List.drop_replicate]
theorem intCells_cell {w : World} {b o : Nat} {l : List Int} (h : CellsAt w b o (intCells l)) : ∀ j v, (intCells l)[j]? = some v → w.cell? ⟨b, o + j, none⟩ = some v := fun j v hv => h j v hv
set_option maxRecDepth 100000 in
set_option maxHeartbeats 4000000 in
theorem rowOf_ok (l : List Int) (h8 : l.length ≤ 8) (v : Value) (w : World) (hr : RowM w w.heap.size v l.length (intCells l)) :
    Calls Tryz.prog 46 #[v] w fun e w' => e = .returned (.tuple #[rowVal l, .bool true]) ∧ Below w.heap.size w w' := by
  obtain ⟨A, c, rfl, hc, hn, hA⟩ := hr
  have HA := Lib.hid hA
  have HB := Lib.hid (Below.refl w.heap.size w)
  clear hA
  go_enter Tryz.func46, Tryz.ntmps46
  have hab := Lib.hid (show Below w.heap.size w ((w.alloc (.cells #[.int .i64 0, .int .i64 0, .int .i64 0, .int .i64 0, .int .i64 0, .int .i64 0, .int .i64 0, .int .i64 0, .int .i64 0] 95)).alloc (.cells (Value.int .i64 l.length :: List.replicate 8 (.int .i64 0)).toArray 95)) from (HB.out.alloc (Nat.le_refl _) _).alloc (by simp) _)
  have hT0 := Lib.hid (World.alloc_heap_new (w.alloc (.cells #[.int .i64 0, .int .i64 0, .int .i64 0, .int .i64 0, .int .i64 0, .int .i64 0, .int .i64 0, .int .i64 0, .int .i64 0] 95)) (.cells (Value.int .i64 l.length :: List.replicate 8 (.int .i64 0)).toArray 95))
  have hQ0 := Lib.hid (show ((w.alloc (.cells #[.int .i64 0, .int .i64 0, .int .i64 0, .int .i64 0, .int .i64 0, .int .i64 0, .int .i64 0, .int .i64 0, .int .i64 0] 95)).alloc (.cells (Value.int .i64 l.length :: List.replicate 8 (.int .i64 0)).toArray 95)).heap[w.heap.size]? = some (.cells #[.int .i64 0, .int .i64 0, .int .i64 0, .int .i64 0, .int .i64 0, .int .i64 0, .int .i64 0, .int .i64 0, .int .i64 0] 95 (0, 0)) from by rw [Below.heap_alloc _ _ _ (by simp)]; exact World.alloc_heap_new w _)
  rw [World.size_alloc] at hT0
  go_upto_region 6 with (refine wpList_copy_splice rfl _ _ _ _ rfl 3 Tryz.underlying24 (by kernel_rfl) _ _ 8 8 l.length c rfl rfl (w.heap.size + 1) 1 (Value.int .i64 l.length :: List.replicate 8 (.int .i64 0)) 95 hT0.out (intCells l) (by rw [intCells, List.length_map]; exact (Nat.min_eq_left h8).symm) (fun h0 => by
      obtain ⟨b, o, rfl, hb, hcs⟩ := HA.out (by simpa [intCells] using h0)
      exact ⟨rfl, _, rfl, fun j u hu => by rw [Addr.add_lit]; exact (hab.out.cell hb).trans (hcs j u hu)⟩) (by simp [intCells]; omega) (fun u hu => by obtain ⟨x, _, rfl⟩ := List.mem_map.1 hu; rfl) (w.heap.size + 1) _ (Below.refl _ _) (Nat.le_refl _) ?_; intro w2 hT2 hb2)
  have hT3 := hT2.out
  rw [splice_row l h8] at hT3
  have hQ3 := (hb2.block w.heap.size (Nat.lt_succ_self _)).trans hQ0.out
  have HB3 := Lib.hid (hab.out.trans (hb2.mono (Nat.le_succ _)))
  obtain ⟨a, b, d, e, f, g, i, j, k, hx⟩ := rowCells_ints h8
  have HV := Lib.hid (show rowVal l = .agg #[.int .i64 a, .int .i64 b, .int .i64 d, .int .i64 e, .int .i64 f, .int .i64 g, .int .i64 i, .int .i64 j, .int .i64 k] by rw [rowVal, hx])
  rw [hx] at hT3
  have hz2 : w.heap.size + 2 ≤ w2.heap.size := by have := hb2.size; simp at this; omega
  clear hT2 hQ0 hT0 hab HB HA hb2 hx
  have hc0 : w2.cell? ⟨w.heap.size + 1, 0, none⟩ = some (.int .i64 a) := by simp [World.cell?, hT3]
  have hc1 : w2.cell? ⟨w.heap.size + 1, 1, none⟩ = some (.int .i64 b) := by simp [World.cell?, hT3]
  have hc2 : w2.cell? ⟨w.heap.size + 1, 2, none⟩ = some (.int .i64 d) := by simp [World.cell?, hT3]
  have hc3 : w2.cell? ⟨w.heap.size + 1, 3, none⟩ = some (.int .i64 e) := by simp [World.cell?, hT3]
  have hc4 : w2.cell? ⟨w.heap.size + 1, 4, none⟩ = some (.int .i64 f) := by simp [World.cell?, hT3]
  have hc5 : w2.cell? ⟨w.heap.size + 1, 5, none⟩ = some (.int .i64 g) := by simp [World.cell?, hT3]
  have hc6 : w2.cell? ⟨w.heap.size + 1, 6, none⟩ = some (.int .i64 i) := by simp [World.cell?, hT3]
  have hc7 : w2.cell? ⟨w.heap.size + 1, 7, none⟩ = some (.int .i64 j) := by simp [World.cell?, hT3]
  have hc8 : w2.cell? ⟨w.heap.size + 1, 8, none⟩ = some (.int .i64 k) := by simp [World.cell?, hT3]
  have hq0 : w2.cell? ⟨w.heap.size, 0, none⟩ = some (.int .i64 0) := by simp [World.cell?, hQ3]
  have hf0 : w2.frozen? ⟨w.heap.size, 0, none⟩ = false := by simp [World.frozen?, hQ3]
  have hq1 : w2.cell? ⟨w.heap.size, 1, none⟩ = some (.int .i64 0) := by simp [World.cell?, hQ3]
  have hf1 : w2.frozen? ⟨w.heap.size, 1, none⟩ = false := by simp [World.frozen?, hQ3]
  have hq2 : w2.cell? ⟨w.heap.size, 2, none⟩ = some (.int .i64 0) := by simp [World.cell?, hQ3]
  have hf2 : w2.frozen? ⟨w.heap.size, 2, none⟩ = false := by simp [World.frozen?, hQ3]
  have hq3 : w2.cell? ⟨w.heap.size, 3, none⟩ = some (.int .i64 0) := by simp [World.cell?, hQ3]
  have hf3 : w2.frozen? ⟨w.heap.size, 3, none⟩ = false := by simp [World.frozen?, hQ3]
  have hq4 : w2.cell? ⟨w.heap.size, 4, none⟩ = some (.int .i64 0) := by simp [World.cell?, hQ3]
  have hf4 : w2.frozen? ⟨w.heap.size, 4, none⟩ = false := by simp [World.frozen?, hQ3]
  have hq5 : w2.cell? ⟨w.heap.size, 5, none⟩ = some (.int .i64 0) := by simp [World.cell?, hQ3]
  have hf5 : w2.frozen? ⟨w.heap.size, 5, none⟩ = false := by simp [World.frozen?, hQ3]
  have hq6 : w2.cell? ⟨w.heap.size, 6, none⟩ = some (.int .i64 0) := by simp [World.cell?, hQ3]
  have hf6 : w2.frozen? ⟨w.heap.size, 6, none⟩ = false := by simp [World.frozen?, hQ3]
  have hq7 : w2.cell? ⟨w.heap.size, 7, none⟩ = some (.int .i64 0) := by simp [World.cell?, hQ3]
  have hf7 : w2.frozen? ⟨w.heap.size, 7, none⟩ = false := by simp [World.frozen?, hQ3]
  have hq8 : w2.cell? ⟨w.heap.size, 8, none⟩ = some (.int .i64 0) := by simp [World.cell?, hQ3]
  have hf8 : w2.frozen? ⟨w.heap.size, 8, none⟩ = false := by simp [World.frozen?, hQ3]
  go_wp2_with fail
  have hs0 := heap_setCell_same w2 w.heap.size 0 _ _ (.int .i64 a) hQ3
  have hs1 := heap_setCell_same (w2.setCell ⟨w.heap.size, 0, none⟩ (.int .i64 a)) w.heap.size 1 _ _ (.int .i64 b) hs0
  have hs2 := heap_setCell_same ((w2.setCell ⟨w.heap.size, 0, none⟩ (.int .i64 a)).setCell ⟨w.heap.size, 1, none⟩ (.int .i64 b)) w.heap.size 2 _ _ (.int .i64 d) hs1
  have hs3 := heap_setCell_same (((w2.setCell ⟨w.heap.size, 0, none⟩ (.int .i64 a)).setCell ⟨w.heap.size, 1, none⟩ (.int .i64 b)).setCell ⟨w.heap.size, 2, none⟩ (.int .i64 d)) w.heap.size 3 _ _ (.int .i64 e) hs2
  have hs4 := heap_setCell_same ((((w2.setCell ⟨w.heap.size, 0, none⟩ (.int .i64 a)).setCell ⟨w.heap.size, 1, none⟩ (.int .i64 b)).setCell ⟨w.heap.size, 2, none⟩ (.int .i64 d)).setCell ⟨w.heap.size, 3, none⟩ (.int .i64 e)) w.heap.size 4 _ _ (.int .i64 f) hs3
  have hs5 := heap_setCell_same (((((w2.setCell ⟨w.heap.size, 0, none⟩ (.int .i64 a)).setCell ⟨w.heap.size, 1, none⟩ (.int .i64 b)).setCell ⟨w.heap.size, 2, none⟩ (.int .i64 d)).setCell ⟨w.heap.size, 3, none⟩ (.int .i64 e)).setCell ⟨w.heap.size, 4, none⟩ (.int .i64 f)) w.heap.size 5 _ _ (.int .i64 g) hs4
  have hs6 := heap_setCell_same ((((((w2.setCell ⟨w.heap.size, 0, none⟩ (.int .i64 a)).setCell ⟨w.heap.size, 1, none⟩ (.int .i64 b)).setCell ⟨w.heap.size, 2, none⟩ (.int .i64 d)).setCell ⟨w.heap.size, 3, none⟩ (.int .i64 e)).setCell ⟨w.heap.size, 4, none⟩ (.int .i64 f)).setCell ⟨w.heap.size, 5, none⟩ (.int .i64 g)) w.heap.size 6 _ _ (.int .i64 i) hs5
  have hs7 := heap_setCell_same (((((((w2.setCell ⟨w.heap.size, 0, none⟩ (.int .i64 a)).setCell ⟨w.heap.size, 1, none⟩ (.int .i64 b)).setCell ⟨w.heap.size, 2, none⟩ (.int .i64 d)).setCell ⟨w.heap.size, 3, none⟩ (.int .i64 e)).setCell ⟨w.heap.size, 4, none⟩ (.int .i64 f)).setCell ⟨w.heap.size, 5, none⟩ (.int .i64 g)).setCell ⟨w.heap.size, 6, none⟩ (.int .i64 i)) w.heap.size 7 _ _ (.int .i64 j) hs6
  have hs8 := heap_setCell_same ((((((((w2.setCell ⟨w.heap.size, 0, none⟩ (.int .i64 a)).setCell ⟨w.heap.size, 1, none⟩ (.int .i64 b)).setCell ⟨w.heap.size, 2, none⟩ (.int .i64 d)).setCell ⟨w.heap.size, 3, none⟩ (.int .i64 e)).setCell ⟨w.heap.size, 4, none⟩ (.int .i64 f)).setCell ⟨w.heap.size, 5, none⟩ (.int .i64 g)).setCell ⟨w.heap.size, 6, none⟩ (.int .i64 i)).setCell ⟨w.heap.size, 7, none⟩ (.int .i64 j)) w.heap.size 8 _ _ (.int .i64 k) hs7
  have hBz : Below w.heap.size w (((((((((w2.setCell ⟨w.heap.size, 0, none⟩ (.int .i64 a)).setCell ⟨w.heap.size, 1, none⟩ (.int .i64 b)).setCell ⟨w.heap.size, 2, none⟩ (.int .i64 d)).setCell ⟨w.heap.size, 3, none⟩ (.int .i64 e)).setCell ⟨w.heap.size, 4, none⟩ (.int .i64 f)).setCell ⟨w.heap.size, 5, none⟩ (.int .i64 g)).setCell ⟨w.heap.size, 6, none⟩ (.int .i64 i)).setCell ⟨w.heap.size, 7, none⟩ (.int .i64 j)).setCell ⟨w.heap.size, 8, none⟩ (.int .i64 k)) := (((((((((HB3.out.setCell (Nat.le_refl w.heap.size) _).setCell (Nat.le_refl w.heap.size) _).setCell (Nat.le_refl w.heap.size) _).setCell (Nat.le_refl w.heap.size) _).setCell (Nat.le_refl w.heap.size) _).setCell (Nat.le_refl w.heap.size) _).setCell (Nat.le_refl w.heap.size) _).setCell (Nat.le_refl w.heap.size) _).setCell (Nat.le_refl w.heap.size) _)
  generalize (((((((((w2.setCell ⟨w.heap.size, 0, none⟩ (.int .i64 a)).setCell ⟨w.heap.size, 1, none⟩ (.int .i64 b)).setCell ⟨w.heap.size, 2, none⟩ (.int .i64 d)).setCell ⟨w.heap.size, 3, none⟩ (.int .i64 e)).setCell ⟨w.heap.size, 4, none⟩ (.int .i64 f)).setCell ⟨w.heap.size, 5, none⟩ (.int .i64 g)).setCell ⟨w.heap.size, 6, none⟩ (.int .i64 i)).setCell ⟨w.heap.size, 7, none⟩ (.int .i64 j)).setCell ⟨w.heap.size, 8, none⟩ (.int .i64 k)) = W at hs8 hBz ⊢
  simp at hs8
  have hr0 : W.cell? ⟨w.heap.size, 0, none⟩ = some (.int .i64 a) := by simp [World.cell?, hs8]
  have hr1 : W.cell? ⟨w.heap.size, 1, none⟩ = some (.int .i64 b) := by simp [World.cell?, hs8]
  have hr2 : W.cell? ⟨w.heap.size, 2, none⟩ = some (.int .i64 d) := by simp [World.cell?, hs8]
  have hr3 : W.cell? ⟨w.heap.size, 3, none⟩ = some (.int .i64 e) := by simp [World.cell?, hs8]
  have hr4 : W.cell? ⟨w.heap.size, 4, none⟩ = some (.int .i64 f) := by simp [World.cell?, hs8]
  have hr5 : W.cell? ⟨w.heap.size, 5, none⟩ = some (.int .i64 g) := by simp [World.cell?, hs8]
  have hr6 : W.cell? ⟨w.heap.size, 6, none⟩ = some (.int .i64 i) := by simp [World.cell?, hs8]
  have hr7 : W.cell? ⟨w.heap.size, 7, none⟩ = some (.int .i64 j) := by simp [World.cell?, hs8]
  have hr8 : W.cell? ⟨w.heap.size, 8, none⟩ = some (.int .i64 k) := by simp [World.cell?, hs8]
  rw [HV.out]
  (try simp only [Exit.inBlock, Exit.then])
  refine bodyPost_ret (by simp [results, Tryz.results46, go_sem, hr0, hr1, hr2, hr3, hr4, hr5, hr6, hr7, hr8, Result.andThen]; try rfl) rfl ?_
  exact ⟨rfl, hBz⟩
end Go.Proofs.YtlkdjdcnbcegeaaGreatDoor
