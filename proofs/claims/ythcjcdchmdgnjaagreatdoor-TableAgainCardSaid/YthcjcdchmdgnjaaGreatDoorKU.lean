/-
  ref04.IsPoint, ref06.Right and element, table.isPoint and right.
-/
import Derived.Test.YthcjcdchmdgnjaaGreatDoorKT
import Derived.Test.YthcjcdchmdgnjaaGreatDoorKA
namespace Go.Proofs.YthcjcdchmdgnjaaGreatDoor
open Go.RowKit Go.WideShapes
set_option linter.unusedVariables false
set_option maxHeartbeats 1000000 in
theorem tabPoint_any (p : Int) (w : World) : Calls Tryz.prog 11 #[.int .i64 p] w (Ret (.bool (pointB p)) w) := by
  have HB := Lib.hid (Below.refl w.heap.size w)
  go_enter Tryz.func11, Tryz.ntmps11
  go_wp2_with fail
  all_goals (go_ret; refine ret_b ?_ HB.out; unfold pointB; first | exact (decide_eq_true (by omega)).symm | exact (decide_eq_false (by omega)).symm | (rw [Bool.eq_iff_iff]; simp only [Bool.or_eq_true, decide_eq_true_eq]; omega))
set_option maxRecDepth 100000 in
set_option maxHeartbeats 2000000 in
theorem tabRight_any (e : EL) (w : World) : Calls Tryz.prog 14 #[.agg #[.bool e.v, .int .i64 e.p, .int .i64 e.s, .int .i64 e.t]] w (Ret (.bool (rightB e)) w) := by
  obtain ⟨v, p, s, t⟩ := e
  have HB := Lib.hid (below_a2 w)
  simp only
  cases v
  all_goals (
    go_enter Tryz.func14, Tryz.ntmps14
    go_wp2_with fail
    go_loop [4, 13] (fun x i => ∃ (k : Nat), i = .int .i64 k ∧ k ≤ 3 ∧ Hid ((0 < k → 0 ≤ p ∧ p ≤ 65535) ∧ (1 < k → 0 ≤ s ∧ s ≤ 65535) ∧ (2 < k → 0 ≤ t ∧ t ≤ 65535))) (fun _ i => 3 - (intOf i).toNat)
    case atStart => exact ⟨0, rfl, by omega, Lib.hid ⟨fun h => by omega, fun h => by omega, fun h => by omega⟩⟩
    case round =>
      obtain ⟨k, rfl, hk, HK⟩ := hrel
      have hc : k = 0 ∨ k = 1 ∨ k = 2 ∨ k = 3 := by omega
      rcases hc with rfl | rfl | rfl | rfl
      · go_wp2_with fail
        all_goals (first
          | (go_round
             case rel => exact ⟨1, rfl, by omega, Lib.hid ⟨fun h => by omega, fun h => by omega, fun h => by omega⟩⟩
             case measure => simp [intOf])
          | (go_ret; refine ret_b ?_ (HB.out _ _); (clear HB; unfold rightB; simp only; first | exact (decide_eq_true (by omega)).symm | exact (decide_eq_false (by omega)).symm | (simp; done) | (rw [Bool.eq_iff_iff]; simp; omega) | (simp at *; omega) | trace_state)))
      · have hk := HK.out.1 (by omega)
        go_wp2_with fail
        all_goals (first
          | (go_round
             case rel => exact ⟨2, rfl, by omega, Lib.hid ⟨fun h => by omega, fun h => by omega, fun h => by omega⟩⟩
             case measure => simp [intOf])
          | (go_ret; refine ret_b ?_ (HB.out _ _); (clear HB; unfold rightB; simp only; first | exact (decide_eq_true (by omega)).symm | exact (decide_eq_false (by omega)).symm | (simp; done) | (rw [Bool.eq_iff_iff]; simp; omega) | (simp at *; omega) | trace_state)))
      · have hk1 := HK.out.1 (by omega)
        have hk2 := HK.out.2.1 (by omega)
        go_wp2_with fail
        all_goals (first
          | (go_round
             case rel => exact ⟨3, rfl, by omega, Lib.hid ⟨fun h => by omega, fun h => by omega, fun h => by omega⟩⟩
             case measure => simp [intOf])
          | (go_ret; refine ret_b ?_ (HB.out _ _); (clear HB; unfold rightB; simp only; first | exact (decide_eq_true (by omega)).symm | exact (decide_eq_false (by omega)).symm | (simp; done) | (rw [Bool.eq_iff_iff]; simp; omega) | (simp at *; omega) | trace_state)))
      · have hk1 := HK.out.1 (by omega)
        have hk2 := HK.out.2.1 (by omega)
        have hk3 := HK.out.2.2 (by omega)
        go_wp2_with fail
        all_goals (go_ret; refine ret_b ?_ (HB.out _ _); (clear HB; unfold rightB; simp only; first | exact (decide_eq_true (by omega)).symm | exact (decide_eq_false (by omega)).symm | (simp; done) | (rw [Bool.eq_iff_iff]; simp; omega) | (simp at *; omega) | trace_state)))
end Go.Proofs.YthcjcdchmdgnjaaGreatDoor
