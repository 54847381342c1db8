/-
  The laws' Is and Why, of faults.
-/
import Derived.Test.YtjgicjgpahnmaaaDoorKT
namespace Go.Proofs.YtjgicjgpahnmaaaDoor
open Go.RowKit Go.WideShapes
set_option linter.unusedVariables false
set_option maxRecDepth 100000 in
set_option maxHeartbeats 1000000 in
theorem sameInts_nil (w : World) : Calls Tryd.prog 36 #[.slice none 0 0, .slice none 0 0] w (Ret (.bool true) w) := by
  have HB := Lib.hid (Below.refl w.heap.size w)
  go_enter Tryd.func36, Tryd.ntmps36
  go_wp2_with fail
  go_rounds 1
  all_goals go_ret
  all_goals exact ⟨rfl, HB.out⟩
set_option maxRecDepth 100000 in
set_option maxHeartbeats 1000000 in
theorem keepIs_ok (w : World) (at_ : Int) : Calls Tryd.prog 16 #[.nilIface, .agg #[.int .i64 0, .int .i64 at_, .slice none 0 0]] w (Ret (.bool true) w) := by
  have HB := Lib.hid (fun o => (Below.refl w.heap.size w).alloc (Nat.le_refl _) o)
  go_enter Tryd.func16, Tryd.ntmps16
  go_wp2_with fail
  go_ret
  exact ⟨rfl, HB.out _⟩
set_option maxRecDepth 100000 in
set_option maxHeartbeats 4000000 in
theorem keepIs_fault {w0 w : World} {Tb : Nat} {code at_ n : Int} (h : laidMetH Tryd.prog Rows.rekeyGoesUptoRow.laid w0) (hb0 : Below w0.heap.size w0 w) (hw0 : w0.heap.size ≤ Tb) (hF : FaultAt w Tb code at_ n) (hc : code = 4 ∨ code = 180) :
    Calls Tryd.prog 16 #[.iface 66 (.pointer (some ⟨Tb, 0, none⟩)), .agg #[.int .i64 code, .int .i64 at_, .slice none 0 0]] w (Ret (.bool true) w) := by
  have hTl := hF.lt
  obtain ⟨WA, hWA⟩ : ∃ WA, WA = w.alloc (.cells #[.int .i64 code, .int .i64 at_, .slice none 0 0] 50) := ⟨_, rfl⟩
  have hbA : Below w.heap.size w WA := by rw [hWA]; exact (Below.refl _ _).alloc (Nat.le_refl _) _
  have hzA : WA.heap.size = w.heap.size + 1 := by rw [hWA]; simp
  have hAw : WA.heap[w.heap.size]? = some (.cells #[.int .i64 code, .int .i64 at_, .slice none 0 0] 50 (0, 0)) := by rw [hWA]; exact World.alloc_heap_new w _
  have HA := Lib.hid (as_any (Tb := Tb) (b := WA.heap.size) (wb := WA.alloc (.cells #[.pointer none] 66)) h (hb0.trans (hbA.mono hb0.size)) (Nat.le_refl _) ((Below.refl _ _).alloc (Nat.le_refl _) _) (BoxAt.new WA WA.heap.size _ _ rfl))
  have HFA := Lib.hid (hF.below hbA hTl)
  have HAw := Lib.hid hAw
  have HBA := Lib.hid hbA
  have HIs := Lib.hid (fun (W : World) (hb : Below WA.heap.size WA W) => is_any (n := n) (at_ := at_) h ((hb0.trans (hbA.mono hb0.size)).trans (hb.mono (by have := hb0.size; omega))) hw0 ((hF.below hbA hTl).below hb (by omega)) hc)
  have HSI := Lib.hid sameInts_nil
  have hc0 : (code == 0) = false := by rcases hc with rfl | rfl <;> rfl
  clear hF hbA hAw hc h hb0
  have HWA := Lib.hid hWA
  have hbc : (w.alloc (.cells #[.int .i64 code, .int .i64 at_, .slice none 0 0] 50)).cell? ⟨w.heap.size, 0, none⟩ = some (.int .i64 code) := by
    rw [← hWA]; simp [World.cell?, HAw.out]
  clear hWA
  rw [HWA.out] at HA hzA
  simp only [World.size_alloc] at HA
  clear hzA
  go_enter Tryd.func16, Tryd.ntmps16
  go_wp2_with fail
  refine HA.out.mono ?_
  rintro e w1 ⟨rfl, hb1, hf1⟩
  rw [← HWA.out] at hb1
  have HB1 := Lib.hid hb1
  have hzA : WA.heap.size = w.heap.size + 1 := by rw [HWA.out]; simp
  have hz1 := hb1.size
  have HF1 := Lib.hid (HFA.out.below hb1 (by omega))
  obtain ⟨F0, F1, F2, F3⟩ := HF1.out.cells
  have hw1 : w1.heap[w.heap.size]? = some (.cells #[.int .i64 code, .int .i64 at_, .slice none 0 0] 50 (0, 0)) := (hb1.block _ (by omega)).trans HAw.out
  have V0 : w1.cell? ⟨w.heap.size, 0, none⟩ = some (.int .i64 code) := by simp [World.cell?, hw1]
  have V1 : w1.cell? ⟨w.heap.size, 1, none⟩ = some (.int .i64 at_) := by simp [World.cell?, hw1]
  have V2 : w1.cell? ⟨w.heap.size, 2, none⟩ = some (.slice none 0 0) := by simp [World.cell?, hw1]
  have HV1 := Lib.hid hw1
  clear hw1 HA hb1 hbc
  go_wp2_with fail
  go_region_law (first
    | (go_simp; go_at_call 36; refine (HSI.out _).mono ?_; rintro e wS ⟨rfl, hbS⟩; have HBS := Lib.hid (HB1.out.drew.trans (hbS.mono (by simp only [World.size_drew]; omega))); have hzS := hbS.size; simp only [World.size_drew] at hzS; have V0' := (hbS.cell (p := ⟨w.heap.size, 0, none⟩) (by simp only [World.size_drew]; omega)).trans V0)
    | (go_simp; go_at_call 37; refine (HIs.out _ (by have h9 := HBS.out; rw [← hzA] at h9; exact h9)).mono ?_; rintro e wI ⟨rfl, hbI⟩; have HBI := Lib.hid (HBS.out.trans (hbI.mono (by omega)))))
  all_goals (
    go_wp2_with fail
    go_ret
    exact ⟨rfl, HBA.out.trans (HBI.out.mono (by omega))⟩)
end Go.Proofs.YtjgicjgpahnmaaaDoor
