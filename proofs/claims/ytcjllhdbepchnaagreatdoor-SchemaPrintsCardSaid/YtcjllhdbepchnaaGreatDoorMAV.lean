/-
  The laws' Is, of what a schema's print tells.
-/
import Derived.Test.YtcjllhdbepchnaaGreatDoorMAS
import Derived.Test.YtcjllhdbepchnaaGreatDoorMAT
namespace Go.Proofs.YtcjllhdbepchnaaGreatDoor
open Go.RowKit Go.WideShapes Ev
set_option linter.unusedVariables false
theorem is_ransP : ([2, 111, 112, 113, 114, 115, 116].all fun code : Int => isTrue (evCall2 (fun _ _ _ => none) Tryz.prog 100000 60 62 [.iface 91 (.pointer (some ⟨48, 0, none⟩)), .iface 34 (.int .i64 code)] ⟨isMem code, 64, 0⟩)) = true := by kernel_rfl
set_option maxRecDepth 100000 in
theorem is_anyP {w0 w : World} {Tb : Nat} {code at_ : Int} {v : Value} (h : laidMetH Tryz.prog Rows.schemaChecksRow.laid w0) (hb0 : Below w0.heap.size w0 w) (hw0 : w0.heap.size ≤ Tb) (hF : FltAt w Tb code at_ v) (hv : opqOK v = true) (hc : code = 2 ∨ (111 ≤ code ∧ code ≤ 116)) :
    Calls Tryz.prog 62 #[.iface 91 (.pointer (some ⟨Tb, 0, none⟩)), .iface 34 (.int .i64 code)] w (Ret (.bool true) w) := by
  have h1 := isMem_hr h hb0 hw0 hF hv
  have hr := List.all_eq_true.1 is_ransP code (by
    have : code = 2 ∨ code = 111 ∨ code = 112 ∨ code = 113 ∨ code = 114 ∨ code = 115 ∨ code = 116 := by omega
    simpa using this)
  exact true_full (plainly_of plainT) mixedT _ _ _ h1 (.cons (.iface _ (.ptr 0 (by simp [EL]))) (.cons (.iface _ (.int _ _)) .nil)) hr
set_option maxRecDepth 100000 in
set_option maxHeartbeats 4000000 in
theorem keepIs_fltP {w0 w : World} {Tb : Nat} {code : Int} {path : List Nat} {A A' : Option Addr} {n c n' c' : Nat} (h : laidMetH Tryz.prog Rows.schemaChecksRow.laid w0) (hb0 : Below w0.heap.size w0 w) (hw0 : w0.heap.size ≤ Tb) (hF : FltAt w Tb code 0 (.slice A n c)) (hc : code = 2 ∨ (111 ≤ code ∧ code ≤ 116))
    (hp : RowAt w w.heap.size (.slice A n c) (pathVals path)) (hq : RowAt w w.heap.size (.slice A' n' c') (pathVals path)) (hl : path.length ≤ 100000) :
    Calls Tryz.prog 32 #[.iface 91 (.pointer (some ⟨Tb, 0, none⟩)), .agg #[.int .i64 code, .int .i64 0, .slice A' n' c']] w (Ret (.bool true) w) := by
  have hTl := hF.lt
  obtain ⟨WA, hWA⟩ : ∃ WA, WA = w.alloc (.cells #[.int .i64 code, .int .i64 0, .slice A' n' c'] 47) := ⟨_, rfl⟩
  have hbA : Below w.heap.size w WA := by rw [hWA]; exact (Below.refl _ _).alloc (Nat.le_refl _) _
  have hzA : WA.heap.size = w.heap.size + 1 := by rw [hWA]; simp
  have hAw : WA.heap[w.heap.size]? = some (.cells #[.int .i64 code, .int .i64 0, .slice A' n' c'] 47 (0, 0)) := by rw [hWA]; exact World.alloc_heap_new w _
  have HA := Lib.hid (as_any (Tb := Tb) (b := WA.heap.size) (wb := WA.alloc (.cells #[.pointer none] 91)) h (hb0.trans (hbA.mono hb0.size)) (Nat.le_refl _) ((Below.refl _ _).alloc (Nat.le_refl _) _) (BoxAt.new WA WA.heap.size _ _ rfl))
  have HFA := Lib.hid (hF.below hbA hTl)
  have HAw := Lib.hid hAw
  have HBA := Lib.hid hbA
  have HIs := Lib.hid (fun (W : World) (hb : Below WA.heap.size WA W) => is_anyP (at_ := 0) (v := .slice A n c) h ((hb0.trans (hbA.mono hb0.size)).trans (hb.mono (by have := hb0.size; omega))) hw0 ((hF.below hbA hTl).below hb (by omega)) rfl hc)
  have HSI := Lib.hid (fun (W : World) (hb : Below w.heap.size w W) => sameInts_any path (.slice A n c) (.slice A' n' c') W ((hp.below hb).more hb.size) ((hq.below hb).more hb.size) hl)
  have hc0 : (code == 0) = false := by rw [beq_eq_false_iff_ne]; omega
  clear hF hbA hAw hc h hb0 hp hq
  have HWA := Lib.hid hWA
  have hbc : (w.alloc (.cells #[.int .i64 code, .int .i64 0, .slice A' n' c'] 47)).cell? ⟨w.heap.size, 0, none⟩ = some (.int .i64 code) := by
    rw [← hWA]; simp [World.cell?, HAw.out]
  clear hWA
  rw [HWA.out] at HA hzA
  simp only [World.size_alloc] at HA
  clear hzA
  go_enter Tryz.func32, Tryz.ntmps32
  go_wp2_with fail
  refine HA.out.mono ?_
  rintro e w1 ⟨rfl, hb1, hf1⟩
  rw [← HWA.out] at hb1
  have HB1 := Lib.hid hb1
  have hzA : WA.heap.size = w.heap.size + 1 := by rw [HWA.out]; simp
  have hz1 := hb1.size
  have HF1 := Lib.hid (HFA.out.below hb1 (by omega))
  obtain ⟨F0, F1, F2, F3⟩ := HF1.out.cells
  have hw1 : w1.heap[w.heap.size]? = some (.cells #[.int .i64 code, .int .i64 0, .slice A' n' c'] 47 (0, 0)) := (hb1.block _ (by omega)).trans HAw.out
  have V0 : w1.cell? ⟨w.heap.size, 0, none⟩ = some (.int .i64 code) := by simp [World.cell?, hw1]
  have V1 : w1.cell? ⟨w.heap.size, 1, none⟩ = some (.int .i64 0) := by simp [World.cell?, hw1]
  have V2 : w1.cell? ⟨w.heap.size, 2, none⟩ = some (.slice A' n' c') := by simp [World.cell?, hw1]
  have f1lt : w.heap.size + 1 < w1.heap.size := by
    have h9 := World.block_lt_of_cell? w1 _ hf1
    exact h9
  clear hw1 HA hb1 hbc
  have HK := fun (W : World) (hb : Below w1.heap.size w1 W) => (⟨(hb.cell (by simp only; omega)).trans hf1, (hb.cell (by simp only; omega)).trans F0, (hb.cell (by simp only; omega)).trans F1, (hb.cell (by simp only; omega)).trans F2, (hb.cell (by simp only; omega)).trans V0, (hb.cell (by simp only; omega)).trans V1, (hb.cell (by simp only; omega)).trans V2⟩ : W.cell? ⟨w.heap.size + 1, 0, none⟩ = some (.pointer (some ⟨Tb, 0, none⟩)) ∧ W.cell? ⟨Tb, 0, none⟩ = some (.int .i64 code) ∧ W.cell? ⟨Tb, 1, none⟩ = some (.int .i64 0) ∧ W.cell? ⟨Tb, 2, none⟩ = some (.slice A n c) ∧ W.cell? ⟨w.heap.size, 0, none⟩ = some (.int .i64 code) ∧ W.cell? ⟨w.heap.size, 1, none⟩ = some (.int .i64 0) ∧ W.cell? ⟨w.heap.size, 2, none⟩ = some (.slice A' n' c'))
  have HK2 := Lib.hid HK
  clear HK
  go_wp2_with fail
  go_region_held3 (fun W => W.cell? ⟨w.heap.size + 1, 0, none⟩ = some (.pointer (some ⟨Tb, 0, none⟩)) ∧ W.cell? ⟨Tb, 0, none⟩ = some (.int .i64 code) ∧ W.cell? ⟨Tb, 1, none⟩ = some (.int .i64 0) ∧ W.cell? ⟨Tb, 2, none⟩ = some (.slice A n c) ∧ W.cell? ⟨w.heap.size, 0, none⟩ = some (.int .i64 code) ∧ W.cell? ⟨w.heap.size, 1, none⟩ = some (.int .i64 0) ∧ W.cell? ⟨w.heap.size, 2, none⟩ = some (.slice A' n' c'))
    (first | exact ⟨hf1, F0, F1, F2, V0, V1, V2⟩ | exact HK2.out _ HS2.out | exact HK2.out _ HS3.out)
    (first
      | (go_at_call 61; refine (HSI.out _ (HBA.out.trans (HB1.out.drew.mono (by omega)))).mono ?_; rintro e w2 ⟨rfl, hb2⟩; have HS2 := Lib.hid (show Below w1.heap.size w1 w2 from (Below.refl _ _).drew.trans (hb2.mono (Nat.le_refl _))))
      | (go_at_call 62; refine (HIs.out _ (by rw [hzA]; exact HB1.out.trans (HS2.out.mono (by omega)))).mono ?_; rintro e w3 ⟨rfl, hb3⟩; have HS3 := Lib.hid (HS2.out.trans (hb3.mono (by have := HS2.out.size; omega)))))
  clear hf1 F0 F1 F2 F3 V0 V1 V2
  go_wp2_with fail
  go_ret
  exact ⟨rfl, HBA.out.trans ((HB1.out.trans (HS3.out.mono (by omega))).mono (by omega))⟩
theorem keepIs_p {r : Int × List Nat} {w0 w : World} {lo hi : Nat} {v vp : Value} (ht : (r.1 = 0 ∧ r.2 = []) ∨ (r.1 = 2 ∧ r.2 = []) ∨ (111 ≤ r.1 ∧ r.1 ≤ 116 ∧ r.2.length ≤ 17)) (h : laidMetH Tryz.prog Rows.schemaChecksRow.laid w0) (hb0 : Below w0.heap.size w0 w) (hlo : w0.heap.size ≤ lo) (he : ErrOwn r lo hi w v) (hq : RowAt w w.heap.size vp (pathVals r.2)) :
    Calls Tryz.prog 32 #[v, .agg #[.int .i64 r.1, .int .i64 0, vp]] w (Ret (.bool true) w) := by
  unfold ErrOwn at he
  obtain ⟨A, c, rfl, hq1, hq2⟩ := id hq
  by_cases h0 : r.1 = 0
  · rw [if_pos h0] at he
    subst he
    rw [h0]
    exact keepIs_none w _ _ _
  · rw [if_neg h0] at he
    obtain ⟨b, p, rfl, hb, hb2, hf, ho, hg⟩ := he
    obtain ⟨A', c', rfl, _, _⟩ := RowAt.of_own ho
    have hc : (r.1 = 2 ∧ r.2 = []) ∨ (111 ≤ r.1 ∧ r.1 ≤ 116 ∧ r.2.length ≤ 17) := ht.resolve_left fun h => h0 h.1
    exact keepIs_fltP h hb0 (by omega) hf (by omega) (RowAt.of_own ho) hq (by rcases hc with h9 | h9 <;> simp_all <;> omega)
end Go.Proofs.YtcjllhdbepchnaaGreatDoor
