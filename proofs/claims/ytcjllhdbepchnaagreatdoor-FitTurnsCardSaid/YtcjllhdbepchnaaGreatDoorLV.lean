/-
  ref00.SameInts of two rows with the same numbers.
-/
import Derived.Test.YtcjllhdbepchnaaGreatDoorLO
import Derived.Deep.RegionHeld3
import Derived.Test.YtcjllhdbepchnaaGreatDoorLP
import Derived.Test.YtcjllhdbepchnaaGreatDoorLU
/-! ref00.SameInts of two rows with the same numbers. -/
namespace Go.Proofs.YtcjllhdbepchnaaGreatDoor
open Go.RowKit Go.WideShapes
set_option linter.unusedVariables false
set_option maxRecDepth 100000 in
set_option maxHeartbeats 1000000 in
theorem sameInts_any (l : List Nat) (v v' : Value) (w : World) (h : RowAt w w.heap.size v (pathVals l)) (h' : RowAt w w.heap.size v' (pathVals l)) (hl : l.length ≤ 100000) : Calls Tryz.prog 61 #[v, v'] w (Ret (.bool true) w) := by
  obtain ⟨A, c, rfl, hc, hcell⟩ := h
  obtain ⟨A', c', rfl, hc', hcell'⟩ := h'
  rw [pathVals_len] at hc hcell hc' hcell' ⊢
  have HC := Lib.hid hcell
  have HC' := Lib.hid hcell'
  have HB0 := Lib.hid (Below.refl w.heap.size w)
  clear hcell hc hcell' hc'
  go_enter Tryz.func61, Tryz.ntmps61
  go_wp2_with fail
  go_loopw [5] (fun i wr => ∃ (k : Nat), i = .int .i64 k ∧ k ≤ l.length ∧ Hid (Below w.heap.size w wr)) (fun i _ => l.length - (intOf i).toNat)
  case atStart => exact ⟨0, rfl, by omega, HB0⟩
  case round =>
    clear HB0
    obtain ⟨k, rfl, hk, HB⟩ := hrel
    have hwz := HB.out.size
    by_cases hlt : k < l.length
    · obtain ⟨b, o, rfl, hb, hca⟩ := HC.out (by omega)
      obtain ⟨b', o', rfl, hb', hca'⟩ := HC'.out (by omega)
      have hck := (hca.keep (fun p hp => HB.out.cell (by omega)) : CellsAt wr b o (pathVals l)) k _ (pathVals_at hlt)
      have hck' := (hca'.keep (fun p hp => HB.out.cell (by omega)) : CellsAt wr b' o' (pathVals l)) k _ (pathVals_at hlt)
      clear hca hca'
      have hkl0 : (0 : Int) ≤ (k : Int) := by omega
      have hkl1 : (k : Int) < (l.length : Int) := by omega
      go_wp2_with fail
      go_region_held3 (fun W => W.cell? ⟨b, o + k, none⟩ = some (.int .i64 (l[k] : Int)) ∧ W.cell? ⟨b', o' + k, none⟩ = some (.int .i64 (l[k] : Int))) (exact ⟨hck, hck'⟩) (fail)
      go_wp2_with fail
      go_roundw
      case rel => exact ⟨k + 1, by go_num, by omega, Lib.hid HB.out.drew⟩
      case measure => simp [intOf]; omega
    · obtain rfl : k = l.length := by omega
      go_wp2_with fail
      go_ret
      exact ⟨rfl, HB.out⟩
end Go.Proofs.YtcjllhdbepchnaaGreatDoor

/-! ref11.Check: what is wrong with a schema. -/
namespace Go.Proofs.YtcjllhdbepchnaaGreatDoor
open Go.RowKit Go.WideShapes
set_option linter.unusedVariables false
/-- A row that does not lie ahead of a place. -/
def Later (lo : Nat) (v : Value) : Prop := ∀ b o n c, v = .slice (some ⟨b, o, none⟩) n c → lo ≤ b
/-- What a check tells. -/
def RCheck (r : Int × List Nat) (w : World) (e : Ending) (w' : World) : Prop := ∃ vp, e = .returned (.agg #[.int .i64 r.1, .int .i64 0, vp]) ∧ Below w.heap.size w w' ∧ RowAt w' w'.heap.size vp (pathVals r.2) ∧ Later w.heap.size vp
set_option maxRecDepth 100000 in
set_option maxHeartbeats 1000000 in
theorem refCheck_any (limit : Int) (l : List FT) (a : Option Addr) (c : Nat) (w : World) (hf : FieldsAt w (· < w.heap.size) l a) (hlc : l.length ≤ c) (hc : c ≤ 140737488351232) :
    Calls Tryz.prog 30 #[.agg #[.int .i64 limit, .slice a l.length c]] w (RCheck (schemaWhy limit l) w) := by
  have HF := Lib.hid hf
  clear hf
  by_cases h1 : limit < 1 ∨ 65536 < limit
  · have HE := Lib.hid (show schemaWhy limit l = (113, []) by unfold schemaWhy; rw [if_pos h1])
    go_enter Tryz.func30, Tryz.ntmps30
    go_wp2_with fail
    all_goals (
      go_returns
      rw [HE.out]
      exact ⟨_, rfl, below_a2 _ _ _, RowAt.nil _ _ _, fun _ _ _ _ e => by cases e⟩)
  · have h1a : ¬ limit < 1 := fun h => h1 (.inl h)
    have h1b : ¬ 65536 < limit := fun h => h1 (.inr h)
    by_cases h2 : l.length = 0
    · have HE := Lib.hid (show schemaWhy limit l = (115, []) by unfold schemaWhy; rw [if_neg h1, if_pos h2])
      obtain rfl := List.eq_nil_of_length_eq_zero h2
      go_enter Tryz.func30, Tryz.ntmps30
      go_wp2_with fail
      go_returns
      rw [HE.out]
      exact ⟨_, rfl, below_a2 _ _ _, RowAt.nil _ _ _, fun _ _ _ _ e => by cases e⟩
    · have h2I : ((l.length : Int) == 0) = false := by rw [beq_eq_false_iff_ne]; omega
      have HB0 := Lib.hid (below_a2 w (Obj.cells #[.int .i64 limit, .slice a l.length c] 24) (Obj.cells #[.int .i64 0, .int .i64 0, .slice none 0 0] 47))
      have HW0 := Lib.hid (WBox.new (w.alloc (Obj.cells #[.int .i64 limit, .slice a l.length c] 24)) (w.heap.size + 1) (by simp))
      have HC := Lib.hid (refWalk_any l a c [] (.slice none 0 0) 0 ((w.alloc (Obj.cells #[.int .i64 limit, .slice a l.length c] 24)).alloc (Obj.cells #[.int .i64 0, .int .i64 0, .slice none 0 0] 47)) ((HF.out.below HB0.out).wide HB0.out.size) hlc hc (by simp) (by omega) (RowAt.nil _ _ _))
      have htold := FT.walkL_told [] [] 0 0 (by simp) (by omega) l
      have hse : schemaWhy limit l = match (FT.walkL [] [] 0 0 l).2 with
        | some e => e
        | none => (0, []) := by unfold schemaWhy; rw [if_neg h1, if_neg h2]; rfl
      obtain ⟨r, hr⟩ : ∃ r, r = FT.walkL [] [] 0 0 l := ⟨_, rfl⟩
      rw [← hr] at hse htold
      have HR := Lib.hid hr
      obtain ⟨m, r⟩ := r
      have HE := Lib.hid hse
      have HT := Lib.hid htold
      clear hr hse htold
      go_enter Tryz.func30, Tryz.ntmps30
      go_wp2_with fail
      refine HC.out.mono ?_
      rintro e w3 ⟨v, rfl, hb3, hv⟩
      rw [← HR.out] at hv
      rw [← HR.out]
      have hz3 := hb3.size
      simp only [World.size_alloc] at hz3
      have HW3 := Lib.hid (HW0.out.below hb3 (by simp))
      have HB3 := Lib.hid (HB0.out.trans (hb3.mono (by simp; omega)))
      clear hb3 HC HW0 HB0
      rcases r with _ | e
      · obtain rfl := hv
        have hwd := HW3.out.below (below_a1 w3 (Obj.cells #[.int .i64 0, .int .i64 0, .slice none 0 0] 47)) (by omega)
        have HBd := HB3.out.alloc (by omega) (Obj.cells #[.int .i64 0, .int .i64 0, .slice none 0 0] 47)
        obtain ⟨g0, g1, g2⟩ := hwd.cells
        have f0 := hwd.free 0
        have f1 := hwd.free 1
        have f2 := hwd.free 2
        go_wp2_with fail
        refine bodyPost_ret (by obtain ⟨q0, q1, q2⟩ := hwd.filled (.int .i64 0) (.int .i64 0) (.slice none 0 0); simp [results, Tryz.results30, go_sem, q0, q1, q2]; try rfl) rfl ?_
        rw [HE.out]
        exact ⟨_, rfl, ((HBd.setCell (by simp only; omega) _).setCell (by simp only; omega) _).setCell (by simp only; omega) _, RowAt.nil _ _ _, fun _ _ _ _ e => by cases e⟩
      · obtain ⟨g7, n7, cap7, rfl, ho7⟩ := hv
        have hba := below_a1 w3 (Obj.cells #[.int .i64 e.1, .int .i64 0, .slice (some ⟨g7, 0, none⟩) n7 cap7] 47)
        have hwd := HW3.out.below hba (by omega)
        have HBd := HB3.out.alloc (by omega) (Obj.cells #[.int .i64 e.1, .int .i64 0, .slice (some ⟨g7, 0, none⟩) n7 cap7] 47)
        have HOd := ho7.below hba
        obtain ⟨g0, g1, g2⟩ := hwd.cells
        have f0 := hwd.free 0
        have f1 := hwd.free 1
        have f2 := hwd.free 2
        go_wp2_with fail
        refine bodyPost_ret (by obtain ⟨q0, q1, q2⟩ := hwd.filled (.int .i64 e.1) (.int .i64 0) (.slice (some ⟨g7, 0, none⟩) n7 cap7); simp [results, Tryz.results30, go_sem, q0, q1, q2]; try rfl) rfl ?_
        rw [HE.out]
        have hlo : w.heap.size + 1 < ((w.alloc (Obj.cells #[.int .i64 limit, .slice a l.length c] 24)).alloc (Obj.cells #[.int .i64 0, .int .i64 0, .slice none 0 0] 47)).heap.size := by simp
        exact ⟨_, rfl, ((HBd.setCell (by simp only; omega) _).setCell (by simp only; omega) _).setCell (by simp only; omega) _, (((HOd.set hlo _).set hlo _).set hlo _).2.2, fun b o n c e => by injection e with e; injection e with e; injection e with e; have := ho7.1; simp at this; omega⟩
end Go.Proofs.YtcjllhdbepchnaaGreatDoor

/-! The laws' Is, of a schema's faults. -/
namespace Go.Proofs.YtcjllhdbepchnaaGreatDoor
open Go.RowKit Go.WideShapes
set_option linter.unusedVariables false
set_option maxRecDepth 100000 in
set_option maxHeartbeats 1000000 in
theorem keepIs_none (w : World) (A : Option Addr) (n c : Nat) : Calls Tryz.prog 32 #[.nilIface, .agg #[.int .i64 0, .int .i64 0, .slice A n c]] w (Ret (.bool true) w) := by
  have HB := Lib.hid (fun o => (Below.refl w.heap.size w).alloc (Nat.le_refl _) o)
  go_enter Tryz.func32, Tryz.ntmps32
  go_wp2_with fail
  go_ret
  exact ⟨rfl, HB.out _⟩
set_option maxRecDepth 100000 in
set_option maxHeartbeats 4000000 in
theorem keepIs_flt {w0 w : World} {Tb : Nat} {code : Int} {path : List Nat} {A A' : Option Addr} {n c n' c' : Nat} (h : laidMetH Tryz.prog Rows.schemaChecksRow.laid w0) (hb0 : Below w0.heap.size w0 w) (hw0 : w0.heap.size ≤ Tb) (hF : FltAt w Tb code 0 (.slice A n c)) (hc : 111 ≤ code ∧ code ≤ 116)
    (hp : RowAt w w.heap.size (.slice A n c) (pathVals path)) (hq : RowAt w w.heap.size (.slice A' n' c') (pathVals path)) (hl : path.length ≤ 100000) :
    Calls Tryz.prog 32 #[.iface 91 (.pointer (some ⟨Tb, 0, none⟩)), .agg #[.int .i64 code, .int .i64 0, .slice A' n' c']] w (Ret (.bool true) w) := by
  have hTl := hF.lt
  obtain ⟨WA, hWA⟩ : ∃ WA, WA = w.alloc (.cells #[.int .i64 code, .int .i64 0, .slice A' n' c'] 47) := ⟨_, rfl⟩
  have hbA : Below w.heap.size w WA := by rw [hWA]; exact (Below.refl _ _).alloc (Nat.le_refl _) _
  have hzA : WA.heap.size = w.heap.size + 1 := by rw [hWA]; simp
  have hAw : WA.heap[w.heap.size]? = some (.cells #[.int .i64 code, .int .i64 0, .slice A' n' c'] 47 (0, 0)) := by rw [hWA]; exact World.alloc_heap_new w _
  have HA := Lib.hid (as_any (Tb := Tb) (b := WA.heap.size) (wb := WA.alloc (.cells #[.pointer none] 91)) h (hb0.trans (hbA.mono hb0.size)) (Nat.le_refl _) ((Below.refl _ _).alloc (Nat.le_refl _) _) (BoxAt.new WA WA.heap.size _ _ rfl))
  have HFA := Lib.hid (hF.below hbA hTl)
  have HAw := Lib.hid hAw
  have HBA := Lib.hid hbA
  have HIs := Lib.hid (fun (W : World) (hb : Below WA.heap.size WA W) => is_any (at_ := 0) (v := .slice A n c) h ((hb0.trans (hbA.mono hb0.size)).trans (hb.mono (by have := hb0.size; omega))) hw0 ((hF.below hbA hTl).below hb (by omega)) rfl hc)
  have HSI := Lib.hid (fun (W : World) (hb : Below w.heap.size w W) => sameInts_any path (.slice A n c) (.slice A' n' c') W ((hp.below hb).more hb.size) ((hq.below hb).more hb.size) hl)
  have hc0 : (code == 0) = false := by rw [beq_eq_false_iff_ne]; omega
  clear hF hbA hAw hc h hb0 hp hq
  have HWA := Lib.hid hWA
  have hbc : (w.alloc (.cells #[.int .i64 code, .int .i64 0, .slice A' n' c'] 47)).cell? ⟨w.heap.size, 0, none⟩ = some (.int .i64 code) := by
    rw [← hWA]; simp [World.cell?, HAw.out]
  clear hWA
  rw [HWA.out] at HA hzA
  simp only [World.size_alloc] at HA
  clear hzA
  go_enter Tryz.func32, Tryz.ntmps32
  go_wp2_with fail
  refine HA.out.mono ?_
  rintro e w1 ⟨rfl, hb1, hf1⟩
  rw [← HWA.out] at hb1
  have HB1 := Lib.hid hb1
  have hzA : WA.heap.size = w.heap.size + 1 := by rw [HWA.out]; simp
  have hz1 := hb1.size
  have HF1 := Lib.hid (HFA.out.below hb1 (by omega))
  obtain ⟨F0, F1, F2, F3⟩ := HF1.out.cells
  have hw1 : w1.heap[w.heap.size]? = some (.cells #[.int .i64 code, .int .i64 0, .slice A' n' c'] 47 (0, 0)) := (hb1.block _ (by omega)).trans HAw.out
  have V0 : w1.cell? ⟨w.heap.size, 0, none⟩ = some (.int .i64 code) := by simp [World.cell?, hw1]
  have V1 : w1.cell? ⟨w.heap.size, 1, none⟩ = some (.int .i64 0) := by simp [World.cell?, hw1]
  have V2 : w1.cell? ⟨w.heap.size, 2, none⟩ = some (.slice A' n' c') := by simp [World.cell?, hw1]
  have f1lt : w.heap.size + 1 < w1.heap.size := by
    have h9 := World.block_lt_of_cell? w1 _ hf1
    exact h9
  clear hw1 HA hb1 hbc
  have HK := fun (W : World) (hb : Below w1.heap.size w1 W) => (⟨(hb.cell (by simp only; omega)).trans hf1, (hb.cell (by simp only; omega)).trans F0, (hb.cell (by simp only; omega)).trans F1, (hb.cell (by simp only; omega)).trans F2, (hb.cell (by simp only; omega)).trans V0, (hb.cell (by simp only; omega)).trans V1, (hb.cell (by simp only; omega)).trans V2⟩ : W.cell? ⟨w.heap.size + 1, 0, none⟩ = some (.pointer (some ⟨Tb, 0, none⟩)) ∧ W.cell? ⟨Tb, 0, none⟩ = some (.int .i64 code) ∧ W.cell? ⟨Tb, 1, none⟩ = some (.int .i64 0) ∧ W.cell? ⟨Tb, 2, none⟩ = some (.slice A n c) ∧ W.cell? ⟨w.heap.size, 0, none⟩ = some (.int .i64 code) ∧ W.cell? ⟨w.heap.size, 1, none⟩ = some (.int .i64 0) ∧ W.cell? ⟨w.heap.size, 2, none⟩ = some (.slice A' n' c'))
  have HK2 := Lib.hid HK
  clear HK
  go_wp2_with fail
  go_region_held3 (fun W => W.cell? ⟨w.heap.size + 1, 0, none⟩ = some (.pointer (some ⟨Tb, 0, none⟩)) ∧ W.cell? ⟨Tb, 0, none⟩ = some (.int .i64 code) ∧ W.cell? ⟨Tb, 1, none⟩ = some (.int .i64 0) ∧ W.cell? ⟨Tb, 2, none⟩ = some (.slice A n c) ∧ W.cell? ⟨w.heap.size, 0, none⟩ = some (.int .i64 code) ∧ W.cell? ⟨w.heap.size, 1, none⟩ = some (.int .i64 0) ∧ W.cell? ⟨w.heap.size, 2, none⟩ = some (.slice A' n' c'))
    (first | exact ⟨hf1, F0, F1, F2, V0, V1, V2⟩ | exact HK2.out _ HS2.out | exact HK2.out _ HS3.out)
    (first
      | (go_at_call 61; refine (HSI.out _ (HBA.out.trans (HB1.out.drew.mono (by omega)))).mono ?_; rintro e w2 ⟨rfl, hb2⟩; have HS2 := Lib.hid (show Below w1.heap.size w1 w2 from (Below.refl _ _).drew.trans (hb2.mono (Nat.le_refl _))))
      | (go_at_call 62; refine (HIs.out _ (by rw [hzA]; exact HB1.out.trans (HS2.out.mono (by omega)))).mono ?_; rintro e w3 ⟨rfl, hb3⟩; have HS3 := Lib.hid (HS2.out.trans (hb3.mono (by have := HS2.out.size; omega)))))
  clear hf1 F0 F1 F2 F3 V0 V1 V2
  go_wp2_with fail
  go_ret
  exact ⟨rfl, HBA.out.trans ((HB1.out.trans (HS3.out.mono (by omega))).mono (by omega))⟩
end Go.Proofs.YtcjllhdbepchnaaGreatDoor
