/-
  ref11.Check: what is wrong with a schema.
-/
import Derived.Test.YtcjllhdbepchnaaGreatDoorMAA
import Derived.Test.YtcjllhdbepchnaaGreatDoorMZ
import Derived.Deep.RegionHeld3
import Derived.Test.YtcjllhdbepchnaaGreatDoorMAE
import Derived.Test.YtcjllhdbepchnaaGreatDoorMAN
/-! ref11.Check: what is wrong with a schema. -/
namespace Go.Proofs.YtcjllhdbepchnaaGreatDoor
open Go.RowKit Go.WideShapes
set_option linter.unusedVariables false
/-- A row that does not lie ahead of a place. -/
def Later (lo : Nat) (v : Value) : Prop := ∀ b o n c, v = .slice (some ⟨b, o, none⟩) n c → lo ≤ b
/-- What a check tells. -/
def RCheck (r : Int × List Nat) (w : World) (e : Ending) (w' : World) : Prop := ∃ vp, e = .returned (.agg #[.int .i64 r.1, .int .i64 0, vp]) ∧ Below w.heap.size w w' ∧ RowAt w' w'.heap.size vp (pathVals r.2) ∧ Later w.heap.size vp
set_option maxRecDepth 100000 in
set_option maxHeartbeats 1000000 in
theorem refCheck_any (limit : Int) (l : List FT) (a : Option Addr) (c : Nat) (w : World) (hf : FieldsAt w (· < w.heap.size) l a) (hlc : l.length ≤ c) (hc : c ≤ 140737488351232) :
    Calls Tryz.prog 30 #[.agg #[.int .i64 limit, .slice a l.length c]] w (RCheck (schemaWhy limit l) w) := by
  have HF := Lib.hid hf
  clear hf
  by_cases h1 : limit < 1 ∨ 65536 < limit
  · have HE := Lib.hid (show schemaWhy limit l = (113, []) by unfold schemaWhy; rw [if_pos h1])
    go_enter Tryz.func30, Tryz.ntmps30
    go_wp2_with fail
    all_goals (
      go_returns
      rw [HE.out]
      exact ⟨_, rfl, below_a2 _ _ _, RowAt.nil _ _ _, fun _ _ _ _ e => by cases e⟩)
  · have h1a : ¬ limit < 1 := fun h => h1 (.inl h)
    have h1b : ¬ 65536 < limit := fun h => h1 (.inr h)
    by_cases h2 : l.length = 0
    · have HE := Lib.hid (show schemaWhy limit l = (115, []) by unfold schemaWhy; rw [if_neg h1, if_pos h2])
      obtain rfl := List.eq_nil_of_length_eq_zero h2
      go_enter Tryz.func30, Tryz.ntmps30
      go_wp2_with fail
      go_returns
      rw [HE.out]
      exact ⟨_, rfl, below_a2 _ _ _, RowAt.nil _ _ _, fun _ _ _ _ e => by cases e⟩
    · have h2I : ((l.length : Int) == 0) = false := by rw [beq_eq_false_iff_ne]; omega
      have HB0 := Lib.hid (below_a2 w (Obj.cells #[.int .i64 limit, .slice a l.length c] 24) (Obj.cells #[.int .i64 0, .int .i64 0, .slice none 0 0] 47))
      have HW0 := Lib.hid (WBox.new (w.alloc (Obj.cells #[.int .i64 limit, .slice a l.length c] 24)) (w.heap.size + 1) (by simp))
      have HC := Lib.hid (refWalk_any l a c [] (.slice none 0 0) 0 ((w.alloc (Obj.cells #[.int .i64 limit, .slice a l.length c] 24)).alloc (Obj.cells #[.int .i64 0, .int .i64 0, .slice none 0 0] 47)) ((HF.out.below HB0.out).wide HB0.out.size) hlc hc (by simp) (by omega) (RowAt.nil _ _ _))
      have htold := FT.walkL_told [] [] 0 0 (by simp) (by omega) l
      have hse : schemaWhy limit l = match (FT.walkL [] [] 0 0 l).2 with
        | some e => e
        | none => (0, []) := by unfold schemaWhy; rw [if_neg h1, if_neg h2]; rfl
      obtain ⟨r, hr⟩ : ∃ r, r = FT.walkL [] [] 0 0 l := ⟨_, rfl⟩
      rw [← hr] at hse htold
      have HR := Lib.hid hr
      obtain ⟨m, r⟩ := r
      have HE := Lib.hid hse
      have HT := Lib.hid htold
      clear hr hse htold
      go_enter Tryz.func30, Tryz.ntmps30
      go_wp2_with fail
      refine HC.out.mono ?_
      rintro e w3 ⟨v, rfl, hb3, hv⟩
      rw [← HR.out] at hv
      rw [← HR.out]
      have hz3 := hb3.size
      simp only [World.size_alloc] at hz3
      have HW3 := Lib.hid (HW0.out.below hb3 (by simp))
      have HB3 := Lib.hid (HB0.out.trans (hb3.mono (by simp; omega)))
      clear hb3 HC HW0 HB0
      rcases r with _ | e
      · obtain rfl := hv
        have hwd := HW3.out.below (below_a1 w3 (Obj.cells #[.int .i64 0, .int .i64 0, .slice none 0 0] 47)) (by omega)
        have HBd := HB3.out.alloc (by omega) (Obj.cells #[.int .i64 0, .int .i64 0, .slice none 0 0] 47)
        obtain ⟨g0, g1, g2⟩ := hwd.cells
        have f0 := hwd.free 0
        have f1 := hwd.free 1
        have f2 := hwd.free 2
        go_wp2_with fail
        refine bodyPost_ret (by obtain ⟨q0, q1, q2⟩ := hwd.filled (.int .i64 0) (.int .i64 0) (.slice none 0 0); simp [results, Tryz.results30, go_sem, q0, q1, q2]; try rfl) rfl ?_
        rw [HE.out]
        exact ⟨_, rfl, ((HBd.setCell (by simp only; omega) _).setCell (by simp only; omega) _).setCell (by simp only; omega) _, RowAt.nil _ _ _, fun _ _ _ _ e => by cases e⟩
      · obtain ⟨g7, n7, cap7, rfl, ho7⟩ := hv
        have hba := below_a1 w3 (Obj.cells #[.int .i64 e.1, .int .i64 0, .slice (some ⟨g7, 0, none⟩) n7 cap7] 47)
        have hwd := HW3.out.below hba (by omega)
        have HBd := HB3.out.alloc (by omega) (Obj.cells #[.int .i64 e.1, .int .i64 0, .slice (some ⟨g7, 0, none⟩) n7 cap7] 47)
        have HOd := ho7.below hba
        obtain ⟨g0, g1, g2⟩ := hwd.cells
        have f0 := hwd.free 0
        have f1 := hwd.free 1
        have f2 := hwd.free 2
        go_wp2_with fail
        refine bodyPost_ret (by obtain ⟨q0, q1, q2⟩ := hwd.filled (.int .i64 e.1) (.int .i64 0) (.slice (some ⟨g7, 0, none⟩) n7 cap7); simp [results, Tryz.results30, go_sem, q0, q1, q2]; try rfl) rfl ?_
        rw [HE.out]
        have hlo : w.heap.size + 1 < ((w.alloc (Obj.cells #[.int .i64 limit, .slice a l.length c] 24)).alloc (Obj.cells #[.int .i64 0, .int .i64 0, .slice none 0 0] 47)).heap.size := by simp
        exact ⟨_, rfl, ((HBd.setCell (by simp only; omega) _).setCell (by simp only; omega) _).setCell (by simp only; omega) _, (((HOd.set hlo _).set hlo _).set hlo _).2.2, fun b o n c e => by injection e with e; injection e with e; injection e with e; have := ho7.1; simp at this; omega⟩
end Go.Proofs.YtcjllhdbepchnaaGreatDoor

/-! ref00.SameInts of two rows with the same numbers. -/
namespace Go.Proofs.YtcjllhdbepchnaaGreatDoor
open Go.RowKit Go.WideShapes
set_option linter.unusedVariables false
set_option maxRecDepth 100000 in
set_option maxHeartbeats 1000000 in
theorem sameInts_any (l : List Nat) (v v' : Value) (w : World) (h : RowAt w w.heap.size v (pathVals l)) (h' : RowAt w w.heap.size v' (pathVals l)) (hl : l.length ≤ 100000) : Calls Tryz.prog 61 #[v, v'] w (Ret (.bool true) w) := by
  obtain ⟨A, c, rfl, hc, hcell⟩ := h
  obtain ⟨A', c', rfl, hc', hcell'⟩ := h'
  rw [pathVals_len] at hc hcell hc' hcell' ⊢
  have HC := Lib.hid hcell
  have HC' := Lib.hid hcell'
  have HB0 := Lib.hid (Below.refl w.heap.size w)
  clear hcell hc hcell' hc'
  go_enter Tryz.func61, Tryz.ntmps61
  go_wp2_with fail
  go_loopw [5] (fun i wr => ∃ (k : Nat), i = .int .i64 k ∧ k ≤ l.length ∧ Hid (Below w.heap.size w wr)) (fun i _ => l.length - (intOf i).toNat)
  case atStart => exact ⟨0, rfl, by omega, HB0⟩
  case round =>
    clear HB0
    obtain ⟨k, rfl, hk, HB⟩ := hrel
    have hwz := HB.out.size
    by_cases hlt : k < l.length
    · obtain ⟨b, o, rfl, hb, hca⟩ := HC.out (by omega)
      obtain ⟨b', o', rfl, hb', hca'⟩ := HC'.out (by omega)
      have hck := (hca.keep (fun p hp => HB.out.cell (by omega)) : CellsAt wr b o (pathVals l)) k _ (pathVals_at hlt)
      have hck' := (hca'.keep (fun p hp => HB.out.cell (by omega)) : CellsAt wr b' o' (pathVals l)) k _ (pathVals_at hlt)
      clear hca hca'
      have hkl0 : (0 : Int) ≤ (k : Int) := by omega
      have hkl1 : (k : Int) < (l.length : Int) := by omega
      go_wp2_with fail
      go_region_held3 (fun W => W.cell? ⟨b, o + k, none⟩ = some (.int .i64 (l[k] : Int)) ∧ W.cell? ⟨b', o' + k, none⟩ = some (.int .i64 (l[k] : Int))) (exact ⟨hck, hck'⟩) (fail)
      go_wp2_with fail
      go_roundw
      case rel => exact ⟨k + 1, by go_num, by omega, Lib.hid HB.out.drew⟩
      case measure => simp [intOf]; omega
    · obtain rfl : k = l.length := by omega
      go_wp2_with fail
      go_ret
      exact ⟨rfl, HB.out⟩
end Go.Proofs.YtcjllhdbepchnaaGreatDoor

/-! The laws' Is, of a schema's faults. -/
namespace Go.Proofs.YtcjllhdbepchnaaGreatDoor
open Go.RowKit Go.WideShapes
set_option linter.unusedVariables false
set_option maxRecDepth 100000 in
set_option maxHeartbeats 1000000 in
theorem keepIs_none (w : World) (A : Option Addr) (n c : Nat) : Calls Tryz.prog 32 #[.nilIface, .agg #[.int .i64 0, .int .i64 0, .slice A n c]] w (Ret (.bool true) w) := by
  have HB := Lib.hid (fun o => (Below.refl w.heap.size w).alloc (Nat.le_refl _) o)
  go_enter Tryz.func32, Tryz.ntmps32
  go_wp2_with fail
  go_ret
  exact ⟨rfl, HB.out _⟩
set_option maxRecDepth 100000 in
set_option maxHeartbeats 4000000 in
theorem keepIs_flt {w0 w : World} {Tb : Nat} {code : Int} {path : List Nat} {A A' : Option Addr} {n c n' c' : Nat} (h : laidMetH Tryz.prog Rows.schemaChecksRow.laid w0) (hb0 : Below w0.heap.size w0 w) (hw0 : w0.heap.size ≤ Tb) (hF : FltAt w Tb code 0 (.slice A n c)) (hc : 111 ≤ code ∧ code ≤ 116)
    (hp : RowAt w w.heap.size (.slice A n c) (pathVals path)) (hq : RowAt w w.heap.size (.slice A' n' c') (pathVals path)) (hl : path.length ≤ 100000) :
    Calls Tryz.prog 32 #[.iface 91 (.pointer (some ⟨Tb, 0, none⟩)), .agg #[.int .i64 code, .int .i64 0, .slice A' n' c']] w (Ret (.bool true) w) := by
  have hTl := hF.lt
  obtain ⟨WA, hWA⟩ : ∃ WA, WA = w.alloc (.cells #[.int .i64 code, .int .i64 0, .slice A' n' c'] 47) := ⟨_, rfl⟩
  have hbA : Below w.heap.size w WA := by rw [hWA]; exact (Below.refl _ _).alloc (Nat.le_refl _) _
  have hzA : WA.heap.size = w.heap.size + 1 := by rw [hWA]; simp
  have hAw : WA.heap[w.heap.size]? = some (.cells #[.int .i64 code, .int .i64 0, .slice A' n' c'] 47 (0, 0)) := by rw [hWA]; exact World.alloc_heap_new w _
  have HA := Lib.hid (as_any (Tb := Tb) (b := WA.heap.size) (wb := WA.alloc (.cells #[.pointer none] 91)) h (hb0.trans (hbA.mono hb0.size)) (Nat.le_refl _) ((Below.refl _ _).alloc (Nat.le_refl _) _) (BoxAt.new WA WA.heap.size _ _ rfl))
  have HFA := Lib.hid (hF.below hbA hTl)
  have HAw := Lib.hid hAw
  have HBA := Lib.hid hbA
  have HIs := Lib.hid (fun (W : World) (hb : Below WA.heap.size WA W) => is_any (at_ := 0) (v := .slice A n c) h ((hb0.trans (hbA.mono hb0.size)).trans (hb.mono (by have := hb0.size; omega))) hw0 ((hF.below hbA hTl).below hb (by omega)) rfl hc)
  have HSI := Lib.hid (fun (W : World) (hb : Below w.heap.size w W) => sameInts_any path (.slice A n c) (.slice A' n' c') W ((hp.below hb).more hb.size) ((hq.below hb).more hb.size) hl)
  have hc0 : (code == 0) = false := by rw [beq_eq_false_iff_ne]; omega
  clear hF hbA hAw hc h hb0 hp hq
  have HWA := Lib.hid hWA
  have hbc : (w.alloc (.cells #[.int .i64 code, .int .i64 0, .slice A' n' c'] 47)).cell? ⟨w.heap.size, 0, none⟩ = some (.int .i64 code) := by
    rw [← hWA]; simp [World.cell?, HAw.out]
  clear hWA
  rw [HWA.out] at HA hzA
  simp only [World.size_alloc] at HA
  clear hzA
  go_enter Tryz.func32, Tryz.ntmps32
  go_wp2_with fail
  refine HA.out.mono ?_
  rintro e w1 ⟨rfl, hb1, hf1⟩
  rw [← HWA.out] at hb1
  have HB1 := Lib.hid hb1
  have hzA : WA.heap.size = w.heap.size + 1 := by rw [HWA.out]; simp
  have hz1 := hb1.size
  have HF1 := Lib.hid (HFA.out.below hb1 (by omega))
  obtain ⟨F0, F1, F2, F3⟩ := HF1.out.cells
  have hw1 : w1.heap[w.heap.size]? = some (.cells #[.int .i64 code, .int .i64 0, .slice A' n' c'] 47 (0, 0)) := (hb1.block _ (by omega)).trans HAw.out
  have V0 : w1.cell? ⟨w.heap.size, 0, none⟩ = some (.int .i64 code) := by simp [World.cell?, hw1]
  have V1 : w1.cell? ⟨w.heap.size, 1, none⟩ = some (.int .i64 0) := by simp [World.cell?, hw1]
  have V2 : w1.cell? ⟨w.heap.size, 2, none⟩ = some (.slice A' n' c') := by simp [World.cell?, hw1]
  have f1lt : w.heap.size + 1 < w1.heap.size := by
    have h9 := World.block_lt_of_cell? w1 _ hf1
    exact h9
  clear hw1 HA hb1 hbc
  have HK := fun (W : World) (hb : Below w1.heap.size w1 W) => (⟨(hb.cell (by simp only; omega)).trans hf1, (hb.cell (by simp only; omega)).trans F0, (hb.cell (by simp only; omega)).trans F1, (hb.cell (by simp only; omega)).trans F2, (hb.cell (by simp only; omega)).trans V0, (hb.cell (by simp only; omega)).trans V1, (hb.cell (by simp only; omega)).trans V2⟩ : W.cell? ⟨w.heap.size + 1, 0, none⟩ = some (.pointer (some ⟨Tb, 0, none⟩)) ∧ W.cell? ⟨Tb, 0, none⟩ = some (.int .i64 code) ∧ W.cell? ⟨Tb, 1, none⟩ = some (.int .i64 0) ∧ W.cell? ⟨Tb, 2, none⟩ = some (.slice A n c) ∧ W.cell? ⟨w.heap.size, 0, none⟩ = some (.int .i64 code) ∧ W.cell? ⟨w.heap.size, 1, none⟩ = some (.int .i64 0) ∧ W.cell? ⟨w.heap.size, 2, none⟩ = some (.slice A' n' c'))
  have HK2 := Lib.hid HK
  clear HK
  go_wp2_with fail
  go_region_held3 (fun W => W.cell? ⟨w.heap.size + 1, 0, none⟩ = some (.pointer (some ⟨Tb, 0, none⟩)) ∧ W.cell? ⟨Tb, 0, none⟩ = some (.int .i64 code) ∧ W.cell? ⟨Tb, 1, none⟩ = some (.int .i64 0) ∧ W.cell? ⟨Tb, 2, none⟩ = some (.slice A n c) ∧ W.cell? ⟨w.heap.size, 0, none⟩ = some (.int .i64 code) ∧ W.cell? ⟨w.heap.size, 1, none⟩ = some (.int .i64 0) ∧ W.cell? ⟨w.heap.size, 2, none⟩ = some (.slice A' n' c'))
    (first | exact ⟨hf1, F0, F1, F2, V0, V1, V2⟩ | exact HK2.out _ HS2.out | exact HK2.out _ HS3.out)
    (first
      | (go_at_call 61; refine (HSI.out _ (HBA.out.trans (HB1.out.drew.mono (by omega)))).mono ?_; rintro e w2 ⟨rfl, hb2⟩; have HS2 := Lib.hid (show Below w1.heap.size w1 w2 from (Below.refl _ _).drew.trans (hb2.mono (Nat.le_refl _))))
      | (go_at_call 62; refine (HIs.out _ (by rw [hzA]; exact HB1.out.trans (HS2.out.mono (by omega)))).mono ?_; rintro e w3 ⟨rfl, hb3⟩; have HS3 := Lib.hid (HS2.out.trans (hb3.mono (by have := HS2.out.size; omega)))))
  clear hf1 F0 F1 F2 F3 V0 V1 V2
  go_wp2_with fail
  go_ret
  exact ⟨rfl, HBA.out.trans ((HB1.out.trans (HS3.out.mono (by omega))).mono (by omega))⟩
end Go.Proofs.YtcjllhdbepchnaaGreatDoor

/-! keep.Spoil: a fault's lists written over. -/
namespace Go.Proofs.YtcjllhdbepchnaaGreatDoor
open Go.RowKit Go.WideShapes
set_option linter.unusedVariables false
/-- Nothing but two blocks, and new ones, is written. -/
structure Spo (x y : Nat) (w w' : World) : Prop where
  os : w'.os = w.os
  tape : w'.tape = w.tape
  output : w'.output = w.output
  size : w.heap.size ≤ w'.heap.size
  block : ∀ b, b < w.heap.size → b ≠ x → b ≠ y → w'.heap[b]? = w.heap[b]?
section
variable {x y : Nat} {w w' : World}
theorem Spo.of {B : Nat} (h : Below B w w') (hB : w.heap.size ≤ B) : Spo x y w w' := ⟨h.os, h.tape, h.output, h.size, fun b hb _ _ => h.block b (by omega)⟩
theorem Spo.set (h : Spo x y w w') {p : Addr} (hp : p.block = x ∨ p.block = y) (u : Value) : Spo x y w (w'.setCell p u) :=
  ⟨h.os, h.tape, h.output, by simpa using h.size, fun b hb h1 h2 => (Below.heap_setCell _ _ _ _ (by omega)).trans (h.block b hb h1 h2)⟩
theorem Spo.below {B : Nat} (h : Spo x y w w') (hx : B ≤ x) (hy : B ≤ y) (hB : B ≤ w.heap.size) : Below B w w' := ⟨h.os, h.tape, h.output, h.size, fun k hk => h.block k (by omega) (by omega) (by omega)⟩
end
theorem FltAt.other {w : World} {b : Nat} {code at_ : Int} {v : Value} (h : FltAt w b code at_ v) {p : Addr} (hp : p.block ≠ b) (u : Value) : FltAt (w.setCell p u) b code at_ v := (Below.heap_setCell _ _ _ _ (by omega)).trans h
set_option maxRecDepth 100000 in
set_option maxHeartbeats 1000000 in
theorem spoil_none (w : World) : Calls Tryz.prog 18 #[.nilIface] w fun e w' => e = .returned (.tuple #[]) ∧ Below w.heap.size w w' := by
  have HB := Lib.hid (fun o => (Below.refl w.heap.size w).alloc (Nat.le_refl _) o)
  go_enter Tryz.func18, Tryz.ntmps18
  go_wp2_with fail
  go_end0
  exact ⟨rfl, HB.out _⟩
set_option maxRecDepth 100000 in
set_option maxHeartbeats 2000000 in
theorem spoil_nil {w0 w : World} {Tb : Nat} {code : Int} (h : laidMetH Tryz.prog Rows.schemaChecksRow.laid w0) (hb0 : Below w0.heap.size w0 w) (hF : FltAt w Tb code 0 (.slice none 0 0)) :
    Calls Tryz.prog 18 #[.iface 91 (.pointer (some ⟨Tb, 0, none⟩))] w fun e w' => e = .returned (.tuple #[]) ∧ Spo Tb Tb w w' := by
  have hTl := hF.lt
  have HA := Lib.hid (as_any (Tb := Tb) (b := w.heap.size) (wb := w.alloc (.cells #[.pointer none] 91)) h hb0 (Nat.le_refl _) ((Below.refl _ _).alloc (Nat.le_refl _) _) (BoxAt.new w w.heap.size _ _ rfl))
  have HF := Lib.hid hF
  clear hF h hb0
  go_enter Tryz.func18, Tryz.ntmps18
  go_wp2_with fail
  refine HA.out.mono ?_
  rintro e w1 ⟨rfl, hb1, hf1⟩
  have HF1 := Lib.hid (HF.out.below hb1 hTl)
  have HS1 := Lib.hid (Spo.of (x := Tb) (y := Tb) hb1 (Nat.le_refl _))
  obtain ⟨F0, F1, F2, F3⟩ := HF1.out.cells
  have fz := HF1.out.free 1
  clear HA hb1
  go_wp2_with fail
  go_rounds 1
  all_goals go_end0
  all_goals exact ⟨rfl, HS1.out.set (.inl rfl) _⟩
set_option maxRecDepth 100000 in
set_option maxHeartbeats 2000000 in
theorem spoil_row {w0 w : World} {Tb g n c : Nat} {code : Int} (h : laidMetH Tryz.prog Rows.schemaChecksRow.laid w0) (hb0 : Below w0.heap.size w0 w) (hF : FltAt w Tb code 0 (.slice (some ⟨g, 0, none⟩) n c)) (hg : ∃ cur, w.heap[g]? = some (.cells cur 3 (0, 0)) ∧ n ≤ cur.size) (hn : n ≤ 100000) :
    Calls Tryz.prog 18 #[.iface 91 (.pointer (some ⟨Tb, 0, none⟩))] w fun e w' => e = .returned (.tuple #[]) ∧ Spo Tb g w w' := by
  have hTl := hF.lt
  have hgl : g < w.heap.size := by obtain ⟨cur, h1, _⟩ := hg; exact (Array.getElem?_eq_some_iff.1 h1).1
  have hne : g ≠ Tb := by
    rintro rfl
    obtain ⟨cur, h1, _⟩ := hg
    rw [show w.heap[g]? = _ from hF] at h1
    simp at h1
  have HA := Lib.hid (as_any (Tb := Tb) (b := w.heap.size) (wb := w.alloc (.cells #[.pointer none] 91)) h hb0 (Nat.le_refl _) ((Below.refl _ _).alloc (Nat.le_refl _) _) (BoxAt.new w w.heap.size _ _ rfl))
  have HF := Lib.hid hF
  have HG := Lib.hid hg
  clear hF h hb0 hg
  go_enter Tryz.func18, Tryz.ntmps18
  go_wp2_with fail
  refine HA.out.mono ?_
  rintro e w1 ⟨rfl, hb1, hf1⟩
  have HF1 := Lib.hid (HF.out.below hb1 hTl)
  have HS1 := Lib.hid (Spo.of (x := Tb) (y := g) hb1 (Nat.le_refl _))
  have HG1 := Lib.hid (show ∃ cur, w1.heap[g]? = some (.cells cur 3 (0, 0)) ∧ n ≤ cur.size by obtain ⟨cur, h1, h2⟩ := HG.out; exact ⟨cur, (hb1.block g hgl).trans h1, h2⟩)
  have HC1 := Lib.hid hf1
  clear HA hb1 hf1
  have hf1 := HC1.out
  go_wp2_with fail
  clear hf1
  go_loopw [3] (fun i wr => ∃ k : Nat, i = .int .i64 k ∧ k ≤ n ∧ Hid (Spo Tb g w wr) ∧ Hid (FltAt wr Tb code 0 (.slice (some ⟨g, 0, none⟩) n c)) ∧ Hid (∃ cur, wr.heap[g]? = some (.cells cur 3 (0, 0)) ∧ n ≤ cur.size) ∧ Hid (wr.cell? ⟨w.heap.size, 0, none⟩ = some (.pointer (some ⟨Tb, 0, none⟩)))) (fun i _ => n - (intOf i).toNat)
  case atStart => exact ⟨0, rfl, by omega, HS1, HF1, HG1, HC1⟩
  case round =>
    clear HS1 HF1 HG1 HC1
    obtain ⟨k, rfl, hk, HS, HFr, HGr, HC⟩ := hrel
    obtain ⟨F0, F1, F2, F3⟩ := HFr.out.cells
    have hf1 := HC.out
    by_cases hlt : k < n
    · obtain ⟨cur, h1, h2⟩ := HGr.out
      have g0 : wr.cell? ⟨g, k, none⟩ = some cur[k] := by simp [World.cell?, h1]
      have z0 : wr.frozen? ⟨g, k, none⟩ = false := by simp [World.frozen?, h1]
      have HS' := Lib.hid (HS.out.set (p := ⟨g, k, none⟩) (.inr rfl) (.int .i64 (-7)))
      have HF' := Lib.hid (HFr.out.other (p := ⟨g, k, none⟩) hne (.int .i64 (-7)))
      have HG' := Lib.hid (show ∃ cur, (wr.setCell ⟨g, k, none⟩ (.int .i64 (-7))).heap[g]? = some (.cells cur 3 (0, 0)) ∧ n ≤ cur.size from ⟨cur.setIfInBounds k (.int .i64 (-7)), by simp [World.setCell, Array.getElem?_modify, h1], by simpa using h2⟩)
      have HC' := Lib.hid (show (wr.setCell ⟨g, k, none⟩ (.int .i64 (-7))).cell? ⟨w.heap.size, 0, none⟩ = some (.pointer (some ⟨Tb, 0, none⟩)) by rw [World.cell?_setCell_other _ _ _ _ (by simp <;> omega)]; exact HC.out)
      go_wp2_with fail
      go_roundw
      case rel => exact ⟨k + 1, by go_num, by omega, HS', HF', HG', HC'⟩
      case measure => simp [intOf]; omega
    · obtain rfl : k = n := by omega
      have fz := HFr.out.free 1
      have HS' := Lib.hid (HS.out.set (p := ⟨Tb, 1, none⟩) (.inl rfl) (.int .i64 (-9)))
      go_wp2_with fail
      go_end0
      exact ⟨rfl, HS'.out⟩
end Go.Proofs.YtcjllhdbepchnaaGreatDoor

/-! keep.WriteFields: fields written over, in the blocks that were lent. -/
namespace Go.Proofs.YtcjllhdbepchnaaGreatDoor
open Go.RowKit Go.WideShapes
set_option linter.unusedVariables false
/-- Nothing but the blocks from g up to hi, and new ones, is written. -/
structure Scr (g hi : Nat) (w w' : World) : Prop where
  os : w'.os = w.os
  tape : w'.tape = w.tape
  output : w'.output = w.output
  size : w.heap.size ≤ w'.heap.size
  block : ∀ b, b < w.heap.size → (b < g ∨ hi ≤ b) → w'.heap[b]? = w.heap[b]?
section
variable {g hi g' hi' : Nat} {w w' w2 : World}
theorem Scr.refl (g hi : Nat) (w : World) : Scr g hi w w := ⟨rfl, rfl, rfl, Nat.le_refl _, fun _ _ _ => rfl⟩
theorem Scr.trans (h : Scr g hi w w') (k : Scr g hi w' w2) : Scr g hi w w2 :=
  ⟨k.os.trans h.os, k.tape.trans h.tape, k.output.trans h.output, Nat.le_trans h.size k.size, fun b hb hs => (k.block b (Nat.lt_of_lt_of_le hb h.size) hs).trans (h.block b hb hs)⟩
theorem Scr.more (h : Scr g hi w w') (h1 : g' ≤ g) (h2 : hi ≤ hi') : Scr g' hi' w w' := ⟨h.os, h.tape, h.output, h.size, fun b hb hs => h.block b hb (by omega)⟩
theorem Scr.alloc (h : Scr g hi w w') (o : Obj) : Scr g hi w (w'.alloc o) := ⟨h.os, h.tape, h.output, by have := h.size; simp; omega, fun b hb hs => (Below.heap_alloc w' o b (Nat.lt_of_lt_of_le hb h.size)).trans (h.block b hb hs)⟩
theorem Scr.drew (h : Scr g hi w w') : Scr g hi w w'.drew := ⟨h.os, h.tape, h.output, h.size, h.block⟩
theorem Scr.puts (h : Scr g hi w w') {b : Nat} (h1 : g ≤ b) (h2 : b < hi) (o : Nat) (vs : List Value) : Scr g hi w (w'.setCells b o vs) := by
  have hb := below_puts (Below.refl 0 w') b (Nat.zero_le _) vs o
  exact ⟨hb.os.trans h.os, hb.tape.trans h.tape, hb.output.trans h.output, Nat.le_trans h.size hb.size, fun c hc hs => (setCells_heap b vs o w' (by omega)).trans (h.block c hc hs)⟩
theorem Scr.below {B : Nat} (h : Scr g hi w w') (hB : B ≤ g) (hw : B ≤ w.heap.size) : Below B w w' := ⟨h.os, h.tape, h.output, h.size, fun k hk => h.block k (by omega) (.inl (by omega))⟩
end
/-- What is left of a list that is written over. -/
structure Rest (w : World) (l : List FT) (g k hi : Nat) : Prop where
  blk : ∃ cur, w.heap[g]? = some (.cells cur 57 (0, 0)) ∧ cur.size = (l.length + 2) * 14
  it : ∃ hs gs : Nat → Nat, g < hs 0 ∧ hs l.length ≤ hi ∧ (∀ i, i < l.length → hs i ≤ gs i ∧ gs i < hs (i + 1)) ∧ ∀ i (h : i < l.length), k ≤ i → CellsAt w g (i * 14) (fieldCells l[i] (some ⟨gs i, 0, none⟩) (l[i].fields.length + 2)) ∧ LentAt w l[i].fields (gs i) (hs (i + 1))
section
variable {w w' : World} {l : List FT} {g k hi : Nat}
theorem Rest.start (h : LentAt w l g hi) : Rest w l g 0 hi := by
  cases h with
  | mk hs gs blk hl m1 m2 h0 h1 it sub => exact ⟨blk, hs, gs, h0, h1, fun i hi => ⟨(it i hi).1, (it i hi).2.1⟩, fun i hi _ => ⟨(it i hi).2.2.2, sub i hi⟩⟩
theorem Rest.there (h : Rest w l g k hi) {i : Nat} (hi : i < l.length + 2) : w.there g (i * 14) 14 := blk_there h.blk (by omega)
theorem Rest.lt (h : Rest w l g k hi) : g < w.heap.size := by obtain ⟨cur, h1, _⟩ := h.blk; exact (Array.getElem?_eq_some_iff.1 h1).1
/-- One field more: what is within it is written over, then it. -/
theorem Rest.next (h : Rest w l g k hi) (hh : hi ≤ w.heap.size) (hk : k < l.length) : ∃ gk hk', CellsAt w g (k * 14) (fieldCells l[k] (some ⟨gk, 0, none⟩) (l[k].fields.length + 2)) ∧ LentAt w l[k].fields gk hk' ∧ g < gk ∧ hk' ≤ hi ∧
    ∀ w2, Scr gk hk' w w2 → (∃ cur, w2.heap[g]? = some (.cells cur 57 (0, 0)) ∧ cur.size = (l.length + 2) * 14) ∧ ∀ vs : List Value, vs.length = 14 → Rest (w2.setCells g (k * 14) vs) l g (k + 1) hi := by
  have hg := h.lt
  obtain ⟨cur, c1, c2⟩ := h.blk
  obtain ⟨hs, gs, h0, h1, hp, it⟩ := h.it
  have hm := hs_mono hp
  have hk0 := hm k (by omega) 0 (by omega)
  have hk1 := hm l.length (Nat.le_refl _) (k + 1) (by omega)
  have hk2 := hp k hk
  refine ⟨gs k, hs (k + 1), (it k hk (Nat.le_refl _)).1, (it k hk (Nat.le_refl _)).2, by omega, by omega, fun w2 hw2 => ?_⟩
  have hb2 := hw2.block g hg (.inl (by omega))
  have hblk : ∃ cur, w2.heap[g]? = some (.cells cur 57 (0, 0)) ∧ cur.size = (l.length + 2) * 14 := ⟨cur, hb2.trans c1, c2⟩
  refine ⟨hblk, fun vs hv => ⟨setCells_blk g _ _ _ _ _ hblk, hs, gs, h0, h1, hp, fun i hi hki => ⟨?_, ?_⟩⟩⟩
  · exact CellsAt.apart ((it i hi (by omega)).1.keep fun p hp => cell_of_heap (by rw [hp]; exact hb2)) _ _ _ (.inr (.inr (by rw [hv]; omega)))
  · refine (it i hi (by omega)).2.keep fun b hb1 hb2 => ?_
    have h3 := hm i (by omega) (k + 1) (by omega)
    have h4 := hp i hi
    have h5 := hm l.length (Nat.le_refl _) (i + 1) (by omega)
    rw [setCells_heap g _ _ _ (by omega)]
    exact hw2.block b (by omega) (.inr (by omega))
end
def WriteFAny (l : List FT) : Prop := ∀ (g hi : Nat) (w : World), LentAt w l g hi → hi ≤ w.heap.size → Slim l → Calls Tryz.prog 33 #[.slice (some ⟨g, 0, none⟩) l.length (l.length + 2)] w fun e w' => e = .returned (.tuple #[]) ∧ Scr g hi w w'
set_option maxRecDepth 100000 in
set_option maxHeartbeats 2000000 in
theorem writeF_step (l : List FT) (ih : ∀ x ∈ l, WriteFAny x.fields) : WriteFAny l := by
  intro g hi w hx hh hsl
  have hlen := hsl.len
  have hgh := hx.lt
  obtain ⟨N, hN1, hN2⟩ : ∃ N, l.length + 2 ≤ N ∧ N ≤ l.length + 2 := ⟨_, Nat.le_refl _, Nat.le_refl _⟩
  obtain ⟨i0, hi0, hz0, hz1, hz2⟩ := info_parts field_info
  have HSm := Lib.hid (fun x (hx : x ∈ l) => hsl.sub hx)
  have HIH := Lib.hid ih
  have HS0 := Lib.hid (Scr.refl g hi w)
  have HR0 := Lib.hid (Rest.start hx)
  have hNN : l.length + 2 = N := by omega
  rw [hNN]
  clear hx ih hNN hsl
  go_enter Tryz.func33, Tryz.ntmps33
  go_wp2_with fail
  go_loopw [2] (fun i wr => ∃ (k : Nat), i = .int .i64 k ∧ k ≤ l.length ∧ Hid (Scr g hi w wr) ∧ Hid (Rest wr l g k hi)) (fun i _ => l.length - (intOf i).toNat)
  case atStart => exact ⟨0, rfl, by omega, HS0, HR0⟩
  case round =>
    clear HS0 HR0
    obtain ⟨k, rfl, hk, HS, HR⟩ := hrel
    have hwz := HS.out.size
    by_cases hlt : k < l.length
    · obtain ⟨gk, hk', hcs, hsub, hgk, hkh, hnext⟩ := HR.out.next (by omega) hlt
      have k13 := hcs.field.2.2.2.2.2.2.2.2.2.2.2.2.2
      have HSub := Lib.hid hsub
      have HNx := Lib.hid hnext
      clear hcs hsub hnext
      go_wp2_with fail
      refine (HIH.out l[k] (List.getElem_mem hlt) gk hk' wr HSub.out (by omega) (HSm.out _ (List.getElem_mem hlt))).mono ?_
      rintro e w2 ⟨rfl, hs2⟩
      obtain ⟨hblk, hn⟩ := HNx.out w2 hs2
      obtain ⟨u0, u1, u2, u3, u4, u5, u6, u7, u8, u9, u10, u11, u12, u13, s0, s1, s2, s3, s4, s5, s6, s7, s8, s9, s10, s11, s12, s13, f0, f1, f2, f3, f4, f5, f6, f7, f8, f9, f10, f11, f12, f13⟩ := there14 (blk_there hblk (o := k * 14) (m := 14) (by omega)) (.string ⟨#[119, 114, 105, 116, 116, 101, 110]⟩) (.int .u8 77) (.bool false) (.int .u8 0) (.bool false) (.bool false) (.string ⟨#[]⟩) (.bool false) (.string ⟨#[]⟩) (.int .i64 0) (.int .i64 0) (.bool false) (.bool false)
      have HR' := Lib.hid (hn [.string ⟨#[119, 114, 105, 116, 116, 101, 110]⟩, .int .u8 77, .bool false, .int .u8 0, .bool false, .bool false, .string ⟨#[]⟩, .bool false, .string ⟨#[]⟩, .int .i64 0, .int .i64 0, .bool false, .bool false, .slice none 0 0] rfl)
      have HS' := Lib.hid ((HS.out.trans (hs2.more (by omega) hkh)).puts (Nat.le_refl _) hgh (k * 14) [.string ⟨#[119, 114, 105, 116, 116, 101, 110]⟩, .int .u8 77, .bool false, .int .u8 0, .bool false, .bool false, .string ⟨#[]⟩, .bool false, .string ⟨#[]⟩, .int .i64 0, .int .i64 0, .bool false, .bool false, .slice none 0 0])
      rw [setCells14] at HR' HS'
      clear hblk hn hs2 HNx
      go_wp2_with fail
      go_roundw
      case rel => exact ⟨k + 1, by go_num, by omega, HS', HR'⟩
      case measure => simp [intOf]; omega
    · obtain rfl : k = l.length := by omega
      have hgw := HR.out.lt
      have HTH := Lib.hid (show (wr.alloc (Obj.cells #[.string ⟨#[]⟩, .int .u8 78, .bool false, .int .u8 0, .bool false, .bool false, .string ⟨#[]⟩, .bool false, .string ⟨#[]⟩, .int .i64 0, .int .i64 0, .bool false, .bool false, .slice none 0 0] 57)).there g (l.length * 14) 14 by
        obtain ⟨cur, h1, h2⟩ := HR.out.blk
        exact blk_there ⟨cur, (Below.heap_alloc _ _ _ hgw).trans h1, h2⟩ (by omega))
      go_wp2_with (at_builtin; refine wpList_append_room _ rfl _ _ 22 rfl 57 i0 14 Tryz.underlying22 hi0 hz1 g 0 l.length N rfl ⟨wr.heap.size, 0, none⟩ 1 1 [.string ⟨#[]⟩, .int .u8 78, .bool false, .int .u8 0, .bool false, .bool false, .string ⟨#[]⟩, .bool false, .string ⟨#[]⟩, .int .i64 0, .int .i64 0, .bool false, .bool false, .slice none 0 0] rfl rfl (World.news_of_block (cs := #[.string ⟨#[]⟩, .int .u8 78, .bool false, .int .u8 0, .bool false, .bool false, .string ⟨#[]⟩, .bool false, .string ⟨#[]⟩, .int .i64 0, .int .i64 0, .bool false, .bool false, .slice none 0 0]) (t := 57) (fr := (0, 0)) (heap_alloc_new wr _)) (by simp [Value.oneCell']) (by omega) (by rw [Nat.zero_add]; exact fun j hj => HTH.out j hj) ?_; intro w3 hw3; rw [Nat.zero_add] at hw3; have HS3 := Lib.hid (show Scr g hi w w3 by rw [hw3]; exact (HS.out.alloc _).puts (Nat.le_refl _) hgh _ _); have HC3 := Lib.hid (show CellsAt w3 g (l.length * 14) [.string ⟨#[]⟩, .int .u8 78, .bool false, .int .u8 0, .bool false, .bool false, .string ⟨#[]⟩, .bool false, .string ⟨#[]⟩, .int .i64 0, .int .i64 0, .bool false, .bool false, .slice none 0 0] by rw [hw3]; exact CellsAt.put HTH.out); have c0 : w3.cell? ⟨g, l.length * 14, none⟩ = some (.string ⟨#[]⟩) := HC3.out 0 _ rfl; have f0 : w3.frozen? ⟨g, l.length * 14, none⟩ = false := (by rw [hw3]; obtain ⟨cur, h1, h2⟩ := HR.out.blk; obtain ⟨cur', h3, h4⟩ := setCells_blk g 57 _ [.string ⟨#[]⟩, .int .u8 78, .bool false, .int .u8 0, .bool false, .bool false, .string ⟨#[]⟩, .bool false, .string ⟨#[]⟩, .int .i64 0, .int .i64 0, .bool false, .bool false, .slice none 0 0] (l.length * 14) (wr.alloc (Obj.cells #[.string ⟨#[]⟩, .int .u8 78, .bool false, .int .u8 0, .bool false, .bool false, .string ⟨#[]⟩, .bool false, .string ⟨#[]⟩, .int .i64 0, .int .i64 0, .bool false, .bool false, .slice none 0 0] 57)) ⟨cur, (Below.heap_alloc _ _ _ hgw).trans h1, h2⟩; simp [World.frozen?, h3]); clear hw3)
      go_end0
      exact ⟨rfl, HS3.out.puts (Nat.le_refl _) hgh _ [_]⟩
theorem writeF_any (l : List FT) : WriteFAny l := writeF_step l (fun x hx => FT.allL (M := fun t => WriteFAny t.fields) (fun t h => writeF_step t.fields h) l x hx)
end Go.Proofs.YtcjllhdbepchnaaGreatDoor

/-! What is told of a schema, held while other blocks are written. -/
namespace Go.Proofs.YtcjllhdbepchnaaGreatDoor
open Go.RowKit Go.WideShapes
set_option linter.unusedVariables false
theorem Scr.of {B x : Nat} {w w' : World} (h : Below B w w') (hB : w.heap.size ≤ B) : Scr x x w w' := ⟨h.os, h.tape, h.output, h.size, fun b hb _ => h.block b (by omega)⟩
theorem Scr.ofSpo {x y lo hi : Nat} {w w' : World} (h : Spo x y w w') (hx : lo ≤ x ∧ x < hi) (hy : lo ≤ y ∧ y < hi) : Scr lo hi w w' := ⟨h.os, h.tape, h.output, h.size, fun b hb hs => h.block b hb (by omega) (by omega)⟩
/-- A row between two places. -/
def RowIn (lo hi : Nat) (W : World) (v : Value) (vs : List Value) : Prop := ∃ A c, v = .slice A vs.length c ∧ vs.length ≤ c ∧ (0 < vs.length → ∃ b o, A = some ⟨b, o, none⟩ ∧ lo ≤ b ∧ b < hi ∧ CellsAt W b o vs)
section
variable {lo hi x y : Nat} {W W' : World} {v : Value} {vs : List Value}
theorem RowIn.of (h : RowAt W hi v vs) (hl : Later lo v) : RowIn lo hi W v vs := by
  obtain ⟨A, c, e, h1, h2⟩ := h
  refine ⟨A, c, e, h1, fun hp => ?_⟩
  obtain ⟨b, o, ea, hb, hc⟩ := h2 hp
  exact ⟨b, o, ea, hl b o _ c (by rw [e, ea]), hb, hc⟩
theorem RowIn.scr (h : RowIn lo hi W v vs) (hs : Scr x y W W') (hd : y ≤ lo ∨ hi ≤ x) (hW : hi ≤ W.heap.size) : RowIn lo hi W' v vs := by
  obtain ⟨A, c, e, h1, h2⟩ := h
  refine ⟨A, c, e, h1, fun hp => ?_⟩
  obtain ⟨b, o, ea, hl, hb, hc⟩ := h2 hp
  exact ⟨b, o, ea, hl, hb, hc.keep fun p hp => cell_of_heap (by rw [hp]; exact hs.block b (by omega) (by omega))⟩
theorem RowIn.row (h : RowIn lo hi W v vs) (hW : hi ≤ W.heap.size) : RowAt W W.heap.size v vs := by
  obtain ⟨A, c, e, h1, h2⟩ := h
  refine ⟨A, c, e, h1, fun hp => ?_⟩
  obtain ⟨b, o, ea, hl, hb, hc⟩ := h2 hp
  exact ⟨b, o, ea, by omega, hc⟩
theorem ownsRow_scr {n size : Nat} {e : TypeId} (h : W.ownsRow lo e size v n vs) (hv : ∀ g, v.ownBlock = some g → g < hi) (hs : Scr x y W W') (hd : y ≤ lo ∨ hi ≤ x) (hW : hi ≤ W.heap.size) : W'.ownsRow lo e size v n vs := by
  refine ⟨h.1, h.2.imp id fun ⟨g, cap, cur, h1, h2, h3, h4⟩ => ⟨g, cap, cur, h1, h2, ?_, h4⟩⟩
  have := hv g (by rw [h1]; rfl)
  rw [hs.block g (by omega) (by omega)]
  exact h3
/-- A fault (or none) between two places. -/
def ErrOwn (r : Int × List Nat) (lo hi : Nat) (W : World) (v : Value) : Prop := if r.1 = 0 then v = .nilIface else ∃ b p, v = .iface 91 (.pointer (some ⟨b, 0, none⟩)) ∧ lo ≤ b ∧ b < hi ∧ FltAt W b r.1 0 p ∧ W.ownsRow lo 3 1 p r.2.length (pathVals r.2) ∧ ∀ g, p.ownBlock = some g → g < hi
theorem ErrAt.own {r : Int × List Nat} (h : ErrAt r lo W v) : ErrOwn r lo W.heap.size W v := by
  unfold ErrAt at h
  unfold ErrOwn
  split
  · rename_i h0; rw [if_pos h0] at h; exact h
  · rename_i h0
    rw [if_neg h0] at h
    obtain ⟨b, p, e, hb, hf, ho⟩ := h
    exact ⟨b, p, e, hb, hf.lt, hf, ho, fun g hg => (ho.lt g hg).2⟩
theorem ErrOwn.scr {r : Int × List Nat} (h : ErrOwn r lo hi W v) (hs : Scr x y W W') (hd : y ≤ lo ∨ hi ≤ x) (hW : hi ≤ W.heap.size) : ErrOwn r lo hi W' v := by
  unfold ErrOwn at h ⊢
  split
  · rename_i h0; rw [if_pos h0] at h; exact h
  · rename_i h0
    rw [if_neg h0] at h
    obtain ⟨b, p, e, hb, hb2, hf, ho, hg⟩ := h
    exact ⟨b, p, e, hb, hb2, (hs.block b (by omega) (by omega)).trans hf, ownsRow_scr ho hg hs hd hW, hg⟩
end
theorem keepIs_r {r : Int × List Nat} {w0 w : World} {lo hi : Nat} {v vp : Value} (ht : (r.1 = 0 ∧ r.2 = []) ∨ (111 ≤ r.1 ∧ r.1 ≤ 116 ∧ r.2.length ≤ 17)) (h : laidMetH Tryz.prog Rows.schemaChecksRow.laid w0) (hb0 : Below w0.heap.size w0 w) (hlo : w0.heap.size ≤ lo) (he : ErrOwn r lo hi w v) (hq : RowAt w w.heap.size vp (pathVals r.2)) :
    Calls Tryz.prog 32 #[v, .agg #[.int .i64 r.1, .int .i64 0, vp]] w (Ret (.bool true) w) := by
  unfold ErrOwn at he
  obtain ⟨A, c, rfl, hq1, hq2⟩ := id hq
  by_cases h0 : r.1 = 0
  · rw [if_pos h0] at he
    subst he
    rw [h0]
    exact keepIs_none w _ _ _
  · rw [if_neg h0] at he
    obtain ⟨b, p, rfl, hb, hb2, hf, ho, hg⟩ := he
    obtain ⟨A', c', rfl, _, _⟩ := RowAt.of_own ho
    have hc : 111 ≤ r.1 ∧ r.1 ≤ 116 ∧ r.2.length ≤ 17 := ht.resolve_left fun h => h0 h.1
    exact keepIs_flt h hb0 (by omega) hf ⟨hc.1, hc.2.1⟩ (RowAt.of_own ho) hq (by omega)
theorem spoil_r {r : Int × List Nat} {w0 w : World} {lo hi : Nat} {v : Value} (ht : (r.1 = 0 ∧ r.2 = []) ∨ (111 ≤ r.1 ∧ r.1 ≤ 116 ∧ r.2.length ≤ 17)) (h : laidMetH Tryz.prog Rows.schemaChecksRow.laid w0) (hb0 : Below w0.heap.size w0 w) (he : ErrOwn r lo hi w v) :
    Calls Tryz.prog 18 #[v] w fun e w' => e = .returned (.tuple #[]) ∧ Scr lo hi w w' := by
  unfold ErrOwn at he
  by_cases h0 : r.1 = 0
  · rw [if_pos h0] at he
    subst he
    exact (spoil_none w).mono fun e w' ⟨h1, h2⟩ => ⟨h1, h2.os, h2.tape, h2.output, h2.size, fun b hb _ => h2.block b hb⟩
  · rw [if_neg h0] at he
    obtain ⟨b, p, rfl, hb, hb2, hf, ho, hg⟩ := he
    have hc : 111 ≤ r.1 ∧ r.1 ≤ 116 ∧ r.2.length ≤ 17 := ht.resolve_left fun h => h0 h.1
    obtain ⟨hl, ⟨rfl, hn⟩ | ⟨g, cap, cur, rfl, h1, h2, h3, h4, h5, h6⟩⟩ := ho
    · exact (spoil_nil h hb0 hf).mono fun e w' ⟨k1, k2⟩ => ⟨k1, Scr.ofSpo k2 ⟨hb, hb2⟩ ⟨hb, hb2⟩⟩
    · exact (spoil_row h hb0 hf ⟨cur, h2, by omega⟩ (by omega)).mono fun e w' ⟨k1, k2⟩ => ⟨k1, Scr.ofSpo k2 ⟨hb, hb2⟩ ⟨h1, hg g rfl⟩⟩
end Go.Proofs.YtcjllhdbepchnaaGreatDoor
