/-
  law12's told: is an error what is wanted?
-/
import Derived.Test.YtcjllhdbepchnaaGreatDoorLV
import Derived.Test.YtcjllhdbepchnaaGreatDoorLAB
namespace Go.Proofs.YtcjllhdbepchnaaGreatDoor
open Go.RowKit Go.WideShapes Ev
set_option linter.unusedVariables false
theorem FlY.lt {w : World} {b : Nat} {c a : Int} {v yv : Value} (h : FlY w b c a v yv) : b < w.heap.size := (Array.getElem?_eq_some_iff.1 h).1
theorem FlY.below {w w' : World} {B b : Nat} {c a : Int} {v yv : Value} (h : FlY w b c a v yv) (hb : Below B w w') (hB : b < B) : FlY w' b c a v yv := (hb.block b hB).trans h
/-- Numbers of faults. -/
def CodeOk (code : Int) : Prop := code = 1 ∨ code = 4 ∨ (111 ≤ code ∧ code ≤ 116) ∨ (120 ≤ code ∧ code ≤ 125)
set_option maxRecDepth 100000 in
theorem isMemY_hr {w0 w : World} {Tb : Nat} {code at_ : Int} {v yv : Value} (h : laidMetH Tryz.prog Rows.schemaChecksRow.laid w0) (hb0 : Below w0.heap.size w0 w) (hw0 : w0.heap.size ≤ Tb) (hF : FlY w Tb code at_ v yv) (hv : opqOK v = true) (hy : opqOK yv = true) : HR Tryz.prog w (EL Tb) (isMem code) 64 w := by
  have h1 := EL_base h Tb
  have hlt : ∀ i o, baseW.get i = some o → i < 48 := fun i o ho => by
    obtain ⟨b, r, k1, _⟩ := (base_hr h).born i o ho rfl
    simp only [E0] at k1
    split at k1
    · assumption
    · cases k1
  have hgl : ∀ i, i < 48 → i < w0.heap.size ∨ baseW.get i = none := fun i hi => by
    cases hg : baseW.get i with
    | none => exact .inr rfl
    | some o =>
      obtain ⟨b, r, k1, k2, _⟩ := h1.born i o hg rfl
      have : b = i := by have := h1.glob i hi; rw [this] at k1; injection k1 with k1; exact k1.symm
      subst this
      exact .inl (Array.getElem?_eq_some_iff.1 k2).1
  have hget : ∀ i o, (isMem code).get i = some o → (i = 48 ∧ o = .cells (T.leaf.fill 0 [.int .i64 code, .chan (some 1), .chan (some 2), .chan (some 3)]) 4 93 false) ∨ (i ≠ 48 ∧ baseW.get i = some o) := fun i o ho => by
    unfold isMem at ho
    rw [T.get_set _ _ _ (by omega)] at ho
    split at ho
    · injection ho with ho; exact .inl ⟨by assumption, ho.symm⟩
    · exact .inr ⟨by assumption, ho⟩
  refine ⟨Below.refl _ _, fun i b e => ⟨(h1.dom i b e).1, fun h64 => by have := (h1.dom i b e).1; omega⟩, h1.glob, fun i j o o' b g1 g2 e1 e2 => ?_, fun i hp => absurd hp Bool.false_ne_true, fun i o ho hp => ?_⟩
  · rcases hget i o g1 with ⟨rfl, _⟩ | ⟨hi, g1'⟩ <;> rcases hget j o' g2 with ⟨rfl, _⟩ | ⟨hj, g2'⟩
    · rfl
    · have hj48 := hlt j o' g2'
      rcases hgl j hj48 with h9 | h9
      · rw [h1.glob j hj48] at e2
        injection e2 with e2
        simp only [EL] at e1
        simp at e1
        omega
      · rw [h9] at g2'; cases g2'
    · have hi48 := hlt i o g1'
      rcases hgl i hi48 with h9 | h9
      · rw [h1.glob i hi48] at e1
        injection e1 with e1
        simp only [EL] at e2
        simp at e2
        omega
      · rw [h9] at g1'; cases g1'
    · exact h1.inj i j o o' b g1' g2' e1 e2
  · rcases hget i o ho with ⟨rfl, rfl⟩ | ⟨hi, g1⟩
    · refine ⟨Tb, _, by simp [EL], hF, #[.int .i64 code, .int .i64 at_, v, yv], ⟨_, _, fun h64 => by omega, fun h64 => by omega, rfl⟩, by simp [sizeOk, EL], fun j v hj hv => ?_⟩
      rw [T.get_fill _ _ _ _ (by show 0 + 4 ≤ _; omega), if_pos ⟨Nat.zero_le _, by show j < 0 + 4; omega⟩] at hv
      rcases j with _ | _ | _ | _ | j
      · simp at hv; subst hv; exact ⟨_, rfl, .int _ _⟩
      · simp at hv; subst hv; exact ⟨_, rfl, .opq 1 rfl⟩
      · simp at hv; subst hv; exact ⟨_, rfl, .opq 2 hv⟩
      · simp at hv; subst hv; exact ⟨_, rfl, .opq 3 hy⟩
      · omega
    · obtain ⟨b, r, k1, k2, k3⟩ := h1.born i o g1 hp
      exact ⟨b, r, k1, by rw [hb0.block b (Array.getElem?_eq_some_iff.1 k2).1]; exact k2, k3⟩
theorem isY_rans : ([1, 4, 111, 112, 113, 114, 115, 116, 120, 121, 122, 123, 124, 125].all fun code : Int => isTrue (evCall2 (fun _ _ _ => none) Tryz.prog 100000 60 62 [.iface 91 (.pointer (some ⟨48, 0, none⟩)), .iface 34 (.int .i64 code)] ⟨isMem code, 64, 0⟩)) = true := by kernel_rfl
theorem isY_any {w0 w : World} {Tb : Nat} {code at_ : Int} {v yv : Value} (h : laidMetH Tryz.prog Rows.schemaChecksRow.laid w0) (hb0 : Below w0.heap.size w0 w) (hw0 : w0.heap.size ≤ Tb) (hF : FlY w Tb code at_ v yv) (hv : opqOK v = true) (hy : opqOK yv = true) (hc : CodeOk code) :
    Calls Tryz.prog 62 #[.iface 91 (.pointer (some ⟨Tb, 0, none⟩)), .iface 34 (.int .i64 code)] w (Ret (.bool true) w) := by
  have h1 := isMemY_hr h hb0 hw0 hF hv hy
  have hr := List.all_eq_true.1 isY_rans code (by
    have : code = 1 ∨ code = 4 ∨ code = 111 ∨ code = 112 ∨ code = 113 ∨ code = 114 ∨ code = 115 ∨ code = 116 ∨ code = 120 ∨ code = 121 ∨ code = 122 ∨ code = 123 ∨ code = 124 ∨ code = 125 := by unfold CodeOk at hc; omega
    simpa using this)
  exact true_full (plainly_of plainT) mixedT _ _ _ h1 (.cons (.iface _ (.ptr 0 (by simp [EL]))) (.cons (.iface _ (.int _ _)) .nil)) hr
theorem isE_ran : isTrue (evCall2 (fun _ _ _ => none) Tryz.prog 100000 60 62 [.iface 34 (.int .i64 30), .iface 34 (.int .i64 30)] ⟨baseW, 64, 0⟩) = true := by kernel_rfl
theorem isE_any {w w' : World} (h : laidMetH Tryz.prog Rows.schemaChecksRow.laid w) (hb : Below w.heap.size w w') : Calls Tryz.prog 62 #[.iface 34 (.int .i64 30), .iface 34 (.int .i64 30)] w' (Ret (.bool true) w') :=
  true_full (plainly_of plainT) mixedT _ _ _ (HR.at_later (base_hr h) hb) (.cons (.iface _ (.int _ _)) (.cons (.iface _ (.int _ _)) .nil)) isE_ran
set_option maxRecDepth 100000 in
set_option maxHeartbeats 4000000 in
theorem keepIs_fly {w0 w : World} {Tb : Nat} {code at_ : Int} {yv : Value} {path : List Nat} {A A' : Option Addr} {n c n' c' : Nat} (h : laidMetH Tryz.prog Rows.schemaChecksRow.laid w0) (hb0 : Below w0.heap.size w0 w) (hw0 : w0.heap.size ≤ Tb) (hF : FlY w Tb code at_ (.slice A n c) yv) (hy : opqOK yv = true) (hc : CodeOk code)
    (hp : RowAt w w.heap.size (.slice A n c) (pathVals path)) (hq : RowAt w w.heap.size (.slice A' n' c') (pathVals path)) (hl : path.length ≤ 100000) :
    Calls Tryz.prog 32 #[.iface 91 (.pointer (some ⟨Tb, 0, none⟩)), .agg #[.int .i64 code, .int .i64 at_, .slice A' n' c']] w (Ret (.bool true) w) := by
  have hTl := hF.lt
  obtain ⟨WA, hWA⟩ : ∃ WA, WA = w.alloc (.cells #[.int .i64 code, .int .i64 at_, .slice A' n' c'] 47) := ⟨_, rfl⟩
  have hbA : Below w.heap.size w WA := by rw [hWA]; exact (Below.refl _ _).alloc (Nat.le_refl _) _
  have hzA : WA.heap.size = w.heap.size + 1 := by rw [hWA]; simp
  have hAw : WA.heap[w.heap.size]? = some (.cells #[.int .i64 code, .int .i64 at_, .slice A' n' c'] 47 (0, 0)) := by rw [hWA]; exact World.alloc_heap_new w _
  have HA := Lib.hid (as_any (Tb := Tb) (b := WA.heap.size) (wb := WA.alloc (.cells #[.pointer none] 91)) h (hb0.trans (hbA.mono hb0.size)) (Nat.le_refl _) ((Below.refl _ _).alloc (Nat.le_refl _) _) (BoxAt.new WA WA.heap.size _ _ rfl))
  have HFA := Lib.hid (hF.below hbA hTl)
  have HAw := Lib.hid hAw
  have HBA := Lib.hid hbA
  have HIs := Lib.hid (fun (W : World) (hb : Below WA.heap.size WA W) => isY_any (at_ := at_) (v := .slice A n c) (yv := yv) h ((hb0.trans (hbA.mono hb0.size)).trans (hb.mono (by have := hb0.size; omega))) hw0 ((hF.below hbA hTl).below hb (by omega)) rfl hy hc)
  have HSI := Lib.hid (fun (W : World) (hb : Below w.heap.size w W) => sameInts_any path (.slice A n c) (.slice A' n' c') W ((hp.below hb).more hb.size) ((hq.below hb).more hb.size) hl)
  have hc0 : (code == 0) = false := by rw [beq_eq_false_iff_ne]; unfold CodeOk at hc; omega
  clear hF hbA hAw hc h hb0 hp hq hy
  have HWA := Lib.hid hWA
  have hbc : (w.alloc (.cells #[.int .i64 code, .int .i64 at_, .slice A' n' c'] 47)).cell? ⟨w.heap.size, 0, none⟩ = some (.int .i64 code) := by
    rw [← hWA]; simp [World.cell?, HAw.out]
  clear hWA
  rw [HWA.out] at HA hzA
  simp only [World.size_alloc] at HA
  clear hzA
  go_enter Tryz.func32, Tryz.ntmps32
  go_wp2_with fail
  refine HA.out.mono ?_
  rintro e w1 ⟨rfl, hb1, hf1⟩
  rw [← HWA.out] at hb1
  have HB1 := Lib.hid hb1
  have hzA : WA.heap.size = w.heap.size + 1 := by rw [HWA.out]; simp
  have hz1 := hb1.size
  have HF1 := Lib.hid (HFA.out.below hb1 (by omega))
  obtain ⟨F0, F1, F2, F3⟩ := HF1.out.cells
  have hw1 : w1.heap[w.heap.size]? = some (.cells #[.int .i64 code, .int .i64 at_, .slice A' n' c'] 47 (0, 0)) := (hb1.block _ (by omega)).trans HAw.out
  have V0 : w1.cell? ⟨w.heap.size, 0, none⟩ = some (.int .i64 code) := by simp [World.cell?, hw1]
  have V1 : w1.cell? ⟨w.heap.size, 1, none⟩ = some (.int .i64 at_) := by simp [World.cell?, hw1]
  have V2 : w1.cell? ⟨w.heap.size, 2, none⟩ = some (.slice A' n' c') := by simp [World.cell?, hw1]
  have f1lt : w.heap.size + 1 < w1.heap.size := by
    have h9 := World.block_lt_of_cell? w1 _ hf1
    exact h9
  clear hw1 HA hb1 hbc
  have HK := fun (W : World) (hb : Below w1.heap.size w1 W) => (⟨(hb.cell (by simp only; omega)).trans hf1, (hb.cell (by simp only; omega)).trans F0, (hb.cell (by simp only; omega)).trans F1, (hb.cell (by simp only; omega)).trans F2, (hb.cell (by simp only; omega)).trans V0, (hb.cell (by simp only; omega)).trans V1, (hb.cell (by simp only; omega)).trans V2⟩ : W.cell? ⟨w.heap.size + 1, 0, none⟩ = some (.pointer (some ⟨Tb, 0, none⟩)) ∧ W.cell? ⟨Tb, 0, none⟩ = some (.int .i64 code) ∧ W.cell? ⟨Tb, 1, none⟩ = some (.int .i64 at_) ∧ W.cell? ⟨Tb, 2, none⟩ = some (.slice A n c) ∧ W.cell? ⟨w.heap.size, 0, none⟩ = some (.int .i64 code) ∧ W.cell? ⟨w.heap.size, 1, none⟩ = some (.int .i64 at_) ∧ W.cell? ⟨w.heap.size, 2, none⟩ = some (.slice A' n' c'))
  have HK2 := Lib.hid HK
  clear HK
  go_wp2_with fail
  go_region_held3 (fun W => W.cell? ⟨w.heap.size + 1, 0, none⟩ = some (.pointer (some ⟨Tb, 0, none⟩)) ∧ W.cell? ⟨Tb, 0, none⟩ = some (.int .i64 code) ∧ W.cell? ⟨Tb, 1, none⟩ = some (.int .i64 at_) ∧ W.cell? ⟨Tb, 2, none⟩ = some (.slice A n c) ∧ W.cell? ⟨w.heap.size, 0, none⟩ = some (.int .i64 code) ∧ W.cell? ⟨w.heap.size, 1, none⟩ = some (.int .i64 at_) ∧ W.cell? ⟨w.heap.size, 2, none⟩ = some (.slice A' n' c'))
    (first | exact ⟨hf1, F0, F1, F2, V0, V1, V2⟩ | exact HK2.out _ HS2.out | exact HK2.out _ HS3.out)
    (first
      | (go_at_call 61; refine (HSI.out _ (HBA.out.trans (HB1.out.drew.mono (by omega)))).mono ?_; rintro e w2 ⟨rfl, hb2⟩; have HS2 := Lib.hid (show Below w1.heap.size w1 w2 from (Below.refl _ _).drew.trans (hb2.mono (Nat.le_refl _))))
      | (go_at_call 62; refine (HIs.out _ (by rw [hzA]; exact HB1.out.trans (HS2.out.mono (by omega)))).mono ?_; rintro e w3 ⟨rfl, hb3⟩; have HS3 := Lib.hid (HS2.out.trans (hb3.mono (by have := HS2.out.size; omega)))))
  clear hf1 F0 F1 F2 F3 V0 V1 V2
  go_wp2_with fail
  go_ret
  exact ⟨rfl, HBA.out.trans ((HB1.out.trans (HS3.out.mono (by omega))).mono (by omega))⟩
set_option maxRecDepth 100000 in
set_option maxHeartbeats 4000000 in
theorem keepWhy_fly {w0 w : World} {Tb : Nat} {code at_ y : Int} {v u : Value} {Ty : TypeId} (h : laidMetH Tryz.prog Rows.schemaChecksRow.laid w0) (hb0 : Below w0.heap.size w0 w) (hF : FlY w Tb code at_ v (.iface Ty u))
    (hI : ∀ W, Below w.heap.size w W → Calls Tryz.prog 62 #[.iface Ty u, .iface 34 (.int .i64 y)] W (Ret (.bool true) W)) :
    Calls Tryz.prog 48 #[.iface 91 (.pointer (some ⟨Tb, 0, none⟩)), .int .i64 y] w (Ret (.bool true) w) := by
  have hTl := hF.lt
  have HA := Lib.hid (as_any (Tb := Tb) (b := w.heap.size) (wb := w.alloc (.cells #[.pointer none] 91)) h hb0 (Nat.le_refl _) ((Below.refl _ _).alloc (Nat.le_refl _) _) (BoxAt.new w w.heap.size _ _ rfl))
  have HF := Lib.hid hF
  have HIs := Lib.hid hI
  clear h hb0 hF hI
  go_enter Tryz.func48, Tryz.ntmps48
  go_wp2_with fail
  refine HA.out.mono ?_
  rintro e w1 ⟨rfl, hb1, hf1⟩
  have HB1 := Lib.hid hb1
  have hz1 := hb1.size
  have HF1 := Lib.hid (HF.out.below hb1 hTl)
  obtain ⟨F0, F1, F2, F3⟩ := HF1.out.cells
  clear HA hb1 HF
  go_wp2_with fail
  refine (HIs.out _ HB1.out).mono ?_
  rintro e w2 ⟨rfl, hb2⟩
  have HB2 := Lib.hid (HB1.out.trans (hb2.mono (by omega)))
  clear hb2 HIs
  go_wp2_with fail
  go_ret
  exact ⟨rfl, HB2.out⟩
/-- What is told, piece by piece. -/
def frC : FR → Int | none => 0 | some (c, _, _, _) => c
def frA : FR → Int | none => 0 | some (_, a, _, _) => a
def frP : FR → List Nat | none => [] | some (_, _, q, _) => q
def frY : FR → Int | none => 0 | some (_, _, _, y) => y
theorem assert_fault (b : Nat) (xT : TypeId) (w : World) : (Instr.typeAssert (.iface 91 (.pointer (some ⟨b, 0, none⟩))) xT 91 true).run Tryz.prog w = .ok (.tuple #[.pointer (some ⟨b, 0, none⟩), .bool true]) w := by
  simp [Instr.typeAssert, run_underlying Tryz.underlying91, go_sem, Result.andThen]
theorem YAt.opq {lo : Nat} {w : World} {y : Int} {yv : Value} (h : YAt lo w y yv) : opqOK yv = true := by
  rcases h with ⟨_, rfl⟩ | ⟨_, rfl⟩ | ⟨_, _, _, _, _, rfl, _⟩ <;> rfl
set_option maxRecDepth 100000 in
set_option maxHeartbeats 4000000 in
theorem told_any {w0 w : World} {lo : Nat} {r : FR} {ev : Value} {A' : Option Addr} {n' c' : Nat} (hr : AnsOk r) (h : laidMetH Tryz.prog Rows.schemaChecksRow.laid w0) (hb0 : Below w0.heap.size w0 w) (hlo : w0.heap.size ≤ lo) (he : AnsAt r lo w ev) (hq : RowAt w w.heap.size (.slice A' n' c') (pathVals (frP r))) :
    Calls Tryz.prog 17 #[ev, .agg #[.int .i64 (frC r), .int .i64 (frA r), .slice A' n' c'], .int .i64 (frY r)] w (Ret (.bool true) w) := by
  have HB1 := Lib.hid (below_a1 w (.cells #[.int .i64 (frC r), .int .i64 (frA r), .slice A' n' c'] 47))
  have hV1 : (w.alloc (.cells #[.int .i64 (frC r), .int .i64 (frA r), .slice A' n' c'] 47)).heap[w.heap.size]? = some (.cells #[.int .i64 (frC r), .int .i64 (frA r), .slice A' n' c'] 47 (0, 0)) := World.alloc_heap_new w _
  have hqW := (hq.below HB1.out).more HB1.out.size
  have heW := he.below HB1.out
  have hbW := hb0.trans (HB1.out.mono hb0.size)
  obtain ⟨W1, hW1⟩ : ∃ W1, W1 = w.alloc (.cells #[.int .i64 (frC r), .int .i64 (frA r), .slice A' n' c'] 47) := ⟨_, rfl⟩
  have hz1 : W1.heap.size = w.heap.size + 1 := by rw [hW1]; simp
  rw [← hW1] at hV1 hqW heW hbW
  rcases r with _ | ⟨c, a, q, y⟩
  · obtain rfl := heW
    simp only [frC, frA, frP, frY] at *
    have HI := Lib.hid (keepIs_none W1 A' n' c')
    have HV := Lib.hid hV1
    have HW := Lib.hid hW1
    rw [hW1] at HI
    clear hb0 he hq hqW hbW hV1 h hr hW1
    go_enter Tryz.func17, Tryz.ntmps17
    go_wp2_with fail
    refine HI.out.mono ?_
    rintro e w2 ⟨rfl, hb2⟩
    rw [← HW.out] at hb2
    have HB2 := Lib.hid (HB1.out.trans (by rw [← HW.out]; exact hb2.mono (by omega)))
    have hV2 := (hb2.block _ (by omega)).trans HV.out
    have k0 : w2.cell? ⟨w.heap.size, 0, none⟩ = some (.int .i64 0) := by simp [World.cell?, hV2]
    clear hb2 HI hV2
    go_wp2_with fail
    go_ret
    exact ⟨rfl, HB2.out⟩
  · obtain ⟨b, v, yv, rfl, hlb, hfl, ho, hy⟩ := heW
    simp only [frC, frA, frP, frY] at *
    obtain ⟨A, n, m, rfl⟩ := own_slice ho
    have hc : CodeOk c := by
      have := hr.1
      unfold CodeOk; omega
    have HI := Lib.hid (keepIs_fly h hbW (by omega) hfl hy.opq hc (RowAt.of_own ho) hqW (by have := hr.2.2; omega))
    have hc0 : (c == 0) = false := by rw [beq_eq_false_iff_ne]; have := hr.1; omega
    have hta := assert_fault b
    have HW := Lib.hid hW1
    rw [hW1] at HI
    have HL := Lib.hid h
    have HBW := Lib.hid hbW
    have HFl := Lib.hid hfl
    have HV := Lib.hid hV1
    have HY := Lib.hid hy
    have HR := Lib.hid hr
    clear hb0 he hq hqW hbW h hr hfl ho hy hV1 hW1 hc
    rcases (show y = 0 ∨ y ≠ 0 by omega) with h0 | h0
    · subst h0
      have hyv : yv = .nilIface := by
        rcases HY.out with ⟨_, h9⟩ | ⟨h9, _⟩ | ⟨h9, _⟩
        · exact h9
        · omega
        · omega
      subst hyv
      go_enter Tryz.func17, Tryz.ntmps17
      go_wp2_with fail
      refine HI.out.mono ?_
      rintro e w2 ⟨rfl, hb2⟩
      rw [← HW.out] at hb2
      have HB2 := Lib.hid (HB1.out.trans (by rw [← HW.out]; exact hb2.mono (by omega)))
      have HF2 := Lib.hid (HFl.out.below hb2 HFl.out.lt)
      have hV2 := (hb2.block _ (by omega)).trans HV.out
      have k0 : w2.cell? ⟨w.heap.size, 0, none⟩ = some (.int .i64 c) := by simp [World.cell?, hV2]
      obtain ⟨F0, F1, F2, F3⟩ := HF2.out.cells
      clear hb2 HI hV2
      go_wp2_with fail
      go_ret
      exact ⟨rfl, HB2.out⟩
    · have e0 : (y == 0) = false := by rw [beq_eq_false_iff_ne]; exact h0
      obtain ⟨Ty, u, hyv, hIs⟩ : ∃ Ty u, yv = .iface Ty u ∧ ∀ W, Below W1.heap.size W1 W → Calls Tryz.prog 62 #[.iface Ty u, .iface 34 (.int .i64 y)] W (Ret (.bool true) W) := by
        rcases HY.out with ⟨h9, _⟩ | ⟨h9, h8⟩ | ⟨h9, b2, A2, n2, c2, h8, hl2, hf2⟩
        · exact absurd h9 h0
        · subst h9
          exact ⟨_, _, h8, fun W hb => isE_any HL.out (HBW.out.trans (hb.mono HBW.out.size))⟩
        · exact ⟨_, _, h8, fun W hb => isY_any (yv := .nilIface) HL.out (HBW.out.trans (hb.mono HBW.out.size)) (by omega) (show FlY W b2 y 0 (.slice A2 n2 c2) .nilIface from hf2.below hb hf2.lt) rfl rfl (by unfold CodeOk; omega)⟩
      subst hyv
      have HIs := Lib.hid hIs
      clear hIs h0
      go_enter Tryz.func17, Tryz.ntmps17
      go_wp2_with fail
      refine HI.out.mono ?_
      rintro e w2 ⟨rfl, hb2⟩
      rw [← HW.out] at hb2
      have hz2 := hb2.size
      have HB2 := Lib.hid (HB1.out.trans (by rw [← HW.out]; exact hb2.mono (by omega)))
      have HF2 := Lib.hid (HFl.out.below hb2 HFl.out.lt)
      have hV2 := (hb2.block _ (by omega)).trans HV.out
      have k0 : w2.cell? ⟨w.heap.size, 0, none⟩ = some (.int .i64 c) := by simp [World.cell?, hV2]
      have HY2 := Lib.hid (keepWhy_fly (y := y) HL.out (HBW.out.trans (hb2.mono HBW.out.size)) HF2.out (fun W hb => HIs.out W (hb2.trans (hb.mono (by omega)))))
      clear hb2 HI hV2
      go_wp2_with fail
      refine HY2.out.mono ?_
      rintro e w3 ⟨rfl, hb3⟩
      have HB3 := Lib.hid (HB2.out.trans (hb3.mono (by have := HB2.out.size; omega)))
      clear hb3 HY2
      go_wp2_with fail
      go_ret
      exact ⟨rfl, HB3.out⟩
end Go.Proofs.YtcjllhdbepchnaaGreatDoor
