/-
  ref04.SameMarks of the same; law04.kept.
-/
import Derived.Test.YtccaaniepeohbaaGreatDoorKAB
namespace Go.Proofs.YtccaaniepeohbaaGreatDoor
open Go.RowKit Go.WideShapes
set_option linter.unusedVariables false
set_option linter.unusedSimpArgs false
set_option maxRecDepth 100000 in
set_option maxHeartbeats 4000000 in
theorem sameMs_any (l : List MK) (A1 A2 : Option Addr) (c1 c2 : Nat) (w : World) (h1 : MarksAt w w.heap.size l A1) (h2 : MarksAt w w.heap.size l A2) (hc1 : l.length ≤ c1) (hc2 : l.length ≤ c2) (hl : l.length ≤ 1048576) : Calls Tryz.prog 12 #[.slice A1 l.length c1, .slice A2 l.length c2] w (Ret (.bool true) w) := by
  have H1 := Lib.hid h1
  have H2 := Lib.hid h2
  have HB0 := Lib.hid (Below.refl w.heap.size w)
  clear h1 h2
  go_enter Tryz.func12, Tryz.ntmps12
  go_wp2_with fail
  go_loopw [5] (fun i wr => ∃ (k : Nat), i = .int .i64 k ∧ k ≤ l.length ∧ Hid (Below w.heap.size w wr)) (fun i _ => l.length - (intOf i).toNat)
  case atStart => exact ⟨0, rfl, by omega, HB0⟩
  case round =>
    clear HB0
    obtain ⟨k, rfl, hk, HB⟩ := hrel
    by_cases hlt : k < l.length
    · obtain ⟨b1, o1, rfl⟩ := H1.out.some_ (by omega)
      obtain ⟨b2, o2, rfl⟩ := H2.out.some_ (by omega)
      obtain ⟨hb1, v1, g1, g2, g3, hen1⟩ := (H1.out.below HB.out).at_ hlt
      obtain ⟨hb2, v2, f1, f2, f3, hen2⟩ := (H2.out.below HB.out).at_ hlt
      have hltI : (k : Int) < (l.length : Int) := by omega
      have HBq := Lib.hid (fun m => below_nq HB.out m)
      have HE1 := Lib.hid hen1
      have HE2 := Lib.hid hen2
      obtain ⟨B1, d1, rfl, hd1, hm1, _⟩ := hen1
      obtain ⟨B2, d2, rfl, hd2, hm2, _⟩ := hen2
      obtain ⟨X, hX⟩ : ∃ X, X = l[k].pt := ⟨_, rfl⟩
      obtain ⟨Y, hY⟩ : ∃ Y, Y = l[k].cls := ⟨_, rfl⟩
      rw [← hX] at g1 f1
      rw [← hY] at g2 f2
      obtain ⟨ps, hps⟩ : ∃ ps, ps = l[k].parts := ⟨_, rfl⟩
      rw [← hps] at HE1 HE2 hd1 hm1 hd2 hm2 g3 f3
      clear hX hY hps
      go_wp2_with fail
      go_quiet (fail)
      go_wp2_with fail
      have HBz := Lib.hid (HBq.out nq)
      have HQ := Lib.hid (fun (W : World) (hb : Below w.heap.size wr W) => (⟨(hb.cell (by simp only; omega)).trans g3, (hb.cell (by simp only; omega)).trans f3⟩ : W.cell? ⟨b1, o1 + k * 3 + 2, none⟩ = some (.slice B1 ps.length d1) ∧ W.cell? ⟨b2, o2 + k * 3 + 2, none⟩ = some (.slice B2 ps.length d2)))
      have HR0 := Lib.hid (show Below w.heap.size wr (wr.drewN nq) from below_nq (Below.refl _ _) nq)
      have HW := Lib.hid (fun (W : World) (hb : Below w.heap.size wr W) => HB.out.trans hb)
      clear g1 g2 g3 f1 f2 f3
      obtain ⟨V, hV⟩ : ∃ V, V = wr := ⟨_, rfl⟩
      rw [← hV] at HQ HR0 HW HE1 HE2
      have HVe := Lib.hid hV
      go_loopw [6] (fun i wx => ∃ (j : Nat), i = .int .i64 j ∧ j ≤ ps.length ∧ Hid (Below w.heap.size V wx)) (fun i _ => ps.length - (intOf i).toNat)
      case atStart => exact ⟨0, rfl, by omega, by rw [hV]; rw [hV] at HR0; exact HR0⟩
      case round =>
        clear hV HVe
        obtain ⟨j, rfl, hj, HBj⟩ := hrel
        obtain ⟨y1, y2⟩ := HQ.out _ HBj.out
        by_cases hlj : j < ps.length
        · obtain ⟨p1, q1, e1, t1, hp1, k1⟩ := (HE1.out.below HBj.out).int hlj
          injection t1 with t1 _ u1; subst t1 u1
          obtain ⟨p2, q2, e2, t2, hp2, k2⟩ := (HE2.out.below HBj.out).int hlj
          injection t2 with t2 _ u2; subst t2 u2
          have hljI : (j : Int) < (ps.length : Int) := by omega
          have HBjq := Lib.hid (fun m => below_nq HBj.out m)
          obtain ⟨Z, hZ⟩ : ∃ Z, Z = ps[j] := ⟨_, rfl⟩
          rw [← hZ] at k1 k2
          clear hZ
          go_wp2_with fail
          go_quiet (fail)
          go_wp2_with fail
          go_roundw
          case rel => exact ⟨j + 1, by go_num, by omega, Lib.hid (HBjq.out _)⟩
          case measure => simp [intOf]; omega
        · obtain rfl : j = ps.length := by omega
          have HBe := Lib.hid (HW.out _ HBj.out)
          go_wp2_with fail
          go_roundw
          case rel => exact ⟨k + 1, by go_num, by omega, HBe⟩
          case measure => simp [intOf]; omega
    · obtain rfl : k = l.length := by omega
      go_wp2_with fail
      go_ret
      exact ⟨rfl, HB.out⟩
theorem LE.row {w : World} {N : Nat} {x : MK} {v : Value} (h : LE w N x v) (hm : x.parts.length ≤ 1048576) : RowM w w.heap.size v x.parts.length (intCells x.parts) := by
  obtain ⟨gp, cp, rfl, h1⟩ := h
  refine ⟨_, _, rfl, by have := (own_cap h1).1; omega, by omega, fun _ => ⟨gp, 0, rfl, (own_cap h1).2, fun i u hu => ?_⟩⟩
  rw [Nat.zero_add]
  exact own_cell h1 (by rw [List.getElem?_append_left (List.getElem?_eq_some_iff.1 hu).1]; exact hu)
theorem LentM.below {w w' : World} {N : Nat} {l : List MK} {v : Value} (h : LentM w N l v) (hb : Below w.heap.size w w') : LentM w' N l v := by
  obtain ⟨g, c, vs, e, h1, h2, h3⟩ := h
  exact ⟨g, c, vs, e, own_below h1 hb, h2.below hb, h3⟩
theorem LentM.marks {w : World} {N : Nat} {l : List MK} {v : Value} (h : LentM w N l v) (hm : Modest l) : ∃ g c, v = .slice (some ⟨g, 0, none⟩) l.length c ∧ l.length ≤ c ∧ MarksAt w w.heap.size l (some ⟨g, 0, none⟩) := by
  obtain ⟨g, c, vs, rfl, h1, h2, h3⟩ := h
  refine ⟨g, c, rfl, by have := (own_cap h1).1; omega, fun _ => ⟨g, 0, rfl, (own_cap h1).2, fun i hi => ?_⟩⟩
  obtain ⟨v1, k1, k2, k3, k4⟩ := h2 i hi hi
  refine ⟨v1, ?_, ?_, ?_, k4.row (hm.2 _ (List.getElem_mem hi))⟩
  · rw [Nat.zero_add]; exact own_cell h1 k1
  · rw [Nat.zero_add]; exact own_cell h1 k2
  · rw [Nat.zero_add]; exact own_cell h1 k3
theorem LE.mark {w : World} {N : Nat} {x : MK} {v : Value} (h : LE w N x v) : ∃ gp cp, v = .slice (some ⟨gp, 0, none⟩) x.parts.length cp ∧ x.parts.length + 1 ≤ cp ∧ w.cell? ⟨gp, x.parts.length, none⟩ = some (.int .i64 (-77)) := by
  obtain ⟨gp, cp, e1, h1⟩ := h
  refine ⟨gp, cp, e1, (own_cap h1).1, own_cell h1 ?_⟩
  rw [List.getElem?_append_right (by rw [intCells_len]; exact Nat.le_refl _), intCells_len, Nat.sub_self]; rfl
set_option maxRecDepth 100000 in
set_option maxHeartbeats 4000000 in
theorem kept_any (l : List MK) (v : Value) (A : Option Addr) (c N : Nat) (w : World) (hv : LentM w N l v) (h : MarksAt w w.heap.size l A) (hlc : l.length ≤ c) (hm : Modest l) :
    Calls Tryz.prog 10 #[v, .slice A l.length c] w (Ret (.bool true) w) := by
  obtain ⟨g, cg, rfl, hcg, hen⟩ := hv.marks hm
  have HV := Lib.hid hv
  have HL := Lib.hid h
  have HMo := Lib.hid hm.2
  have hl1 := hm.1
  have HS := Lib.hid (sameMs_any l (some ⟨g, 0, none⟩) A cg c w hen h hcg hlc hl1)
  clear h hv hm hen
  go_enter Tryz.func10, Tryz.ntmps10
  go_wp2_with fail
  refine HS.out.mono ?_
  rintro e w1 ⟨rfl, hb1⟩
  have HB1 := Lib.hid hb1
  have HV1 := Lib.hid (HV.out.below hb1)
  obtain ⟨g', cg', vs, e', hown, hles, hmk⟩ := HV1.out
  injection e' with e' _ ec
  injection e' with e'
  injection e' with e1 _
  subst e1 ec
  have hcap := (own_cap hown).1
  have g0 := own_cell hown hmk
  have HOw := Lib.hid hown
  have HLe := Lib.hid hles
  have hcI : (l.length : Int) + 1 ≤ (cg : Int) := by omega
  have hn0 : (0 : Int) ≤ (l.length : Int) + 1 := by omega
  clear hb1 HS hown hles hmk HV HV1
  go_wp2_with fail
  clear g0
  go_loop [6] (fun i => ∃ (k : Nat), i = .int .i64 k ∧ k ≤ l.length) (fun i => l.length - (intOf i).toNat)
  case atStart => exact ⟨0, rfl, by omega⟩
  case round =>
    obtain ⟨k, rfl, hk⟩ := hrel
    by_cases hlt : k < l.length
    · obtain ⟨b, o, rfl⟩ := HL.out.some_ (by omega)
      obtain ⟨hbl, v1, g1, g2, g3, hent⟩ := (HL.out.below HB1.out).at_ hlt
      obtain ⟨A1, c1, rfl, hc1, hm1, _⟩ := hent
      obtain ⟨u1, k1, k2, k3, hle⟩ := HLe.out k hlt hlt
      obtain ⟨gp, cp, rfl, hcp, f3⟩ := hle.mark
      have f1 := own_cell HOw.out k3
      have m1 := HMo.out l[k] (List.getElem_mem hlt)
      obtain ⟨P, hP⟩ : ∃ P, P = l[k].parts.length := ⟨_, rfl⟩
      rw [← hP] at hc1 hm1 g3 hcp f1 f3 m1
      have hltI : (k : Int) < (l.length : Int) := by omega
      have hltJ : (k : Int) < (cg : Int) := by omega
      have i1 : (P : Int) + 1 ≤ (cp : Int) := by omega
      have i3 : (0 : Int) ≤ (P : Int) + 1 := by omega
      have i5 : (P : Int) < (P : Int) + 1 := by omega
      clear hP k1 k2 k3 hle g1 g2
      go_wp2_with fail
      go_round
      case rel => exact ⟨k + 1, by go_num, by omega⟩
      case measure => simp [intOf]; omega
    · obtain rfl : k = l.length := by omega
      go_wp2_with fail
      go_ret
      exact ⟨rfl, HB1.out⟩
end Go.Proofs.YtccaaniepeohbaaGreatDoor
