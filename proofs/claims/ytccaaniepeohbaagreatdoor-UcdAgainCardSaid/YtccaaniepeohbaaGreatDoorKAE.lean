/-
  ref04.text: a mark's line.
-/
import Derived.Test.YtccaaniepeohbaaGreatDoorKAA
namespace Go.Proofs.YtccaaniepeohbaaGreatDoor
open Go.RowKit Go.WideShapes
set_option linter.unusedVariables false
set_option linter.unusedSimpArgs false
set_option maxRecDepth 100000 in
set_option maxHeartbeats 4000000 in
theorem refMText_nat (P C : Nat) (ps : List Int) (v : Value) (w : World) (h : RowM w w.heap.size v ps.length (intCells ps)) (hP : P ≤ 1114111) (hC : C ≤ 254) (hps : ps.all pointB = true) (hlen : ps.length ≤ 13107) : Calls Tryz.prog 21 #[.agg #[.int .i64 P, .int .i64 C, v]] w (Ret (.string (txt (MK.text ⟨P, C, ps⟩))) w) := by
  have H1 := Lib.hid h
  obtain ⟨A1, c1, rfl, hc1, hm1, _⟩ := h
  have HD := Lib.hid digits_any
  have HT := Lib.hid (ten_any C hC)
  have HPA := Lib.hid hps
  have HH := Lib.hid (show MK.head ⟨P, C, ps⟩ = hexW P ++ [59] ++ Lib.decDigits C ++ [59] by simp [MK.head])
  have h6 := hexW_few hP
  have h3 := (dec_three hC).2
  have z1 : (9223372036854775807 < (txt (hexW P)).size + 1) = False := eq_false (by rw [txt_size]; omega)
  have z2 : (9223372036854775807 < (txt (hexW P)).size + 1 + (txt (Lib.decDigits C)).size) = False := eq_false (by rw [txt_size, txt_size]; omega)
  have z3 : (9223372036854775807 < (txt (hexW P)).size + 1 + (txt (Lib.decDigits C)).size + 1) = False := eq_false (by rw [txt_size, txt_size]; omega)
  go_enter Tryz.func21, Tryz.ntmps21
  go_upto_region 1 with fail
  obtain ⟨W1, hW1⟩ : ∃ W1, W1 = w.alloc (Obj.cells #[.int .i64 P, .int .i64 C, .slice A1 ps.length c1] 36) := ⟨_, rfl⟩
  have hb1 : Below w.heap.size w W1 := by rw [hW1]; exact below_a1 _ _
  have HX1 := Lib.hid (show MBox W1 w.heap.size P C (.slice A1 ps.length c1) by rw [hW1]; exact MBox.new _ _ _ _)
  have hz1' : W1.heap.size = w.heap.size + 1 := by rw [hW1]; simp
  rw [← hW1]
  clear hW1
  have HB1 := Lib.hid hb1
  clear hb1
  obtain ⟨x0, x1, x2⟩ := HX1.out.cells
  have HK := Lib.hid (fun (W : World) (hb : Below W1.heap.size W1 W) => (⟨hb, (hb.cell (by simp only; omega)).trans x0, (hb.cell (by simp only; omega)).trans x1⟩ : Below W1.heap.size W1 W ∧ W.cell? ⟨w.heap.size, 0, none⟩ = some (.int .i64 P) ∧ W.cell? ⟨w.heap.size, 1, none⟩ = some (.int .i64 C)))
  refine wp_region_noPanic ?_
  refine wp_region_held_drew (S := fun W => Below W1.heap.size W1 W ∧ W.cell? ⟨w.heap.size, 0, none⟩ = some (.int .i64 P) ∧ W.cell? ⟨w.heap.size, 1, none⟩ = some (.int .i64 C)) (by kernel_rfl) (HK.out _ (Below.refl _ _).drew) (fun hHeld0 => ?_)
  (try simp only [Act.put, List.setIfInBounds_toArray, List.set_cons_zero, List.set_cons_succ])
  refine wpAnyH_take (i := 0) (oi := ?_) (v := ?_) ?_ (by kernel_rfl) (by kernel_rfl) (by kernel_rfl) (fun _ _ _ h => h) (Or.inl ⟨?_, ?_⟩) hHeld0 ?_
  rotate_left 2
  · (simp only [List.getElem?_toArray, List.getElem?_cons_zero]; rfl)
  · rfl
  · (intro w hSw; (try dsimp only at hSw); go_simp; (try with_reducible rfl))
  (try simp only [Act.put, List.setIfInBounds_toArray, List.set_cons_zero, List.set_cons_succ])
  refine wpAnyH_take (i := 1) (oi := ?_) (v := ?_) ?_ (by kernel_rfl) (by kernel_rfl) (by kernel_rfl) (fun _ _ _ h => h) (Or.inl ⟨?_, ?_⟩) hHeld0 ?_
  rotate_left 2
  · (simp only [List.getElem?_toArray, List.getElem?_cons_succ, List.getElem?_cons_zero]; rfl)
  · rfl
  · (intro w hSw; (try dsimp only at hSw); go_simp; (try with_reducible rfl))
  (try simp only [Act.put, List.setIfInBounds_toArray, List.set_cons_zero, List.set_cons_succ])
  refine wpAnyH_take (i := 4) (oi := ?_) (v := ?_) ?_ (by kernel_rfl) (by kernel_rfl) (by kernel_rfl) (fun _ _ _ h => h) (Or.inl ⟨?_, ?_⟩) hHeld0 ?_
  rotate_left 2
  · (simp only [List.getElem?_toArray, List.getElem?_cons_succ, List.getElem?_cons_zero]; rfl)
  · rfl
  · (intro w hSw; (try dsimp only at hSw); go_simp; (try with_reducible rfl))
  (try simp only [Act.put, List.setIfInBounds_toArray, List.set_cons_zero, List.set_cons_succ])
  refine wpAnyH_take (i := 5) (oi := ?_) (v := ?_) ?_ (by kernel_rfl) (by kernel_rfl) (by kernel_rfl) (fun _ _ _ h => h) (Or.inl ⟨?_, ?_⟩) hHeld0 ?_
  rotate_left 2
  · (simp only [List.getElem?_toArray, List.getElem?_cons_succ, List.getElem?_cons_zero]; rfl)
  · rfl
  · (intro w hSw; (try dsimp only at hSw); go_simp; (try with_reducible rfl))
  (try simp only [Act.put, List.setIfInBounds_toArray, List.set_cons_zero, List.set_cons_succ])
  refine wpAnyH_ready (rs := [2]) (by kernel_rfl) (by simp) ?_
  refine AllReadyH.cons (by rfl) (fun K hK => ?_) AllReadyH.nil
  go_simp
  go_at_call 41
  refine (HD.out P _ (by omega)).mono ?_
  rintro e w2 ⟨rfl, hb2⟩
  have hS2 := HK.out w2 ((Below.refl W1.heap.size W1).drew.trans hb2)
  clear hb2
  refine hK.out _ _ (hS2) (fun hHeld1 => ?_)
  clear hK K
  (try simp only [Act.put, List.setIfInBounds_toArray, List.set_cons_zero, List.set_cons_succ])
  refine wpAnyH_take (i := 3) (oi := ?_) (v := ?_) ?_ (by kernel_rfl) (by kernel_rfl) (by kernel_rfl) (fun _ _ _ h => h) (Or.inl ⟨?_, ?_⟩) hHeld1 ?_
  rotate_left 2
  · (simp only [List.getElem?_toArray, List.getElem?_cons_succ, List.getElem?_cons_zero]; rfl)
  · rfl
  · (intro w hSw; (try dsimp only at hSw); go_simp; (try with_reducible rfl))
  (try simp only [Act.put, List.setIfInBounds_toArray, List.set_cons_zero, List.set_cons_succ])
  refine wpAnyH_ready (rs := [6]) (by kernel_rfl) (by simp) ?_
  refine AllReadyH.cons (by rfl) (fun K hK => ?_) AllReadyH.nil
  go_simp
  go_at_call 42
  refine (HT.out w2).mono ?_
  rintro e w3 ⟨rfl, hb3⟩
  have hS3 := HK.out w3 (hS2.1.trans (hb3.mono hS2.1.size))
  clear hb3
  refine hK.out _ _ (hS3) (fun hHeld2 => ?_)
  clear hK K
  (try simp only [Act.put, List.setIfInBounds_toArray, List.set_cons_zero, List.set_cons_succ])
  refine wpAnyH_take (i := 7) (oi := ?_) (v := ?_) ?_ (by kernel_rfl) (by kernel_rfl) (by kernel_rfl) (fun _ _ _ h => h) (Or.inl ⟨?_, ?_⟩) hHeld2 ?_
  rotate_left 2
  · (simp only [List.getElem?_toArray, List.getElem?_cons_succ, List.getElem?_cons_zero]; rfl)
  · rfl
  · (intro w hSw; (try dsimp only at hSw); go_simp; (try with_reducible rfl))
  (try simp only [Act.put, List.setIfInBounds_toArray, List.set_cons_zero, List.set_cons_succ])
  refine wpAnyH_take (i := 8) (oi := ?_) (v := ?_) ?_ (by kernel_rfl) (by kernel_rfl) (by kernel_rfl) (fun _ _ _ h => h) (Or.inl ⟨?_, ?_⟩) hHeld2 ?_
  rotate_left 2
  · (simp only [List.getElem?_toArray, List.getElem?_cons_succ, List.getElem?_cons_zero]; rfl)
  · rfl
  · (intro w hSw; (try dsimp only at hSw); go_simp; (try with_reducible rfl))
  (try simp only [Act.put, List.setIfInBounds_toArray, List.set_cons_zero, List.set_cons_succ])
  refine wpAnyH_take (i := 9) (oi := ?_) (v := ?_) ?_ (by kernel_rfl) (by kernel_rfl) (by kernel_rfl) (fun _ _ _ h => h) (Or.inl ⟨?_, ?_⟩) hHeld2 ?_
  rotate_left 2
  · (simp only [List.getElem?_toArray, List.getElem?_cons_succ, List.getElem?_cons_zero]; rfl)
  · rfl
  · (intro w hSw; (try dsimp only at hSw); go_simp; (try with_reducible rfl))
  (try simp only [Act.put, List.setIfInBounds_toArray, List.set_cons_zero, List.set_cons_succ])
  refine wpAnyH_done (by kernel_rfl) ?_ _
  refine NoPanic.normal ?_
  have HB3 := Lib.hid (HB1.out.trans (hS3.1.mono (by omega)))
  have HX3 := Lib.hid (HX1.out.below hS3.1 (by omega))
  have HL0 := Lib.hid (show txt (hexW P) ++ txt [59] ++ txt (Lib.decDigits C) ++ txt [59] = txt (MK.head ⟨P, C, ps⟩ ++ ptsText (ps.take 0)) by rw [HH.out]; simp only [txt_append]; simp [ptsText, Lib.join_nil])
  have hhl : (MK.head ⟨P, C, ps⟩).length ≤ 11 := by rw [HH.out]; simp only [List.length_append, List.length_singleton]; omega
  clear hS3 hS2 x0 x1 x2 HK z1 z2 z3
  go_wp2_with fail
  go_loopw [3, 4] (fun s i wr => ∃ (k : Nat) (L : List UInt8), s = .string (txt L) ∧ i = .int .i64 k ∧ k ≤ ps.length ∧ Hid (L = MK.head ⟨P, C, ps⟩ ++ ptsText (ps.take k)) ∧ Hid (Below w.heap.size w wr) ∧ Hid (MBox wr w.heap.size P C (.slice A1 ps.length c1))) (fun _ i _ => ps.length - (intOf i).toNat)
  case atStart => exact ⟨0, _, congrArg Value.string HL0.out, rfl, by omega, Lib.hid rfl, HB3, HX3⟩
  case round =>
    clear HB3 HX3 HL0
    obtain ⟨k, L, rfl, rfl, hk, HL, HB, HX⟩ := hrel
    have hwz := HB.out.size
    have hXl := HX.out.lt
    obtain ⟨x0, x1, x2⟩ := HX.out.cells
    have hLl : L.length ≤ 100000 := by
      rw [HL.out, List.length_append]
      have h1 := ptsText_len (all_take HPA.out k)
      have h2 := List.length_take_le' k ps
      omega
    by_cases hlt : k < ps.length
    · obtain ⟨b1, o1, d1, e1, hb1, g1⟩ := (H1.out.below HB.out).int hlt
      injection e1 with e1 _ ec1; subst e1 ec1
      have hltI : (k : Int) < (ps.length : Int) := by omega
      obtain ⟨hp1, hp2⟩ := pointB_of (List.all_eq_true.1 HPA.out ps[k] (List.getElem_mem hlt))
      obtain ⟨p, hp⟩ := Int.eq_ofNat_of_zero_le hp1
      rw [hp] at hp2 g1
      have hpt : ps[k].toNat = p := by rw [hp]; rfl
      have hpl := hexW_few (n := p) (by omega)
      have HD' := Lib.hid (fun W => HD.out p W (by omega))
      by_cases hk0 : k = 0
      · subst hk0
        rw [Nat.add_zero] at g1
        have HN := Lib.hid (show txt L ++ txt (hexW p) = txt (MK.head ⟨P, C, ps⟩ ++ ptsText (ps.take 1)) by
          rw [ptsText_one hlt, hpt, HL.out, txt_append]; simp [ptsText, Lib.join_nil])
        have z : (9223372036854775807 < (txt L).size + (txt (hexW p)).size) = False := eq_false (by rw [txt_size, txt_size]; omega)
        clear hp hp1 hp2
        go_wp2_with fail
        refine (HD'.out _).mono ?_
        rintro e w2 ⟨rfl, hb2⟩
        have HB2 := Lib.hid (HB.out.trans (hb2.mono hwz))
        have HX2 := Lib.hid (HX.out.below hb2 hXl)
        clear hb2 x0 x1 x2
        go_wp2_with fail
        go_roundw
        case rel => exact ⟨1, _, congrArg Value.string HN.out, rfl, by omega, Lib.hid rfl, HB2, HX2⟩
        case measure => simp [intOf]; omega
      · have hk0I : (0 : Int) < (k : Int) := by omega
        have HN := Lib.hid (show txt L ++ txt [32] ++ txt (hexW p) = txt (MK.head ⟨P, C, ps⟩ ++ ptsText (ps.take (k + 1))) by
          rw [ptsText_succ (by omega) hlt, hpt, HL.out, txt_append, txt_append]; simp [List.append_assoc])
        have z : (9223372036854775807 < (txt L).size + 1) = False := eq_false (by rw [txt_size]; omega)
        have z2 : (9223372036854775807 < (txt L).size + 1 + (txt (hexW p)).size) = False := eq_false (by rw [txt_size, txt_size]; omega)
        clear hp hp1 hp2
        go_wp2_with fail
        refine (HD'.out _).mono ?_
        rintro e w2 ⟨rfl, hb2⟩
        have HB2 := Lib.hid (HB.out.trans (hb2.mono hwz))
        have HX2 := Lib.hid (HX.out.below hb2 hXl)
        clear hb2 x0 x1 x2
        go_wp2_with fail
        go_roundw
        case rel => exact ⟨k + 1, _, congrArg Value.string HN.out, by go_num, by omega, Lib.hid rfl, HB2, HX2⟩
        case measure => simp [intOf]; omega
    · obtain rfl : k = ps.length := by omega
      have HR := Lib.hid (show txt L = txt (MK.text ⟨P, C, ps⟩) by have h9 := HL.out; rw [List.take_length] at h9; rw [h9]; rfl)
      clear hlt HL
      go_wp2_with fail
      go_ret
      exact ret_s HR.out HB.out
theorem refMText_any (m : MK) (v : Value) (w : World) (h : RowM w w.heap.size v m.parts.length (intCells m.parts)) (hm : m.may = true) (hlen : m.parts.length ≤ 13107) : Calls Tryz.prog 21 #[.agg #[.int .i64 m.pt, .int .i64 m.cls, v]] w (Ret (.string (txt m.text)) w) := by
  obtain ⟨h1, h2, h3⟩ := may_of hm
  obtain ⟨p1, p2⟩ := fits_point h1
  obtain ⟨pt, cls, ps⟩ := m
  simp only at *
  obtain ⟨P, rfl⟩ := Int.eq_ofNat_of_zero_le p1
  obtain ⟨C, rfl⟩ := Int.eq_ofNat_of_zero_le h2.1
  exact refMText_nat P C ps v w h (by omega) (by omega) (fits_all h3) hlen
end Go.Proofs.YtccaaniepeohbaaGreatDoor
