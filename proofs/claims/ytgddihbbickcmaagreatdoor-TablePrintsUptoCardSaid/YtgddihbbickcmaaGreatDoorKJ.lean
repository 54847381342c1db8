/-
  ref06.text: an entry's line.
-/
import Derived.Test.YtgddihbbickcmaaGreatDoorKI
namespace Go.Proofs.YtgddihbbickcmaaGreatDoor
open Go.RowKit Go.WideShapes
set_option linter.unusedVariables false
theorem join_take_one {sep : List UInt8} {xs : List (List UInt8)} (h : 0 < xs.length) : Lib.join (xs.take 1) sep = xs[0] := by
  match xs, h with
  | y :: r, _ => simp [Lib.join_one]
theorem join_take_succ {sep : List UInt8} {xs : List (List UInt8)} {k : Nat} (hk : 0 < k) (h : k < xs.length) : Lib.join (xs.take (k + 1)) sep = Lib.join (xs.take k) sep ++ sep ++ xs[k] := by
  match xs, k, hk, h with
  | y :: r, k + 1, _, h =>
    have h' : k < r.length := by simpa using h
    rw [List.take_succ_cons, List.take_succ_cons, Lib.join_cons, Lib.join_cons, Lib.joinTail_take_succ sep r k r[k] (List.getElem?_eq_getElem h')]
    simp [List.append_assoc]
theorem flat_take_succ {α : Type} {f : α → List UInt8} {l : List α} {k : Nat} (hk : k < l.length) : ((l.take (k + 1)).map f).flatten = ((l.take k).map f).flatten ++ f l[k] := by
  rw [List.take_succ_eq_append_getElem hk, List.map_append, List.flatten_append, List.map_singleton, List.flatten_singleton]
/-- The points' text. -/
def ptsText (l : List Int) : List UInt8 := Lib.join (l.map fun p => hexW p.toNat) [32]
theorem ptsText_len {l : List Int} (h : l.all pointB = true) : (ptsText l).length ≤ l.length * 7 := by
  have g1 := join_len [32] 6 (l.map fun p => hexW p.toNat) fun y hy => by
    obtain ⟨p, hp, rfl⟩ := List.mem_map.1 hy
    obtain ⟨q1, q2⟩ := pointB_of (List.all_eq_true.1 h p hp)
    exact hexW_few (by omega)
  rw [List.length_map] at g1
  exact g1
theorem ptsText_one {l : List Int} (h : 0 < l.length) : ptsText (l.take 1) = hexW l[0].toNat := by
  unfold ptsText
  rw [List.map_take, join_take_one (by simpa using h)]
  simp
theorem ptsText_succ {l : List Int} {k : Nat} (hk : 0 < k) (h : k < l.length) : ptsText (l.take (k + 1)) = ptsText (l.take k) ++ [32] ++ hexW l[k].toNat := by
  unfold ptsText
  rw [List.map_take, join_take_succ hk (by simpa using h), ← List.map_take]
  simp
theorem elsText_len {l : List EL} (h : l.all rightB = true) : ((l.map EL.text).flatten).length ≤ l.length * 17 := by
  have g2 := flat_len 17 (l.map EL.text) fun y hy => by
    obtain ⟨e, he, rfl⟩ := List.mem_map.1 hy
    exact Nat.le_of_eq (elText_len (List.all_eq_true.1 h e he))
  rw [List.length_map] at g2
  exact g2
theorem may_of {x : EN} (h : x.may = true) : (1 ≤ x.pts.length ∧ x.pts.length ≤ 8 ∧ 1 ≤ x.els.length ∧ x.els.length ≤ 16) ∧ x.pts.all pointB = true ∧ x.els.all rightB = true := by
  unfold EN.may at h
  simp only [Bool.and_eq_true, decide_eq_true_eq] at h
  exact ⟨h.1.1, h.1.2, h.2⟩
theorem all_take {α : Type} {p : α → Bool} {l : List α} (h : l.all p = true) (k : Nat) : (l.take k).all p = true := List.all_eq_true.2 fun x hx => List.all_eq_true.1 h x (List.mem_of_mem_take hx)
set_option maxRecDepth 100000 in
set_option maxHeartbeats 2000000 in
theorem refText_any (x : EN) (v1 v2 : Value) (w : World) (h : EntAt w w.heap.size x v1 v2) (hm : x.may = true) : Calls Tryz.prog 17 #[.agg #[v1, v2]] w (Ret (.string (txt x.text)) w) := by
  have H1 := Lib.hid h.1
  have H2 := Lib.hid h.2
  obtain ⟨⟨A1, c1, rfl, hc1, hm1, _⟩, ⟨A2, c2, rfl, hc2, hm2, _⟩⟩ := h
  have HB0 := Lib.hid (below_a1 w (.cells #[.slice A1 x.pts.length c1, .slice A2 x.els.length c2] 33))
  have HX0 := Lib.hid (EBox.new w (.slice A1 x.pts.length c1) (.slice A2 x.els.length c2))
  have HD := Lib.hid digits_any
  have HG := Lib.hid refElem_any
  obtain ⟨hl, hpa, hea⟩ := may_of hm
  have HPA := Lib.hid hpa
  have HEA := Lib.hid hea
  have hl1 := hl.1
  have hl2 := hl.2.1
  have hl4 := hl.2.2.2
  clear hl hpa hea hm
  go_enter Tryz.func17, Tryz.ntmps17
  go_wp2_with fail
  go_loopw [3, 4] (fun s i wr => ∃ (k : Nat) (L : List UInt8), s = .string (txt L) ∧ i = .int .i64 k ∧ k ≤ x.pts.length ∧ Hid (L = ptsText (x.pts.take k)) ∧ Hid (Below w.heap.size w wr) ∧ Hid (EBox wr w.heap.size (.slice A1 x.pts.length c1) (.slice A2 x.els.length c2))) (fun _ i _ => x.pts.length - (intOf i).toNat)
  case atStart => exact ⟨0, [], rfl, rfl, by omega, Lib.hid rfl, HB0, HX0⟩
  case round =>
    clear HB0 HX0
    obtain ⟨k, L, rfl, rfl, hk, HL, HB, HX⟩ := hrel
    have hwz := HB.out.size
    have hXl := HX.out.lt
    obtain ⟨x0, x1⟩ := HX.out.cells
    have hLl : L.length ≤ 56 := by
      rw [HL.out]
      have h1 := ptsText_len (all_take HPA.out k)
      have h2 := List.length_take_le' k x.pts
      omega
    by_cases hlt : k < x.pts.length
    · obtain ⟨b1, o1, d1, e1, hb1, g1⟩ := (H1.out.below HB.out).int hlt
      injection e1 with e1 _ ec1; subst e1 ec1
      have hltI : (k : Int) < (x.pts.length : Int) := by omega
      obtain ⟨hp1, hp2⟩ := pointB_of (List.all_eq_true.1 HPA.out x.pts[k] (List.getElem_mem hlt))
      obtain ⟨p, hp⟩ := Int.eq_ofNat_of_zero_le hp1
      rw [hp] at hp2 g1
      have hpt : x.pts[k].toNat = p := by rw [hp]; rfl
      have hpl := hexW_few (n := p) (by omega)
      have HD' := Lib.hid (fun W => HD.out p W (by omega))
      by_cases hk0 : k = 0
      · subst hk0
        rw [Nat.add_zero] at g1
        have HN := Lib.hid (show txt L ++ txt (hexW p) = txt (ptsText (x.pts.take 1)) by
          rw [ptsText_one hl1, hpt, HL.out, txt_append]; rfl)
        have z : (9223372036854775807 < (txt L).size + (txt (hexW p)).size) = False := eq_false (by rw [txt_size, txt_size]; omega)
        clear hp hp1 hp2
        go_wp2_with fail
        refine (HD'.out _).mono ?_
        rintro e w2 ⟨rfl, hb2⟩
        have HB2 := Lib.hid (HB.out.trans (hb2.mono hwz))
        have HX2 := Lib.hid (HX.out.below hb2 hXl)
        clear hb2 x0 x1
        go_wp2_with fail
        go_roundw
        case rel => exact ⟨1, _, congrArg Value.string HN.out, rfl, by omega, Lib.hid rfl, HB2, HX2⟩
        case measure => simp [intOf]; omega
      · have hk0I : (0 : Int) < (k : Int) := by omega
        have HN := Lib.hid (show txt L ++ txt [32] ++ txt (hexW p) = txt (ptsText (x.pts.take (k + 1))) by
          rw [ptsText_succ (by omega) hlt, hpt, HL.out, txt_append, txt_append])
        have z : (9223372036854775807 < (txt L).size + 1) = False := eq_false (by rw [txt_size]; omega)
        have z2 : (9223372036854775807 < (txt L).size + 1 + (txt (hexW p)).size) = False := eq_false (by rw [txt_size, txt_size]; omega)
        clear hp hp1 hp2
        go_wp2_with fail
        refine (HD'.out _).mono ?_
        rintro e w2 ⟨rfl, hb2⟩
        have HB2 := Lib.hid (HB.out.trans (hb2.mono hwz))
        have HX2 := Lib.hid (HX.out.below hb2 hXl)
        clear hb2 x0 x1
        go_wp2_with fail
        go_roundw
        case rel => exact ⟨k + 1, _, congrArg Value.string HN.out, by go_num, by omega, Lib.hid rfl, HB2, HX2⟩
        case measure => simp [intOf]; omega
    · obtain rfl : k = x.pts.length := by omega
      have HL1 := Lib.hid (show L = ptsText x.pts by have h9 := HL.out; rwa [List.take_length] at h9)
      clear hlt HL
      have z : (9223372036854775807 < (txt L).size + 1) = False := eq_false (by rw [txt_size]; omega)
      have HN0 := Lib.hid (show txt L ++ txt [59] = txt (ptsText x.pts ++ [59] ++ ((x.els.take 0).map EL.text).flatten) by rw [HL1.out, txt_append]; simp)
      go_wp2_with fail
      go_loopw [3, 5] (fun s i wr => ∃ (k : Nat) (M : List UInt8), s = .string (txt M) ∧ i = .int .i64 k ∧ k ≤ x.els.length ∧ Hid (M = ptsText x.pts ++ [59] ++ ((x.els.take k).map EL.text).flatten) ∧ Hid (Below w.heap.size w wr) ∧ Hid (EBox wr w.heap.size (.slice A1 x.pts.length c1) (.slice A2 x.els.length c2))) (fun _ i _ => x.els.length - (intOf i).toNat)
      case atStart => exact ⟨0, _, congrArg Value.string HN0.out, rfl, by omega, Lib.hid rfl, HB, HX⟩
      case round =>
        clear HB HX x0 x1 hwz hXl HN0 z
        obtain ⟨k, M, rfl, rfl, hk, HM, HB, HX⟩ := hrel
        have hwz := HB.out.size
        have hXl := HX.out.lt
        obtain ⟨x0, x1⟩ := HX.out.cells
        have hMl : M.length ≤ 400 := by
          rw [HM.out]
          have h1 := ptsText_len HPA.out
          have h2 := elsText_len (all_take HEA.out k)
          have h3 := List.length_take_le' k x.els
          simp only [List.length_append, List.length_singleton]
          omega
        by_cases hlt : k < x.els.length
        · obtain ⟨b1, o1, d1, e1, hb1, g0, g1, g2, g3⟩ := (H2.out.below HB.out).el hlt
          injection e1 with e1 _ ec1; subst e1 ec1
          have hltI : (k : Int) < (x.els.length : Int) := by omega
          have hr := List.all_eq_true.1 HEA.out x.els[k] (List.getElem_mem hlt)
          have hel := elText_len hr
          have HG' := Lib.hid (HG.out x.els[k] hr)
          have HN := Lib.hid (show txt M ++ txt x.els[k].text = txt (ptsText x.pts ++ [59] ++ ((x.els.take (k + 1)).map EL.text).flatten) by
            rw [HM.out, txt_append, flat_take_succ hlt]; simp [List.append_assoc])
          have z : (9223372036854775807 < (txt M).size + (txt x.els[k].text).size) = False := eq_false (by rw [txt_size, txt_size]; omega)
          clear hr hel
          go_wp2_with fail
          refine (HG'.out _).mono ?_
          rintro e w2 ⟨rfl, hb2⟩
          have HB2 := Lib.hid (HB.out.trans (hb2.mono hwz))
          have HX2 := Lib.hid (HX.out.below hb2 hXl)
          clear hb2 x0 x1
          go_wp2_with fail
          go_roundw
          case rel => exact ⟨k + 1, _, congrArg Value.string HN.out, by go_num, by omega, Lib.hid rfl, HB2, HX2⟩
          case measure => simp [intOf]; omega
        · obtain rfl : k = x.els.length := by omega
          have HR := Lib.hid (show txt M = txt x.text by have h9 := HM.out; rw [List.take_length] at h9; rw [h9]; rfl)
          clear hlt
          go_wp2_with fail
          go_ret
          exact ret_s HR.out HB.out
end Go.Proofs.YtgddihbbickcmaaGreatDoor
