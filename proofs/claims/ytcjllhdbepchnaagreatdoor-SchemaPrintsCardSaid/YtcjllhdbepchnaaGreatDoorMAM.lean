/-
  ref11.line: a field's line, without blanks ahead.
-/
import Derived.Test.YtcjllhdbepchnaaGreatDoorMAL
import Derived.Test.YtcjllhdbepchnaaGreatDoorMI
import Derived.Deep.RegionHeld3
import Derived.Deep.DeepCutAuto
namespace Go.Proofs.YtcjllhdbepchnaaGreatDoor
open Go.RowKit Go.WideShapes
set_option linter.unusedVariables false
theorem refKind_at (w : World) (t : TypeId) (k : Nat) (h1 : 1 ≤ k) (h7 : k ≤ 7) : (w.alloc (.cells refKinds t)).cell? ⟨w.heap.size, 0 + k, none⟩ = some (.string (txt (kindW k))) := by
  have h := World.alloc_heap_new w (.cells refKinds t)
  simp only [World.cell?, h, Nat.zero_add]
  have hc : k = 1 ∨ k = 2 ∨ k = 3 ∨ k = 4 ∨ k = 5 ∨ k = 6 ∨ k = 7 := by omega
  rcases hc with rfl | rfl | rfl | rfl | rfl | rfl | rfl <;> rfl
theorem refKinds_left {w W w2 : World} {cs : Array Value} {t : TypeId} {k : Nat} (hw : W = (w.alloc (.cells cs 57)).drew) (h : w2 = W.alloc (.cells refKinds t)) (h1 : 1 ≤ k) (h7 : k ≤ 7) : Hid (Below w.heap.size w w2) ∧ FBox w2 w.heap.size cs ∧ w2.cell? ⟨w.heap.size + 1, k, none⟩ = some (.string (txt (kindW k))) := by
  subst hw h
  refine ⟨Lib.hid (((below_a1 _ _).drew).alloc (by simp) _), ?_, ?_⟩
  · exact ((FBox.new w cs).below (w' := (w.alloc (.cells cs 57)).drew) ((Below.refl (w.alloc (.cells cs 57)).heap.size _).drew) (by simp)).below (below_a1 _ _) (by simp)
  · have e : w.heap.size + 1 = (w.alloc (.cells cs 57)).drew.heap.size := by simp
    have h9 := refKind_at (w.alloc (.cells cs 57)).drew t k h1 h7
    rw [Nat.zero_add] at h9
    rw [e]; exact h9
theorem txt_data (m : ByteArray) : m = txt m.data.toList := by cases m; simp [txt]
theorem line_parts (nm : ByteArray) (k : Nat) (dn : Bool) (nl : Nat) (bd lb : Bool) (lm : ByteArray) (hb : Bool) (hm : ByteArray) (mn : Nat) (st : Int) (sh ba : Bool) (hnl : nl ≤ 2) (hb2 : bd = true → k = 2) (hsh : sh = true → k = 6) (hba : ba = true → k = 6) :
    headW ⟨nm, k, dn, nl, bd, lb, lm, hb, hm, (mn : Nat), st, sh, ba⟩ ++ (if dn then wDown else []) ++ (if nl = 1 then nullW 1 else []) ++ (if nl = 2 then nullW 2 else []) ++ (if bd then wFrom ++ numText lb lm ++ wTo ++ numText hb hm else []) ++ (if k = 3 ∨ k = 5 then wMost ++ Lib.decDigits mn else []) ++ (if k = 6 then wStr ++ Lib.decDigits st.toNat else []) ++ (if sh then wShift else []) ++ (if ba then wBack else []) = lineW ⟨nm, k, dn, nl, bd, lb, lm, hb, hm, (mn : Nat), st, sh, ba⟩ := by
  have hn : (if nl = 1 then nullW 1 else []) ++ (if nl = 2 then nullW 2 else []) = nullW nl := by
    have hc : nl = 0 ∨ nl = 1 ∨ nl = 2 := by omega
    rcases hc with rfl | rfl | rfl <;> rfl
  unfold lineW tailW
  simp only [Int.toNat_natCast, ← hn]
  by_cases h2 : k = 2
  · subst h2
    have e1 : sh = false := by cases sh with
      | false => rfl
      | true => have := hsh rfl; omega
    have e2 : ba = false := by cases ba with
      | false => rfl
      | true => have := hba rfl; omega
    subst e1 e2
    simp [List.append_assoc]
  · have e3 : bd = false := by cases bd with
      | false => rfl
      | true => exact absurd (hb2 rfl) h2
    subst e3
    by_cases h35 : k = 3 ∨ k = 5
    · have e1 : sh = false := by cases sh with
        | false => rfl
        | true => have := hsh rfl; omega
      have e2 : ba = false := by cases ba with
        | false => rfl
        | true => have := hba rfl; omega
      subst e1 e2
      have h6 : ¬ k = 6 := by omega
      simp [h2, h35, h6, List.append_assoc]
    · by_cases h6 : k = 6
      · simp [h6, List.append_assoc]
      · have e1 : sh = false := by cases sh with
          | false => rfl
          | true => exact absurd (hsh rfl) h6
        have e2 : ba = false := by cases ba with
          | false => rfl
          | true => exact absurd (hba rfl) h6
        subst e1 e2
        simp [h2, h35, h6, List.append_assoc]
set_option maxRecDepth 100000 in
set_option maxHeartbeats 4000000 in
theorem refLine_any (s : FS) (a : Option Addr) (n c : Nat) (w : World) (hok : s.ok) (hk1 : 1 ≤ s.kind) (hk7 : s.kind ≤ 7) (hnl : s.nulls ≤ 2) (hnm : s.name.size ≤ 16)
    (hb2 : s.bnd = true → s.kind = 2 ∧ numWhy s.lb s.lm = 0 ∧ numWhy s.hb s.hm = 0) (hm0 : 0 ≤ s.most) (hst : s.kind = 6 → 0 ≤ s.st) (hsh : s.sh = true → s.kind = 6) (hba : s.ba = true → s.kind = 6) :
    Calls Tryz.prog 95 #[.agg #[.string s.name, .int .u8 s.kind, .bool s.down, .int .u8 s.nulls, .bool s.bnd, .bool s.lb, .string s.lm, .bool s.hb, .string s.hm, .int .i64 s.most, .int .i64 s.st, .bool s.sh, .bool s.ba, .slice a n c]] w (Ret (.string (txt (lineW s))) w) := by
  obtain ⟨nm, k, dn, nl, bd, lb, lm, hb, hm, ms, st, sh, ba⟩ := s
  obtain ⟨o1, o2, o3, o4, o5, o6, o7, o8, o9⟩ := hok
  simp only at *
  obtain ⟨mn, rfl⟩ := Int.eq_ofNat_of_zero_le hm0
  have HHw := Lib.hid (show (headW ⟨nm, k, dn, nl, bd, lb, lm, hb, hm, (mn : Nat), st, sh, ba⟩).length ≤ 28 by
    have h1 := kindW_few k
    have h2 : nm.data.toList.length ≤ 16 := by rw [← ba_len]; exact hnm
    unfold headW wField
    simp only [List.length_append, List.length_cons, List.length_nil]
    omega)
  have HN := Lib.hid (show bd = true → (numText lb lm).length ≤ 800 ∧ (numText hb hm).length ≤ 800 from fun h => ⟨numText_few (hb2 h).2.1, numText_few (hb2 h).2.2⟩)
  have hpure := line_parts nm k dn nl bd lb lm hb hm mn st sh ba hnl (fun h => (hb2 h).1) hsh hba
  obtain ⟨LW, hLW⟩ : ∃ LW, LW = lineW ⟨nm, k, dn, nl, bd, lb, lm, hb, hm, (mn : Nat), st, sh, ba⟩ := ⟨_, rfl⟩
  rw [← hLW] at hpure
  show Calls Tryz.prog _ _ _ (Ret (.string (txt (lineW ⟨nm, k, dn, nl, bd, lb, lm, hb, hm, (mn : Nat), st, sh, ba⟩))) w)
  rw [← hLW]
  have HPure := Lib.hid hpure
  clear hpure hLW
  have HB2 := Lib.hid hb2
  have HSH := Lib.hid hsh
  have HBA := Lib.hid hba
  have HST := Lib.hid hst
  clear hb2 hsh hba hst
  have HK := Lib.hid refKinds_any
  go_enter Tryz.func95, Tryz.ntmps95
  go_upto_region 1 with fail
  have HFB := Lib.hid (FBox.new w #[.string nm, .int .u8 k, .bool dn, .int .u8 nl, .bool bd, .bool lb, .string lm, .bool hb, .string hm, .int .i64 (mn : Nat), .int .i64 st, .bool sh, .bool ba, .slice a n c])
  have hB0 := Lib.hid (below_a1 w (.cells #[.string nm, .int .u8 k, .bool dn, .int .u8 nl, .bool bd, .bool lb, .string lm, .bool hb, .string hm, .int .i64 (mn : Nat), .int .i64 st, .bool sh, .bool ba, .slice a n c] 57))
  have HH := Lib.hid (show txt wField ++ nm ++ txt [32] ++ txt (kindW k) = txt (headW ⟨nm, k, dn, nl, bd, lb, lm, hb, hm, (mn : Nat), st, sh, ba⟩) by
    conv => lhs; rw [txt_data nm]
    simp only [txt_append]; rfl)
  have hz1 : (txt (kindW k)).size ≤ 5 := by rw [txt_size]; exact kindW_few k
  go_cut [3] (fun s3 wx => s3 = .string (txt (headW ⟨nm, k, dn, nl, bd, lb, lm, hb, hm, (mn : Nat), st, sh, ba⟩)) ∧ Hid (Below w.heap.size w wx) ∧ FBox wx w.heap.size #[.string nm, .int .u8 k, .bool dn, .int .u8 nl, .bool bd, .bool lb, .string lm, .bool hb, .string hm, .int .i64 (mn : Nat), .int .i64 st, .bool sh, .bool ba, .slice a n c])
  case first =>
    obtain ⟨c0, c1, c2, c3, c4, c5, c6, c7, c8, c9, c10, c11, c12, c13⟩ := HFB.out.cells
    have zk : ((k : Int) < 8) = True := eq_true (by omega)
    have zk2 : (k < 8) = True := eq_true (by omega)
    have zk3 : ((k : Int) < 0) = False := eq_false (by omega)
    have zk4 : ((0 : Int) ≤ (k : Int)) = True := eq_true (by omega)
    have z1 : (9223372036854775807 < 6 + nm.size) = False := eq_false (by omega)
    have z2 : (9223372036854775807 < 6 + nm.size + 1) = False := eq_false (by omega)
    have z3 : (9223372036854775807 < 6 + nm.size + 1 + (txt (kindW k)).size) = False := eq_false (by omega)
    go_region_law (first
      | (go_simp; go_at_call 113; refine (HK.out _).mono ?_; rintro e w2 ⟨t, rfl, hw2⟩; obtain ⟨HB2, hF2, kf⟩ := refKinds_left rfl hw2 hk1 hk7; have hF2 := Lib.hid hF2; obtain ⟨c0, c1, c2, c3, c4, c5, c6, c7, c8, c9, c10, c11, c12, c13⟩ := hF2.out.cells; clear hw2))
    all_goals (go_wp2_with fail; go_meet; exact ⟨congrArg Value.string HH.out, HB2, hF2.out⟩)
  case rest =>
    clear HFB
    obtain ⟨rfl, HB, hF⟩ := hcut
    have hF := Lib.hid hF
    obtain ⟨c0, c1, c2, c3, c4, c5, c6, c7, c8, c9, c10, c11, c12, c13⟩ := hF.out.cells
    obtain ⟨L0, hL0⟩ : ∃ L0, L0 = headW ⟨nm, k, dn, nl, bd, lb, lm, hb, hm, (mn : Nat), st, sh, ba⟩ := ⟨_, rfl⟩
    have hl0 : L0.length ≤ 28 := by rw [hL0]; exact HHw.out
    rw [← hL0]
    have HL0 := Lib.hid hL0
    clear hL0
    go_upto_if 19 with fail
    go_cut [3] (fun s3 wx => s3 = .string (txt (L0 ++ (if dn then wDown else []))) ∧ Hid (Below w.heap.size w wx) ∧ Hid (FBox wx w.heap.size #[.string nm, .int .u8 k, .bool dn, .int .u8 nl, .bool bd, .bool lb, .string lm, .bool hb, .string hm, .int .i64 (mn : Nat), .int .i64 st, .bool sh, .bool ba, .slice a n c]))
    case first =>
      cases dn with
      | false =>
        go_wp2_with fail
        go_meet
        exact ⟨by simp, HB, hF⟩
      | true =>
        have z : (9223372036854775807 < (txt L0).size + 5) = False := by rw [txt_size]; exact eq_false (by omega)
        go_wp2_with fail
        go_meet
        exact ⟨congrArg Value.string (txt_append L0 wDown), HB, hF⟩
    case rest =>
      clear hF HB c0 c1 c2 c3 c4 c5 c6 c7 c8 c9 c10 c11 c12 c13
      obtain ⟨rfl, HB, hF⟩ := hcut
      obtain ⟨c0, c1, c2, c3, c4, c5, c6, c7, c8, c9, c10, c11, c12, c13⟩ := hF.out.cells
      obtain ⟨L1, hL1⟩ : ∃ L1, L1 = L0 ++ (if dn then wDown else []) := ⟨_, rfl⟩
      have hl1 : L1.length ≤ 33 := by
        rw [hL1, List.length_append]
        cases dn <;> simp [wDown] <;> omega
      rw [← hL1]
      have HL1 := Lib.hid hL1
      clear hL1
      go_upto_if 24 with fail
      go_cut [3] (fun s3 wx => s3 = .string (txt (L1 ++ (if nl = 1 then nullW 1 else []))) ∧ Hid (Below w.heap.size w wx) ∧ Hid (FBox wx w.heap.size #[.string nm, .int .u8 k, .bool dn, .int .u8 nl, .bool bd, .bool lb, .string lm, .bool hb, .string hm, .int .i64 (mn : Nat), .int .i64 st, .bool sh, .bool ba, .slice a n c]))
      case first =>
        by_cases h : nl = 1
        · subst h
          have z : (9223372036854775807 < (txt L1).size + 11) = False := by rw [txt_size]; exact eq_false (by omega)
          go_wp2_with fail
          go_meet
          exact ⟨congrArg Value.string (txt_append L1 (nullW 1)), HB, hF⟩
        · have ht : (((nl : Nat) : Int) == 1) = false := beq_eq_false_iff_ne.2 (by omega)
          have Hn := Lib.hid h
          clear h
          go_wp2_with fail
          go_meet
          exact ⟨by rw [if_neg Hn.out, List.append_nil], HB, hF⟩
      case rest =>
        clear hF HB c0 c1 c2 c3 c4 c5 c6 c7 c8 c9 c10 c11 c12 c13
        obtain ⟨rfl, HB, hF⟩ := hcut
        obtain ⟨c0, c1, c2, c3, c4, c5, c6, c7, c8, c9, c10, c11, c12, c13⟩ := hF.out.cells
        obtain ⟨L2, hL2⟩ : ∃ L2, L2 = L1 ++ (if nl = 1 then nullW 1 else []) := ⟨_, rfl⟩
        have hl2 : L2.length ≤ 44 := by
          rw [hL2, List.length_append]
          split <;> simp [nullW] <;> omega
        rw [← hL2]
        have HL2 := Lib.hid hL2
        clear hL2
        go_upto_if 29 with fail
        go_cut [3] (fun s3 wx => s3 = .string (txt (L2 ++ (if nl = 2 then nullW 2 else []))) ∧ Hid (Below w.heap.size w wx) ∧ Hid (FBox wx w.heap.size #[.string nm, .int .u8 k, .bool dn, .int .u8 nl, .bool bd, .bool lb, .string lm, .bool hb, .string hm, .int .i64 (mn : Nat), .int .i64 st, .bool sh, .bool ba, .slice a n c]))
        case first =>
          by_cases h : nl = 2
          · subst h
            have z : (9223372036854775807 < (txt L2).size + 10) = False := by rw [txt_size]; exact eq_false (by omega)
            go_wp2_with fail
            go_meet
            exact ⟨congrArg Value.string (txt_append L2 (nullW 2)), HB, hF⟩
          · have ht : (((nl : Nat) : Int) == 2) = false := beq_eq_false_iff_ne.2 (by omega)
            have Hn := Lib.hid h
            clear h
            go_wp2_with fail
            go_meet
            exact ⟨by rw [if_neg Hn.out, List.append_nil], HB, hF⟩
        case rest =>
          clear hF HB c0 c1 c2 c3 c4 c5 c6 c7 c8 c9 c10 c11 c12 c13
          obtain ⟨rfl, HB, hF⟩ := hcut
          obtain ⟨c0, c1, c2, c3, c4, c5, c6, c7, c8, c9, c10, c11, c12, c13⟩ := hF.out.cells
          obtain ⟨L3, hL3⟩ : ∃ L3, L3 = L2 ++ (if nl = 2 then nullW 2 else []) := ⟨_, rfl⟩
          have hl3 : L3.length ≤ 55 := by
            rw [hL3, List.length_append]
            split <;> simp [nullW] <;> omega
          rw [← hL3]
          have HL3 := Lib.hid hL3
          clear hL3
          go_upto_if 33 with fail
          go_cut [3, 4, 5, 6, 7] (fun s3 s4 s5 s6 s7 wx => s3 = .string (txt (L3 ++ (if bd then wFrom ++ numText lb lm ++ wTo ++ numText hb hm else []))) ∧ Hid (Below w.heap.size w wx) ∧ Hid (FBox wx w.heap.size #[.string nm, .int .u8 k, .bool dn, .int .u8 nl, .bool bd, .bool lb, .string lm, .bool hb, .string hm, .int .i64 (mn : Nat), .int .i64 st, .bool sh, .bool ba, .slice a n c]))
          case first =>
            cases bd with
            | false =>
              go_wp2_with fail
              go_meet
              exact ⟨by simp, HB, hF⟩
            | true =>
              obtain ⟨w1, w2⟩ := (HB2.out rfl).2
              have HP1 := Lib.hid (fun w => refPrint_any lb lm w w1)
              have HP2 := Lib.hid (fun w => refPrint_any hb hm w w2)
              have f1 := numText_few w1
              have f2 := numText_few w2
              obtain ⟨A, hA⟩ : ∃ A, A = numText lb lm := ⟨_, rfl⟩
              obtain ⟨B, hB⟩ : ∃ B, B = numText hb hm := ⟨_, rfl⟩
              rw [← hA] at f1 HP1
              rw [← hB] at f2 HP2
              have HAe := Lib.hid hA
              have HBe := Lib.hid hB
              clear hA hB w1 w2
              have hwz := HB.out.size
              go_wp2_with fail
              refine (HP1.out _).mono ?_
              rintro e w5 ⟨rfl, hb5⟩
              have HB5 := Lib.hid (HB.out.trans (hb5.mono hwz))
              have hF5 := Lib.hid (hF.out.below hb5 (by have := (Array.getElem?_eq_some_iff.1 hF.out).1; exact this))
              have hwz5 := HB5.out.size
              clear hb5 c0 c1 c2 c3 c4 c5 c6 c7 c8 c9 c10 c11 c12 c13
              obtain ⟨c0, c1, c2, c3, c4, c5, c6, c7, c8, c9, c10, c11, c12, c13⟩ := hF5.out.cells
              go_wp2_with fail
              refine (HP2.out _).mono ?_
              rintro e w6 ⟨rfl, hb6⟩
              have HB6 := Lib.hid (HB5.out.trans (hb6.mono hwz5))
              have hF6 := Lib.hid (hF5.out.below hb6 (by have := (Array.getElem?_eq_some_iff.1 hF5.out).1; exact this))
              clear hb6 c0 c1 c2 c3 c4 c5 c6 c7 c8 c9 c10 c11 c12 c13
              have z1 : (9223372036854775807 < (txt L3).size + 6) = False := by rw [txt_size]; exact eq_false (by omega)
              have z2 : (9223372036854775807 < (txt L3).size + 6 + (txt A).size) = False := by rw [txt_size, txt_size]; exact eq_false (by omega)
              have z3 : (9223372036854775807 < (txt L3).size + 6 + (txt A).size + 4) = False := by rw [txt_size, txt_size]; exact eq_false (by omega)
              have z4 : (9223372036854775807 < (txt L3).size + 6 + (txt A).size + 4 + (txt B).size) = False := by rw [txt_size, txt_size, txt_size]; exact eq_false (by omega)
              go_wp2_with fail
              go_meet
              refine ⟨?_, HB6, hF6⟩
              show Value.string (txt L3 ++ txt wFrom ++ txt A ++ txt wTo ++ txt B) = _
              rw [HAe.out, HBe.out]
              simp only [txt_append, List.append_assoc, if_true]
          case rest =>
            clear hF HB c0 c1 c2 c3 c4 c5 c6 c7 c8 c9 c10 c11 c12 c13
            obtain ⟨rfl, HB, hF⟩ := hcut
            obtain ⟨c0, c1, c2, c3, c4, c5, c6, c7, c8, c9, c10, c11, c12, c13⟩ := hF.out.cells
            obtain ⟨L4, hL4⟩ : ∃ L4, L4 = L3 ++ (if bd then wFrom ++ numText lb lm ++ wTo ++ numText hb hm else []) := ⟨_, rfl⟩
            have hl4 : L4.length ≤ 1665 := by
              rw [hL4, List.length_append]
              by_cases hbd : bd = true
              · obtain ⟨n1, n2⟩ := HN.out hbd
                simp [hbd, wFrom, wTo]; omega
              · simp [hbd]; omega
            rw [← hL4]
            have HL4 := Lib.hid hL4
            clear hL4
            have HP := Lib.hid (show L4 ++ (if k = 3 ∨ k = 5 then wMost ++ Lib.decDigits mn else []) ++ (if k = 6 then wStr ++ Lib.decDigits st.toNat else []) ++ (if sh then wShift else []) ++ (if ba then wBack else []) = LW by rw [HL4.out, HL3.out, HL2.out, HL1.out, HL0.out]; exact HPure.out)
            clear HL4 HL3 HL2 HL1 HL0 HPure HHw HN HB2
            have hwz := HB.out.size
            by_cases h3 : k = 3
            · subst h3
              obtain rfl : sh = false := by
                cases sh with
                | false => rfl
                | true => have := HSH.out rfl; omega
              obtain rfl : ba = false := by
                cases ba with
                | false => rfl
                | true => have := HBA.out rfl; omega
              clear HSH HBA
              have HQ := Lib.hid (show L4 ++ wMost ++ Lib.decDigits mn = LW by have h9 := HP.out; simpa [List.append_assoc] using h9)
              have HD := Lib.hid (fun w => decimal_any mn w (by omega))
              have hd := dec_few (u := mn) (by omega)
              have z : (9223372036854775807 < (txt L4).size + 6) = False := by rw [txt_size]; exact eq_false (by omega)
              have z2 : (9223372036854775807 < (txt L4).size + 6 + (txt (Lib.decDigits mn)).size) = False := by rw [txt_size, txt_size]; exact eq_false (by omega)
              have z3 : (9223372036854775807 < (txt L4).size + 6 + (txt (Lib.decDigits mn)).size + 8) = False := by rw [txt_size, txt_size]; exact eq_false (by omega)
              have z4 : (9223372036854775807 < (txt L4).size + 6 + (txt (Lib.decDigits mn)).size + 5) = False := by rw [txt_size, txt_size]; exact eq_false (by omega)
              have z5 : (9223372036854775807 < (txt L4).size + 6 + (txt (Lib.decDigits mn)).size + 8 + 5) = False := by rw [txt_size, txt_size]; exact eq_false (by omega)
              go_wp2_with fail
              refine (HD.out _).mono ?_
              rintro e w5 ⟨rfl, hb5⟩
              have HB5 := Lib.hid (HB.out.trans (hb5.mono hwz))
              have hF5 := Lib.hid (hF.out.below hb5 (by have := (Array.getElem?_eq_some_iff.1 hF.out).1; exact this))
              clear hb5 c0 c1 c2 c3 c4 c5 c6 c7 c8 c9 c10 c11 c12 c13
              obtain ⟨c0, c1, c2, c3, c4, c5, c6, c7, c8, c9, c10, c11, c12, c13⟩ := hF5.out.cells
              go_wp2_with fail
              go_ret
              refine ⟨?_, HB5.out⟩
              show Ending.returned (Value.string (txt L4 ++ txt wMost ++ txt (Lib.decDigits mn))) = _
              simp only [txt_append]
              rw [HQ.out]
            by_cases h5 : k = 5
            · subst h5
              obtain rfl : sh = false := by
                cases sh with
                | false => rfl
                | true => have := HSH.out rfl; omega
              obtain rfl : ba = false := by
                cases ba with
                | false => rfl
                | true => have := HBA.out rfl; omega
              clear HSH HBA
              have HQ := Lib.hid (show L4 ++ wMost ++ Lib.decDigits mn = LW by have h9 := HP.out; simpa [List.append_assoc] using h9)
              have HD := Lib.hid (fun w => decimal_any mn w (by omega))
              have hd := dec_few (u := mn) (by omega)
              have z : (9223372036854775807 < (txt L4).size + 6) = False := by rw [txt_size]; exact eq_false (by omega)
              have z2 : (9223372036854775807 < (txt L4).size + 6 + (txt (Lib.decDigits mn)).size) = False := by rw [txt_size, txt_size]; exact eq_false (by omega)
              have z3 : (9223372036854775807 < (txt L4).size + 6 + (txt (Lib.decDigits mn)).size + 8) = False := by rw [txt_size, txt_size]; exact eq_false (by omega)
              have z4 : (9223372036854775807 < (txt L4).size + 6 + (txt (Lib.decDigits mn)).size + 5) = False := by rw [txt_size, txt_size]; exact eq_false (by omega)
              have z5 : (9223372036854775807 < (txt L4).size + 6 + (txt (Lib.decDigits mn)).size + 8 + 5) = False := by rw [txt_size, txt_size]; exact eq_false (by omega)
              go_wp2_with fail
              refine (HD.out _).mono ?_
              rintro e w5 ⟨rfl, hb5⟩
              have HB5 := Lib.hid (HB.out.trans (hb5.mono hwz))
              have hF5 := Lib.hid (hF.out.below hb5 (by have := (Array.getElem?_eq_some_iff.1 hF.out).1; exact this))
              clear hb5 c0 c1 c2 c3 c4 c5 c6 c7 c8 c9 c10 c11 c12 c13
              obtain ⟨c0, c1, c2, c3, c4, c5, c6, c7, c8, c9, c10, c11, c12, c13⟩ := hF5.out.cells
              go_wp2_with fail
              go_ret
              refine ⟨?_, HB5.out⟩
              show Ending.returned (Value.string (txt L4 ++ txt wMost ++ txt (Lib.decDigits mn))) = _
              simp only [txt_append]
              rw [HQ.out]
            have ht3 : (((k : Nat) : Int) == 3) = false := beq_eq_false_iff_ne.2 (by omega)
            have ht5 : (((k : Nat) : Int) == 5) = false := beq_eq_false_iff_ne.2 (by omega)
            have h35 : ¬ (k = 3 ∨ k = 5) := by omega
            by_cases h6 : k = 6
            · subst h6
              clear ht3 ht5 h3 h5 HSH HBA h35
              obtain ⟨sn, rfl⟩ := Int.eq_ofNat_of_zero_le (HST.out rfl)
              have HQ := Lib.hid (show L4 ++ wStr ++ Lib.decDigits sn ++ (if sh then wShift else []) ++ (if ba then wBack else []) = LW by have h9 := HP.out; simpa [List.append_assoc] using h9)
              clear HP HST
              cases sh <;> cases ba
              all_goals (
                have HD := Lib.hid (fun w => decimal_any sn w (by omega))
                have hd := dec_few (u := sn) (by omega)
                have z : (9223372036854775807 < (txt L4).size + 10) = False := by rw [txt_size]; exact eq_false (by omega)
                have z2 : (9223372036854775807 < (txt L4).size + 10 + (txt (Lib.decDigits sn)).size) = False := by rw [txt_size, txt_size]; exact eq_false (by omega)
                have z3 : (9223372036854775807 < (txt L4).size + 10 + (txt (Lib.decDigits sn)).size + 8) = False := by rw [txt_size, txt_size]; exact eq_false (by omega)
                have z4 : (9223372036854775807 < (txt L4).size + 10 + (txt (Lib.decDigits sn)).size + 5) = False := by rw [txt_size, txt_size]; exact eq_false (by omega)
                have z5 : (9223372036854775807 < (txt L4).size + 10 + (txt (Lib.decDigits sn)).size + 8 + 5) = False := by rw [txt_size, txt_size]; exact eq_false (by omega)
                go_wp2_with fail
                refine (HD.out _).mono ?_
                rintro e w5 ⟨rfl, hb5⟩
                have HB5 := Lib.hid (HB.out.trans (hb5.mono hwz))
                have hF5 := Lib.hid (hF.out.below hb5 (by have := (Array.getElem?_eq_some_iff.1 hF.out).1; exact this))
                clear hb5 c0 c1 c2 c3 c4 c5 c6 c7 c8 c9 c10 c11 c12 c13
                obtain ⟨c0, c1, c2, c3, c4, c5, c6, c7, c8, c9, c10, c11, c12, c13⟩ := hF5.out.cells
                go_wp2_with fail
                go_ret
                refine ⟨?_, HB5.out⟩
                first
                | (show Ending.returned (Value.string (txt L4 ++ txt wStr ++ txt (Lib.decDigits sn))) = _; rw [← HQ.out]; simp [txt_append])
                | (show Ending.returned (Value.string (txt L4 ++ txt wStr ++ txt (Lib.decDigits sn) ++ txt wShift)) = _; rw [← HQ.out]; simp [txt_append])
                | (show Ending.returned (Value.string (txt L4 ++ txt wStr ++ txt (Lib.decDigits sn) ++ txt wBack)) = _; rw [← HQ.out]; simp [txt_append])
                | (show Ending.returned (Value.string (txt L4 ++ txt wStr ++ txt (Lib.decDigits sn) ++ txt wShift ++ txt wBack)) = _; rw [← HQ.out]; simp [txt_append]))
            · have ht6 : (((k : Nat) : Int) == 6) = false := beq_eq_false_iff_ne.2 (by omega)
              obtain rfl : sh = false := by
                cases sh with
                | false => rfl
                | true => have := HSH.out rfl; omega
              obtain rfl : ba = false := by
                cases ba with
                | false => rfl
                | true => have := HBA.out rfl; omega
              clear HSH HBA
              have HQ := Lib.hid (show L4 = LW by have h9 := HP.out; simpa [h35, h6] using h9)
              clear h3 h5 h6 h35 HP HST
              go_wp2_with fail
              go_ret
              refine ⟨?_, HB.out⟩
              rw [← HQ.out]; rfl
end Go.Proofs.YtcjllhdbepchnaaGreatDoor
