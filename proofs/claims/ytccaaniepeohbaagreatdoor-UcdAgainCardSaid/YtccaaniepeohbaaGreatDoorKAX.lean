/-
  The law UcdAgain, walked.
-/
import Derived.Test.YtccaaniepeohbaaGreatDoorKAR
import Derived.Test.YtccaaniepeohbaaGreatDoorKAW
namespace Go.Proofs.YtccaaniepeohbaaGreatDoor
open Go.RowKit Go.WideShapes
set_option linter.unusedVariables false
set_option linter.unusedSimpArgs false
set_option maxRecDepth 100000 in
set_option maxHeartbeats 4000000 in
theorem again_any {w : World} (h : laidMetH Tryz.prog Rows.ucdPrintsRow.laid w) (m : Int) (hm : w.cell? ⟨lays146_ren.g 1, 0, none⟩ = some (.int .i64 m)) (l : List MK) (A : Option Addr) (c : Nat) (hf : MarksAt w w.heap.size l A) (hlc : l.length ≤ c) (hl : l.length ≤ 140737488351232) :
    Calls Tryz.prog 4 #[.slice A l.length c] w (Ret (.bool true) w) := by
  have HL := Lib.hid h
  have HF := Lib.hid hf
  have HM := Lib.hid hm
  have hM0 : lays146_ren.g 1 < w.heap.size := Lib.lt_of_cell hm
  have HH := Lib.hid (heavy_any l A c w hf hlc hl)
  clear h hf hm
  go_enter Tryz.func4, Tryz.ntmps4
  go_wp2_with fail
  refine HH.out.mono ?_
  rintro e w1 ⟨r, rfl, hb1, hr⟩
  have HB1 := Lib.hid hb1
  have hz1 := hb1.size
  clear hb1 HH
  cases r with
  | true =>
    clear hr
    go_wp2_with fail
    go_ret
    exact ⟨rfl, HB1.out⟩
  | false =>
    have HMo := Lib.hid (hr rfl)
    clear hr
    have HP1 := Lib.hid (ucdPrint_any l A c HL.out HB1.out ((HF.out.below HB1.out).more hz1) hl hlc)
    go_wp2_with fail
    refine HP1.out.mono ?_
    rintro e w2 ⟨rfl, hb2⟩
    have hz2 := hb2.size
    have HB2 := Lib.hid (HB1.out.trans (hb2.mono hz1))
    clear hb2 HP1
    have HA2 := Lib.hid (awake_any HL.out HB2.out)
    by_cases h0 : ucdWhy l = 0
    · have HT := Lib.hid (ucd_fine h0)
      rw [h0]
      have HX2 : Hid (UHere w2) := Lib.hid (fun n hn W hb => hex_any n hn HL.out (HB2.out.trans (hb.mono (by omega))))
      have HI2 : Hid (ItoaHere w2) := Lib.hid (fun n hn W hb => itoa_any n (by omega) HL.out (HB2.out.trans (hb.mono (by omega))))
      have HLd := Lib.hid (uload_ok l HT.out.may HT.out.nd HT.out.len HT.out.sz HT.out.un HT.out.pa HT.out.ts m w2 HX2.out HI2.out ((HB2.out.cell hM0).trans HM.out))
      have ho := HT.out.out
      rw [ho]
      clear h0 ho HX2 HI2
      generalize txt (ucdText l) = S at HLd ⊢
      go_wp2_with fail
      refine HLd.out.mono ?_
      rintro e w3 ⟨hb3, hor⟩
      have HB3 := Lib.hid (HB2.out.trans (hb3.mono (by omega)))
      have hz3 := hb3.size
      have HA3 := Lib.hid (awake_any HL.out HB3.out)
      clear hb3 HLd HA2
      rcases hor with ⟨D, b, rfl, hd, _, _⟩ | ⟨code, line, rfl, hcd, hl1, hl2⟩
      · have HD := Lib.hid hd
        clear hd
        go_wp2_with fail
        refine HA3.out.mono ?_
        rintro e w4 ⟨rfl, hb4⟩
        have HB4 := Lib.hid (HB3.out.trans (hb4.mono (by omega)))
        have hz4 := hb4.size
        have HEn := Lib.hid (marks_ok (fun g => g < w3.heap.size) D b l HT.out.pl HT.out.pt HT.out.rise HT.out.len w4 (HD.out.below hb4 HD.out.D_lt HD.out.b_lt (fun g h => h)) (fun g h => Nat.lt_of_lt_of_le h hz4))
        clear hb4 HD HA3
        go_wp2_with fail
        refine HEn.out.mono ?_
        rintro e w5 ⟨A5, c5, rfl, hc5, he5, hb5⟩
        have hz5 := hb5.size
        have HB5 := Lib.hid (HB4.out.trans (hb5.mono (by omega)))
        have HSa := Lib.hid (sameMs_any l A5 A c5 c w5 he5 ((HF.out.below HB5.out).more (by omega)) hc5 hlc (by have := HT.out.len; omega))
        clear he5 hb5 HEn
        go_wp2_with fail
        refine HSa.out.mono ?_
        rintro e w6 ⟨rfl, hb6⟩
        have HB6 := Lib.hid (HB5.out.trans (hb6.mono (by omega)))
        clear hb6 HSa
        go_wp2_with fail
        go_ret
        exact ⟨rfl, HB6.out⟩
      · have d1 : decide (1 ≤ line) = true := decide_eq_true hl1
        have d2 : decide (line ≤ (l.length : Int)) = true := decide_eq_true hl2
        rcases hcd with rfl | rfl
        · go_wp2_with fail
          refine HA3.out.mono ?_
          rintro e w4 ⟨rfl, hb4⟩
          have HB4 := Lib.hid (HB3.out.trans (hb4.mono (by omega)))
          clear hb4
          go_wp2_with fail
          go_ret
          exact ⟨rfl, HB4.out⟩
        · go_wp2_with fail
          refine HA3.out.mono ?_
          rintro e w4 ⟨rfl, hb4⟩
          have HB4 := Lib.hid (HB3.out.trans (hb4.mono (by omega)))
          clear hb4
          go_wp2_with fail
          go_ret
          exact ⟨rfl, HB4.out⟩
    · obtain ⟨hout, hwhy⟩ := ucd_not h0
      rw [hout]
      have hem : (txt ([] : List UInt8)).toList.isEmpty = true := by rw [← decide_eq_emptyBytes]; exact decide_eq_true rfl
      generalize txt ([] : List UInt8) = s0 at hem ⊢
      rcases hwhy with hw | hw
      · rw [hw]
        clear h0 hw hout
        go_wp2_with fail
        refine HA2.out.mono ?_
        rintro e w3 ⟨rfl, hb3⟩
        have HB3 := Lib.hid (HB2.out.trans (hb3.mono (by omega)))
        clear hb3
        go_wp2_with fail
        go_ret
        exact ⟨rfl, HB3.out⟩
      · rw [hw]
        clear h0 hw hout
        go_wp2_with fail
        refine HA2.out.mono ?_
        rintro e w3 ⟨rfl, hb3⟩
        have HB3 := Lib.hid (HB2.out.trans (hb3.mono (by omega)))
        clear hb3
        go_wp2_with fail
        go_ret
        exact ⟨rfl, HB3.out⟩
end Go.Proofs.YtccaaniepeohbaaGreatDoor
