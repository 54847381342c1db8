/-
  The law TableAgain, walked.
-/
import Derived.Test.YthcjcdchmdgnjaaGreatDoorKAV
namespace Go.Proofs.YthcjcdchmdgnjaaGreatDoor
open Go.RowKit Go.WideShapes
set_option linter.unusedVariables false
set_option linter.unusedSimpArgs false
set_option maxRecDepth 100000 in
set_option maxHeartbeats 4000000 in
theorem again_any {w : World} (h : laidMetH Tryz.prog Rows.tableAgainRow.laid w) (m : Int) (hm : w.cell? ⟨lays145_ren.g 1, 0, none⟩ = some (.int .i64 m)) (l : List EN) (A : Option Addr) (c : Nat) (hf : EntriesAt w w.heap.size l A) (hlc : l.length ≤ c) (hl : l.length ≤ 140737488351232) :
    Calls Tryz.prog 3 #[.slice A l.length c] w (Ret (.bool true) w) := by
  have HL := Lib.hid h
  have HF := Lib.hid hf
  have HM := Lib.hid hm
  have hM0 : lays145_ren.g 1 < w.heap.size := Lib.lt_of_cell hm
  have HH := Lib.hid (heavy_any l A c w hf hlc hl)
  clear h hf hm
  go_enter Tryz.func3, Tryz.ntmps3
  go_wp2_with fail
  refine HH.out.mono ?_
  rintro e w1 ⟨r, rfl, hb1, hr⟩
  have HB1 := Lib.hid hb1
  have hz1 := hb1.size
  clear hb1 HH
  cases r with
  | true =>
    clear hr
    go_wp2_with fail
    go_ret
    exact ⟨rfl, HB1.out⟩
  | false =>
    have HMo := Lib.hid (hr rfl)
    clear hr
    have HP1 := Lib.hid (tabPrint_any l A c HL.out HB1.out ((HF.out.below HB1.out).more hz1) hl hlc)
    go_wp2_with fail
    refine HP1.out.mono ?_
    rintro e w2 ⟨rfl, hb2⟩
    have hz2 := hb2.size
    have HB2 := Lib.hid (HB1.out.trans (hb2.mono hz1))
    clear hb2 HP1
    have HA2 := Lib.hid (awake_any HL.out HB2.out)
    by_cases h0 : tabWhy l = 0
    · have HT := Lib.hid (tab_fine h0)
      rw [h0]
      have HX2 : Hid (HexHere w2) := Lib.hid (fun n hn W hb => hex_any n hn HL.out (HB2.out.trans (hb.mono (by omega))))
      have HLd := Lib.hid (load_ok l HT.out.may HT.out.nd HT.out.len HT.out.sz m w2 HX2.out ((HB2.out.cell hM0).trans HM.out))
      have ho := HT.out.out
      rw [ho]
      clear h0 ho
      generalize txt (tabText l) = S at HLd ⊢
      go_wp2_with fail
      refine HLd.out.mono ?_
      rintro e w3 ⟨T, b1, b2, rfl, hb3, _, _, hT3, hM3⟩
      have HB3 := Lib.hid (HB2.out.trans (hb3.mono (by omega)))
      have HT3 := Lib.hid hT3
      have HM3 := Lib.hid hM3
      have hz3 := hb3.size
      have HA3 := Lib.hid (awake_any HL.out HB3.out)
      have hTlt : T < w3.heap.size := (Array.getElem?_eq_some_iff.1 hT3).1
      clear hb3 hT3 hM3 HLd
      go_wp2_with fail
      refine HA3.out.mono ?_
      rintro e w4 ⟨rfl, hb4⟩
      have HB4 := Lib.hid (HB3.out.trans (hb4.mono (by omega)))
      have hz4 := hb4.size
      have HEn := Lib.hid (entries_ok T b1 b2 l HT.out.may HT.out.rise HT.out.len w4 ((hb4.block T hTlt).trans HT3.out) (HM3.out.below hb4))
      clear hb4 HT3 HM3 HA3 HX2
      go_wp2_with fail
      refine HEn.out.mono ?_
      rintro e w5 ⟨A5, c5, rfl, hc5, he5, hb5⟩
      have hz5 := hb5.size
      have HB5 := Lib.hid (HB4.out.trans (hb5.mono (by omega)))
      have HSa := Lib.hid (sameEns_any l A5 A c5 c w5 he5 ((HF.out.below HB5.out).more (by omega)) hc5 hlc HMo.out.1)
      clear he5 hb5 HEn
      go_wp2_with fail
      refine HSa.out.mono ?_
      rintro e w6 ⟨rfl, hb6⟩
      have HB6 := Lib.hid (HB5.out.trans (hb6.mono (by omega)))
      clear hb6 HSa
      go_wp2_with fail
      go_ret
      exact ⟨rfl, HB6.out⟩
    · obtain ⟨hout, hwhy⟩ := tab_not h0
      rw [hout]
      have hem : (txt ([] : List UInt8)).toList.isEmpty = true := by rw [← decide_eq_emptyBytes]; exact decide_eq_true rfl
      generalize txt ([] : List UInt8) = s0 at hem ⊢
      rcases hwhy with hw | hw
      · rw [hw]
        clear h0 hw hout
        go_wp2_with fail
        refine HA2.out.mono ?_
        rintro e w3 ⟨rfl, hb3⟩
        have HB3 := Lib.hid (HB2.out.trans (hb3.mono (by omega)))
        clear hb3
        go_wp2_with fail
        go_ret
        exact ⟨rfl, HB3.out⟩
      · rw [hw]
        clear h0 hw hout
        go_wp2_with fail
        refine HA2.out.mono ?_
        rintro e w3 ⟨rfl, hb3⟩
        have HB3 := Lib.hid (HB2.out.trans (hb3.mono (by omega)))
        clear hb3
        go_wp2_with fail
        go_ret
        exact ⟨rfl, HB3.out⟩
end Go.Proofs.YthcjcdchmdgnjaaGreatDoor
