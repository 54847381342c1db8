/-
  The law UcdPrints, walked.
-/
import Derived.Test.YtccaaniepeohbaaGreatDoorKW
import Derived.Test.YtccaaniepeohbaaGreatDoorKY
import Derived.Test.YtccaaniepeohbaaGreatDoorKAF
namespace Go.Proofs.YtccaaniepeohbaaGreatDoor
open Go.RowKit Go.WideShapes
set_option linter.unusedVariables false
set_option maxRecDepth 100000 in
set_option maxHeartbeats 4000000 in
theorem law_any {w : World} (h : laidMetH Tryz.prog Rows.ucdPrintsRow.laid w) (l : List MK) (A : Option Addr) (c : Nat) (hf : MarksAt w w.heap.size l A) (hlc : l.length ≤ c) (hl : l.length ≤ 140737488351232) :
    Calls Tryz.prog 3 #[.slice A l.length c] w (Ret (.bool true) w) := by
  have HL := Lib.hid h
  have HF := Lib.hid hf
  have HH := Lib.hid (heavy_any l A c w hf hlc hl)
  clear h hf
  go_enter Tryz.func3, Tryz.ntmps3
  go_wp2_with fail
  refine HH.out.mono ?_
  rintro e w1 ⟨r, rfl, hb1, hr⟩
  have HB1 := Lib.hid hb1
  have hz1 := hb1.size
  clear hb1 HH
  cases r with
  | true =>
    clear hr
    go_wp2_with fail
    go_ret
    exact ⟨rfl, HB1.out⟩
  | false =>
    have hm := hr rfl
    have HM := Lib.hid hm
    clear hr
    have HLn := Lib.hid (lent_any l A c w1 ((HF.out.below HB1.out).more hz1) hlc hm)
    go_wp2_with fail
    refine HLn.out.mono ?_
    rintro e w2 ⟨v, rfl, hb2, hv2⟩
    have hz2 := hb2.size
    have HV2 := Lib.hid hv2
    have HB2 := Lib.hid (HB1.out.trans (hb2.mono hz1))
    obtain ⟨g, cg, rfl, hcg, hen2⟩ := hv2.marks hm
    have HP2 := Lib.hid (ucdPrint_any l (some ⟨g, 0, none⟩) cg HL.out HB2.out hen2 hl hcg)
    clear hb2 HLn hv2 hen2 hm
    go_wp2_with fail
    refine HP2.out.mono ?_
    rintro e w3 ⟨rfl, hb3⟩
    have hz3 := hb3.size
    have HB3 := Lib.hid (HB2.out.trans (hb3.mono (by omega)))
    have HV3 := Lib.hid (HV2.out.below hb3)
    have HR3 := Lib.hid (refPrint_any l A c w3 ((HF.out.below HB3.out).more (by omega)) hl hlc)
    clear hb3 HP2
    go_wp2_with fail
    refine HR3.out.mono ?_
    rintro e w4 ⟨rfl, hb4⟩
    have hz4 := hb4.size
    have HB4 := Lib.hid (HB3.out.trans (hb4.mono (by omega)))
    have hv4 := HV3.out.below hb4
    have HV4 := Lib.hid hv4
    obtain ⟨g', cg', e', hcg', hen4⟩ := hv4.marks HM.out
    injection e' with e' _ ec
    injection e' with e'
    injection e' with e1 _
    subst e1 ec
    have HP4 := Lib.hid (ucdPrint_any l (some ⟨g, 0, none⟩) cg HL.out HB4.out hen4 hl hcg)
    clear hb4 HR3 HV3 hv4 hen4
    go_wp2_with fail
    refine HP4.out.mono ?_
    rintro e w5 ⟨rfl, hb5⟩
    have hz5 := hb5.size
    have HB5 := Lib.hid (HB4.out.trans (hb5.mono (by omega)))
    have HV5 := Lib.hid (HV4.out.below hb5)
    have HA5 := Lib.hid (awake_any HL.out HB5.out)
    clear hb5 HP4 HV4
    go_wp2_with fail
    refine HA5.out.mono ?_
    rintro e w6 ⟨rfl, hb6⟩
    have hz6 := hb6.size
    have HB6 := Lib.hid (HB5.out.trans (hb6.mono (by omega)))
    have HV6 := Lib.hid (HV5.out.below hb6)
    have HK6 := Lib.hid (kept_any l _ A c _ w6 HV6.out ((HF.out.below HB6.out).more (by omega)) hlc HM.out)
    clear hb6 HA5 HV5
    go_wp2_with fail
    refine HK6.out.mono ?_
    rintro e w7 ⟨rfl, hb7⟩
    have HB7 := Lib.hid (HB6.out.trans (hb7.mono (by omega)))
    clear hb7
    go_wp2_with fail
    go_ret
    exact ⟨rfl, HB7.out⟩
end Go.Proofs.YtccaaniepeohbaaGreatDoor
