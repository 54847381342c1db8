/-
  table.weight, of any text.
-/
import Derived.Test.YtlkdjdcnbcegeaaGreatDoorKZ
import Derived.Test.YtlkdjdcnbcegeaaGreatDoorKT
/-! table.weight, of any text. -/
namespace Go.Proofs.YtlkdjdcnbcegeaaGreatDoor
open Go.RowKit Go.WideShapes
set_option linter.unusedVariables false
set_option linter.unusedSimpArgs false
theorem toList_same {s t : ByteArray} (h : s.toList = t.toList) : s = t := by
  rw [ByteArray.toList_eq, ByteArray.toList_eq] at h
  exact ByteArray.ext (Array.toList_inj.1 h)
def WgtPost (t : ByteArray) (w : World) (e : Ending) (w' : World) : Prop := ∃ (v : Int) (b : Bool), e = .returned (.tuple #[.int .i64 v, .bool b]) ∧ 0 ≤ v ∧ v ≤ 65535 ∧ (b = true → t = txt (hexW v.toNat)) ∧ Below w.heap.size w w'
set_option maxRecDepth 100000 in
set_option maxHeartbeats 1000000 in
theorem weight_any (t : ByteArray) (ht : t.size ≤ 65536) (w : World) (HX : HexHere w) (hE : ErrHere w) : Calls Tryz.prog 118 #[.string t] w (WgtPost t w) := by
  have HC := Lib.hid (fun W hE => puint16_all t (by omega) W hE)
  have HB := Lib.hid (Below.refl w.heap.size w)
  have HX0 := Lib.hid HX
  have HE := Lib.hid hE
  clear HX hE ht
  go_enter Tryz.func118, Tryz.ntmps118
  go_wp2_with fail
  refine (HC.out _ HE.out).mono ?_
  rintro e w2 ⟨v, er, rfl, her, hb2⟩
  have HB2 := Lib.hid (HB.out.trans (hb2.mono HB.out.size))
  clear hb2 HB HC
  rcases her with ⟨rfl, h0, h1⟩ | ⟨h0, h1, T, p, rfl⟩
  · have HH := Lib.hid (HX0.out v.toNat (by omega))
    rw [show ((v.toNat : Nat) : Int) = v by omega] at HH
    go_wp2_with fail
    refine (HH.out _ HB2.out).mono ?_
    rintro e w3 ⟨rfl, hb3⟩
    have HB3 := Lib.hid (HB2.out.trans (hb3.mono HB2.out.size))
    obtain ⟨s, hs⟩ : ∃ s, s = txt (hexW v.toNat) := ⟨_, rfl⟩
    rw [← hs]
    have HS := Lib.hid hs
    clear hb3 HB2 HH hs
    go_wp2_with fail
    go_returns
    exact ⟨v, _, rfl, h0, h1, fun h => by rw [← HS.out]; exact (toList_same (by simpa using h)).symm, HB3.out⟩
  · go_wp2_with fail
    go_returns
    exact ⟨v, false, rfl, h0, h1, by simp, HB2.out⟩
end Go.Proofs.YtlkdjdcnbcegeaaGreatDoor

/-! table.elements, of any text. -/
namespace Go.Proofs.YtlkdjdcnbcegeaaGreatDoor
open Go.RowKit Go.WideShapes
set_option linter.unusedVariables false
set_option linter.unusedSimpArgs false
theorem one_off {R : List UInt8} {n : Nat} (h : n + 1 ≤ R.length) : ∃ c R', R = c :: R' ∧ n ≤ R'.length := by
  cases R with
  | nil => simp at h
  | cons c R' => exact ⟨c, R', rfl, by simpa using h⟩
/-- A row of at least seventeen bytes. -/
theorem seventeen {R : List UInt8} (h : 17 ≤ R.length) : ∃ c0 c1 c2 c3 c4 c5 c6 c7 c8 c9 c10 c11 c12 c13 c14 c15 c16 R', R = c0 :: c1 :: c2 :: c3 :: c4 :: c5 :: c6 :: c7 :: c8 :: c9 :: c10 :: c11 :: c12 :: c13 :: c14 :: c15 :: c16 :: R' := by
  obtain ⟨c0, R1, rfl, h1⟩ := one_off h
  obtain ⟨c1, R2, rfl, h2⟩ := one_off h1
  obtain ⟨c2, R3, rfl, h3⟩ := one_off h2
  obtain ⟨c3, R4, rfl, h4⟩ := one_off h3
  obtain ⟨c4, R5, rfl, h5⟩ := one_off h4
  obtain ⟨c5, R6, rfl, h6⟩ := one_off h5
  obtain ⟨c6, R7, rfl, h7⟩ := one_off h6
  obtain ⟨c7, R8, rfl, h8⟩ := one_off h7
  obtain ⟨c8, R9, rfl, h9⟩ := one_off h8
  obtain ⟨c9, R10, rfl, h10⟩ := one_off h9
  obtain ⟨c10, R11, rfl, h11⟩ := one_off h10
  obtain ⟨c11, R12, rfl, h12⟩ := one_off h11
  obtain ⟨c12, R13, rfl, h13⟩ := one_off h12
  obtain ⟨c13, R14, rfl, h14⟩ := one_off h13
  obtain ⟨c14, R15, rfl, h15⟩ := one_off h14
  obtain ⟨c15, R16, rfl, h16⟩ := one_off h15
  obtain ⟨c16, R17, rfl, h17⟩ := one_off h16
  exact ⟨c0, c1, c2, c3, c4, c5, c6, c7, c8, c9, c10, c11, c12, c13, c14, c15, c16, R17, rfl⟩
/-- All that the code looks at. -/
structure ElSee (S X Rt P Q T : ByteArray) (n0 n1 n6 n11 n16 : Nat) : Prop where
  big : 17 ≤ S.size
  x17 : X.size = 17
  hx : S.extract 0 17 = X
  hr : S.extract 17 S.size = Rt
  rs : Rt.size = S.size - 17
  p : X.extract 2 6 = P
  s : X.extract 7 11 = Q
  t : X.extract 12 16 = T
  ps : P.size ≤ 65536
  qs : Q.size ≤ 65536
  ts : T.size ≤ 65536
  b0 : ∀ h : 0 < X.size, (X[0]'h).toNat = n0
  b1 : ∀ h : 1 < X.size, (X[1]'h).toNat = n1
  b6 : ∀ h : 6 < X.size, (X[6]'h).toNat = n6
  b11 : ∀ h : 11 < X.size, (X[11]'h).toNat = n11
  b16 : ∀ h : 16 < X.size, (X[16]'h).toNat = n16
theorem elSee (c0 c1 c2 c3 c4 c5 c6 c7 c8 c9 c10 c11 c12 c13 c14 c15 c16 : UInt8) (R : List UInt8) : ElSee (txt (c0 :: c1 :: c2 :: c3 :: c4 :: c5 :: c6 :: c7 :: c8 :: c9 :: c10 :: c11 :: c12 :: c13 :: c14 :: c15 :: c16 :: R)) (txt [c0, c1, c2, c3, c4, c5, c6, c7, c8, c9, c10, c11, c12, c13, c14, c15, c16]) (txt R) (txt [c2, c3, c4, c5]) (txt [c7, c8, c9, c10]) (txt [c12, c13, c14, c15]) c0.toNat c1.toNat c6.toNat c11.toNat c16.toNat := by
  constructor
  · rw [txt_size]; simp
  · rw [txt_size]; rfl
  · rw [txt_cutT]; simp
  · rw [txt_cutT, txt_size]
    congr 1
    simp
  · rw [txt_size, txt_size]; simp
  · rw [txt_cutT]; rfl
  · rw [txt_cutT]; rfl
  · rw [txt_cutT]; rfl
  · rw [txt_size]; simp
  · rw [txt_size]; simp
  · rw [txt_size]; simp
  all_goals (intro h; rfl)
/-- Elements read so far. -/
def ElsGot (S0 : List UInt8) (l : List EL) (R : List UInt8) : Prop := S0 = elsText l ++ R ∧ l.all EL.four = true
theorem ElsGot.more {S0 R : List UInt8} {l : List EL} {c0 c1 c2 c3 c4 c5 c6 c7 c8 c9 c10 c11 c12 c13 c14 c15 c16 : UInt8} (h : ElsGot S0 l (c0 :: c1 :: c2 :: c3 :: c4 :: c5 :: c6 :: c7 :: c8 :: c9 :: c10 :: c11 :: c12 :: c13 :: c14 :: c15 :: c16 :: R)) {v1 v2 v3 : Int} (a1 : 0 ≤ v1) (b1 : v1 ≤ 65535) (a2 : 0 ≤ v2) (b2 : v2 ≤ 65535) (a3 : 0 ≤ v3) (b3 : v3 ≤ 65535)
    (e1 : txt [c2, c3, c4, c5] = txt (hexW v1.toNat)) (e2 : txt [c7, c8, c9, c10] = txt (hexW v2.toNat)) (e3 : txt [c12, c13, c14, c15] = txt (hexW v3.toNat)) (bo : Bool) (f0 : c0.toNat = 91) (f1 : c1.toNat = if bo then 42 else 46) (f6 : c6.toNat = 46) (f11 : c11.toNat = 46) (f16 : c16.toNat = 93) : ElsGot S0 (l ++ [⟨bo, v1, v2, v3⟩]) R := by
  refine ⟨?_, ?_⟩
  · rw [h.1]
    have g0 : c0 = 91 := UInt8.toNat_inj.1 f0
    have g1 : c1 = if bo then 42 else 46 := UInt8.toNat_inj.1 (by rw [f1]; cases bo <;> rfl)
    have g6 : c6 = 46 := UInt8.toNat_inj.1 f6
    have g11 : c11 = 46 := UInt8.toNat_inj.1 f11
    have g16 : c16 = 93 := UInt8.toNat_inj.1 f16
    have h1 := txt_inj e1
    have h2 := txt_inj e2
    have h3 := txt_inj e3
    unfold elsText
    rw [List.map_append, List.flatten_append, List.append_assoc]
    congr 1
    simp only [List.map_cons, List.map_nil, List.flatten_cons, List.flatten_nil, List.append_nil, EL.text, ← h1, ← h2, ← h3, g0, g1, g6, g11, g16]
    rfl
  · rw [List.all_append, h.2]
    simp [EL.four, a1, b1, a2, b2, a3, b3]
def ElsPost (S0 : List UInt8) (w : World) (e : Ending) (w' : World) : Prop := ∃ (v : Value) (b : Bool), e = .returned (.tuple #[v, .bool b]) ∧ Below w.heap.size w w' ∧
  (b = true → ∃ l : List EL, S0 = elsText l ∧ 1 ≤ l.length ∧ l.length ≤ 16 ∧ l.all EL.four = true ∧ w'.ownsRow w.heap.size 54 4 v l.length (elsCells l)) ∧ (b = false → v = .slice none 0 0)
set_option maxRecDepth 100000 in
set_option maxHeartbeats 8000000 in
theorem elements_any (S0 : List UInt8) (hs : S0.length ≤ 65536) (w : World) (HX : HexHere w) (hE : ErrHere w) :
    Calls Tryz.prog 89 #[.string (txt S0)] w (ElsPost S0 w) := by
  have HB := Lib.hid (Below.refl w.heap.size w)
  have HX0 := Lib.hid HX
  have HE0 := Lib.hid hE
  have hsz : (txt S0).size = S0.length := txt_size _
  clear HX hE
  by_cases h0 : S0 = []
  · have hemp : (txt S0).toList.isEmpty = true := by rw [h0, ← decide_eq_emptyBytes]; exact decide_eq_true rfl
    clear h0 hsz
    generalize txt S0 = S at hemp ⊢
    go_enter Tryz.func89, Tryz.ntmps89
    go_wp2_with fail
    go_returns
    exact ⟨_, false, rfl, HB.out, by simp, fun _ => rfl⟩
  · have hemp : (txt S0).toList.isEmpty = false := by
      rw [← decide_eq_emptyBytes]
      exact decide_eq_false (fun h => by rw [h] at hsz; simp at hsz; exact h0 (List.eq_nil_of_length_eq_zero hsz.symm))
    have hlp : 1 ≤ S0.length := by cases S0 with | nil => exact absurd rfl h0 | cons a r => simp
    by_cases h17 : S0.length % 17 = 0
    · have hm1 : ((txt S0).size : Int) % 17 = 0 := by rw [hsz]; omega
      by_cases h16 : 16 < S0.length / 17
      · have hm2 : 16 < wrap64 (((txt S0).size : Int) / 17) := by rw [hsz]; unfold wrap64; omega
        have hbig : (txt S0).size ≤ 65536 := by omega
        have hm3 : 16 < ((txt S0).size : Int) / 17 := by rw [hsz]; omega
        clear h0 hsz h17 h16
        generalize txt S0 = S at hemp hm1 hm2 hm3 hbig ⊢
        go_enter Tryz.func89, Tryz.ntmps89
        go_wp2_with fail
        go_returns
        exact ⟨_, false, rfl, HB.out, by simp, fun _ => rfl⟩
      · have hm2 : ¬ 16 < wrap64 (((txt S0).size : Int) / 17) := by rw [hsz]; unfold wrap64; omega
        have hbig : (txt S0).size ≤ 272 := by omega
        have HS0 := Lib.hid (show ElsGot S0 [] S0 from ⟨rfl, rfl⟩)
        have HL := Lib.hid (show 1 ≤ S0.length ∧ S0.length / 17 ≤ 16 from ⟨hlp, by omega⟩)
        have HM := Lib.hid h17
        have hne : ¬ (txt S0).toList = [] := fun h => by rw [h] at hemp; exact absurd hemp (by decide)
        clear h0 h17 h16 hsz
        obtain ⟨i0, hi, hz0, hz1, hz2⟩ := info_parts elInfo
        generalize hS : txt S0 = S at hemp hm1 hm2 hbig hne ⊢
        have HSS := Lib.hid hS
        clear hS
        go_enter Tryz.func89, Tryz.ntmps89
        go_wp2_with fail
        go_loopw [0, 4] (fun t0 t4 wr => ∃ (l : List EL) (R : List UInt8) (s : ByteArray) (vo : Value), t0 = .string s ∧ t4 = vo ∧ l.length * 17 + R.length ≤ 272 ∧ R.length % 17 = 0 ∧ Hid (s = txt R) ∧ Hid (ElsGot S0 l R) ∧ Hid (S0.length = l.length * 17 + R.length) ∧ wr.ownsRow w.heap.size 54 4 vo l.length (elsCells l) ∧ Hid (Below w.heap.size w wr)) (fun t0 _ _ => match t0 with | .string s => s.size | _ => 0)
        case atStart => exact ⟨[], S0, S, _, rfl, rfl, by have := HL.out; have := HM.out; simp; omega, HM.out, Lib.hid HSS.out.symm, HS0, Lib.hid (by simp), World.ownsRow_nil _ _ _ _, HB⟩
        case round =>
          obtain ⟨l, R, s, vo, rfl, rfl, hlR, hRm, HS, HG, HLen, hown, HBr⟩ := hrel
          clear hm1 hm2 hemp hne HB HS0 hbig
          by_cases hR : R = []
          · subst hR
            have hs0 : s = .empty := by rw [HS.out]; rfl
            subst hs0
            have HO := Lib.hid hown
            clear hown
            go_wp2_with fail
            go_returns
            exact ⟨_, true, rfl, HBr.out, fun _ => ⟨l, by have := HG.out.1; simpa using this, by have := HLen.out; have := HL.out; simp at *; omega, by simp at hlR; omega, HG.out.2, HO.out⟩, by simp⟩
          · have hR17 : 17 ≤ R.length := by
              have : 1 ≤ R.length := by cases R with | nil => exact absurd rfl hR | cons a r => simp
              omega
            obtain ⟨c0, c1, c2, c3, c4, c5, c6, c7, c8, c9, c10, c11, c12, c13, c14, c15, c16, R', rfl⟩ := seventeen hR17
            have hR' : R'.length % 17 = 0 := by simp at hRm; omega
            have hlR' : (l.length + 1) * 17 + R'.length ≤ 272 := by simp at hlR; omega
            have hsee := elSee c0 c1 c2 c3 c4 c5 c6 c7 c8 c9 c10 c11 c12 c13 c14 c15 c16 R'
            rw [← HS.out] at hsee
            have HMore := Lib.hid (fun v1 v2 v3 a1 b1 a2 b2 a3 b3 e1 e2 e3 bo f0 f1 f6 f11 f16 => HG.out.more (v1 := v1) (v2 := v2) (v3 := v3) a1 b1 a2 b2 a3 b3 e1 e2 e3 bo f0 f1 f6 f11 f16)
            have HLen' := Lib.hid (show S0.length = (l.length + 1) * 17 + R'.length from by have := HLen.out; simp at this; omega)
            have hl16 : l.length ≤ 15 := by simp at hlR; omega
            generalize c0.toNat = n0 at hsee HMore
            generalize c1.toNat = n1 at hsee HMore
            generalize c6.toNat = n6 at hsee HMore
            generalize c11.toNat = n11 at hsee HMore
            generalize c16.toNat = n16 at hsee HMore
            generalize txt [c0, c1, c2, c3, c4, c5, c6, c7, c8, c9, c10, c11, c12, c13, c14, c15, c16] = X at hsee
            generalize txt [c2, c3, c4, c5] = P at hsee HMore
            generalize txt [c7, c8, c9, c10] = Q at hsee HMore
            generalize txt [c12, c13, c14, c15] = T at hsee HMore
            obtain ⟨Rt, hRt⟩ : ∃ Rt, Rt = txt R' := ⟨_, rfl⟩
            rw [← hRt] at hsee
            have HRt := Lib.hid hRt
            clear hRt HS HG hR hR17 hlR hRm HLen
            obtain ⟨hsz, hX17, hcx, hcr, hrs, hp, hs7, ht, hps, hqs, hts, hb0, hb1, hb6, hb11, hb16⟩ := hsee
            have HW1 := Lib.hid (fun W hx he => weight_any P hps W hx he)
            have HW2 := Lib.hid (fun W hx he => weight_any Q hqs W hx he)
            have HW3 := Lib.hid (fun W hx he => weight_any T hts W hx he)
            clear hps hqs hts
            have hse : ¬ s.toList = [] := fun h => by
              have h0 : s = .empty := decide_eq_true_iff.1 ((decide_eq_emptyBytes s).trans (by rw [h]; rfl))
              rw [h0] at hsz
              exact absurd hsz (by decide)
            have hse2 : s.toList.isEmpty = false := by
              rw [← decide_eq_emptyBytes]
              exact decide_eq_false (fun h => by rw [h] at hsz; exact absurd hsz (by decide))
            have hsI : (17 : Int) ≤ (s.size : Int) := by omega
            have HO := Lib.hid hown
            clear hown
            go_wp2_with fail
            refine (HW1.out _ (HX0.out.on HBr.out) (HE0.out.on HBr.out)).mono ?_
            rintro e w2 ⟨v1, p1, rfl, a1, b1, e1, hb2⟩
            have HP1 := Lib.hid e1
            have HB2 := Lib.hid (HBr.out.trans (hb2.mono HBr.out.size))
            have HO2 := Lib.hid (own_underT HO.out hb2)
            clear hb2 HBr HO e1 HW1
            go_wp2_with fail
            refine (HW2.out _ (HX0.out.on HB2.out) (HE0.out.on HB2.out)).mono ?_
            rintro e w3 ⟨v2, p2, rfl, a2, b2, e2, hb3⟩
            have HP2 := Lib.hid e2
            have HB3 := Lib.hid (HB2.out.trans (hb3.mono HB2.out.size))
            have HO3 := Lib.hid (own_underT HO2.out hb3)
            clear hb3 HB2 HO2 e2 HW2
            go_wp2_with fail
            refine (HW3.out _ (HX0.out.on HB3.out) (HE0.out.on HB3.out)).mono ?_
            rintro e w4 ⟨v3, p3, rfl, a3, b3, e3, hb4⟩
            have HP3 := Lib.hid e3
            have HB4 := Lib.hid (HB3.out.trans (hb4.mono HB3.out.size))
            have HO4 := Lib.hid (own_underT HO3.out hb4)
            clear hb4 HB3 HO3 e3 HW3
            by_cases fn0 : n0 = 91
            · subst fn0
              by_cases fn1 : n1 = 46
              · subst fn1
                by_cases fn6 : n6 = 46
                · subst fn6
                  by_cases fn11 : n11 = 46
                  · subst fn11
                    by_cases fn16 : n16 = 93
                    · subst fn16
                      cases p1 with
                      | false =>
                        go_wp2_with fail
                        go_returns
                        exact ⟨_, false, rfl, HB4.out, by simp, fun _ => rfl⟩
                      | true =>
                        cases p2 with
                        | false =>
                          go_wp2_with fail
                          go_returns
                          exact ⟨_, false, rfl, HB4.out, by simp, fun _ => rfl⟩
                        | true =>
                          cases p3 with
                          | false =>
                            go_wp2_with fail
                            go_returns
                            exact ⟨_, false, rfl, HB4.out, by simp, fun _ => rfl⟩
                          | true =>
                            have HM2 := Lib.hid (HMore.out v1 v2 v3 a1 b1 a2 b2 a3 b3 (HP1.out rfl) (HP2.out rfl) (HP3.out rfl) false rfl rfl rfl rfl rfl)
                            clear HP1 HP2 HP3 HMore
                            have HC := Lib.hid (show elsCells (l ++ [⟨false, v1, v2, v3⟩]) = elsCells l ++ [.bool false, .int .i64 v1, .int .i64 v2, .int .i64 v3] from by simp [elsCells, EL.cells])
                            go_wp2_with (at_builtin; refine wpList_append_own _ rfl _ _ 43 rfl w.heap.size 54 i0 (.agg #[.bool false, .int .i64 0, .int .i64 0, .int .i64 0]) 4 32 Tryz.underlying43 hi hz0 hz1 hz2 rfl (by decide) _ _ _ rfl (HO4.out.alloc _) ⟨w4.heap.size, 0, none⟩ 1 1 [.bool false, .int .i64 v1, .int .i64 v2, .int .i64 v3] rfl rfl (World.news_of_block (cs := #[.bool false, .int .i64 v1, .int .i64 v2, .int .i64 v3]) (t := 54) (fr := (0, 0)) (heap_alloc_new w4 _)) (by simp [Value.oneCell']) (by unfold maxLen; omega) (by omega) (by have := HB4.out.size; simp; omega) ?_; intro v6 w6 hown6 hgrow6 hnil6)
                            go_roundw
                            case rel => exact ⟨l ++ [⟨false, v1, v2, v3⟩], R', Rt, v6, rfl, rfl, by rw [List.length_append]; exact hlR', hR', HRt, HM2, Lib.hid (by rw [List.length_append]; exact HLen'.out), by rw [HC.out, List.length_append]; exact hown6, Lib.hid ((HB4.out.alloc HB4.out.size _).grown hgrow6 (by have := HB4.out.size; simp; omega) (fun j ej => by have := HO4.out.lt j ej; omega))⟩
                            case measure => simp only [hrs]; omega
                    · have q1 : ¬ (n16 : Int) = 93 := by omega
                      have q2 : ((n16 : Int) == 93) = false := by rw [beq_eq_false_iff_ne]; exact q1
                      have q3 : ((n16 : Int) != 93) = true := by rw [bne_iff_ne]; exact q1
                      go_wp2_with fail
                      go_returns
                      exact ⟨_, false, rfl, HB4.out, by simp, fun _ => rfl⟩
                  · have q1 : ¬ (n11 : Int) = 46 := by omega
                    have q2 : ((n11 : Int) == 46) = false := by rw [beq_eq_false_iff_ne]; exact q1
                    have q3 : ((n11 : Int) != 46) = true := by rw [bne_iff_ne]; exact q1
                    go_wp2_with fail
                    go_returns
                    exact ⟨_, false, rfl, HB4.out, by simp, fun _ => rfl⟩
                · have q1 : ¬ (n6 : Int) = 46 := by omega
                  have q2 : ((n6 : Int) == 46) = false := by rw [beq_eq_false_iff_ne]; exact q1
                  have q3 : ((n6 : Int) != 46) = true := by rw [bne_iff_ne]; exact q1
                  go_wp2_with fail
                  go_returns
                  exact ⟨_, false, rfl, HB4.out, by simp, fun _ => rfl⟩
              · by_cases fn2 : n1 = 42
                · subst fn2
                  by_cases fn6 : n6 = 46
                  · subst fn6
                    by_cases fn11 : n11 = 46
                    · subst fn11
                      by_cases fn16 : n16 = 93
                      · subst fn16
                        cases p1 with
                        | false =>
                          go_wp2_with fail
                          go_returns
                          exact ⟨_, false, rfl, HB4.out, by simp, fun _ => rfl⟩
                        | true =>
                          cases p2 with
                          | false =>
                            go_wp2_with fail
                            go_returns
                            exact ⟨_, false, rfl, HB4.out, by simp, fun _ => rfl⟩
                          | true =>
                            cases p3 with
                            | false =>
                              go_wp2_with fail
                              go_returns
                              exact ⟨_, false, rfl, HB4.out, by simp, fun _ => rfl⟩
                            | true =>
                              have HM2 := Lib.hid (HMore.out v1 v2 v3 a1 b1 a2 b2 a3 b3 (HP1.out rfl) (HP2.out rfl) (HP3.out rfl) true rfl rfl rfl rfl rfl)
                              clear HP1 HP2 HP3 HMore
                              have HC := Lib.hid (show elsCells (l ++ [⟨true, v1, v2, v3⟩]) = elsCells l ++ [.bool true, .int .i64 v1, .int .i64 v2, .int .i64 v3] from by simp [elsCells, EL.cells])
                              go_wp2_with (at_builtin; refine wpList_append_own _ rfl _ _ 43 rfl w.heap.size 54 i0 (.agg #[.bool false, .int .i64 0, .int .i64 0, .int .i64 0]) 4 32 Tryz.underlying43 hi hz0 hz1 hz2 rfl (by decide) _ _ _ rfl (HO4.out.alloc _) ⟨w4.heap.size, 0, none⟩ 1 1 [.bool true, .int .i64 v1, .int .i64 v2, .int .i64 v3] rfl rfl (World.news_of_block (cs := #[.bool true, .int .i64 v1, .int .i64 v2, .int .i64 v3]) (t := 54) (fr := (0, 0)) (heap_alloc_new w4 _)) (by simp [Value.oneCell']) (by unfold maxLen; omega) (by omega) (by have := HB4.out.size; simp; omega) ?_; intro v6 w6 hown6 hgrow6 hnil6)
                              go_roundw
                              case rel => exact ⟨l ++ [⟨true, v1, v2, v3⟩], R', Rt, v6, rfl, rfl, by rw [List.length_append]; exact hlR', hR', HRt, HM2, Lib.hid (by rw [List.length_append]; exact HLen'.out), by rw [HC.out, List.length_append]; exact hown6, Lib.hid ((HB4.out.alloc HB4.out.size _).grown hgrow6 (by have := HB4.out.size; simp; omega) (fun j ej => by have := HO4.out.lt j ej; omega))⟩
                              case measure => simp only [hrs]; omega
                      · have q1 : ¬ (n16 : Int) = 93 := by omega
                        have q2 : ((n16 : Int) == 93) = false := by rw [beq_eq_false_iff_ne]; exact q1
                        have q3 : ((n16 : Int) != 93) = true := by rw [bne_iff_ne]; exact q1
                        go_wp2_with fail
                        go_returns
                        exact ⟨_, false, rfl, HB4.out, by simp, fun _ => rfl⟩
                    · have q1 : ¬ (n11 : Int) = 46 := by omega
                      have q2 : ((n11 : Int) == 46) = false := by rw [beq_eq_false_iff_ne]; exact q1
                      have q3 : ((n11 : Int) != 46) = true := by rw [bne_iff_ne]; exact q1
                      go_wp2_with fail
                      go_returns
                      exact ⟨_, false, rfl, HB4.out, by simp, fun _ => rfl⟩
                  · have q1 : ¬ (n6 : Int) = 46 := by omega
                    have q2 : ((n6 : Int) == 46) = false := by rw [beq_eq_false_iff_ne]; exact q1
                    have q3 : ((n6 : Int) != 46) = true := by rw [bne_iff_ne]; exact q1
                    go_wp2_with fail
                    go_returns
                    exact ⟨_, false, rfl, HB4.out, by simp, fun _ => rfl⟩
                · have q1 : ¬ (n1 : Int) = 46 := by omega
                  have q2 : ((n1 : Int) == 46) = false := by rw [beq_eq_false_iff_ne]; exact q1
                  have q3 : ((n1 : Int) != 46) = true := by rw [bne_iff_ne]; exact q1
                  have q4 : ¬ (n1 : Int) = 42 := by omega
                  have q5 : ((n1 : Int) == 42) = false := by rw [beq_eq_false_iff_ne]; exact q4
                  have q6 : ((n1 : Int) != 42) = true := by rw [bne_iff_ne]; exact q4
                  go_wp2_with fail
                  go_returns
                  exact ⟨_, false, rfl, HB4.out, by simp, fun _ => rfl⟩
            · have q1 : ¬ (n0 : Int) = 91 := by omega
              have q2 : ((n0 : Int) == 91) = false := by rw [beq_eq_false_iff_ne]; exact q1
              have q3 : ((n0 : Int) != 91) = true := by rw [bne_iff_ne]; exact q1
              go_wp2_with fail
              go_returns
              exact ⟨_, false, rfl, HB4.out, by simp, fun _ => rfl⟩
    · have hm1 : ¬ ((txt S0).size : Int) % 17 = 0 := by rw [hsz]; omega
      have hbig : (txt S0).size ≤ 65536 := by omega
      clear h0 hsz h17
      generalize txt S0 = S at hemp hm1 hbig ⊢
      go_enter Tryz.func89, Tryz.ntmps89
      go_wp2_with fail
      go_returns
      exact ⟨_, false, rfl, HB.out, by simp, fun _ => rfl⟩
end Go.Proofs.YtlkdjdcnbcegeaaGreatDoor
