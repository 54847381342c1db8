/-
  An element's text, cut up.
-/
import Derived.Test.YtlkdjdcnbcegeaaGreatDoorKY
import Derived.Test.YtlkdjdcnbcegeaaGreatDoorKD
import Derived.Laws.Strings3
import Derived.Laws.DeepStrings4
/-! An element's text, cut up. -/
namespace Go.Proofs.YtlkdjdcnbcegeaaGreatDoor
open Go.RowKit Go.WideShapes
set_option linter.unusedVariables false
set_option linter.unusedSimpArgs false
theorem txt_cutT (l : List UInt8) (i j : Nat) : (txt l).extract i j = txt ((l.drop i).take (j - i)) :=
  ByteArray.ext (Array.toList_inj.1 (by rw [Lib.extract_data, txt_list, txt_list]))
/-- The weights have four digits. -/
def EL.four (e : EL) : Bool := decide (0 ≤ e.p ∧ e.p ≤ 65535 ∧ 0 ≤ e.s ∧ e.s ≤ 65535 ∧ 0 ≤ e.t ∧ e.t ≤ 65535)
theorem hexW_of4 {n : Nat} (h : n ≤ 65535) : ∃ a b c d, hexW n = [a, b, c, d] := by
  have h1 : (hexW n).length = 4 := by
    rw [hexW_len]
    have := hexN_le (n := n) (k := 4) (by omega) (Nat.div_eq_of_lt (by omega))
    omega
  match hexW n, h1 with
  | [a, b, c, d], _ => exact ⟨a, b, c, d, rfl⟩
/-- All that the code looks at. -/
structure ElCut (e : EL) (S X R : ByteArray) : Prop where
  big : 17 ≤ S.size
  x17 : X.size = 17
  hx : S.extract 0 17 = X
  hr : S.extract 17 S.size = R
  rs : R.size = S.size - 17
  p : X.extract 2 6 = txt (hexW e.p.toNat)
  s : X.extract 7 11 = txt (hexW e.s.toNat)
  t : X.extract 12 16 = txt (hexW e.t.toNat)
  b0 : ∀ h : 0 < X.size, (X[0]'h).toNat = 91
  b1 : ∀ h : 1 < X.size, (X[1]'h).toNat = if e.v then 42 else 46
  b6 : ∀ h : 6 < X.size, (X[6]'h).toNat = 46
  b11 : ∀ h : 11 < X.size, (X[11]'h).toNat = 46
  b16 : ∀ h : 16 < X.size, (X[16]'h).toNat = 93
theorem elCut {e : EL} (h : e.four = true) (l : List UInt8) : ElCut e (txt (e.text ++ l)) (txt e.text) (txt l) := by
  simp only [EL.four, decide_eq_true_eq] at h
  obtain ⟨a0, a1, a2, a3, ha⟩ := hexW_of4 (n := e.p.toNat) (by omega)
  obtain ⟨b0, b1, b2, b3, hb⟩ := hexW_of4 (n := e.s.toNat) (by omega)
  obtain ⟨c0, c1, c2, c3, hc⟩ := hexW_of4 (n := e.t.toNat) (by omega)
  have ht : e.text = [91, if e.v then 42 else 46, a0, a1, a2, a3, 46, b0, b1, b2, b3, 46, c0, c1, c2, c3, 93] := by rw [EL.text, ha, hb, hc]; rfl
  constructor
  all_goals rw [ht]
  · rw [txt_size]; simp
  · rw [txt_size]; rfl
  · rw [txt_cutT]; simp
  · rw [txt_cutT, txt_size]
    congr 1
    rw [List.drop_append_of_le_length (by simp)]
    simp
  · rw [txt_size, txt_size]; simp
  · rw [txt_cutT, ha]; rfl
  · rw [txt_cutT, hb]; rfl
  · rw [txt_cutT, hc]; rfl
  · intro h; rfl
  · intro h
    show (if e.v then (42 : UInt8) else 46).toNat = _
    cases e.v <;> rfl
  · intro h; rfl
  · intro h; rfl
  · intro h; rfl
end Go.Proofs.YtlkdjdcnbcegeaaGreatDoor

/-! table.elements, of a row of elements' text. -/
namespace Go.Proofs.YtlkdjdcnbcegeaaGreatDoor
open Go.RowKit Go.WideShapes
set_option linter.unusedVariables false
set_option linter.unusedSimpArgs false
def elsText (l : List EL) : List UInt8 := (l.map EL.text).flatten
theorem el_len {e : EL} (h : e.four = true) : e.text.length = 17 := by have := (elCut h []).x17; rwa [txt_size] at this
theorem elsText_size {l : List EL} (h : l.all EL.four = true) : (txt (elsText l)).size = l.length * 17 := by
  rw [txt_size]
  induction l with
  | nil => rfl
  | cons e l ih =>
    rw [List.all_cons, Bool.and_eq_true] at h
    simp only [elsText, List.map_cons, List.flatten_cons, List.length_append, List.length_cons, el_len h.1] at ih ⊢
    rw [ih h.2]; omega
theorem elsCells_next (l : List EL) (k : Nat) (h : k < l.length) : elsCells (l.take (k + 1)) = elsCells (l.take k) ++ l[k].cells := by
  rw [List.take_succ_eq_append_getElem h]; simp only [elsCells, List.flatMap_append, List.flatMap_cons, List.flatMap_nil, List.append_nil]
theorem own_underT {w w' : World} {base n size : Nat} {e : TypeId} {v : Value} {xs : List Value} (h : w.ownsRow base e size v n xs) (hb : Below w.heap.size w w') : w'.ownsRow base e size v n xs :=
  h.kept (row := none) ⟨hb.os, hb.tape, hb.output, hb.size, fun i hi _ => hb.block i hi⟩ (by cases v.ownBlock <;> simp)
theorem elInfo : (Tryz.prog.info? 54).map (fun i => (i.zero, i.size, i.bytes)) = some (some (.agg #[.bool false, .int .i64 0, .int .i64 0, .int .i64 0]), 4, 32) := by kernel_rfl
theorem weight_int {p : Int} (h0 : 0 ≤ p) (h1 : p ≤ 65535) (w : World) (HX : HexHere w) : Calls Tryz.prog 118 #[.string (txt (hexW p.toNat))] w (Ret (.tuple #[.int .i64 p, .bool true]) w) := by
  have h := weight_ok p.toNat (by omega) w HX
  rwa [show ((p.toNat : Nat) : Int) = p by omega] at h
set_option maxRecDepth 100000 in
set_option maxHeartbeats 8000000 in
theorem elements_ok (l : List EL) (h1 : 1 ≤ l.length) (h16 : l.length ≤ 16) (hl : l.all EL.four = true) (w : World) (HX : HexHere w) :
    Calls Tryz.prog 89 #[.string (txt (elsText l))] w fun e w' => ∃ v, e = .returned (.tuple #[v, .bool true]) ∧ Below w.heap.size w w' ∧ w'.ownsRow w.heap.size 54 4 v l.length (elsCells l) := by
  have hsz := elsText_size hl
  have HB := Lib.hid (Below.refl w.heap.size w)
  have HX0 := Lib.hid HX
  have HL := Lib.hid hl
  have hemp : (txt (elsText l)).toList.isEmpty = false := by
    rw [← decide_eq_emptyBytes]
    exact decide_eq_false (fun h => by rw [h] at hsz; simp at hsz; omega)
  have hm1 : ((txt (elsText l)).size : Int) % 17 = 0 := by rw [hsz]; omega
  have hm2 : ¬ 16 < wrap64 (((txt (elsText l)).size : Int) / 17) := by rw [hsz]; unfold wrap64; omega
  have hbig : (txt (elsText l)).size ≤ 272 := by omega
  clear HX hl
  obtain ⟨S, hS⟩ : ∃ S, S = txt (elsText l) := ⟨_, rfl⟩
  rw [← hS] at hsz hemp hm1 hm2 hbig ⊢
  have hne : ¬ S.toList = [] := fun h => by rw [h] at hemp; exact absurd hemp (by decide)
  have HS0 := Lib.hid hS
  clear hS
  obtain ⟨i0, hi, hz0, hz1, hz2⟩ := info_parts elInfo
  go_enter Tryz.func89, Tryz.ntmps89
  go_wp2_with fail
  go_loopw [0, 4] (fun t0 t4 wr => ∃ (k : Nat) (s : ByteArray) (vo : Value), t0 = .string s ∧ t4 = vo ∧ k ≤ l.length ∧ Hid (s = txt (elsText (l.drop k))) ∧ wr.ownsRow w.heap.size 54 4 vo k (elsCells (l.take k)) ∧ Hid (Below w.heap.size w wr)) (fun t0 _ _ => match t0 with | .string s => s.size | _ => 0)
  case atStart => exact ⟨0, S, _, rfl, rfl, by omega, Lib.hid (by rw [HS0.out]; rfl), World.ownsRow_nil _ _ _ _, HB⟩
  case round =>
    obtain ⟨k, s, vo, rfl, rfl, hk, HS, hown, HBr⟩ := hrel
    clear hm1 hm2 hemp hsz HS0 hne HB
    by_cases hkl : k < l.length
    · have hdrop : l.drop k = l[k] :: l.drop (k + 1) := List.drop_eq_getElem_cons hkl
      have hf : l[k].four = true := List.all_eq_true.1 HL.out _ (List.getElem_mem hkl)
      have hst : s = txt (l[k].text ++ elsText (l.drop (k + 1))) := by rw [HS.out, hdrop]; rfl
      have hcut := elCut hf (elsText (l.drop (k + 1)))
      rw [← hst] at hcut
      have hsz := hcut.big
      have hX17 := hcut.x17
      have hcx := hcut.hx
      have hcr := hcut.hr
      have hrs := hcut.rs
      have hp := hcut.p
      have hs7 := hcut.s
      have ht := hcut.t
      have hb0 := hcut.b0
      have hb1 := hcut.b1
      have hb6 := hcut.b6
      have hb11 := hcut.b11
      have hb16 := hcut.b16
      clear hcut hst hdrop HS
      generalize txt l[k].text = X at hX17 hcx hp hs7 ht hb0 hb1 hb6 hb11 hb16
      obtain ⟨R, hR⟩ : ∃ R, R = txt (elsText (l.drop (k + 1))) := ⟨_, rfl⟩
      rw [← hR] at hcr hrs
      have HR := Lib.hid hR
      clear hR
      have hse : ¬ s.toList = [] := fun h => by
        have h0 : s = .empty := decide_eq_true_iff.1 ((decide_eq_emptyBytes s).trans (by rw [h]; rfl))
        rw [h0] at hsz
        exact absurd hsz (by decide)
      have hse2 : s.toList.isEmpty = false := by
        rw [← decide_eq_emptyBytes]
        exact decide_eq_false (fun h => by rw [h] at hsz; exact absurd hsz (by decide))
      have hsI : (17 : Int) ≤ (s.size : Int) := by omega
      simp only [EL.four, decide_eq_true_eq] at hf
      obtain ⟨f0, f1, f2, f3, f4, f5⟩ := hf
      have HE := Lib.hid (show elsCells (l.take (k + 1)) = elsCells (l.take k) ++ l[k].cells from elsCells_next l k hkl)
      have HO := Lib.hid hown
      clear hown
      obtain ⟨el, hel⟩ : ∃ el, el = l[k] := ⟨_, rfl⟩
      rw [← hel] at hp hs7 ht hb1 f0 f1 f2 f3 f4 f5 HE
      clear hel
      cases hv : el.v
      · simp only [hv, Bool.false_eq_true, if_false] at hb1
        go_wp2_with fail
        refine (weight_int (by omega) (by omega) _ (HX0.out.on HBr.out)).mono ?_
        rintro e w2 ⟨rfl, hb2⟩
        have HB2 := Lib.hid (HBr.out.trans (hb2.mono HBr.out.size))
        have HO2 := Lib.hid (own_underT HO.out hb2)
        clear hb2 HBr HO
        go_wp2_with fail
        refine (weight_int (by omega) (by omega) _ (HX0.out.on HB2.out)).mono ?_
        rintro e w3 ⟨rfl, hb3⟩
        have HB3 := Lib.hid (HB2.out.trans (hb3.mono HB2.out.size))
        have HO3 := Lib.hid (own_underT HO2.out hb3)
        clear hb3 HB2 HO2
        go_wp2_with fail
        refine (weight_int (by omega) (by omega) _ (HX0.out.on HB3.out)).mono ?_
        rintro e w4 ⟨rfl, hb4⟩
        have HB4 := Lib.hid (HB3.out.trans (hb4.mono HB3.out.size))
        have HO4 := Lib.hid (own_underT HO3.out hb4)
        clear hb4 HB3 HO3
        go_wp2_with (at_builtin; refine wpList_append_own _ rfl _ _ 43 rfl w.heap.size 54 i0 (.agg #[.bool false, .int .i64 0, .int .i64 0, .int .i64 0]) 4 32 Tryz.underlying43 hi hz0 hz1 hz2 rfl (by decide) _ _ _ rfl (HO4.out.alloc _) ⟨w4.heap.size, 0, none⟩ 1 1 [.bool false, .int .i64 el.p, .int .i64 el.s, .int .i64 el.t] rfl rfl (World.news_of_block (cs := #[.bool false, .int .i64 el.p, .int .i64 el.s, .int .i64 el.t]) (t := 54) (fr := (0, 0)) (heap_alloc_new w4 _)) (by simp [Value.oneCell']) (by unfold maxLen; omega) (by omega) (by have := HB4.out.size; simp; omega) ?_; intro v6 w6 hown6 hgrow6 hnil6)
        go_roundw
        case rel => exact ⟨k + 1, R, v6, rfl, rfl, by omega, HR, by rw [HE.out, EL.cells, hv]; exact hown6, Lib.hid ((HB4.out.alloc HB4.out.size _).grown hgrow6 (by have := HB4.out.size; simp; omega) (fun j ej => by have := HO4.out.lt j ej; omega))⟩
        case measure => simp only [hrs]; omega
      · simp only [hv, if_true] at hb1
        go_wp2_with fail
        refine (weight_int (by omega) (by omega) _ (HX0.out.on HBr.out)).mono ?_
        rintro e w2 ⟨rfl, hb2⟩
        have HB2 := Lib.hid (HBr.out.trans (hb2.mono HBr.out.size))
        have HO2 := Lib.hid (own_underT HO.out hb2)
        clear hb2 HBr HO
        go_wp2_with fail
        refine (weight_int (by omega) (by omega) _ (HX0.out.on HB2.out)).mono ?_
        rintro e w3 ⟨rfl, hb3⟩
        have HB3 := Lib.hid (HB2.out.trans (hb3.mono HB2.out.size))
        have HO3 := Lib.hid (own_underT HO2.out hb3)
        clear hb3 HB2 HO2
        go_wp2_with fail
        refine (weight_int (by omega) (by omega) _ (HX0.out.on HB3.out)).mono ?_
        rintro e w4 ⟨rfl, hb4⟩
        have HB4 := Lib.hid (HB3.out.trans (hb4.mono HB3.out.size))
        have HO4 := Lib.hid (own_underT HO3.out hb4)
        clear hb4 HB3 HO3
        go_wp2_with (at_builtin; refine wpList_append_own _ rfl _ _ 43 rfl w.heap.size 54 i0 (.agg #[.bool false, .int .i64 0, .int .i64 0, .int .i64 0]) 4 32 Tryz.underlying43 hi hz0 hz1 hz2 rfl (by decide) _ _ _ rfl (HO4.out.alloc _) ⟨w4.heap.size, 0, none⟩ 1 1 [.bool true, .int .i64 el.p, .int .i64 el.s, .int .i64 el.t] rfl rfl (World.news_of_block (cs := #[.bool true, .int .i64 el.p, .int .i64 el.s, .int .i64 el.t]) (t := 54) (fr := (0, 0)) (heap_alloc_new w4 _)) (by simp [Value.oneCell']) (by unfold maxLen; omega) (by omega) (by have := HB4.out.size; simp; omega) ?_; intro v6 w6 hown6 hgrow6 hnil6)
        go_roundw
        case rel => exact ⟨k + 1, R, v6, rfl, rfl, by omega, HR, by rw [HE.out, EL.cells, hv]; exact hown6, Lib.hid ((HB4.out.alloc HB4.out.size _).grown hgrow6 (by have := HB4.out.size; simp; omega) (fun j ej => by have := HO4.out.lt j ej; omega))⟩
        case measure => simp only [hrs]; omega
    · have hkk : k = l.length := by omega
      subst hkk
      have hs0 : s = .empty := by rw [HS.out, List.drop_length]; rfl
      subst hs0
      have HO := Lib.hid hown
      clear hown
      go_wp2_with fail
      go_returns
      have ho := HO.out
      rw [List.take_length] at ho
      exact ⟨_, rfl, HBr.out, ho⟩
end Go.Proofs.YtlkdjdcnbcegeaaGreatDoor
