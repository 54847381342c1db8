/-
  ref11.lines: all fields' lines.
-/
import Derived.Test.YtcjllhdbepchnaaGreatDoorMAM
import Derived.Test.YtcjllhdbepchnaaGreatDoorMAN
namespace Go.Proofs.YtcjllhdbepchnaaGreatDoor
open Go.RowKit Go.WideShapes
set_option linter.unusedVariables false
/-- What a field that may be says of itself. -/
theorem fine_line {t : FT} (h : t.fine) : 1 ≤ t.s.kind ∧ t.s.kind ≤ 7 ∧ t.s.nulls ≤ 2 ∧ (t.s.bnd = true → t.s.kind = 2 ∧ numWhy t.s.lb t.s.lm = 0 ∧ numWhy t.s.hb t.s.hm = 0) ∧ 0 ≤ t.s.most ∧ (t.s.kind = 6 → 0 ≤ t.s.st) ∧ (t.s.sh = true → t.s.kind = 6) ∧ (t.s.ba = true → t.s.kind = 6) := by
  have hk := odd_kind h.2.1
  have hm := odd_most h.2.1
  have ho := h.2.1
  have h9 : ¬ (((t.s.kind != 2 && (t.s.bnd || t.s.lb || t.s.lm.size != 0 || t.s.hb || t.s.hm.size != 0)) || (t.s.kind != 3 && t.s.kind != 5 && t.s.most != 0) || (t.s.kind != 6 && (t.s.st != 0 || t.s.sh || t.s.ba)) || (t.s.kind != 7 && t.fields.length != 0)) = true) := by
    intro e
    unfold FT.odd at ho
    rw [if_neg (by simp; omega), if_pos e] at ho
    cases ho
  simp only [Bool.or_eq_true, Bool.and_eq_true, bne_iff_ne, ne_eq, not_or, not_and] at h9
  have h6 : ∀ (k : t.s.kind ≠ 6), t.s.sh ≠ true ∧ t.s.ba ≠ true := fun k => by
    have := h9.1.2 k
    exact ⟨this.1.2, this.2⟩
  have hb : t.s.bnd = true → t.s.kind = 2 := fun e => Classical.byContradiction fun k => (h9.1.1.1 k).1.1.1.1 e
  refine ⟨hk.1, hk.2.1, hk.2.2, fun e => ⟨hb e, fine_bnd h (hb e) e⟩, hm, fun e => ?_, fun e => Classical.byContradiction fun k => (h6 k).1 e, fun e => Classical.byContradiction fun k => (h6 k).2 e⟩
  unfold FT.odd at ho
  rw [if_neg (by simp; omega)] at ho
  split at ho
  · cases ho
  · rw [if_neg (by omega)] at ho
    simp at ho
    omega
def LinesAny (l : List FT) : Prop := ∀ (ind : List UInt8) (a : Option Addr) (c : Nat) (w : World), l.length ≤ c → c ≤ 140737488351232 → FieldsAt w (· < w.heap.size) l a → FT.allFineL l → FT.countL l ≤ 64 → ind.length + 2 * FT.countL l ≤ 1000 → Calls Tryz.prog 64 #[.slice a l.length c, .string (txt ind)] w (Ret (.string (txt (FT.linesL ind l))) w)
theorem take_few {l : List FT} {ind : List UInt8} (h : FT.allFineL l) (hc : FT.countL l ≤ 64) (hi : ind.length ≤ 1000) : ∀ k, (FT.linesL ind (l.take k)).length ≤ 272384 := fun k => by
  have h1 := FT.linesL_few l ind h
  have h2 : FT.linesL ind l = FT.linesL ind (l.take k) ++ FT.linesL ind (l.drop k) := by rw [← linesL_append, List.take_append_drop]
  rw [h2, List.length_append] at h1
  have h3 : (2000 + 2 * ind.length + 4 * FT.countL l) * FT.countL l ≤ 4256 * 64 := Nat.mul_le_mul (by omega) hc
  omega
theorem lines_few1 {t : FT} {ind : List UInt8} (h : FT.allFineL t.fields) (hc : FT.countL t.fields ≤ 64) (hi : ind.length ≤ 1000) : (FT.linesL ind t.fields).length ≤ 272384 := by
  have := take_few h hc hi t.fields.length
  rwa [List.take_length] at this
set_option maxRecDepth 100000 in
set_option maxHeartbeats 2000000 in
theorem lines_step (l : List FT) (ih : ∀ x ∈ l, LinesAny x.fields) : LinesAny l := by
  intro ind a c w hlc hc hf hfine hcnt hind
  have HL := Lib.hid hf
  have HIH := Lib.hid ih
  have HB0 := Lib.hid (Below.refl w.heap.size w)
  have HFi := Lib.hid hfine
  have HTk := Lib.hid (take_few (ind := ind) hfine hcnt (by omega))
  have HCm := Lib.hid (fun k (hk : k < l.length) => FT.count_mem (List.getElem_mem hk))
  clear hf ih hfine
  go_enter Tryz.func64, Tryz.ntmps64
  go_wp2_with fail
  go_loopw [5, 6] (fun s i wr => ∃ (k : Nat) (L : List UInt8), s = .string (txt L) ∧ i = .int .i64 k ∧ k ≤ l.length ∧ Hid (L = FT.linesL ind (l.take k)) ∧ Hid (Below w.heap.size w wr)) (fun _ i _ => l.length - (intOf i).toNat)
  case atStart => exact ⟨0, [], rfl, rfl, by omega, Lib.hid (by simp [FT.linesL]), HB0⟩
  case round =>
    clear HB0
    obtain ⟨k, L, rfl, rfl, hk, HLe, HB⟩ := hrel
    have hwz := HB.out.size
    by_cases hlt : k < l.length
    · obtain ⟨b, o, aa, cc, rfl, hb, hca, hfa⟩ := (HL.out.below HB.out).get hlt
      obtain ⟨k0, k1, k2, k3, k4, k5, k6, k7, k8, k9, k10, k11, k12, k13⟩ := hca.field
      obtain ⟨_, _, ee, hok, hfl, hfc, hff⟩ := hfa.open
      obtain ⟨rfl, rfl⟩ := fieldCells_inj ee
      have HFF := Lib.hid hff
      have hall := (FT.allFine_eq l[k]).1 (FT.allFineL_get hlt HFi.out)
      have HFs := Lib.hid hall.2
      have hfi := hall.1
      have hcm := HCm.out k hlt
      have hceq := FT.count_eq l[k]
      have hlw := lineW_few hfi
      obtain ⟨q1, q2, q3, q4, q5, q6, q7, q8⟩ := fine_line hfi
      have HLn := Lib.hid (fun w => refLine_any l[k].s aa l[k].fields.length cc w hfi.1 q1 q2 q3 hfi.2.2 q4 q5 q6 q7 q8)
      have hLl : L.length ≤ 272384 := by rw [HLe.out]; exact HTk.out k
      have hsub := Lib.hid (lines_few1 (t := l[k]) (ind := ind ++ [32, 32]) hall.2 (by omega) (by simp; omega))
      have HNx := Lib.hid (show FT.linesL ind (l.take (k + 1)) = L ++ (ind ++ lineW l[k].s ++ [10] ++ (if l[k].s.kind = 7 then FT.linesL (ind ++ [32, 32]) l[k].fields ++ ind ++ wEnd else [])) by rw [linesL_take ind hlt, FT.lines_eq, HLe.out])
      clear hff hfa hca ee hok hfi hall q1 q2 q3 q4 q5 q6 q7 q8
      obtain ⟨M, hM⟩ : ∃ M, M = lineW l[k].s := ⟨_, rfl⟩
      rw [← hM] at HLn HNx hlw
      clear hM
      have hkl0 : (0 : Int) ≤ (k : Int) := by omega
      have hkl1 : (k : Int) < (l.length : Int) := by omega
      have z1 : (9223372036854775807 < (txt L).size + (txt ind).size) = False := by rw [txt_size, txt_size]; exact eq_false (by omega)
      have z2 : (9223372036854775807 < (txt L).size + (txt ind).size + (txt M).size) = False := by rw [txt_size, txt_size, txt_size]; exact eq_false (by omega)
      have z3 : (9223372036854775807 < (txt L).size + (txt ind).size + (txt M).size + 1) = False := by rw [txt_size, txt_size, txt_size]; exact eq_false (by omega)
      go_wp2_with fail
      refine (HLn.out _).mono ?_
      rintro e w5 ⟨rfl, hb5⟩
      have HB5 := Lib.hid (HB.out.trans (hb5.mono hwz))
      have hwz5 := HB5.out.size
      have hz5 := hb5.size
      have j1 := (hb5.cell (p := ⟨b, o + k * 14 + 1, none⟩) (by simp only; omega)).trans k1
      have j13 := (hb5.cell (p := ⟨b, o + k * 14 + 13, none⟩) (by simp only; omega)).trans k13
      have HFF5 := Lib.hid ((HFF.out.wide (B' := wr.heap.size) hwz).below hb5)
      clear hb5 k0 k1 k2 k3 k4 k5 k6 k7 k8 k9 k10 k11 k12 k13
      by_cases h7 : l[k].s.kind = 7
      · have ht7 : (((l[k].s.kind : Nat) : Int) == 7) = true := by rw [h7]; rfl
        have HX := Lib.hid (show L ++ ind ++ M ++ [10] ++ FT.linesL (ind ++ [32, 32]) l[k].fields ++ ind ++ wEnd = FT.linesL ind (l.take (k + 1)) by rw [HNx.out, if_pos h7]; simp [List.append_assoc])
        clear h7
        have HCl := Lib.hid (HIH.out l[k] (List.getElem_mem hlt) (ind ++ [32, 32]) aa cc w5 hfl hfc (HFF5.out.wide (by omega)) HFs.out (by omega) (by simp; omega))
        have hsb := hsub.out
        obtain ⟨R, hR⟩ : ∃ R, R = FT.linesL (ind ++ [32, 32]) l[k].fields := ⟨_, rfl⟩
        rw [← hR] at HCl HX hsb
        clear hR
        have hind2 : txt ind ++ ⟨#[32, 32]⟩ = txt (ind ++ [32, 32]) := txt_append ind [32, 32]
        have HI2 := Lib.hid hind2
        clear hind2
        rw [← HI2.out] at HCl
        have z4 : (9223372036854775807 < (txt ind).size + 2) = False := by rw [txt_size]; exact eq_false (by omega)
        have z5 : (9223372036854775807 < (txt L).size + (txt ind).size + (txt M).size + 1 + (txt R).size) = False := by rw [txt_size, txt_size, txt_size, txt_size]; exact eq_false (by omega)
        have z6 : (9223372036854775807 < (txt L).size + (txt ind).size + (txt M).size + 1 + (txt R).size + (txt ind).size) = False := by rw [txt_size, txt_size, txt_size, txt_size]; exact eq_false (by omega)
        have z7 : (9223372036854775807 < (txt L).size + (txt ind).size + (txt M).size + 1 + (txt R).size + (txt ind).size + 4) = False := by rw [txt_size, txt_size, txt_size, txt_size]; exact eq_false (by omega)
        go_wp2_with fail
        refine HCl.out.mono ?_
        rintro e w6 ⟨rfl, hb6⟩
        have HB6 := Lib.hid (HB5.out.trans (hb6.mono hwz5))
        clear hb6 j1 j13
        go_wp2_with fail
        go_roundw
        case rel => exact ⟨k + 1, _, congrArg Value.string (show txt L ++ txt ind ++ txt M ++ txt [10] ++ txt R ++ txt ind ++ txt wEnd = txt (L ++ ind ++ M ++ [10] ++ R ++ ind ++ wEnd) by simp only [txt_append]), by go_num, by omega, HX, HB6⟩
        case measure => simp [intOf]; omega
      · have ht7 : (((l[k].s.kind : Nat) : Int) == 7) = false := beq_eq_false_iff_ne.2 (by omega)
        have HX := Lib.hid (show L ++ ind ++ M ++ [10] = FT.linesL ind (l.take (k + 1)) by rw [HNx.out, if_neg h7]; simp [List.append_assoc])
        clear h7
        go_wp2_with fail
        go_roundw
        case rel => exact ⟨k + 1, _, congrArg Value.string (show txt L ++ txt ind ++ txt M ++ txt [10] = txt (L ++ ind ++ M ++ [10]) by simp only [txt_append]), by go_num, by omega, HX, HB5⟩
        case measure => simp [intOf]; omega
    · obtain rfl : k = l.length := by omega
      have HX := Lib.hid (show L = FT.linesL ind l by rw [HLe.out, List.take_length])
      go_wp2_with fail
      go_ret
      rw [← HX.out]
      exact ⟨rfl, HB.out⟩
theorem lines_any (l : List FT) : LinesAny l := lines_step l (fun x hx => FT.allL (M := fun t => LinesAny t.fields) (fun t h => lines_step t.fields h) l x hx)
end Go.Proofs.YtcjllhdbepchnaaGreatDoor
