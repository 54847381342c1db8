/-
  The law RekeyMaps: its walk.
-/
import Derived.Test.YtjgicjgpahnmaaaDoorKQ
import Derived.Test.YtjgicjgpahnmaaaDoorKR
import Derived.Test.YtjgicjgpahnmaaaDoorKS
import Derived.Test.YtjgicjgpahnmaaaDoorKU
import Derived.Test.YtjgicjgpahnmaaaDoorKV
import Derived.Test.YtjgicjgpahnmaaaDoorKW
import Derived.Test.YtjgicjgpahnmaaaDoorKY
namespace Go.Proofs.YtjgicjgpahnmaaaDoor
open Go.RowKit Go.WideShapes
set_option linter.unusedVariables false
theorem SLRow.srcs {w : World} {g : Nat} {l : List (Int × PT)} {j : Nat} (h : SLRow w g l.length l.length j l) : SrcsAt w (· < w.heap.size) l (some ⟨g, 0, none⟩) := fun i hi => by
  obtain ⟨a', c', h1, h2⟩ := h.it i hi hi
  exact ⟨g, 0, a', c', rfl, h.lt, by rw [Nat.zero_add]; exact h1, RmAt.part _ _ (RmAt.more (fun b hb => hb.2) _ _ h2)⟩
theorem PT.why_num (p : PT) : p.why = 0 ∨ p.why = 90 ∨ p.why = 91 := by
  unfold PT.why
  split
  · simp
  · split <;> simp
theorem badOf_num {t : PT} {s : Int × PT} {n : Int} (h : badOf t s = some n) : n = 0 ∨ n = 90 ∨ n = 91 := by
  unfold badOf at h
  split at h
  · split at h
    · cases h
    · injection h with h; omega
  · split at h
    · injection h with h; have := PT.why_num s.2; omega
    · split at h
      · cases h
      · injection h with h; omega
theorem BadAt.code {t : PT} {l : List (Int × PT)} {code at_ n : Int} (h : BadAt t l code at_ n) : code = 4 ∨ code = 180 := by
  rcases h with ⟨_, h, _⟩ | ⟨_, _, h, _⟩ | ⟨_, _, h, _⟩
  · exact .inl h
  · exact .inr h
  · exact .inr h
theorem BadAt.num {t : PT} {l : List (Int × PT)} {code at_ n : Int} (h : BadAt t l code at_ n) : n = 0 ∨ n = 90 ∨ n = 91 := by
  rcases h with ⟨_, _, _, h⟩ | ⟨_, _, _, _, h⟩ | ⟨_, _, _, k, hk, _, _, h⟩
  · exact .inl h
  · exact .inl h
  · exact badOf_num h
set_option maxRecDepth 100000 in
set_option maxHeartbeats 8000000 in
theorem maps_any (L : List (Int × PT)) (A : Option Addr) (C : Nat) (t : PT) (a : Option Addr) (c : Nat) (w : World) (h0 : laidMetH Tryd.prog Rows.rekeyGoesUptoRow.laid w) (hw : 0 < w.heap.size)
    (hL : SrcsAt w (· < w.heap.size) L A) (hLl : L.length ≤ maxLen) (hp : PartAt w (· < w.heap.size) t (partCells t a c)) :
    Calls Tryd.prog 5 #[.slice A L.length C, .agg (partCells t a c).toArray] w (TruePost w) := by
  have H0 := Lib.hid h0
  have HL := Lib.hid hL
  have HP := Lib.hid hp
  obtain ⟨W1, hW1⟩ : ∃ W1, W1 = w.alloc (.cells (partCells t a c).toArray 30) := ⟨_, rfl⟩
  have hb1 : Below w.heap.size w W1 := by rw [hW1]; exact (Below.refl w.heap.size w).alloc (Nat.le_refl _) _
  have HB1 := Lib.hid hb1
  have HC1 := Lib.hid (show CellsAt W1 w.heap.size 0 (partCells t a c) by rw [hW1]; exact new_part w w.heap.size t a c _ rfl)
  have hz1 : w.heap.size + 1 ≤ W1.heap.size := by rw [hW1]; simp
  have HAw := Lib.hid (awake_any W1)
  have HPl := Lib.hid hp.open
  unfold maxLen at hLl
  clear h0 hL hp hb1
  unfold partCells at hW1 ⊢
  go_enter Tryd.func5, Tryd.ntmps5
  go_wp2_with fail
  rw [← hW1]
  clear hW1
  refine HAw.out.mono ?_
  rintro e w2 ⟨rfl, hb2⟩
  have HB2 := Lib.hid (HB1.out.trans (hb2.mono (by omega)))
  have hz2 := hb2.size
  have HC2 := Lib.hid (HC1.out.keep fun p hp => hb2.cell (by omega))
  have p0 := HC2.out 0 _ rfl
  have p1 := HC2.out 1 _ rfl
  have p2 := HC2.out 2 _ rfl
  have p3 := HC2.out 3 _ rfl
  have p4 := HC2.out 4 _ rfl
  have p5 := HC2.out 5 _ rfl
  have HVa := Lib.hid (vast_anyX L A C t a c w2 ((HL.out.below HB2.out).more (fun b hb => by have := hb; omega)) ((HP.out.below HB2.out).wide (by omega)) hLl)
  clear hb2 HB1 HC1 HAw
  unfold partCells at HVa
  go_wp2_with fail
  refine HVa.out.mono ?_
  rintro e w3 ⟨beyond, rfl, hb3, hsm⟩
  have HB3 := Lib.hid (HB2.out.trans (hb3.mono (by omega)))
  have hz3 := hb3.size
  have HC3 := Lib.hid (HC2.out.keep fun p hp => hb3.cell (by omega))
  clear hb3 HB2 HC2 HVa p0 p1 p2 p3 p4 p5
  cases beyond with
  | true =>
    clear hsm
    go_wp2_with fail
    go_ret
    exact .of HB3.out
  | false =>
    have hl4 : L.length ≤ 4000 := (hsm rfl).1
    have HSm := Lib.hid (hsm rfl).2
    clear hsm
    have p0 := HC3.out 0 _ rfl
    have p1 := HC3.out 1 _ rfl
    have p2 := HC3.out 2 _ rfl
    have p3 := HC3.out 3 _ rfl
    have p4 := HC3.out 4 _ rfl
    have p5 := HC3.out 5 _ rfl
    have HMk := Lib.hid (valMake_any t a c w3 ((HP.out.below HB3.out).wide (by omega)))
    unfold partCells at HMk
    go_wp2_with fail
    refine HMk.out.mono ?_
    rintro e w4 ⟨hb4, hmk⟩
    have HB4 := Lib.hid (HB3.out.trans (hb4.mono (by omega)))
    have hz4 := hb4.size
    have HC4 := Lib.hid (HC3.out.keep fun p hp => hb4.cell (by omega))
    have HMr := Lib.hid (refMake_any t a c w4 ((HP.out.below HB4.out).wide (by omega)))
    unfold partCells at HMr
    clear hb4 HB3 HC3 HMk p0 p1 p2 p3 p4 p5
    have p0 := HC4.out 0 _ rfl
    have p1 := HC4.out 1 _ rfl
    have p2 := HC4.out 2 _ rfl
    have p3 := HC4.out 3 _ rfl
    have p4 := HC4.out 4 _ rfl
    have p5 := HC4.out 5 _ rfl
    rcases hmk with ⟨hwhy, rfl⟩ | ⟨hwhy, v, rfl, hv⟩
    · have hwhy1 : (t.why != 0) = true := by simp [hwhy]
      have hwhy2 : (t.why != t.why) = false := by simp
      clear hwhy
      go_wp2_with fail
      refine HMr.out.mono ?_
      rintro e w5 ⟨rfl, hb5⟩
      have HB5 := Lib.hid (HB4.out.trans (hb5.mono (by omega)))
      clear hb5
      go_wp2_with fail
      go_ret
      exact .of HB5.out
    · have HWy := Lib.hid hwhy
      have HV := Lib.hid hv
      clear hv hwhy
      go_wp2_with fail
      refine HMr.out.mono ?_
      rintro e w5 ⟨rfl, hb5⟩
      have HB5 := Lib.hid (HB4.out.trans (hb5.mono (by omega)))
      have hz5 := hb5.size
      have HC5 := Lib.hid (HC4.out.keep fun p hp => hb5.cell (by omega))
      have HV5 := Lib.hid (ValueAt.keep (fun p hp => hb5.cell hp.2) _ _ HV.out)
      have hwhy : (t.why != 0) = false := by simp [HWy.out]
      have hwhy2 : (0 != t.why) = false := by simp [HWy.out]
      clear hb5 HB4 HC4 HMr HV p0 p1 p2 p3 p4 p5
      have HLe := Lib.hid (lent18_any L A C w5 ((HL.out.below HB5.out).more (fun b hb => by have := hb; omega)) hl4 HSm.out)
      go_wp2_with fail
      refine HLe.out.mono ?_
      rintro e w6 ⟨g, rfl, hb6, hg6, hr6⟩
      have HB6 := Lib.hid (HB5.out.trans (hb6.mono (by omega)))
      have hz6 := hb6.size
      have HC6 := Lib.hid (HC5.out.keep fun p hp => hb6.cell (by omega))
      have HV6 := Lib.hid (ValueAt.more (S' := (· < w5.heap.size)) (fun b hb => by have := hb.2; omega) _ _ (ValueAt.keep (fun p hp => hb6.cell (by have := hp.2; omega)) _ _ HV5.out))
      have HR6 := Lib.hid hr6
      have HLW6 := Lib.hid (LentW.start hr6 HSm.out)
      have hgl := hr6.lt
      have HMay := Lib.hid (PT.why_may HWy.out)
      have hdep := PT.why_depth HWy.out
      clear hb6 hr6 HB5 HC5 HLe HV5
      have p0 := HC6.out 0 _ rfl
      have p1 := HC6.out 1 _ rfl
      have p2 := HC6.out 2 _ rfl
      have p3 := HC6.out 3 _ rfl
      have p4 := HC6.out 4 _ rfl
      have p5 := HC6.out 5 _ rfl
      have HRf := Lib.hid (ref18_any t L A C a c w6 HMay.out ((HL.out.below HB6.out).more (fun b hb => by have := hb; omega)) (by unfold maxLen; omega) ((HP.out.below HB6.out).wide (by omega)))
      unfold partCells at HRf
      go_wp2_with fail
      refine HRf.out.mono ?_
      rintro e w7 ⟨hb7, ⟨code, at_, n, rfl, hbad⟩ | ⟨h7t, hl1, its, a2, c2, hpick, rfl, hpa⟩⟩
      all_goals (
        have HB7 := Lib.hid (HB6.out.trans (hb7.mono (by omega)))
        have hz7 := hb7.size
        have HV7 := Lib.hid (HV6.out.below (hb7.mono hz6))
        have HR7 := Lib.hid (HR6.out.below hb7)
        have HLW7 := Lib.hid (HLW6.out.below (fun b hb => hb.2) hb7)
        clear hb7 HB6 HC6 HRf HV6 HR6 HLW6 p0 p1 p2 p3 p4 p5)
      · have HBad := Lib.hid hbad
        clear hbad
        go_wp2_with fail
        obtain ⟨W8, hW8⟩ : ∃ W8, W8 = (w7.alloc (Obj.cells #[.int .u8 0, .bool false, .bool false, .string ⟨#[]⟩, .string ⟨#[]⟩, .slice none 0 0] 30)).alloc (Obj.cells #[.int .i64 code, .int .i64 at_, .slice none 0 0] 50) := ⟨_, rfl⟩
        have hb8 : Below w7.heap.size w7 W8 := by rw [hW8]; exact ((Below.refl w7.heap.size w7).alloc (Nat.le_refl _) _).alloc (by simp) _
        have hz8 : W8.heap.size = w7.heap.size + 2 := by rw [hW8]; simp
        have HX8 := Lib.hid (show W8.heap[w7.heap.size + 1]? = some (.cells #[.int .i64 code, .int .i64 at_, .slice none 0 0] 50 (0, 0)) by rw [hW8]; exact (by simpa using World.alloc_heap_new (w7.alloc (Obj.cells #[.int .u8 0, .bool false, .bool false, .string ⟨#[]⟩, .string ⟨#[]⟩, .slice none 0 0] 30)) (Obj.cells #[.int .i64 code, .int .i64 at_, .slice none 0 0] 50)))
        have HB8 := Lib.hid (HB7.out.trans (hb8.mono (by omega)))
        have HV8 := Lib.hid (HV7.out.below (hb8.mono (by omega)))
        have HR8 := Lib.hid (HR7.out.below hb8)
        have HW8 := Lib.hid hW8
        clear HB7 HV7 HR7 hb8
        rw [← HW8.out]
        clear hW8 HW8
        have HMp8 := Lib.hid (map_S H0.out t L (some ⟨g, 0, none⟩) (L.length + 2) v W8 HB8.out hw hdep HR8.out.srcs (by unfold maxLen; omega) w5.heap.size (by omega) HV8.out)
        refine HMp8.out.mono ?_
        rintro e w9 ⟨hb9, ⟨code1, at1, n1, hbad1, T1, rfl, hT1, hF1⟩ | ⟨h7, hl', its, hpk, _⟩⟩
        case inr => exact (HBad.out.not h7 hl' hpk).elim
        obtain ⟨rfl, rfl, rfl⟩ := hbad1.one HBad.out
        have hz9 := hb9.size
        have HB9 := Lib.hid (HB8.out.trans (hb9.mono (by omega)))
        have HV9 := Lib.hid (HV8.out.below (hb9.mono (by omega)))
        have HR9 := Lib.hid (HR8.out.below hb9)
        have HX9 := Lib.hid ((hb9.block _ (by omega)).trans HX8.out)
        have HF1 := Lib.hid (show FaultAt w9 T1 code1 at1 n1 from hF1)
        clear HB8 HV8 HR8 HX8 HMp8 hb9 hF1 hbad1
        have HMp9 := Lib.hid (map_S H0.out t L (some ⟨g, 0, none⟩) (L.length + 2) v w9 HB9.out hw hdep HR9.out.srcs (by unfold maxLen; omega) w5.heap.size (by omega) HV9.out)
        go_wp2_with fail
        refine HMp9.out.mono ?_
        rintro e w10 ⟨hb10, ⟨code2, at2, n2, hbad2, T2, rfl, hT2, hF2⟩ | ⟨h7, hl', its, hpk, _⟩⟩
        case inr => exact (HBad.out.not h7 hl' hpk).elim
        obtain ⟨rfl, rfl, rfl⟩ := hbad2.one HBad.out
        have hz10 := hb10.size
        have HB10 := Lib.hid (HB9.out.trans (hb10.mono (by omega)))
        have HR10 := Lib.hid (HR9.out.below hb10)
        have HX10 := Lib.hid ((hb10.block _ (by omega)).trans HX9.out)
        have HF2 := Lib.hid (show FaultAt w10 T2 code2 at2 n2 from hF2)
        have HF1' := Lib.hid (HF1.out.below hb10 HF1.out.lt)
        have hT1z := HF1.out.lt
        clear HB9 HV9 HR9 HX9 HMp9 hb10 hF2 hbad2 HF1
        have hcode : code2 = 4 ∨ code2 = 180 := HBad.out.code
        have hnn : n2 = 0 ∨ n2 = 90 ∨ n2 = 91 := HBad.out.num
        have HI1 := Lib.hid (keepIs_fault (w := w10) H0.out HB10.out (by omega) HF1'.out hcode)
        have hxc : w10.heap[w7.heap.size + 1]? = _ := HX10.out
        have x0 : w10.cell? ⟨w7.heap.size + 1, 0, none⟩ = some (.int .i64 code2) := by simp [World.cell?, HX10.out]
        have x1 : w10.cell? ⟨w7.heap.size + 1, 1, none⟩ = some (.int .i64 at2) := by simp [World.cell?, HX10.out]
        have x2 : w10.cell? ⟨w7.heap.size + 1, 2, none⟩ = some (.slice none 0 0) := by simp [World.cell?, HX10.out]
        clear hxc
        go_wp2_with fail
        refine HI1.out.mono ?_
        rintro e w11 ⟨rfl, hb11⟩
        have hz11 := hb11.size
        have HB11 := Lib.hid (HB10.out.trans (hb11.mono (by omega)))
        have HR11 := Lib.hid (HR10.out.below hb11)
        have HX11 := Lib.hid ((hb11.block _ (by omega)).trans HX10.out)
        have HF11 := Lib.hid (HF1'.out.below hb11 HF1'.out.lt)
        have HG11 := Lib.hid (HF2.out.below hb11 HF2.out.lt)
        clear HB10 HR10 HX10 HF1' HF2 HI1 hb11 x0 x1 x2
        have HI2 := Lib.hid (keepIs_fault (w := w11) H0.out HB11.out (by omega) HG11.out hcode)
        have x0 : w11.cell? ⟨w7.heap.size + 1, 0, none⟩ = some (.int .i64 code2) := by simp [World.cell?, HX11.out]
        have x1 : w11.cell? ⟨w7.heap.size + 1, 1, none⟩ = some (.int .i64 at2) := by simp [World.cell?, HX11.out]
        have x2 : w11.cell? ⟨w7.heap.size + 1, 2, none⟩ = some (.slice none 0 0) := by simp [World.cell?, HX11.out]
        go_wp2_with fail
        refine HI2.out.mono ?_
        rintro e w12 ⟨rfl, hb12⟩
        have hz12 := hb12.size
        have HB12 := Lib.hid (HB11.out.trans (hb12.mono (by omega)))
        have HR12 := Lib.hid (HR11.out.below hb12)
        have HX12 := Lib.hid ((hb12.block _ (by omega)).trans HX11.out)
        have HF12 := Lib.hid (HF11.out.below hb12 HF11.out.lt)
        clear HB11 HR11 HX11 HF11 HG11 HI2 hb12 x0 x1 x2
        have HK := Lib.hid (kept18_any L A C g w12 hl4 HSm.out HR12.out ((HL.out.below HB12.out).more (fun b hb => by have := hb; omega)))
        go_wp2_with fail
        refine HK.out.mono ?_
        rintro e w13 ⟨rfl, hb13⟩
        have hz13 := hb13.size
        have HB13 := Lib.hid (HB12.out.trans (hb13.mono (by omega)))
        have HX13 := Lib.hid ((hb13.block _ (by omega)).trans HX12.out)
        have HF13 := Lib.hid (HF12.out.below hb13 HF12.out.lt)
        clear HB12 HR12 HX12 HF12 HK hb13
        have x0 : w13.cell? ⟨w7.heap.size + 1, 0, none⟩ = some (.int .i64 code2) := by simp [World.cell?, HX13.out]
        have hc0 : (code2 != 0) = true := by rw [bne_iff_ne]; omega
        rcases hnn with h0 | hnn
        · have hn0 : (n2 == 0) = true := by rw [h0]; rfl
          clear h0 hcode
          go_wp2_with fail
          go_ret
          exact .of HB13.out
        · have hn0 : (n2 == 0) = false := by rw [beq_eq_false_iff_ne]; omega
          have HWw := Lib.hid (keepWhy_fault (w := w13) H0.out HB13.out HF13.out hnn)
          clear hnn hcode
          go_wp2_with (go_at_call 18; refine HWw.out.mono ?_; rintro e w14 ⟨rfl, hb14⟩)
          go_ret
          exact .of (HB13.out.trans (hb14.mono (by omega)))
      · have HPick := Lib.hid hpick
        have HPa7 := Lib.hid hpa
        have H7 := Lib.hid h7t
        have HLi := Lib.hid (show its.length ≤ 1024 by rw [hpick.1]; exact hl1)
        have HTm := Lib.hid (show PT.may (.mk 7 false false ⟨#[]⟩ ⟨#[]⟩ its) = true from tup_may HLi.out (fun q hq => by
          obtain ⟨i, hi, rfl⟩ := List.getElem_of_mem hq
          exact pick_may HMay.out h7t (hpick.2 i (by rw [← hpick.1]; exact hi) hi)))
        clear hpick hpa h7t
        go_wp2_with fail
        obtain ⟨W8, hW8⟩ : ∃ W8, W8 = (w7.alloc (Obj.cells #[.int .u8 7, .bool false, .bool false, .string ⟨#[]⟩, .string ⟨#[]⟩, .slice a2 its.length c2] 30)).alloc (Obj.cells #[.int .i64 0, .int .i64 0, .slice none 0 0] 50) := ⟨_, rfl⟩
        have hb8 : Below w7.heap.size w7 W8 := by rw [hW8]; exact ((Below.refl w7.heap.size w7).alloc (Nat.le_refl _) _).alloc (by simp) _
        have hz8 : W8.heap.size = w7.heap.size + 2 := by rw [hW8]; simp
        have HX8 := Lib.hid (show W8.heap[w7.heap.size + 1]? = some (.cells #[.int .i64 0, .int .i64 0, .slice none 0 0] 50 (0, 0)) by rw [hW8]; exact (by simpa using World.alloc_heap_new (w7.alloc (Obj.cells #[.int .u8 7, .bool false, .bool false, .string ⟨#[]⟩, .string ⟨#[]⟩, .slice a2 its.length c2] 30)) (Obj.cells #[.int .i64 0, .int .i64 0, .slice none 0 0] 50)))
        have HQ8 := Lib.hid (show QBox W8 w7.heap.size (.int .u8 7) (.bool false) (.bool false) (.string ⟨#[]⟩) (.string ⟨#[]⟩) (.slice a2 its.length c2) by rw [hW8]; exact (QBox.new w7 w7.heap.size _ _ _ _ _ _ rfl).below ((Below.refl _ _).alloc (Nat.le_refl _) _) (by simp))
        have HB8 := Lib.hid (HB7.out.trans (hb8.mono (by omega)))
        have HV8 := Lib.hid (HV7.out.below (hb8.mono (by omega)))
        have HR8 := Lib.hid (HR7.out.below hb8)
        have HLW8 := Lib.hid (HLW7.out.below (fun b hb => by have := hb.2; omega) hb8)
        have HPa8 := Lib.hid (PartAt.keep (fun p hp => hb8.cell (by have := hp.2; omega)) _ _ HPa7.out)
        clear HB7 HV7 HR7 HLW7 HPa7
        have HW8 := Lib.hid hW8
        clear hb8
        rw [← HW8.out]
        clear hW8 HW8
        have HMp8 := Lib.hid (map_S H0.out t L (some ⟨g, 0, none⟩) (L.length + 2) v W8 HB8.out hw hdep HR8.out.srcs (by unfold maxLen; omega) w5.heap.size (by omega) HV8.out)
        refine HMp8.out.mono ?_
        rintro e w9 ⟨hb9, ⟨code1, at1, n1, hbad1, _⟩ | ⟨h7, hl', its1, hpk, a9, c9, rfl, h91, h92, hva9⟩⟩
        · exact (hbad1.not H7.out hl1 HPick.out).elim
        obtain rfl := hpk.one HPick.out
        have hz9 := hb9.size
        have HA9 := Lib.hid hva9
        clear HMp8 hva9 hpk h7 hl'
        have HB9 := Lib.hid (HB8.out.trans (hb9.mono (by omega)))
        have HV9 := Lib.hid (HV8.out.below (hb9.mono (by omega)))
        have HR9 := Lib.hid (HR8.out.below hb9)
        have HLW9 := Lib.hid (HLW8.out.below (fun b hb => by have := hb.2; omega) hb9)
        have HPa9 := Lib.hid (PartAt.keep (fun p hp => hb9.cell (by have := hp.2; omega)) _ _ HPa8.out)
        have HX9 := Lib.hid ((hb9.block _ (by omega)).trans HX8.out)
        have HQ9 := Lib.hid (HQ8.out.below hb9 (by omega))
        clear HB8 HV8 HR8 HLW8 HPa8 HX8 HQ8
        clear hb9
        have HMp9 := Lib.hid (map_S H0.out t L (some ⟨g, 0, none⟩) (L.length + 2) v w9 HB9.out hw hdep HR9.out.srcs (by unfold maxLen; omega) w5.heap.size (by omega) HV9.out)
        go_wp2_with fail
        refine HMp9.out.mono ?_
        rintro e w10 ⟨hb10, ⟨code1, at1, n1, hbad1, _⟩ | ⟨h7, hl', its2, hpk, a10, c10, rfl, h101, h102, hva10⟩⟩
        · exact (hbad1.not H7.out hl1 HPick.out).elim
        obtain rfl := hpk.one HPick.out
        have hz10 := hb10.size
        have HE10 := Lib.hid (ValuesAt.more (S' := fun b => b < w10.heap.size ∧ (b < w5.heap.size ∨ W8.heap.size ≤ b)) (fun b hb => ⟨hb.1, hb.2.imp id (fun h => by omega)⟩) _ _ hva10)
        clear HMp9 hva10 hpk h7 hl'
        have HB10 := Lib.hid (HB9.out.trans (hb10.mono (by omega)))
        have HR10 := Lib.hid (HR9.out.below hb10)
        have HLW10 := Lib.hid (HLW9.out.below (fun b hb => by have := hb.2; omega) hb10)
        have HPa10 := Lib.hid (PartAt.keep (fun p hp => hb10.cell (by have := hp.2; omega)) _ _ HPa9.out)
        have HX10 := Lib.hid ((hb10.block _ (by omega)).trans HX9.out)
        have HQ10 := Lib.hid (HQ9.out.below hb10 (by omega))
        have HA10 := Lib.hid (ValuesAt.keep (fun p hp => hb10.cell (by have := hp.1; omega)) _ _ HA9.out)
        clear HB9 HR9 HLW9 HPa9 HX9 HQ9 HA9
        clear hb10 HV9
        have HI10 := Lib.hid (keepIs_ok w10 0)
        have x0 : w10.cell? ⟨w7.heap.size + 1, 0, none⟩ = some (.int .i64 0) := by simp [World.cell?, HX10.out]
        have x1 : w10.cell? ⟨w7.heap.size + 1, 1, none⟩ = some (.int .i64 0) := by simp [World.cell?, HX10.out]
        have x2 : w10.cell? ⟨w7.heap.size + 1, 2, none⟩ = some (.slice none 0 0) := by simp [World.cell?, HX10.out]
        go_wp2_with fail
        refine HI10.out.mono ?_
        rintro e w11 ⟨rfl, hb11⟩
        have hz11 := hb11.size
        clear HI10 x0 x1 x2
        have HB11 := Lib.hid (HB10.out.trans (hb11.mono (by omega)))
        have HR11 := Lib.hid (HR10.out.below hb11)
        have HLW11 := Lib.hid (HLW10.out.below (fun b hb => by have := hb.2; omega) hb11)
        have HPa11 := Lib.hid (PartAt.keep (fun p hp => hb11.cell (by have := hp.2; omega)) _ _ HPa10.out)
        have HX11 := Lib.hid ((hb11.block _ (by omega)).trans HX10.out)
        have HQ11 := Lib.hid (HQ10.out.below hb11 (by omega))
        have HA11 := Lib.hid (ValuesAt.keep (fun p hp => hb11.cell (by have := hp.1; omega)) _ _ HA10.out)
        have HE11 := Lib.hid (ValuesAt.keep (fun p hp => hb11.cell (by have := hp.1; omega)) _ _ HE10.out)
        clear HB10 HR10 HLW10 HPa10 HX10 HQ10 HA10 HE10
        clear hb11
        have HI11 := Lib.hid (keepIs_ok w11 0)
        have x0 : w11.cell? ⟨w7.heap.size + 1, 0, none⟩ = some (.int .i64 0) := by simp [World.cell?, HX11.out]
        have x1 : w11.cell? ⟨w7.heap.size + 1, 1, none⟩ = some (.int .i64 0) := by simp [World.cell?, HX11.out]
        have x2 : w11.cell? ⟨w7.heap.size + 1, 2, none⟩ = some (.slice none 0 0) := by simp [World.cell?, HX11.out]
        go_wp2_with fail
        refine HI11.out.mono ?_
        rintro e w12 ⟨rfl, hb12⟩
        have hz12 := hb12.size
        clear HI11 x0 x1 x2
        have HB12 := Lib.hid (HB11.out.trans (hb12.mono (by omega)))
        have HR12 := Lib.hid (HR11.out.below hb12)
        have HLW12 := Lib.hid (HLW11.out.below (fun b hb => by have := hb.2; omega) hb12)
        have HPa12 := Lib.hid (PartAt.keep (fun p hp => hb12.cell (by have := hp.2; omega)) _ _ HPa11.out)
        have HX12 := Lib.hid ((hb12.block _ (by omega)).trans HX11.out)
        have HQ12 := Lib.hid (HQ11.out.below hb12 (by omega))
        have HA12 := Lib.hid (ValuesAt.keep (fun p hp => hb12.cell (by have := hp.1; omega)) _ _ HA11.out)
        have HE12 := Lib.hid (ValuesAt.keep (fun p hp => hb12.cell (by have := hp.1; omega)) _ _ HE11.out)
        clear HB11 HR11 HLW11 HPa11 HX11 HQ11 HA11 HE11
        clear hb12
        have HK := Lib.hid (kept18_any L A C g w12 hl4 HSm.out HR12.out ((HL.out.below HB12.out).more (fun b hb => by have := hb; omega)))
        go_wp2_with fail
        refine HK.out.mono ?_
        rintro e w13 ⟨rfl, hb13⟩
        have hz13 := hb13.size
        clear HK
        have HB13 := Lib.hid (HB12.out.trans (hb13.mono (by omega)))
        have HLW13 := Lib.hid (HLW12.out.below (fun b hb => by have := hb.2; omega) hb13)
        have HPa13 := Lib.hid (PartAt.keep (fun p hp => hb13.cell (by have := hp.2; omega)) _ _ HPa12.out)
        have HX13 := Lib.hid ((hb13.block _ (by omega)).trans HX12.out)
        have HQ13 := Lib.hid (HQ12.out.below hb13 (by omega))
        have HA13 := Lib.hid (ValuesAt.keep (fun p hp => hb13.cell (by have := hp.1; omega)) _ _ HA12.out)
        have HE13 := Lib.hid (ValuesAt.keep (fun p hp => hb13.cell (by have := hp.1; omega)) _ _ HE12.out)
        clear HB12 HLW12 HPa12 HX12 HQ12 HA12 HE12
        clear hb13 HR12
        have x0 : w13.cell? ⟨w7.heap.size + 1, 0, none⟩ = some (.int .i64 0) := by simp [World.cell?, HX13.out]
        go_wp2_with fail
        have hg5 : w5.heap.size ≤ g := hg6
        go_loopw [22] (fun i wr => ∃ k : Nat, i = .int .i64 k ∧ k ≤ L.length ∧ Hid (WrI (fun b => g < b ∧ b < w6.heap.size) w5.heap.size g k L w13 wr)) (fun i _ => L.length - (intOf i).toNat)
        case atStart => exact ⟨0, rfl, by omega, Lib.hid (WrI.start HLW13.out)⟩
        case round =>
          clear HLW13 x0
          obtain ⟨k, rfl, hk, HI⟩ := hrel
          have hwz := HI.out.bel.size
          by_cases hlt : k < L.length
          · obtain ⟨a3, c3, d3, k0, k1, k2, k3, k4, k5, k6, hwd⟩ := HI.out.lw.cells hlt
            have HWt := Lib.hid (write_any (fun b => g < b ∧ b < w6.heap.size) w5.heap.size d3 L[k].2.kind L[k].2.yes L[k].2.bel L[k].2.mag L[k].2.raw _ wr (by omega) (fun b hb => ⟨by have := hb.1; omega, by have := hb.2; omega⟩) hwd)
            clear hwd
            go_wp2_with fail
            refine HWt.out.mono ?_
            rintro e w14 ⟨rfl, hp14⟩
            have HI2 := Lib.hid (HI.out.put hp14 (fun h => by have := h.1; omega))
            have hz14 := hp14.bel.size
            obtain ⟨cur, hcur, hcs⟩ := HI2.out.lw.1
            have hth := blk_there ⟨cur, hcur, hcs⟩ (o := k * 7) (m := 7) (by omega)
            obtain ⟨u0, s0⟩ := Option.isSome_iff_exists.1 (hth 0 (by omega)).1
            have f0 := (hth 0 (by omega)).2
            rw [Nat.add_zero] at s0 f0
            clear hth hcur hcs cur hp14 k0 k1 k2 k3 k4 k5 k6 HWt HI
            have HI3 := Lib.hid (HI2.out.field hg5 (fun h => by have := h.1; omega) (.int .i64 5000))
            go_wp2_with fail
            go_roundw
            case rel => exact ⟨k + 1, by go_num, by omega, HI3⟩
            case measure => simp [intOf]; omega
          · have HIo := Lib.hid HI.out.old
            have HBr := Lib.hid (HB13.out.trans (HI.out.bel.mono (by omega)))
            have hkeep : ∀ b, b < w13.heap.size → (b < w5.heap.size ∨ w6.heap.size ≤ b) → wr.heap[b]? = w13.heap[b]? := fun b hb h => HIo.out b hb (fun hs => by have := hs.1; have := hs.2; omega) (by omega)
            have HKp := Lib.hid hkeep
            have HAr := Lib.hid (ValuesAt.more (S' := (· < wr.heap.size)) (fun b hb => by have := hb.1; omega) _ _ (ValuesAt.keep (fun p hp => cell_of_heap (hkeep p.block (by have := hp.1; omega) (hp.2.imp id (fun h => by omega)))) _ _ HA13.out))
            have HEr := Lib.hid (ValuesAt.more (S' := (· < wr.heap.size)) (fun b hb => by have := hb.1; omega) _ _ (ValuesAt.keep (fun p hp => cell_of_heap (hkeep p.block (by have := hp.1; omega) (hp.2.imp id (fun h => by omega)))) _ _ HE13.out))
            have HPr := Lib.hid (PartAt.more (S' := (· < wr.heap.size)) (fun b hb => by have := hb.2; omega) _ _ (PartAt.keep (fun p hp => cell_of_heap (hkeep p.block (by have := hp.2; omega) (.inr hp.1))) _ _ HPa13.out))
            have HQr := Lib.hid (show QBox wr w7.heap.size (.int .u8 7) (.bool false) (.bool false) (.string ⟨#[]⟩) (.string ⟨#[]⟩) (.slice a2 its2.length c2) from (hkeep _ (by omega) (.inr (by omega))).trans HQ13.out)
            clear hkeep HA13 HE13 HPa13 HQ13 HI HIo HKp HX13
            have HTa := Lib.hid (fun W h => tell_r (.mk 7 false false ⟨#[]⟩ ⟨#[]⟩ its2) (.iface 88 (.agg #[.slice a9 its2.length c9])) W HTm.out ((ValueAt.tuple rfl).2 ⟨a9, c9, rfl, h91, h92, h⟩))
            have HTe := Lib.hid (fun W h => tell_r (.mk 7 false false ⟨#[]⟩ ⟨#[]⟩ its2) (.iface 88 (.agg #[.slice a10 its2.length c10])) W HTm.out ((ValueAt.tuple rfl).2 ⟨a10, c10, rfl, h101, h102, h⟩))
            have HT1 := Lib.hid (HTa.out wr HAr.out)
            go_wp2_with fail
            refine HT1.out.mono ?_
            rintro e w14 ⟨a3, c3, rfl, hb14, hr14⟩
            simp only [PT.kind, PT.yes, PT.bel, PT.mag, PT.raw, PT.items]
            obtain ⟨W14, hW14⟩ : ∃ W14, W14 = w14.alloc (Obj.cells #[.int .u8 7, .bool false, .bool false, .string ⟨#[]⟩, .string ⟨#[]⟩, .slice a3 its2.length c3] 30) := ⟨_, rfl⟩
            have hz14 := hb14.size
            have hzW14 : W14.heap.size = w14.heap.size + 1 := by rw [hW14]; simp
            have hbW14 : Below w14.heap.size w14 W14 := by rw [hW14]; exact (Below.refl _ _).alloc (Nat.le_refl _) _
            have HC14 := Lib.hid (show QBox W14 w14.heap.size (.int .u8 7) (.bool false) (.bool false) (.string ⟨#[]⟩) (.string ⟨#[]⟩) (.slice a3 its2.length c3) by rw [hW14]; exact QBox.new w14 w14.heap.size _ _ _ _ _ _ rfl)
            have hbb14 := hb14.trans (hbW14.mono hz14)
            have HB14 := Lib.hid (HBr.out.trans (hbb14.mono (by omega)))
            have HA14 := Lib.hid (HAr.out.below hbb14)
            have HE14 := Lib.hid ((HEr.out.below hbb14).wide (by omega : wr.heap.size ≤ W14.heap.size))
            have HP14 := Lib.hid (HPr.out.below hbb14)
            have HQ14 := Lib.hid (HQr.out.below hbb14 (by omega))
            have HR14 := Lib.hid (RmAt.keep (fun b hb => hbW14.block b hb.2) _ _ hr14)
            have HT2 := Lib.hid (HTe.out W14 HE14.out)
            have HW14 := Lib.hid hW14
            clear hb14 hr14 hbW14 hbb14 hW14 HAr HEr HPr HQr HT1 HBr
            go_wp2_with fail
            rw [← HW14.out]
            clear HW14
            refine HT2.out.mono ?_
            rintro e w15 ⟨a4, c4, rfl, hb15, hr15⟩
            simp only [PT.kind, PT.yes, PT.bel, PT.mag, PT.raw, PT.items]
            obtain ⟨W15, hW15⟩ : ∃ W15, W15 = w15.alloc (Obj.cells #[.int .u8 7, .bool false, .bool false, .string ⟨#[]⟩, .string ⟨#[]⟩, .slice a4 its2.length c4] 30) := ⟨_, rfl⟩
            have hz15 := hb15.size
            have hzW15 : W15.heap.size = w15.heap.size + 1 := by rw [hW15]; simp
            have hbW15 : Below w15.heap.size w15 W15 := by rw [hW15]; exact (Below.refl _ _).alloc (Nat.le_refl _) _
            have HD15 := Lib.hid (show QBox W15 w15.heap.size (.int .u8 7) (.bool false) (.bool false) (.string ⟨#[]⟩) (.string ⟨#[]⟩) (.slice a4 its2.length c4) by rw [hW15]; exact QBox.new w15 w15.heap.size _ _ _ _ _ _ rfl)
            have hbb15 := hb15.trans (hbW15.mono hz15)
            have HB15 := Lib.hid (HB14.out.trans (hbb15.mono (by omega)))
            have HA15 := Lib.hid (ValuesAt.keep (fun p hp => hbb15.cell (by omega)) _ _ HA14.out)
            have HP15 := Lib.hid (PartAt.keep (fun p hp => hbb15.cell (by omega)) _ _ HP14.out)
            have HQ15 := Lib.hid (HQ14.out.below hbb15 (by omega))
            have HC15 := Lib.hid (HC14.out.below hbb15 (by omega))
            have HR15 := Lib.hid (RmAt.keep (fun b hb => hbb15.block b (by have := hb.2; omega)) _ _ HR14.out)
            have hd15 := RmAt.part _ _ (RmAt.keep (fun b hb => hbW15.block b hb.2) _ _ hr15)
            have HG15 := Lib.hid (PartAt.more (S' := (· < W15.heap.size)) (fun b hb => by have := hb.2; omega) _ _ hd15)
            have HS1 := Lib.hid (same00_any (.mk 7 false false ⟨#[]⟩ ⟨#[]⟩ its2) a3 c3 a2 c2 W15 (PartAt.more (fun b hb => by have := hb.2; omega) _ _ (RmAt.part _ _ HR15.out)) (HP15.out.wide (by omega)))
            have HW15 := Lib.hid hW15
            unfold partCells at HS1
            simp only [PT.kind, PT.yes, PT.bel, PT.mag, PT.raw, PT.items] at HS1
            clear hb15 hr15 hbW15 hbb15 hW15 HB14 HA14 HE14 HP14 HQ14 HC14 HR14 HT2 hd15
            obtain ⟨y0, y1, y2, y3, y4, y5⟩ := HC15.out.cells
            obtain ⟨q0, q1, q2, q3, q4, q5⟩ := HQ15.out.cells
            rw [HW15.out] at y0 y1 y2 y3 y4 y5 q0 q1 q2 q3 q4 q5
            go_wp2_with fail
            rw [← HW15.out]
            refine HS1.out.mono ?_
            rintro e w16 ⟨rfl, hb16⟩
            have hz16 := hb16.size
            have HB16 := Lib.hid (HB15.out.trans (hb16.mono (by omega)))
            have HA16 := Lib.hid (ValuesAt.keep (fun p hp => hb16.cell (by omega)) _ _ HA15.out)
            have HP16 := Lib.hid (PartAt.keep (fun p hp => hb16.cell (by omega)) _ _ HP15.out)
            have HQ16 := Lib.hid (HQ15.out.below hb16 (by omega))
            have HC16 := Lib.hid (HC15.out.below hb16 (by omega))
            have HD16 := Lib.hid (HD15.out.below hb16 (by omega))
            have HR16 := Lib.hid (RmAt.keep (fun b hb => hb16.block b (by have := hb.2; omega)) _ _ HR15.out)
            have HS2 := Lib.hid (same00_any (.mk 7 false false ⟨#[]⟩ ⟨#[]⟩ its2) a4 c4 a2 c2 w16 (PartAt.more (fun b hb => by omega) _ _ (PartAt.keep (fun p hp => hb16.cell hp) _ _ HG15.out)) (HP16.out.wide (by omega)))
            unfold partCells at HS2
            simp only [PT.kind, PT.yes, PT.bel, PT.mag, PT.raw, PT.items] at HS2
            clear hb16 HB15 HA15 HP15 HQ15 HC15 HD15 HR15 HG15 HS1 HW15 y0 y1 y2 y3 y4 y5 q0 q1 q2 q3 q4 q5
            obtain ⟨y0, y1, y2, y3, y4, y5⟩ := HD16.out.cells
            obtain ⟨q0, q1, q2, q3, q4, q5⟩ := HQ16.out.cells
            go_wp2_with fail
            refine HS2.out.mono ?_
            rintro e w17 ⟨rfl, hb17⟩
            have hz17 := hb17.size
            have HB17 := Lib.hid (HB16.out.trans (hb17.mono (by omega)))
            have HA17 := Lib.hid (ValuesAt.keep (fun p hp => hb17.cell (by omega)) _ _ HA16.out)
            have HP17 := Lib.hid (PartAt.keep (fun p hp => hb17.cell (by omega)) _ _ HP16.out)
            have HQ17 := Lib.hid (HQ16.out.below hb17 (by omega))
            have HC17 := Lib.hid (HC16.out.below hb17 (by omega))
            have HWt := Lib.hid (write_any (fun b => wr.heap.size ≤ b ∧ b < w14.heap.size) wr.heap.size _ 7 false false ⟨#[]⟩ ⟨#[]⟩ (.slice a3 its2.length c3) w17 (by omega) (fun b hb => ⟨hb.1, by have := hb.2; omega⟩) (RmAt.wide_may (.mk 7 false false ⟨#[]⟩ ⟨#[]⟩ its2) a3 c3 HTm.out (RmAt.keep (fun b hb => hb17.block b (by have := hb.2; omega)) _ _ HR16.out)))
            clear hb17 HB16 HA16 HP16 HQ16 HC16 HD16 HR16 HS2 y0 y1 y2 y3 y4 y5 q0 q1 q2 q3 q4 q5
            obtain ⟨y0, y1, y2, y3, y4, y5⟩ := HC17.out.cells
            go_wp2_with fail
            refine HWt.out.mono ?_
            rintro e w18 ⟨rfl, hp18⟩
            have hz18 := hp18.bel.size
            have HB18 := Lib.hid (HB17.out.trans (hp18.bel.mono (by omega)))
            have HA18 := Lib.hid (ValuesAt.keep (fun p hp => hp18.bel.cell hp) _ _ HA17.out)
            have HP18 := Lib.hid (PartAt.keep (fun p hp => hp18.bel.cell hp) _ _ HP17.out)
            have HQ18 := Lib.hid (HQ17.out.below hp18.bel (by omega))
            clear hp18 HB17 HA17 HP17 HQ17 HC17 HWt y0 y1 y2 y3 y4 y5
            obtain ⟨q0, q1, q2, q3, q4, q5⟩ := HQ18.out.cells
            have HT3 := Lib.hid (HTa.out w18.drew ((HA18.out.below (Below.refl _ _).drew).wide (by simp; omega)))
            go_wp2_with fail
            go_region_law (first | (go_simp; go_at_call 13; refine HT3.out.mono ?_; rintro e w19 ⟨a5, c5, rfl, hb19, hr19⟩; simp only [PT.kind, PT.yes, PT.bel, PT.mag, PT.raw, PT.items]; have hbb19 := (Below.refl w18.heap.size w18).drew.trans (hb19.mono (by simp)); have hz19 := hbb19.size; have HB19 := Lib.hid (HB18.out.trans (hbb19.mono (by omega))); have HQ19 := Lib.hid (HQ18.out.below hbb19 (by omega)); have HS3 := Lib.hid (same00_any (.mk 7 false false ⟨#[]⟩ ⟨#[]⟩ its2) a5 c5 a2 c2 w19 (PartAt.more (fun b hb => hb.2) _ _ (RmAt.part _ _ hr19)) (PartAt.wide (PartAt.keep (fun p hp => hbb19.cell (by omega)) _ _ HP18.out) (by omega))); unfold partCells at HS3; simp only [PT.kind, PT.yes, PT.bel, PT.mag, PT.raw, PT.items] at HS3; clear hb19 hr19 hbb19; obtain ⟨z0, z1, z2, z3, z4, z5⟩ := HQ19.out.cells) | (go_simp; go_at_call 20; refine HS3.out.mono ?_; rintro e w20 ⟨rfl, hb20⟩; have HB20 := Lib.hid (HB19.out.trans (hb20.mono (by omega))); clear hb20))
            all_goals (
              go_wp2_with fail
              go_ret
              exact .of HB20.out)
end Go.Proofs.YtjgicjgpahnmaaaDoor
