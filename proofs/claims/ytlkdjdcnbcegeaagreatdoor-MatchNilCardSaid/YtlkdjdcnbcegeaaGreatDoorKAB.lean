/-
  strings.Cut and strings.Split, as table.entry calls them.
-/
import Derived.Test.YtlkdjdcnbcegeaaGreatDoorKAA
/-! strings.Cut and strings.Split, as table.entry calls them. -/
namespace Go.Proofs.YtlkdjdcnbcegeaaGreatDoor
open Go.RowKit Go.WideShapes Go.Lib
set_option linter.unusedVariables false
set_option linter.unusedSimpArgs false
theorem cutCall_ok (x : EN) (hs : (txt x.text).size < 4294967281) (m : Int) (w : World) (hm : w.cell? ⟨lays145_ren.g 1, 0, none⟩ = some (.int .i64 m)) :
    Calls Tryz.prog 86 #[.string (txt x.text), .string (txt [59])] w (Ret (.tuple #[.string (txt (Lib.join (x.pts.map fun p => hexW p.toNat) [32])), .string (txt (elsText x.els)), .bool true]) w) := by
  refine (Any.strings_Cut lays145 (txt x.text) (txt [59]) m w hs hm).mono ?_
  rintro e w' ⟨rfl, n, rfl⟩
  rw [cut_entry]
  exact ⟨rfl, (Below.refl _ w).trans ⟨rfl, rfl, rfl, Nat.le_refl _, fun _ _ => rfl⟩⟩
theorem splitCall_ok (x : List UInt8) (r : List (List UInt8)) (h : ∀ y ∈ x :: r, (32 : UInt8) ∉ y) (hs : (txt (Lib.join (x :: r) [32])).size < 4294967281) (m : Int) (w : World) (hm : w.cell? ⟨lays146_ren.g 1, 0, none⟩ = some (.int .i64 m)) :
    Calls Tryz.prog 53 #[.string (txt (Lib.join (x :: r) [32])), .string (txt [32])] w fun e w' => e = .returned (.slice (some ⟨w.heap.size, 0, none⟩) (r.length + 1) (r.length + 1)) ∧ w' = w.alloc (.cells (((x :: r).map txt).map Value.string).toArray 9) := by
  have hj := split_joinT 32 r x h
  refine (Any.strings_Split lays146 (by kernel_rfl) (txt (Lib.join (x :: r) [32])) (txt [32]) m w hs hm (by decide)).mono ?_
  rintro e w' ⟨rfl, rfl⟩
  rw [hj.1, hj.2]
  exact ⟨rfl, rfl⟩
end Go.Proofs.YtlkdjdcnbcegeaaGreatDoor

/-! table.entry, of an entry's text. -/
namespace Go.Proofs.YtlkdjdcnbcegeaaGreatDoor
open Go.RowKit Go.WideShapes
set_option linter.unusedVariables false
set_option linter.unusedSimpArgs false
theorem intInfo : (Tryz.prog.info? 3).map (fun i => (i.zero, i.size, i.bytes)) = some (some (.int .i64 0), 1, 8) := by kernel_rfl
set_option maxRecDepth 100000 in
set_option maxHeartbeats 8000000 in
theorem entry_ok (p0 : Int) (pr : List Int) (els : List EL) (hp8 : pr.length ≤ 7) (hpb : (p0 :: pr).all pointB = true) (h1 : 1 ≤ els.length) (h16 : els.length ≤ 16) (he : els.all EL.four = true)
    (hs : (txt (EN.mk (p0 :: pr) els).text).size < 4294967281) (hs2 : (txt (Lib.join ((p0 :: pr).map fun p => hexW p.toNat) [32])).size < 4294967281)
    (m : Int) (w : World) (HX : HexHere w) (hm : w.cell? ⟨lays145_ren.g 1, 0, none⟩ = some (.int .i64 m)) :
    Calls Tryz.prog 57 #[.string (txt (EN.mk (p0 :: pr) els).text)] w fun e w' => ∃ v1 v2, e = .returned (.tuple #[.agg #[v1, v2], .bool true]) ∧ Below w.heap.size w w' ∧
      w'.ownsRow w.heap.size 3 1 v1 (pr.length + 1) ((p0 :: pr).map (Value.int .i64)) ∧ w'.ownsRow w.heap.size 54 4 v2 els.length (elsCells els) := by
  have HB0 := Lib.hid (Below.refl w.heap.size w)
  have HX0 := Lib.hid HX
  have HM := Lib.hid hm
  have HC := Lib.hid (fun W hW => cutCall_ok (EN.mk (p0 :: pr) els) hs m W hW)
  have HS := Lib.hid (fun W hW => splitCall_ok (hexW p0.toNat) (pr.map fun p => hexW p.toNat) (fun y hy => by
    simp only [List.mem_cons, List.mem_map] at hy
    rcases hy with rfl | ⟨p, _, rfl⟩
    · exact hexW_noT hexU_ne32T _
    · exact hexW_noT hexU_ne32T _) (by simpa using hs2) m W hW)
  obtain ⟨rows, hrows⟩ : ∃ rows, rows = (((hexW p0.toNat :: pr.map fun p => hexW p.toNat).map txt).map Value.string) := ⟨_, rfl⟩
  rw [← hrows] at HS
  have HRW := Lib.hid hrows
  clear HX hm hs hs2 hrows
  generalize txt (EN.mk (p0 :: pr) els).text = S at HC ⊢
  obtain ⟨i1, ihi, ihz0, ihz1, ihz2⟩ := info_parts intInfo
  go_enter Tryz.func57, Tryz.ntmps57
  go_wp2_with fail
  have hM0 : lays145_ren.g 1 < w.heap.size := Lib.lt_of_cell HM.out
  have HB1 := Lib.hid (HB0.out.alloc (Nat.le_refl _) (.cells #[Value.slice none 0 0, Value.slice none 0 0] 65))
  refine (HC.out _ ((HB1.out.cell (p := ⟨lays145_ren.g 1, 0, none⟩) hM0).trans HM.out)).mono ?_
  rintro e w2 ⟨rfl, hb2⟩
  have HB2 := Lib.hid (HB1.out.trans (hb2.mono HB1.out.size))
  have HT2 := Lib.hid (show w2.heap[w.heap.size]? = some (.cells #[Value.slice none 0 0, Value.slice none 0 0] 65 (0, 0)) from (hb2.block _ (by simp)).trans (World.alloc_heap_new w _))
  have hz2 : w.heap.size < w2.heap.size := by have := hb2.size; simp at this; omega
  clear hb2 HB1 HB0 HC
  go_wp2_with fail
  have HB3 := Lib.hid (HB2.out.alloc HB2.out.size (.cells #[Value.slice none 0 0, Value.slice none 0 0] 65))
  refine (HS.out _ ((HB3.out.cell (p := ⟨lays145_ren.g 1, 0, none⟩) hM0).trans HM.out)).mono ?_
  rintro e w3 ⟨rfl, rfl⟩
  go_wp2_with fail
  have HI := Lib.hid hpb
  generalize hT7 : w2.heap.size = T at HB3 ⊢
  have HT0 := Lib.hid (show ((w2.alloc (.cells #[Value.slice none 0 0, Value.slice none 0 0] 65)).alloc (.cells rows.toArray 9)).heap[T]? = some (.cells #[Value.slice none 0 0, Value.slice none 0 0] 65 (0, 0)) from by rw [Below.heap_alloc _ _ _ (by simp; omega), ← hT7]; exact World.alloc_heap_new w2 _)
  have HR0 := Lib.hid (show ((w2.alloc (.cells #[Value.slice none 0 0, Value.slice none 0 0] 65)).alloc (.cells rows.toArray 9)).heap[T + 1]? = some (.cells rows.toArray 9 (0, 0)) from by have h := World.alloc_heap_new (w2.alloc (.cells #[Value.slice none 0 0, Value.slice none 0 0] 65)) (.cells rows.toArray 9); rw [World.size_alloc, hT7] at h; exact h)
  have HB4 := Lib.hid (HB3.out.alloc HB3.out.size (.cells rows.toArray 9))
  have HZ0 := Lib.hid (show T + 2 ≤ ((w2.alloc (.cells #[Value.slice none 0 0, Value.slice none 0 0] 65)).alloc (.cells rows.toArray 9)).heap.size from by simp; omega)
  have HQ0 := Lib.hid (show ((w2.alloc (.cells #[Value.slice none 0 0, Value.slice none 0 0] 65)).alloc (.cells rows.toArray 9)).heap[w.heap.size]? = some (.cells #[Value.slice none 0 0, Value.slice none 0 0] 65 (0, 0)) from by rw [Below.heap_alloc _ _ _ (by simp; omega), Below.heap_alloc _ _ _ (by omega)]; exact HT2.out)
  clear hpb
  go_loopw [24] (fun t24 wr => ∃ (k : Nat) (vo : Value), t24 = .int .i64 k ∧ k ≤ pr.length + 1 ∧ Hid (wr.heap[T]? = some (.cells #[vo, Value.slice none 0 0] 65 (0, 0))) ∧ Hid (wr.heap[T + 1]? = some (.cells rows.toArray 9 (0, 0))) ∧ Hid (wr.ownsRow (T + 2) 3 1 vo k (((p0 :: pr).take k).map (Value.int .i64))) ∧ Hid (Below w.heap.size w wr) ∧ Hid (T + 2 ≤ wr.heap.size) ∧ Hid (wr.heap[w.heap.size]? = some (.cells #[Value.slice none 0 0, Value.slice none 0 0] 65 (0, 0)))) (fun t24 _ => (pr.length + 1) - (intOf t24).toNat)
  case atStart => exact ⟨0, _, rfl, by omega, HT0, HR0, Lib.hid (World.ownsRow_nil _ _ _ _), HB4, HZ0, HQ0⟩
  case round =>
    clear HB4 HT0 HR0 HZ0 HB3 HQ0
    obtain ⟨k, vo, rfl, hk, HT, HR, HO, HB, HZ, HQ⟩ := hrel
    by_cases hkl : k < pr.length + 1
    · have hkl' : k < (p0 :: pr).length := by simp; omega
      have htk : ((p0 :: pr).take (k + 1)).map (Value.int .i64) = ((p0 :: pr).take k).map (Value.int .i64) ++ [Value.int .i64 (p0 :: pr)[k]] := by
        rw [List.take_succ_eq_append_getElem hkl', List.map_append]; rfl
      have hc : wr.cell? ⟨T + 1, k, none⟩ = some (.string (txt (hexW (p0 :: pr)[k].toNat))) := by
        have hr : rows = (p0 :: pr).map (fun p => Value.string (txt (hexW p.toNat))) := by rw [HRW.out]; simp
        simp only [World.cell?, HR.out]
        rw [hr]
        show ((p0 :: pr).map (fun p => Value.string (txt (hexW p.toNat)))).toArray[k]? = _
        rw [List.getElem?_toArray, List.getElem?_map, List.getElem?_eq_getElem hkl']
        rfl
      have hpb : pointB (p0 :: pr)[k] = true := List.all_eq_true.1 HI.out _ (List.getElem_mem hkl')
      generalize (p0 :: pr)[k] = p at hc hpb htk
      have HK := Lib.hid htk
      have HP := Lib.hid hpb
      have HE : Hid (∀ W, Below w.heap.size w W → Calls Tryz.prog 88 #[.int .i64 p] W (Ret (.string (txt (hexW p.toNat))) W)) := Lib.hid (fun W hb => by
        simp only [pointB, decide_eq_true_eq] at hpb
        have h := HX0.out p.toNat (by omega) W hb
        rwa [show ((p.toNat : Nat) : Int) = p by omega] at h)
      clear hpb htk hkl'
      go_wp2_with fail
      refine (point_okT HP.out _).mono ?_
      rintro e w5 ⟨rfl, hb5⟩
      have HB5 := Lib.hid (HB.out.trans (hb5.mono HB.out.size))
      have HT5 := Lib.hid ((hb5.block _ (by have := HZ.out; omega)).trans HT.out)
      have HR5 := Lib.hid ((hb5.block _ (by have := HZ.out; omega)).trans HR.out)
      have HO5 := Lib.hid (own_underT HO.out hb5)
      have HZ5 := Lib.hid (Nat.le_trans HZ.out hb5.size)
      have HQ5 := Lib.hid ((hb5.block _ (by have := HZ.out; omega)).trans HQ.out)
      clear hb5 HB HT HR HO HZ
      go_wp2_with fail
      refine (HE.out _ HB5.out).mono ?_
      rintro e w6 ⟨rfl, hb6⟩
      have HB6 := Lib.hid (HB5.out.trans (hb6.mono HB5.out.size))
      have HT6 := Lib.hid ((hb6.block _ (by have := HZ5.out; omega)).trans HT5.out)
      have HR6 := Lib.hid ((hb6.block _ (by have := HZ5.out; omega)).trans HR5.out)
      have HO6 := Lib.hid (own_underT HO5.out hb6)
      have HZ6 := Lib.hid (Nat.le_trans HZ5.out hb6.size)
      have HQ6 := Lib.hid ((hb6.block _ (by have := HZ5.out; omega)).trans HQ5.out)
      clear hb6 HB5 HT5 HR5 HO5 HZ5
      go_wp2_with fail
      refine (isPoint_ok HP.out _).mono ?_
      rintro e w7 ⟨rfl, hb7⟩
      have HB7 := Lib.hid (HB6.out.trans (hb7.mono HB6.out.size))
      have HT7 := Lib.hid ((hb7.block _ (by have := HZ6.out; omega)).trans HT6.out)
      have HR7 := Lib.hid ((hb7.block _ (by have := HZ6.out; omega)).trans HR6.out)
      have HO7 := Lib.hid (own_underT HO6.out hb7)
      have HZ7 := Lib.hid (Nat.le_trans HZ6.out hb7.size)
      have HQ7 := Lib.hid ((hb7.block _ (by have := HZ6.out; omega)).trans HQ6.out)
      clear hb7 HB6 HT6 HR6 HO6 HZ6
      have hc0 : w7.cell? ⟨T, 0, none⟩ = some vo := by simp [World.cell?, HT7.out]
      go_wp2_with (at_builtin; refine wpList_append_own _ rfl _ _ 24 rfl (T + 2) 3 i1 (.int .i64 0) 1 8 Tryz.underlying24 ihi ihz0 ihz1 ihz2 rfl (by decide) _ _ _ rfl (HO7.out.alloc _) ⟨w7.heap.size, 0, none⟩ 1 1 [.int .i64 p] rfl rfl (World.news_of_block (cs := #[.int .i64 p]) (t := 3) (fr := (0, 0)) (heap_alloc_new w7 _)) (by simp [Value.oneCell']) (by unfold maxLen; omega) (by omega) (by have := HZ7.out; simp; omega) ?_; intro v8 w8 hown8 hgrow8 hnil8; obtain ⟨g8, c8, rfl⟩ : ∃ g c, v8 = .slice (some ⟨g, 0, none⟩) (k + 1) c := (by rcases hown8.2 with ⟨e, h0⟩ | ⟨g, cap, cur, e, _⟩; exact absurd h0 (by omega); exact ⟨g, cap, e⟩); have hkeep8 : ∀ b, b < T + 2 → w8.heap[b]? = w7.heap[b]? := (fun b hb => by rw [hgrow8.block b (by have := HZ7.out; simp; omega) (fun e => by have := (HO7.out.lt b e.symm).1; omega), Below.heap_alloc w7 _ b (by have := HZ7.out; omega)]); have hT8 := (hkeep8 T (by omega)).trans HT7.out; have hf8 : w8.frozen? ⟨T, 0, none⟩ = false := (by simp [World.frozen?, hT8]); have hc8 : w8.cell? ⟨T, 0, none⟩ = some vo := (by simp [World.cell?, hT8]))
      go_roundw
      case rel =>
        have hz8 : T + 2 ≤ w8.heap.size := by have h1 := hgrow8.size; have h2 := HZ7.out; simp at h1; omega
        have hwT : w.heap.size ≤ T := by omega
        refine ⟨k + 1, _, rfl, by omega, Lib.hid (heap_setCell_same w8 T 0 _ _ _ hT8), Lib.hid (by rw [Below.heap_setCell _ _ _ _ (by simp)]; exact (hkeep8 (T + 1) (by omega)).trans HR7.out), Lib.hid ?_, Lib.hid ?_, Lib.hid (by simp; omega), Lib.hid (by rw [Below.heap_setCell _ _ _ _ (by simp only; omega)]; exact (hkeep8 _ (by omega)).trans HQ7.out)⟩
        · rw [HK.out]
          rcases hown8.2 with ⟨e, h0⟩ | ⟨g, cap, cur, e, hb', hg, h1⟩
          · exact absurd h0 (by omega)
          · exact ⟨hown8.1, .inr ⟨g, cap, cur, e, hb', by rw [Below.heap_setCell _ _ _ _ (by simp only; omega)]; exact hg, h1⟩⟩
        · exact ((HB7.out.alloc HB7.out.size _).grown hgrow8 (by have := HB7.out.size; simp; omega) (fun j ej => by have := (HO7.out.lt j ej).1; omega)).setCell (by simp only; omega) _
      case measure => simp [intOf]; omega
    · have hkk : k = pr.length + 1 := by omega
      subst hkk
      go_wp2_with fail
      refine (elements_ok els h1 h16 he _ (HX0.out.on HB.out)).mono ?_
      rintro e w5 ⟨v2, rfl, hb5, ho5⟩
      have HB5 := Lib.hid (HB.out.trans (hb5.mono HB.out.size))
      have hT5 := (hb5.block T (by have := HZ.out; omega)).trans HT.out
      have hQ5 := (hb5.block w.heap.size (by have := HZ.out; omega)).trans HQ.out
      have HO5 := Lib.hid (own_underT HO.out hb5)
      have HE5 := Lib.hid ho5
      clear hb5 ho5
      obtain ⟨g1, c1, rfl⟩ : ∃ g c, vo = .slice (some ⟨g, 0, none⟩) (pr.length + 1) c := by
        rcases HO5.out.2 with ⟨e, h0⟩ | ⟨g, cap, cur, e, _⟩
        · exact absurd h0 (by omega)
        · exact ⟨g, cap, e⟩
      obtain ⟨g2, c2, rfl⟩ : ∃ g c, v2 = .slice (some ⟨g, 0, none⟩) els.length c := by
        rcases HE5.out.2 with ⟨e, h0⟩ | ⟨g, cap, cur, e, _⟩
        · exact absurd h0 (by omega)
        · exact ⟨g, cap, e⟩
      have hg1 := (HO5.out.lt g1 rfl).1
      have hg2 := (HE5.out.lt g2 rfl).1
      have hzz := HZ.out
      have hf51 : w5.frozen? ⟨T, 1, none⟩ = false := by simp [World.frozen?, hT5]
      have hc51 : w5.cell? ⟨T, 1, none⟩ = some (.slice none 0 0) := by simp [World.cell?, hT5]
      go_wp2_with fail
      have hT6 := heap_setCell_same w5 T 1 _ _ (.slice (some ⟨g2, 0, none⟩) els.length c2) hT5
      have hQ6 := (Below.heap_setCell w5 ⟨T, 1, none⟩ (.slice (some ⟨g2, 0, none⟩) els.length c2) w.heap.size (by simp only; omega)).trans hQ5
      have hc60 : (w5.setCell ⟨T, 1, none⟩ (.slice (some ⟨g2, 0, none⟩) els.length c2)).cell? ⟨T, 0, none⟩ = some (.slice (some ⟨g1, 0, none⟩) (pr.length + 1) c1) := by simp [World.cell?, hT6]
      have hc61 : (w5.setCell ⟨T, 1, none⟩ (.slice (some ⟨g2, 0, none⟩) els.length c2)).cell? ⟨T, 1, none⟩ = some (.slice (some ⟨g2, 0, none⟩) els.length c2) := by simp [World.cell?, hT6]
      have hf60 : (w5.setCell ⟨T, 1, none⟩ (.slice (some ⟨g2, 0, none⟩) els.length c2)).frozen? ⟨w.heap.size, 0, none⟩ = false := by simp [World.frozen?, hQ6]
      have hf61 : (w5.setCell ⟨T, 1, none⟩ (.slice (some ⟨g2, 0, none⟩) els.length c2)).frozen? ⟨w.heap.size, 1, none⟩ = false := by simp [World.frozen?, hQ6]
      have hq60 : (w5.setCell ⟨T, 1, none⟩ (.slice (some ⟨g2, 0, none⟩) els.length c2)).cell? ⟨w.heap.size, 0, none⟩ = some (.slice none 0 0) := by simp [World.cell?, hQ6]
      have hq61 : (w5.setCell ⟨T, 1, none⟩ (.slice (some ⟨g2, 0, none⟩) els.length c2)).cell? ⟨w.heap.size, 1, none⟩ = some (.slice none 0 0) := by simp [World.cell?, hQ6]
      have hT7 := (Below.heap_setCell ((w5.setCell ⟨T, 1, none⟩ (.slice (some ⟨g2, 0, none⟩) els.length c2)).setCell ⟨w.heap.size, 0, none⟩ (.slice (some ⟨g1, 0, none⟩) (pr.length + 1) c1)) ⟨w.heap.size, 1, none⟩ (.slice (some ⟨g2, 0, none⟩) els.length c2) T (by simp only; omega)).trans ((Below.heap_setCell (w5.setCell ⟨T, 1, none⟩ (.slice (some ⟨g2, 0, none⟩) els.length c2)) ⟨w.heap.size, 0, none⟩ (.slice (some ⟨g1, 0, none⟩) (pr.length + 1) c1) T (by simp only; omega)).trans hT6)
      have hQ7 := heap_setCell_same _ w.heap.size 1 _ _ (.slice (some ⟨g2, 0, none⟩) els.length c2) (heap_setCell_same (w5.setCell ⟨T, 1, none⟩ (.slice (some ⟨g2, 0, none⟩) els.length c2)) w.heap.size 0 _ _ (.slice (some ⟨g1, 0, none⟩) (pr.length + 1) c1) hQ6)
      have hc70 : (((w5.setCell ⟨T, 1, none⟩ (.slice (some ⟨g2, 0, none⟩) els.length c2)).setCell ⟨w.heap.size, 0, none⟩ (.slice (some ⟨g1, 0, none⟩) (pr.length + 1) c1)).setCell ⟨w.heap.size, 1, none⟩ (.slice (some ⟨g2, 0, none⟩) els.length c2)).cell? ⟨T, 0, none⟩ = some (.slice (some ⟨g1, 0, none⟩) (pr.length + 1) c1) := by simp [World.cell?, hT7]
      have hc71 : (((w5.setCell ⟨T, 1, none⟩ (.slice (some ⟨g2, 0, none⟩) els.length c2)).setCell ⟨w.heap.size, 0, none⟩ (.slice (some ⟨g1, 0, none⟩) (pr.length + 1) c1)).setCell ⟨w.heap.size, 1, none⟩ (.slice (some ⟨g2, 0, none⟩) els.length c2)).cell? ⟨T, 1, none⟩ = some (.slice (some ⟨g2, 0, none⟩) els.length c2) := by simp [World.cell?, hT7]
      have hf70 : (((w5.setCell ⟨T, 1, none⟩ (.slice (some ⟨g2, 0, none⟩) els.length c2)).setCell ⟨w.heap.size, 0, none⟩ (.slice (some ⟨g1, 0, none⟩) (pr.length + 1) c1)).setCell ⟨w.heap.size, 1, none⟩ (.slice (some ⟨g2, 0, none⟩) els.length c2)).frozen? ⟨w.heap.size, 0, none⟩ = false := by simp [World.frozen?, hQ7]
      have hf71 : (((w5.setCell ⟨T, 1, none⟩ (.slice (some ⟨g2, 0, none⟩) els.length c2)).setCell ⟨w.heap.size, 0, none⟩ (.slice (some ⟨g1, 0, none⟩) (pr.length + 1) c1)).setCell ⟨w.heap.size, 1, none⟩ (.slice (some ⟨g2, 0, none⟩) els.length c2)).frozen? ⟨w.heap.size, 1, none⟩ = false := by simp [World.frozen?, hQ7]
      go_region_held3 (fun W => W.cell? ⟨T, 0, none⟩ = some (.slice (some ⟨g1, 0, none⟩) (pr.length + 1) c1) ∧ W.cell? ⟨T, 1, none⟩ = some (.slice (some ⟨g2, 0, none⟩) els.length c2) ∧ W.frozen? ⟨w.heap.size, 0, none⟩ = false ∧ W.frozen? ⟨w.heap.size, 1, none⟩ = false)
        (first | exact ⟨hc60, hc61, hf60, hf61⟩ | exact ⟨hc70, hc71, hf70, hf71⟩)
        (first | fail)
      have hp8i : decide ((pr.length : Int) + 1 ≤ 8) = true := decide_eq_true (by omega)
      go_wp2_with fail
      have hq70 : (((w5.setCell ⟨T, 1, none⟩ (.slice (some ⟨g2, 0, none⟩) els.length c2)).setCell ⟨w.heap.size, 0, none⟩ (.slice (some ⟨g1, 0, none⟩) (pr.length + 1) c1)).setCell ⟨w.heap.size, 1, none⟩ (.slice (some ⟨g2, 0, none⟩) els.length c2)).drew.cell? ⟨w.heap.size, 0, none⟩ = some (.slice (some ⟨g1, 0, none⟩) (pr.length + 1) c1) := show (((w5.setCell ⟨T, 1, none⟩ (.slice (some ⟨g2, 0, none⟩) els.length c2)).setCell ⟨w.heap.size, 0, none⟩ (.slice (some ⟨g1, 0, none⟩) (pr.length + 1) c1)).setCell ⟨w.heap.size, 1, none⟩ (.slice (some ⟨g2, 0, none⟩) els.length c2)).cell? _ = _ by simp [World.cell?, hQ7]
      have hq71 : (((w5.setCell ⟨T, 1, none⟩ (.slice (some ⟨g2, 0, none⟩) els.length c2)).setCell ⟨w.heap.size, 0, none⟩ (.slice (some ⟨g1, 0, none⟩) (pr.length + 1) c1)).setCell ⟨w.heap.size, 1, none⟩ (.slice (some ⟨g2, 0, none⟩) els.length c2)).drew.cell? ⟨w.heap.size, 1, none⟩ = some (.slice (some ⟨g2, 0, none⟩) els.length c2) := show (((w5.setCell ⟨T, 1, none⟩ (.slice (some ⟨g2, 0, none⟩) els.length c2)).setCell ⟨w.heap.size, 0, none⟩ (.slice (some ⟨g1, 0, none⟩) (pr.length + 1) c1)).setCell ⟨w.heap.size, 1, none⟩ (.slice (some ⟨g2, 0, none⟩) els.length c2)).cell? _ = _ by simp [World.cell?, hQ7]
      have hB7 : Below w.heap.size w (((w5.setCell ⟨T, 1, none⟩ (.slice (some ⟨g2, 0, none⟩) els.length c2)).setCell ⟨w.heap.size, 0, none⟩ (.slice (some ⟨g1, 0, none⟩) (pr.length + 1) c1)).setCell ⟨w.heap.size, 1, none⟩ (.slice (some ⟨g2, 0, none⟩) els.length c2)).drew := (((HB5.out.setCell (by show w.heap.size ≤ T; omega) _).setCell (Nat.le_refl w.heap.size) _).setCell (Nat.le_refl w.heap.size) _).drew
      have hkp : ∀ b, b ≠ T → b ≠ w.heap.size → (((w5.setCell ⟨T, 1, none⟩ (.slice (some ⟨g2, 0, none⟩) els.length c2)).setCell ⟨w.heap.size, 0, none⟩ (.slice (some ⟨g1, 0, none⟩) (pr.length + 1) c1)).setCell ⟨w.heap.size, 1, none⟩ (.slice (some ⟨g2, 0, none⟩) els.length c2)).drew.heap[b]? = w5.heap[b]? := fun b h1 h2 => by
        show (((w5.setCell ⟨T, 1, none⟩ (.slice (some ⟨g2, 0, none⟩) els.length c2)).setCell ⟨w.heap.size, 0, none⟩ (.slice (some ⟨g1, 0, none⟩) (pr.length + 1) c1)).setCell ⟨w.heap.size, 1, none⟩ (.slice (some ⟨g2, 0, none⟩) els.length c2)).heap[b]? = _
        rw [Below.heap_setCell _ _ _ _ (by simp only; omega), Below.heap_setCell _ _ _ _ (by simp only; omega), Below.heap_setCell _ _ _ _ (by simp only; omega)]
      have hO7 : (((w5.setCell ⟨T, 1, none⟩ (.slice (some ⟨g2, 0, none⟩) els.length c2)).setCell ⟨w.heap.size, 0, none⟩ (.slice (some ⟨g1, 0, none⟩) (pr.length + 1) c1)).setCell ⟨w.heap.size, 1, none⟩ (.slice (some ⟨g2, 0, none⟩) els.length c2)).drew.ownsRow w.heap.size 3 1 (.slice (some ⟨g1, 0, none⟩) (pr.length + 1) c1) (pr.length + 1) ((p0 :: pr).map (Value.int .i64)) := by
        have h := HO5.out
        rw [List.take_of_length_le (by simp)] at h
        rcases h.2 with ⟨e, h0⟩ | ⟨g, cap, cur, e, hb', hg, h1⟩
        · exact absurd h0 (by omega)
        · exact ⟨h.1, .inr ⟨g, cap, cur, e, by omega, by rw [hkp g (by omega) (by omega)]; exact hg, h1⟩⟩
      have hE7 : (((w5.setCell ⟨T, 1, none⟩ (.slice (some ⟨g2, 0, none⟩) els.length c2)).setCell ⟨w.heap.size, 0, none⟩ (.slice (some ⟨g1, 0, none⟩) (pr.length + 1) c1)).setCell ⟨w.heap.size, 1, none⟩ (.slice (some ⟨g2, 0, none⟩) els.length c2)).drew.ownsRow w.heap.size 54 4 (.slice (some ⟨g2, 0, none⟩) els.length c2) els.length (elsCells els) := by
        have h := HE5.out
        rcases h.2 with ⟨e, h0⟩ | ⟨g, cap, cur, e, hb', hg, h1⟩
        · exact absurd h0 (by omega)
        · exact ⟨h.1, .inr ⟨g, cap, cur, e, by omega, by rw [hkp g (by omega) (by omega)]; exact hg, h1⟩⟩
      rw [hp8i]
      generalize (((w5.setCell ⟨T, 1, none⟩ (.slice (some ⟨g2, 0, none⟩) els.length c2)).setCell ⟨w.heap.size, 0, none⟩ (.slice (some ⟨g1, 0, none⟩) (pr.length + 1) c1)).setCell ⟨w.heap.size, 1, none⟩ (.slice (some ⟨g2, 0, none⟩) els.length c2)).drew = W at hq70 hq71 hB7 hO7 hE7 ⊢
      (try simp only [Exit.inBlock, Exit.then])
      refine bodyPost_ret (by simp [results, Tryz.results57, go_sem, hq70, hq71, Result.andThen]; try rfl) rfl ?_
      exact ⟨_, _, rfl, hB7, hO7, hE7⟩
end Go.Proofs.YtlkdjdcnbcegeaaGreatDoor
