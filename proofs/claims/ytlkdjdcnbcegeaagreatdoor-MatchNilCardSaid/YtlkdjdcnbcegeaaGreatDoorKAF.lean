/-
  table.entry, of any text.
-/
import Derived.Test.YtlkdjdcnbcegeaaGreatDoorKAE
import Derived.Test.YtlkdjdcnbcegeaaGreatDoorKAB
import Derived.Test.YtlkdjdcnbcegeaaGreatDoorKAD
import Derived.Test.YtlkdjdcnbcegeaaGreatDoorKU
namespace Go.Proofs.YtlkdjdcnbcegeaaGreatDoor
open Go.RowKit Go.WideShapes
set_option linter.unusedVariables false
set_option linter.unusedSimpArgs false
/-- table.hex of any number of 32 bits. -/
def HexFew (w : World) : Prop := ∀ v : Int, -2147483648 ≤ v → v ≤ 2147483647 → ∀ W, Below w.heap.size w W → Calls Tryz.prog 88 #[.int .i64 v] W fun e w' => ∃ t : ByteArray, e = .returned (.string t) ∧ Below W.heap.size W w'
theorem HexFew.on {w W : World} (h : HexFew w) (hb : Below w.heap.size w W) : HexFew W := fun v h0 h1 W' hb' => h v h0 h1 W' (hb.trans (hb'.mono hb.size))
theorem hexX {w : World} (HX : HexHere w) (HF : HexFew w) (v : Int) (h0 : -2147483648 ≤ v) (h1 : v ≤ 2147483647) (W : World) (hb : Below w.heap.size w W) : Calls Tryz.prog 88 #[.int .i64 v] W fun e w' => ∃ t : ByteArray, e = .returned (.string t) ∧ (pointB v = true → t = txt (hexW v.toNat)) ∧ Below W.heap.size W w' := by
  cases hp : pointB v with
  | false => exact (HF v h0 h1 W hb).mono fun e w' ⟨t, e1, hb⟩ => ⟨t, e1, by simp, hb⟩
  | true =>
    simp only [pointB, decide_eq_true_eq] at hp
    have h := HX v.toNat (by omega) W hb
    rw [show ((v.toNat : Nat) : Int) = v by omega] at h
    exact h.mono fun e w' ⟨e1, hb⟩ => ⟨_, e1, fun _ => rfl, hb⟩
theorem cut_none (c : UInt8) (A : List UInt8) (h : c ∉ A) : Lib.cut A [c] = (A, [], false) := by
  rw [Lib.cut, index_noneT c A h, if_neg (by omega)]
/-- A text at its first c. -/
theorem first_at (c : UInt8) : ∀ S : List UInt8, c ∉ S ∨ ∃ a b, S = a ++ c :: b ∧ c ∉ a
  | [] => Or.inl (by simp)
  | x :: S => by
    by_cases h : x = c
    · subst h; exact Or.inr ⟨[], S, rfl, by simp⟩
    · rcases first_at c S with h1 | ⟨a, b, rfl, h1⟩
      · exact Or.inl (by simp [h1]; exact fun e => h e.symm)
      · exact Or.inr ⟨x :: a, b, rfl, by simp [h1]; exact fun e => h e.symm⟩
theorem cutAny_ok (S : List UInt8) (hs : (txt S).size < 4294967281) (m : Int) (w : World) (hm : w.cell? ⟨lays145_ren.g 1, 0, none⟩ = some (.int .i64 m)) :
    Calls Tryz.prog 86 #[.string (txt S), .string (txt [59])] w (Ret (.tuple #[.string (txt (Lib.cut S [59]).1), .string (txt (Lib.cut S [59]).2.1), .bool (Lib.cut S [59]).2.2]) w) := by
  refine (Any.strings_Cut lays145 (txt S) (txt [59]) m w hs hm).mono ?_
  rintro e w' ⟨rfl, n, rfl⟩
  rw [txt_list, txt_list]
  exact ⟨rfl, (Below.refl _ w).trans ⟨rfl, rfl, rfl, Nat.le_refl _, fun _ _ => rfl⟩⟩
theorem lens_mem {L : List (List UInt8)} {y : List UInt8} (h : y ∈ L) : y.length ≤ Lib.lens L := by
  induction L with
  | nil => simp at h
  | cons a L ih =>
    simp only [Lib.lens, List.map_cons, List.sum_cons] at ih ⊢
    rcases List.mem_cons.1 h with rfl | h
    · omega
    · have := ih h; omega
/-- What entry hands back. -/
def EntPost (S : List UInt8) (w : World) (e : Ending) (w' : World) : Prop :=
  ∃ (A1 : Option Addr) (n1 k1 : Nat) (A2 : Option Addr) (n2 k2 : Nat) (b : Bool), e = .returned (.tuple #[.agg #[.slice A1 n1 k1, .slice A2 n2 k2], .bool b]) ∧ Below w.heap.size w w' ∧
    (b = true → ∃ x : EN, S = x.text ∧ 1 ≤ x.pts.length ∧ x.pts.length ≤ 8 ∧ x.pts.all pointB = true ∧ 1 ≤ x.els.length ∧ x.els.length ≤ 16 ∧ x.els.all EL.four = true ∧
      w'.ownsRow w.heap.size 3 1 (.slice A1 n1 k1) x.pts.length (x.pts.map (Value.int .i64)) ∧ w'.ownsRow w.heap.size 54 4 (.slice A2 n2 k2) x.els.length (elsCells x.els))
/-- The box of what is handed back, as it was at first. -/
theorem box_zero {W : World} {n : Nat} (hQ : W.heap[n]? = some (.cells #[Value.slice none 0 0, Value.slice none 0 0] 65 (0, 0))) :
    ((W.setCell ⟨n, 0, none⟩ (.slice none 0 0)).setCell ⟨n, 1, none⟩ (.slice none 0 0)).heap[n]? = some (.cells #[Value.slice none 0 0, Value.slice none 0 0] 65 (0, 0)) := by
  have h1 := heap_setCell_same W n 0 _ _ (.slice none 0 0) hQ
  have h2 := heap_setCell_same _ n 1 _ _ (.slice none 0 0) h1
  simpa using h2
set_option maxRecDepth 100000 in
set_option maxHeartbeats 8000000 in
theorem entry_any (S : List UInt8) (hs : S.length ≤ 65536) (m : Int) (w : World) (HX : HexHere w) (HF : HexFew w) (hE : ErrHere w) (hm : w.cell? ⟨lays145_ren.g 1, 0, none⟩ = some (.int .i64 m)) :
    Calls Tryz.prog 57 #[.string (txt S)] w (EntPost S w) := by
  have HB0 := Lib.hid (Below.refl w.heap.size w)
  have HX0 := Lib.hid HX
  have HF0 := Lib.hid HF
  have HE0 := Lib.hid hE
  have HM := Lib.hid hm
  have hM0 : lays145_ren.g 1 < w.heap.size := Lib.lt_of_cell HM.out
  have hsz : (txt S).size = S.length := txt_size _
  have HC := Lib.hid (fun W hW => cutAny_ok S (by omega) m W hW)
  clear HX HF hE hm
  rcases first_at 59 S with h59 | ⟨a, b, rfl, h59⟩
  · rw [cut_none 59 S h59] at HC
    have hb0 : (txt ([] : List UInt8)) = (txt []) := rfl
    clear h59 hsz
    generalize hS : txt S = SS at HC ⊢
    clear hS
    generalize txt [] = S1 at HC
    go_enter Tryz.func57, Tryz.ntmps57
    go_wp2_with fail
    have HB1 := Lib.hid (HB0.out.alloc (Nat.le_refl _) (.cells #[Value.slice none 0 0, Value.slice none 0 0] 65))
    refine (HC.out _ ((HB1.out.cell (p := ⟨lays145_ren.g 1, 0, none⟩) hM0).trans HM.out)).mono ?_
    rintro e w2 ⟨rfl, hb2⟩
    have HB2 := Lib.hid (HB1.out.trans (hb2.mono HB1.out.size))
    have hT2 : w2.heap[w.heap.size]? = some (.cells #[Value.slice none 0 0, Value.slice none 0 0] 65 (0, 0)) := (hb2.block _ (by simp)).trans (World.alloc_heap_new w _)
    have hf0 : w2.frozen? ⟨w.heap.size, 0, none⟩ = false := by simp [World.frozen?, hT2]
    have hf1 : w2.frozen? ⟨w.heap.size, 1, none⟩ = false := by simp [World.frozen?, hT2]
    have hc0 : w2.cell? ⟨w.heap.size, 0, none⟩ = some (.slice none 0 0) := by simp [World.cell?, hT2]
    have hc1 : w2.cell? ⟨w.heap.size, 1, none⟩ = some (.slice none 0 0) := by simp [World.cell?, hT2]
    clear hb2 HB1 HB0 HC
    go_wp2_with fail
    have hB := box_zero hT2
    have hBl : Below w.heap.size w ((w2.setCell ⟨w.heap.size, 0, none⟩ (.slice none 0 0)).setCell ⟨w.heap.size, 1, none⟩ (.slice none 0 0)) := (HB2.out.setCell (Nat.le_refl w.heap.size) _).setCell (Nat.le_refl w.heap.size) _
    generalize (w2.setCell ⟨w.heap.size, 0, none⟩ (.slice none 0 0)).setCell ⟨w.heap.size, 1, none⟩ (.slice none 0 0) = W at hB hBl ⊢
    have z0 : W.cell? ⟨w.heap.size, 0, none⟩ = some (.slice none 0 0) := by simp [World.cell?, hB]
    have z1 : W.cell? ⟨w.heap.size, 1, none⟩ = some (.slice none 0 0) := by simp [World.cell?, hB]
    refine bodyPost_ret (by simp [results, Tryz.results57, go_sem, z0, z1, Result.andThen]; try rfl) rfl ?_
    exact ⟨_, _, _, _, _, _, false, rfl, hBl, by simp⟩
  · rw [cut_oneT 59 a b h59] at HC
    obtain ⟨L, hLne, h32, rfl⟩ := cut_at 32 a
    have hsl : (txt (Lib.join L [32])).size < 4294967281 := by rw [txt_size]; simp at hs; omega
    have hLl : L.length ≤ 65537 := by
      have h9 := join_lensN L [32]
      simp only [List.length_singleton, Nat.mul_one] at h9
      simp at hs
      omega
    have hbl : b.length ≤ 65536 := by simp at hs; omega
    have HYs := Lib.hid (show ∀ y ∈ L, y.length ≤ 65536 from fun y hy => by
      have h9 := join_lens L [32]
      have h8 := lens_mem hy
      simp at hs
      omega)
    have HS := Lib.hid (fun W hW => splitBy_ok 32 L hLne h32 hsl m W hW)
    have HLne := Lib.hid hLne
    obtain ⟨rows, hrows⟩ : ∃ rows, rows = L.map fun y => Value.string (txt y) := ⟨_, rfl⟩
    rw [← hrows] at HS
    have HRW := Lib.hid hrows
    have HEl := Lib.hid (fun W hx he => elements_any b hbl W hx he)
    clear hrows hsz h59 h32 hsl hs hLne hbl
    generalize hSS : txt (Lib.join L [32] ++ 59 :: b) = SS at HC ⊢
    clear hSS
    obtain ⟨i1, ihi, ihz0, ihz1, ihz2⟩ := info_parts intInfo
    go_enter Tryz.func57, Tryz.ntmps57
    go_wp2_with fail
    have HB1 := Lib.hid (HB0.out.alloc (Nat.le_refl _) (.cells #[Value.slice none 0 0, Value.slice none 0 0] 65))
    refine (HC.out _ ((HB1.out.cell (p := ⟨lays145_ren.g 1, 0, none⟩) hM0).trans HM.out)).mono ?_
    rintro e w2 ⟨rfl, hb2⟩
    have HB2 := Lib.hid (HB1.out.trans (hb2.mono HB1.out.size))
    have HT2 := Lib.hid (show w2.heap[w.heap.size]? = some (.cells #[Value.slice none 0 0, Value.slice none 0 0] 65 (0, 0)) from (hb2.block _ (by simp)).trans (World.alloc_heap_new w _))
    have hz2 : w.heap.size < w2.heap.size := by have := hb2.size; simp at this; omega
    clear hb2 HB1 HB0 HC
    go_wp2_with fail
    have HB3 := Lib.hid (HB2.out.alloc HB2.out.size (.cells #[Value.slice none 0 0, Value.slice none 0 0] 65))
    refine (HS.out _ ((HB3.out.cell (p := ⟨lays145_ren.g 1, 0, none⟩) hM0).trans HM.out)).mono ?_
    rintro e w3 ⟨rfl, rfl⟩
    go_wp2_with fail
    generalize hT7 : w2.heap.size = T at HB3 ⊢
    have HT0 := Lib.hid (show ((w2.alloc (.cells #[Value.slice none 0 0, Value.slice none 0 0] 65)).alloc (.cells rows.toArray 9)).heap[T]? = some (.cells #[Value.slice none 0 0, Value.slice none 0 0] 65 (0, 0)) from by rw [Below.heap_alloc _ _ _ (by simp; omega), ← hT7]; exact World.alloc_heap_new w2 _)
    have HR0 := Lib.hid (show ((w2.alloc (.cells #[Value.slice none 0 0, Value.slice none 0 0] 65)).alloc (.cells rows.toArray 9)).heap[T + 1]? = some (.cells rows.toArray 9 (0, 0)) from by have h := World.alloc_heap_new (w2.alloc (.cells #[Value.slice none 0 0, Value.slice none 0 0] 65)) (.cells rows.toArray 9); rw [World.size_alloc, hT7] at h; exact h)
    have HB4 := Lib.hid (HB3.out.alloc HB3.out.size (.cells rows.toArray 9))
    have HZ0 := Lib.hid (show T + 2 ≤ ((w2.alloc (.cells #[Value.slice none 0 0, Value.slice none 0 0] 65)).alloc (.cells rows.toArray 9)).heap.size from by simp; omega)
    have HQ0 := Lib.hid (show ((w2.alloc (.cells #[Value.slice none 0 0, Value.slice none 0 0] 65)).alloc (.cells rows.toArray 9)).heap[w.heap.size]? = some (.cells #[Value.slice none 0 0, Value.slice none 0 0] 65 (0, 0)) from by rw [Below.heap_alloc _ _ _ (by simp; omega), Below.heap_alloc _ _ _ (by omega)]; exact HT2.out)
    have hwT : w.heap.size < T := by omega
    clear HT2 HB2 HS hT7
    go_loopw [24] (fun t24 wr => ∃ (k : Nat) (vo : Value) (ps : List Int), t24 = .int .i64 k ∧ k ≤ L.length ∧ ps.length = k ∧ Hid (L.take k = ps.map (fun p => hexW p.toNat) ∧ ps.all pointB = true) ∧ Hid (wr.heap[T]? = some (.cells #[vo, Value.slice none 0 0] 65 (0, 0))) ∧ Hid (wr.heap[T + 1]? = some (.cells rows.toArray 9 (0, 0))) ∧ Hid (wr.ownsRow (T + 2) 3 1 vo k (ps.map (Value.int .i64))) ∧ Hid (Below w.heap.size w wr) ∧ Hid (T + 2 ≤ wr.heap.size) ∧ Hid (wr.heap[w.heap.size]? = some (.cells #[Value.slice none 0 0, Value.slice none 0 0] 65 (0, 0)))) (fun t24 _ => L.length - (intOf t24).toNat)
    case atStart => exact ⟨0, _, [], rfl, by omega, rfl, Lib.hid (by simp), HT0, HR0, Lib.hid (World.ownsRow_nil _ _ _ _), HB4, HZ0, HQ0⟩
    case round =>
      clear HB4 HT0 HR0 HZ0 HB3 HQ0
      obtain ⟨k, vo, ps, rfl, hk, hps, HPS, HT, HR, HO, HB, HZ, HQ⟩ := hrel
      by_cases hkl : k < L.length
      · have hc : wr.cell? ⟨T + 1, k, none⟩ = some (.string (txt L[k])) := by
          simp only [World.cell?, HR.out]
          rw [HRW.out, List.getElem?_toArray, List.getElem?_map, List.getElem?_eq_getElem hkl]; rfl
        have hys : (txt L[k]).size ≤ 65536 := by rw [txt_size]; exact HYs.out _ (List.getElem_mem hkl)
        have HTk := Lib.hid (show L.take (k + 1) = L.take k ++ [L[k]] from List.take_succ_eq_append_getElem hkl)
        have HNx := Lib.hid (show ∀ v : Int, pointB v = true → txt L[k] = txt (hexW v.toNat) → L.take (k + 1) = (ps ++ [v]).map (fun p => hexW p.toNat) ∧ (ps ++ [v]).all pointB = true from fun v hv he => by
          rw [HTk.out, HPS.out.1, List.map_append, txt_inj he]
          exact ⟨rfl, by rw [List.all_append, HPS.out.2]; simp [hv]⟩)
        generalize txt L[k] = y at hc hys HNx
        have HPI := Lib.hid (fun W hE => pint32_all y (by omega) W hE)
        clear HTk hys
        go_wp2_with fail
        refine (HPI.out _ (HE0.out.on HB.out)).mono ?_
        rintro e w5 ⟨v, er, rfl, hu, hb5⟩
        have HB5 := Lib.hid (HB.out.trans (hb5.mono HB.out.size))
        have HT5 := Lib.hid ((hb5.block _ (by have := HZ.out; omega)).trans HT.out)
        have HR5 := Lib.hid ((hb5.block _ (by have := HZ.out; omega)).trans HR.out)
        have HO5 := Lib.hid (own_underT HO.out hb5)
        have HZ5 := Lib.hid (Nat.le_trans HZ.out hb5.size)
        have HQ5 := Lib.hid ((hb5.block _ (by have := HZ.out; omega)).trans HQ.out)
        clear hb5 HB HT HR HO HZ HQ
        clear HPI hc
        rcases hu with ⟨rfl, h0, h1⟩ | ⟨Te, pe, rfl⟩
        · have HX5 := Lib.hid (fun W hb => hexX HX0.out HF0.out v h0 h1 W hb)
          go_wp2_with fail
          refine (HX5.out _ HB5.out).mono ?_
          rintro e w6 ⟨t, rfl, ht, hb6⟩
          have HB6 := Lib.hid (HB5.out.trans (hb6.mono HB5.out.size))
          have HT6 := Lib.hid ((hb6.block _ (by have := HZ5.out; omega)).trans HT5.out)
          have HR6 := Lib.hid ((hb6.block _ (by have := HZ5.out; omega)).trans HR5.out)
          have HO6 := Lib.hid (own_underT HO5.out hb6)
          have HZ6 := Lib.hid (Nat.le_trans HZ5.out hb6.size)
          have HQ6 := Lib.hid ((hb6.block _ (by have := HZ5.out; omega)).trans HQ5.out)
          clear hb6 HB5 HT5 HR5 HO5 HZ5 HQ5
          have HTt := Lib.hid ht
          clear HX5 ht
          by_cases hty : t = y
          · subst hty
            go_wp2_with fail
            refine (tabPoint_any v _).mono ?_
            rintro e w7 ⟨rfl, hb7⟩
            have HB7 := Lib.hid (HB6.out.trans (hb7.mono HB6.out.size))
            have HT7 := Lib.hid ((hb7.block _ (by have := HZ6.out; omega)).trans HT6.out)
            have HR7 := Lib.hid ((hb7.block _ (by have := HZ6.out; omega)).trans HR6.out)
            have HO7 := Lib.hid (own_underT HO6.out hb7)
            have HZ7 := Lib.hid (Nat.le_trans HZ6.out hb7.size)
            have HQ7 := Lib.hid ((hb7.block _ (by have := HZ6.out; omega)).trans HQ6.out)
            clear hb7 HB6 HT6 HR6 HO6 HZ6 HQ6
            cases hpb : pointB v with
            | false =>
              have hf0 : w7.frozen? ⟨w.heap.size, 0, none⟩ = false := by have h := HQ7.out; simp [World.frozen?, h]
              have hf1 : w7.frozen? ⟨w.heap.size, 1, none⟩ = false := by have h := HQ7.out; simp [World.frozen?, h]
              have hc0 : w7.cell? ⟨w.heap.size, 0, none⟩ = some (.slice none 0 0) := by have h := HQ7.out; simp [World.cell?, h]
              have hc1 : w7.cell? ⟨w.heap.size, 1, none⟩ = some (.slice none 0 0) := by have h := HQ7.out; simp [World.cell?, h]
              go_wp2_with fail
              have hB := box_zero HQ7.out
              have hBl : Below w.heap.size w ((w7.setCell ⟨w.heap.size, 0, none⟩ (.slice none 0 0)).setCell ⟨w.heap.size, 1, none⟩ (.slice none 0 0)) := (HB7.out.setCell (Nat.le_refl w.heap.size) _).setCell (Nat.le_refl w.heap.size) _
              generalize (w7.setCell ⟨w.heap.size, 0, none⟩ (.slice none 0 0)).setCell ⟨w.heap.size, 1, none⟩ (.slice none 0 0) = W at hB hBl ⊢
              have z0 : W.cell? ⟨w.heap.size, 0, none⟩ = some (.slice none 0 0) := by simp [World.cell?, hB]
              have z1 : W.cell? ⟨w.heap.size, 1, none⟩ = some (.slice none 0 0) := by simp [World.cell?, hB]
              refine bodyPost_ret (by simp [results, Tryz.results57, go_sem, z0, z1, Result.andThen]; try rfl) rfl ?_
              exact ⟨_, _, _, _, _, _, false, rfl, hBl, by simp⟩
            | true =>
              have HN2 := Lib.hid (HNx.out v hpb (HTt.out hpb))
              have hc0 : w7.cell? ⟨T, 0, none⟩ = some vo := by have h := HT7.out; simp [World.cell?, h]
              clear HNx HTt hpb
              go_wp2_with (at_builtin; refine wpList_append_own _ rfl _ _ 24 rfl (T + 2) 3 i1 (.int .i64 0) 1 8 Tryz.underlying24 ihi ihz0 ihz1 ihz2 rfl (by decide) _ _ _ rfl (HO7.out.alloc _) ⟨w7.heap.size, 0, none⟩ 1 1 [.int .i64 v] rfl rfl (World.news_of_block (cs := #[.int .i64 v]) (t := 3) (fr := (0, 0)) (heap_alloc_new w7 _)) (by simp [Value.oneCell']) (by unfold maxLen; omega) (by omega) (by have := HZ7.out; simp; omega) ?_; intro v8 w8 hown8 hgrow8 hnil8; obtain ⟨g8, c8, rfl⟩ : ∃ g c, v8 = .slice (some ⟨g, 0, none⟩) (k + 1) c := (by rcases hown8.2 with ⟨e, h0⟩ | ⟨g, cap, cur, e, _⟩; exact absurd h0 (by omega); exact ⟨g, cap, e⟩); have hkeep8 : ∀ b, b < T + 2 → w8.heap[b]? = w7.heap[b]? := (fun b hb => by rw [hgrow8.block b (by have := HZ7.out; simp; omega) (fun e => by have := (HO7.out.lt b e.symm).1; omega), Below.heap_alloc w7 _ b (by have := HZ7.out; omega)]); have hT8 := (hkeep8 T (by omega)).trans HT7.out; have hf8 : w8.frozen? ⟨T, 0, none⟩ = false := (by simp [World.frozen?, hT8]); have hc8 : w8.cell? ⟨T, 0, none⟩ = some vo := (by simp [World.cell?, hT8]))
              go_roundw
              case rel =>
                have hz8 : T + 2 ≤ w8.heap.size := by have h1 := hgrow8.size; have h2 := HZ7.out; simp at h1; omega
                refine ⟨k + 1, _, ps ++ [v], rfl, by omega, by rw [List.length_append]; simp; omega, HN2, Lib.hid (heap_setCell_same w8 T 0 _ _ _ hT8), Lib.hid (by rw [Below.heap_setCell _ _ _ _ (by simp)]; exact (hkeep8 (T + 1) (by omega)).trans HR7.out), Lib.hid ?_, Lib.hid ?_, Lib.hid (by simp; omega), Lib.hid (by rw [Below.heap_setCell _ _ _ _ (by simp only; omega)]; exact (hkeep8 _ (by omega)).trans HQ7.out)⟩
                · rw [List.map_append]
                  rcases hown8.2 with ⟨e, h0⟩ | ⟨g, cap, cur, e, hb', hg, h1⟩
                  · exact absurd h0 (by omega)
                  · exact ⟨hown8.1, .inr ⟨g, cap, cur, e, hb', by rw [Below.heap_setCell _ _ _ _ (by simp only; omega)]; exact hg, h1⟩⟩
                · exact ((HB7.out.alloc HB7.out.size _).grown hgrow8 (by have := HB7.out.size; simp; omega) (fun j ej => by have := (HO7.out.lt j ej).1; omega)).setCell (by simp only; omega) _
              case measure => simp [intOf]; omega
          · have hd : (t.toList == y.toList) = false := by
              cases h : (t.toList == y.toList) with
              | false => rfl
              | true => exact absurd (toList_same (by simpa using h)) hty
            clear HTt HNx
            have hf0 : w6.frozen? ⟨w.heap.size, 0, none⟩ = false := by have h := HQ6.out; simp [World.frozen?, h]
            have hf1 : w6.frozen? ⟨w.heap.size, 1, none⟩ = false := by have h := HQ6.out; simp [World.frozen?, h]
            have hc0 : w6.cell? ⟨w.heap.size, 0, none⟩ = some (.slice none 0 0) := by have h := HQ6.out; simp [World.cell?, h]
            have hc1 : w6.cell? ⟨w.heap.size, 1, none⟩ = some (.slice none 0 0) := by have h := HQ6.out; simp [World.cell?, h]
            go_wp2_with fail
            have hB := box_zero HQ6.out
            have hBl : Below w.heap.size w ((w6.setCell ⟨w.heap.size, 0, none⟩ (.slice none 0 0)).setCell ⟨w.heap.size, 1, none⟩ (.slice none 0 0)) := (HB6.out.setCell (Nat.le_refl w.heap.size) _).setCell (Nat.le_refl w.heap.size) _
            generalize (w6.setCell ⟨w.heap.size, 0, none⟩ (.slice none 0 0)).setCell ⟨w.heap.size, 1, none⟩ (.slice none 0 0) = W at hB hBl ⊢
            have z0 : W.cell? ⟨w.heap.size, 0, none⟩ = some (.slice none 0 0) := by simp [World.cell?, hB]
            have z1 : W.cell? ⟨w.heap.size, 1, none⟩ = some (.slice none 0 0) := by simp [World.cell?, hB]
            refine bodyPost_ret (by simp [results, Tryz.results57, go_sem, z0, z1, Result.andThen]; try rfl) rfl ?_
            exact ⟨_, _, _, _, _, _, false, rfl, hBl, by simp⟩
        · clear HNx
          have hf0 : w5.frozen? ⟨w.heap.size, 0, none⟩ = false := by have h := HQ5.out; simp [World.frozen?, h]
          have hf1 : w5.frozen? ⟨w.heap.size, 1, none⟩ = false := by have h := HQ5.out; simp [World.frozen?, h]
          have hc0 : w5.cell? ⟨w.heap.size, 0, none⟩ = some (.slice none 0 0) := by have h := HQ5.out; simp [World.cell?, h]
          have hc1 : w5.cell? ⟨w.heap.size, 1, none⟩ = some (.slice none 0 0) := by have h := HQ5.out; simp [World.cell?, h]
          go_wp2_with fail
          have hB := box_zero HQ5.out
          have hBl : Below w.heap.size w ((w5.setCell ⟨w.heap.size, 0, none⟩ (.slice none 0 0)).setCell ⟨w.heap.size, 1, none⟩ (.slice none 0 0)) := (HB5.out.setCell (Nat.le_refl w.heap.size) _).setCell (Nat.le_refl w.heap.size) _
          generalize (w5.setCell ⟨w.heap.size, 0, none⟩ (.slice none 0 0)).setCell ⟨w.heap.size, 1, none⟩ (.slice none 0 0) = W at hB hBl ⊢
          have z0 : W.cell? ⟨w.heap.size, 0, none⟩ = some (.slice none 0 0) := by simp [World.cell?, hB]
          have z1 : W.cell? ⟨w.heap.size, 1, none⟩ = some (.slice none 0 0) := by simp [World.cell?, hB]
          refine bodyPost_ret (by simp [results, Tryz.results57, go_sem, z0, z1, Result.andThen]; try rfl) rfl ?_
          exact ⟨_, _, _, _, _, _, false, rfl, hBl, by simp⟩
      · have hkk : k = L.length := by omega
        subst hkk
        clear hkl
        go_wp2_with fail
        refine (HEl.out _ (HX0.out.on HB.out) (HE0.out.on HB.out)).mono ?_
        rintro e w5 ⟨v2, b2, rfl, hb5, hyes, hno⟩
        have HB5 := Lib.hid (HB.out.trans (hb5.mono HB.out.size))
        have hT5 := (hb5.block T (by have := HZ.out; omega)).trans HT.out
        have hQ5 := (hb5.block w.heap.size (by have := HZ.out; omega)).trans HQ.out
        have HO5 := Lib.hid (own_underT HO.out hb5)
        have hL1 : 1 ≤ L.length := by
          have := HLne.out
          cases L with
          | nil => exact absurd rfl this
          | cons x r => simp
        have hzz := HZ.out
        clear hb5 HEl HB HO HT HQ HR
        obtain ⟨g1, c1, rfl⟩ : ∃ g c, vo = .slice (some ⟨g, 0, none⟩) L.length c := by
          rcases HO5.out.2 with ⟨e, h0⟩ | ⟨g, cap, cur, e, _⟩
          · exact absurd h0 (by omega)
          · exact ⟨g, cap, e⟩
        have hg1 := (HO5.out.lt g1 rfl).1
        cases b2 with
        | true =>
          obtain ⟨els, hbe, h1e, h16e, h4e, ho5⟩ := hyes rfl
          clear hyes hno
          obtain ⟨g2, c2, rfl⟩ : ∃ g c, v2 = .slice (some ⟨g, 0, none⟩) els.length c := by
            rcases ho5.2 with ⟨e, h0⟩ | ⟨g, cap, cur, e, _⟩
            · exact absurd h0 (by omega)
            · exact ⟨g, cap, e⟩
          have hg2 := (ho5.lt g2 rfl).1
          have HE5 := Lib.hid ho5
          have HBE := Lib.hid (And.intro hbe h4e)
          clear ho5 hbe h4e
          have hf51 : w5.frozen? ⟨T, 1, none⟩ = false := by simp [World.frozen?, hT5]
          have hc51 : w5.cell? ⟨T, 1, none⟩ = some (.slice none 0 0) := by simp [World.cell?, hT5]
          go_wp2_with fail
          have hT6 := heap_setCell_same w5 T 1 _ _ (.slice (some ⟨g2, 0, none⟩) els.length c2) hT5
          have hQ6 := (Below.heap_setCell w5 ⟨T, 1, none⟩ (.slice (some ⟨g2, 0, none⟩) els.length c2) w.heap.size (by simp only; omega)).trans hQ5
          have hc60 : (w5.setCell ⟨T, 1, none⟩ (.slice (some ⟨g2, 0, none⟩) els.length c2)).cell? ⟨T, 0, none⟩ = some (.slice (some ⟨g1, 0, none⟩) L.length c1) := by simp [World.cell?, hT6]
          have hc61 : (w5.setCell ⟨T, 1, none⟩ (.slice (some ⟨g2, 0, none⟩) els.length c2)).cell? ⟨T, 1, none⟩ = some (.slice (some ⟨g2, 0, none⟩) els.length c2) := by simp [World.cell?, hT6]
          have hf60 : (w5.setCell ⟨T, 1, none⟩ (.slice (some ⟨g2, 0, none⟩) els.length c2)).frozen? ⟨w.heap.size, 0, none⟩ = false := by simp [World.frozen?, hQ6]
          have hf61 : (w5.setCell ⟨T, 1, none⟩ (.slice (some ⟨g2, 0, none⟩) els.length c2)).frozen? ⟨w.heap.size, 1, none⟩ = false := by simp [World.frozen?, hQ6]
          have hq60 : (w5.setCell ⟨T, 1, none⟩ (.slice (some ⟨g2, 0, none⟩) els.length c2)).cell? ⟨w.heap.size, 0, none⟩ = some (.slice none 0 0) := by simp [World.cell?, hQ6]
          have hq61 : (w5.setCell ⟨T, 1, none⟩ (.slice (some ⟨g2, 0, none⟩) els.length c2)).cell? ⟨w.heap.size, 1, none⟩ = some (.slice none 0 0) := by simp [World.cell?, hQ6]
          have hT7 := (Below.heap_setCell ((w5.setCell ⟨T, 1, none⟩ (.slice (some ⟨g2, 0, none⟩) els.length c2)).setCell ⟨w.heap.size, 0, none⟩ (.slice (some ⟨g1, 0, none⟩) L.length c1)) ⟨w.heap.size, 1, none⟩ (.slice (some ⟨g2, 0, none⟩) els.length c2) T (by simp only; omega)).trans ((Below.heap_setCell (w5.setCell ⟨T, 1, none⟩ (.slice (some ⟨g2, 0, none⟩) els.length c2)) ⟨w.heap.size, 0, none⟩ (.slice (some ⟨g1, 0, none⟩) L.length c1) T (by simp only; omega)).trans hT6)
          have hQ7 := heap_setCell_same _ w.heap.size 1 _ _ (.slice (some ⟨g2, 0, none⟩) els.length c2) (heap_setCell_same (w5.setCell ⟨T, 1, none⟩ (.slice (some ⟨g2, 0, none⟩) els.length c2)) w.heap.size 0 _ _ (.slice (some ⟨g1, 0, none⟩) L.length c1) hQ6)
          have hc70 : (((w5.setCell ⟨T, 1, none⟩ (.slice (some ⟨g2, 0, none⟩) els.length c2)).setCell ⟨w.heap.size, 0, none⟩ (.slice (some ⟨g1, 0, none⟩) L.length c1)).setCell ⟨w.heap.size, 1, none⟩ (.slice (some ⟨g2, 0, none⟩) els.length c2)).cell? ⟨T, 0, none⟩ = some (.slice (some ⟨g1, 0, none⟩) L.length c1) := by simp [World.cell?, hT7]
          have hc71 : (((w5.setCell ⟨T, 1, none⟩ (.slice (some ⟨g2, 0, none⟩) els.length c2)).setCell ⟨w.heap.size, 0, none⟩ (.slice (some ⟨g1, 0, none⟩) L.length c1)).setCell ⟨w.heap.size, 1, none⟩ (.slice (some ⟨g2, 0, none⟩) els.length c2)).cell? ⟨T, 1, none⟩ = some (.slice (some ⟨g2, 0, none⟩) els.length c2) := by simp [World.cell?, hT7]
          have hf70 : (((w5.setCell ⟨T, 1, none⟩ (.slice (some ⟨g2, 0, none⟩) els.length c2)).setCell ⟨w.heap.size, 0, none⟩ (.slice (some ⟨g1, 0, none⟩) L.length c1)).setCell ⟨w.heap.size, 1, none⟩ (.slice (some ⟨g2, 0, none⟩) els.length c2)).frozen? ⟨w.heap.size, 0, none⟩ = false := by simp [World.frozen?, hQ7]
          have hf71 : (((w5.setCell ⟨T, 1, none⟩ (.slice (some ⟨g2, 0, none⟩) els.length c2)).setCell ⟨w.heap.size, 0, none⟩ (.slice (some ⟨g1, 0, none⟩) L.length c1)).setCell ⟨w.heap.size, 1, none⟩ (.slice (some ⟨g2, 0, none⟩) els.length c2)).frozen? ⟨w.heap.size, 1, none⟩ = false := by simp [World.frozen?, hQ7]
          first
            | (go_region_held3 (fun W => W.cell? ⟨T, 0, none⟩ = some (.slice (some ⟨g1, 0, none⟩) L.length c1) ∧ W.cell? ⟨T, 1, none⟩ = some (.slice (some ⟨g2, 0, none⟩) els.length c2) ∧ W.frozen? ⟨w.heap.size, 0, none⟩ = false ∧ W.frozen? ⟨w.heap.size, 1, none⟩ = false)
                (first | exact ⟨hc60, hc61, hf60, hf61⟩ | exact ⟨hc70, hc71, hf70, hf71⟩)
                (first | fail))
            | fail
          all_goals (
          go_wp2_with fail
          have hq70 : (((w5.setCell ⟨T, 1, none⟩ (.slice (some ⟨g2, 0, none⟩) els.length c2)).setCell ⟨w.heap.size, 0, none⟩ (.slice (some ⟨g1, 0, none⟩) L.length c1)).setCell ⟨w.heap.size, 1, none⟩ (.slice (some ⟨g2, 0, none⟩) els.length c2)).drew.cell? ⟨w.heap.size, 0, none⟩ = some (.slice (some ⟨g1, 0, none⟩) L.length c1) := show (((w5.setCell ⟨T, 1, none⟩ (.slice (some ⟨g2, 0, none⟩) els.length c2)).setCell ⟨w.heap.size, 0, none⟩ (.slice (some ⟨g1, 0, none⟩) L.length c1)).setCell ⟨w.heap.size, 1, none⟩ (.slice (some ⟨g2, 0, none⟩) els.length c2)).cell? _ = _ by simp [World.cell?, hQ7]
          have hq71 : (((w5.setCell ⟨T, 1, none⟩ (.slice (some ⟨g2, 0, none⟩) els.length c2)).setCell ⟨w.heap.size, 0, none⟩ (.slice (some ⟨g1, 0, none⟩) L.length c1)).setCell ⟨w.heap.size, 1, none⟩ (.slice (some ⟨g2, 0, none⟩) els.length c2)).drew.cell? ⟨w.heap.size, 1, none⟩ = some (.slice (some ⟨g2, 0, none⟩) els.length c2) := show (((w5.setCell ⟨T, 1, none⟩ (.slice (some ⟨g2, 0, none⟩) els.length c2)).setCell ⟨w.heap.size, 0, none⟩ (.slice (some ⟨g1, 0, none⟩) L.length c1)).setCell ⟨w.heap.size, 1, none⟩ (.slice (some ⟨g2, 0, none⟩) els.length c2)).cell? _ = _ by simp [World.cell?, hQ7]
          have hB7 : Below w.heap.size w (((w5.setCell ⟨T, 1, none⟩ (.slice (some ⟨g2, 0, none⟩) els.length c2)).setCell ⟨w.heap.size, 0, none⟩ (.slice (some ⟨g1, 0, none⟩) L.length c1)).setCell ⟨w.heap.size, 1, none⟩ (.slice (some ⟨g2, 0, none⟩) els.length c2)).drew := (((HB5.out.setCell (by show w.heap.size ≤ T; omega) _).setCell (Nat.le_refl w.heap.size) _).setCell (Nat.le_refl w.heap.size) _).drew
          have hkp : ∀ b, b ≠ T → b ≠ w.heap.size → (((w5.setCell ⟨T, 1, none⟩ (.slice (some ⟨g2, 0, none⟩) els.length c2)).setCell ⟨w.heap.size, 0, none⟩ (.slice (some ⟨g1, 0, none⟩) L.length c1)).setCell ⟨w.heap.size, 1, none⟩ (.slice (some ⟨g2, 0, none⟩) els.length c2)).drew.heap[b]? = w5.heap[b]? := fun b h1 h2 => by
            show (((w5.setCell ⟨T, 1, none⟩ (.slice (some ⟨g2, 0, none⟩) els.length c2)).setCell ⟨w.heap.size, 0, none⟩ (.slice (some ⟨g1, 0, none⟩) L.length c1)).setCell ⟨w.heap.size, 1, none⟩ (.slice (some ⟨g2, 0, none⟩) els.length c2)).heap[b]? = _
            rw [Below.heap_setCell _ _ _ _ (by simp only; omega), Below.heap_setCell _ _ _ _ (by simp only; omega), Below.heap_setCell _ _ _ _ (by simp only; omega)]
          have hO7 : (((w5.setCell ⟨T, 1, none⟩ (.slice (some ⟨g2, 0, none⟩) els.length c2)).setCell ⟨w.heap.size, 0, none⟩ (.slice (some ⟨g1, 0, none⟩) L.length c1)).setCell ⟨w.heap.size, 1, none⟩ (.slice (some ⟨g2, 0, none⟩) els.length c2)).drew.ownsRow w.heap.size 3 1 (.slice (some ⟨g1, 0, none⟩) L.length c1) L.length (ps.map (Value.int .i64)) := by
            have h := HO5.out
            rcases h.2 with ⟨e, h0⟩ | ⟨g, cap, cur, e, hb', hg, h1⟩
            · exact absurd h0 (by omega)
            · exact ⟨h.1, .inr ⟨g, cap, cur, e, by omega, by rw [hkp g (by omega) (by omega)]; exact hg, h1⟩⟩
          have hE7 : (((w5.setCell ⟨T, 1, none⟩ (.slice (some ⟨g2, 0, none⟩) els.length c2)).setCell ⟨w.heap.size, 0, none⟩ (.slice (some ⟨g1, 0, none⟩) L.length c1)).setCell ⟨w.heap.size, 1, none⟩ (.slice (some ⟨g2, 0, none⟩) els.length c2)).drew.ownsRow w.heap.size 54 4 (.slice (some ⟨g2, 0, none⟩) els.length c2) els.length (elsCells els) := by
            have h := HE5.out
            rcases h.2 with ⟨e, h0⟩ | ⟨g, cap, cur, e, hb', hg, h1⟩
            · exact absurd h0 (by omega)
            · exact ⟨h.1, .inr ⟨g, cap, cur, e, by omega, by rw [hkp g (by omega) (by omega)]; exact hg, h1⟩⟩
          generalize (((w5.setCell ⟨T, 1, none⟩ (.slice (some ⟨g2, 0, none⟩) els.length c2)).setCell ⟨w.heap.size, 0, none⟩ (.slice (some ⟨g1, 0, none⟩) L.length c1)).setCell ⟨w.heap.size, 1, none⟩ (.slice (some ⟨g2, 0, none⟩) els.length c2)).drew = W at hq70 hq71 hB7 hO7 hE7 ⊢
          (try simp only [Exit.inBlock, Exit.then])
          refine bodyPost_ret (by simp [results, Tryz.results57, go_sem, hq70, hq71, Result.andThen]; try rfl) rfl ?_
          refine ⟨_, _, _, _, _, _, decide ((L.length : Int) ≤ 8), rfl, hB7, fun hb => ⟨⟨ps, els⟩, ?_, by show 1 ≤ ps.length; omega, by have := of_decide_eq_true hb; show ps.length ≤ 8; omega, HPS.out.2, h1e, h16e, HBE.out.2, by rw [show (EN.mk ps els).pts.length = L.length from hps]; exact hO7, hE7⟩⟩
          have e1 := HPS.out.1
          rw [List.take_length] at e1
          rw [EN.text, ← e1, HBE.out.1]
          simp [elsText]
          )
        | false =>
          obtain rfl := hno rfl
          clear hyes hno
          have hf51 : w5.frozen? ⟨T, 1, none⟩ = false := by simp [World.frozen?, hT5]
          have hc51 : w5.cell? ⟨T, 1, none⟩ = some (.slice none 0 0) := by simp [World.cell?, hT5]
          go_wp2_with fail
          have hT6 := heap_setCell_same w5 T 1 _ _ (.slice none 0 0) hT5
          have hQ6 := (Below.heap_setCell w5 ⟨T, 1, none⟩ (.slice none 0 0) w.heap.size (by simp only; omega)).trans hQ5
          have hc60 : (w5.setCell ⟨T, 1, none⟩ (.slice none 0 0)).cell? ⟨T, 0, none⟩ = some (.slice (some ⟨g1, 0, none⟩) L.length c1) := by simp [World.cell?, hT6]
          have hc61 : (w5.setCell ⟨T, 1, none⟩ (.slice none 0 0)).cell? ⟨T, 1, none⟩ = some (.slice none 0 0) := by simp [World.cell?, hT6]
          have hf60 : (w5.setCell ⟨T, 1, none⟩ (.slice none 0 0)).frozen? ⟨w.heap.size, 0, none⟩ = false := by simp [World.frozen?, hQ6]
          have hf61 : (w5.setCell ⟨T, 1, none⟩ (.slice none 0 0)).frozen? ⟨w.heap.size, 1, none⟩ = false := by simp [World.frozen?, hQ6]
          have hq60 : (w5.setCell ⟨T, 1, none⟩ (.slice none 0 0)).cell? ⟨w.heap.size, 0, none⟩ = some (.slice none 0 0) := by simp [World.cell?, hQ6]
          have hq61 : (w5.setCell ⟨T, 1, none⟩ (.slice none 0 0)).cell? ⟨w.heap.size, 1, none⟩ = some (.slice none 0 0) := by simp [World.cell?, hQ6]
          have hT7 := (Below.heap_setCell ((w5.setCell ⟨T, 1, none⟩ (.slice none 0 0)).setCell ⟨w.heap.size, 0, none⟩ (.slice (some ⟨g1, 0, none⟩) L.length c1)) ⟨w.heap.size, 1, none⟩ (.slice none 0 0) T (by simp only; omega)).trans ((Below.heap_setCell (w5.setCell ⟨T, 1, none⟩ (.slice none 0 0)) ⟨w.heap.size, 0, none⟩ (.slice (some ⟨g1, 0, none⟩) L.length c1) T (by simp only; omega)).trans hT6)
          have hQ7 := heap_setCell_same _ w.heap.size 1 _ _ (.slice none 0 0) (heap_setCell_same (w5.setCell ⟨T, 1, none⟩ (.slice none 0 0)) w.heap.size 0 _ _ (.slice (some ⟨g1, 0, none⟩) L.length c1) hQ6)
          have hc70 : (((w5.setCell ⟨T, 1, none⟩ (.slice none 0 0)).setCell ⟨w.heap.size, 0, none⟩ (.slice (some ⟨g1, 0, none⟩) L.length c1)).setCell ⟨w.heap.size, 1, none⟩ (.slice none 0 0)).cell? ⟨T, 0, none⟩ = some (.slice (some ⟨g1, 0, none⟩) L.length c1) := by simp [World.cell?, hT7]
          have hc71 : (((w5.setCell ⟨T, 1, none⟩ (.slice none 0 0)).setCell ⟨w.heap.size, 0, none⟩ (.slice (some ⟨g1, 0, none⟩) L.length c1)).setCell ⟨w.heap.size, 1, none⟩ (.slice none 0 0)).cell? ⟨T, 1, none⟩ = some (.slice none 0 0) := by simp [World.cell?, hT7]
          have hf70 : (((w5.setCell ⟨T, 1, none⟩ (.slice none 0 0)).setCell ⟨w.heap.size, 0, none⟩ (.slice (some ⟨g1, 0, none⟩) L.length c1)).setCell ⟨w.heap.size, 1, none⟩ (.slice none 0 0)).frozen? ⟨w.heap.size, 0, none⟩ = false := by simp [World.frozen?, hQ7]
          have hf71 : (((w5.setCell ⟨T, 1, none⟩ (.slice none 0 0)).setCell ⟨w.heap.size, 0, none⟩ (.slice (some ⟨g1, 0, none⟩) L.length c1)).setCell ⟨w.heap.size, 1, none⟩ (.slice none 0 0)).frozen? ⟨w.heap.size, 1, none⟩ = false := by simp [World.frozen?, hQ7]
          first
            | (go_region_law (fail))
            | fail
          all_goals (
          go_wp2_with fail
          have hq70 : (((w5.setCell ⟨T, 1, none⟩ (.slice none 0 0)).setCell ⟨w.heap.size, 0, none⟩ (.slice (some ⟨g1, 0, none⟩) L.length c1)).setCell ⟨w.heap.size, 1, none⟩ (.slice none 0 0)).drew.cell? ⟨w.heap.size, 0, none⟩ = some (.slice (some ⟨g1, 0, none⟩) L.length c1) := show (((w5.setCell ⟨T, 1, none⟩ (.slice none 0 0)).setCell ⟨w.heap.size, 0, none⟩ (.slice (some ⟨g1, 0, none⟩) L.length c1)).setCell ⟨w.heap.size, 1, none⟩ (.slice none 0 0)).cell? _ = _ by simp [World.cell?, hQ7]
          have hq71 : (((w5.setCell ⟨T, 1, none⟩ (.slice none 0 0)).setCell ⟨w.heap.size, 0, none⟩ (.slice (some ⟨g1, 0, none⟩) L.length c1)).setCell ⟨w.heap.size, 1, none⟩ (.slice none 0 0)).drew.cell? ⟨w.heap.size, 1, none⟩ = some (.slice none 0 0) := show (((w5.setCell ⟨T, 1, none⟩ (.slice none 0 0)).setCell ⟨w.heap.size, 0, none⟩ (.slice (some ⟨g1, 0, none⟩) L.length c1)).setCell ⟨w.heap.size, 1, none⟩ (.slice none 0 0)).cell? _ = _ by simp [World.cell?, hQ7]
          have hB7 : Below w.heap.size w (((w5.setCell ⟨T, 1, none⟩ (.slice none 0 0)).setCell ⟨w.heap.size, 0, none⟩ (.slice (some ⟨g1, 0, none⟩) L.length c1)).setCell ⟨w.heap.size, 1, none⟩ (.slice none 0 0)).drew := (((HB5.out.setCell (by show w.heap.size ≤ T; omega) _).setCell (Nat.le_refl w.heap.size) _).setCell (Nat.le_refl w.heap.size) _).drew
          have hkp : ∀ b, b ≠ T → b ≠ w.heap.size → (((w5.setCell ⟨T, 1, none⟩ (.slice none 0 0)).setCell ⟨w.heap.size, 0, none⟩ (.slice (some ⟨g1, 0, none⟩) L.length c1)).setCell ⟨w.heap.size, 1, none⟩ (.slice none 0 0)).drew.heap[b]? = w5.heap[b]? := fun b h1 h2 => by
            show (((w5.setCell ⟨T, 1, none⟩ (.slice none 0 0)).setCell ⟨w.heap.size, 0, none⟩ (.slice (some ⟨g1, 0, none⟩) L.length c1)).setCell ⟨w.heap.size, 1, none⟩ (.slice none 0 0)).heap[b]? = _
            rw [Below.heap_setCell _ _ _ _ (by simp only; omega), Below.heap_setCell _ _ _ _ (by simp only; omega), Below.heap_setCell _ _ _ _ (by simp only; omega)]
          generalize (((w5.setCell ⟨T, 1, none⟩ (.slice none 0 0)).setCell ⟨w.heap.size, 0, none⟩ (.slice (some ⟨g1, 0, none⟩) L.length c1)).setCell ⟨w.heap.size, 1, none⟩ (.slice none 0 0)).drew = W at hq70 hq71 hB7 ⊢
          (try simp only [Exit.inBlock, Exit.then])
          refine bodyPost_ret (by simp [results, Tryz.results57, go_sem, hq70, hq71, Result.andThen]; try rfl) rfl ?_
          exact ⟨_, _, _, _, _, _, false, rfl, hB7, by simp⟩
          )
end Go.Proofs.YtlkdjdcnbcegeaaGreatDoor
