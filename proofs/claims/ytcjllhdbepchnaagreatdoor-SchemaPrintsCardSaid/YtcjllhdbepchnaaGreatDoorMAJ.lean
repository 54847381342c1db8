/-
  nat.Print: a number's text.
-/
import Derived.Test.YtcjllhdbepchnaaGreatDoorMAG
import Derived.Test.YtcjllhdbepchnaaGreatDoorMAH
import Derived.Test.YtcjllhdbepchnaaGreatDoorMAI
import Derived.Lib.OwnBridge
namespace Go.Proofs.YtcjllhdbepchnaaGreatDoor
open Go.RowKit Go.WideShapes
set_option linter.unusedVariables false
theorem toNat_ofNat {b : Nat} (h : b < 256) : (UInt8.ofNat b).toNat = b := by simp [UInt8.toNat_ofNat']; omega
theorem trim_nats : ∀ (bs : List Nat), (∀ b ∈ bs, b < 256) → ((Lib.trimLeftB (bs.map UInt8.ofNat) 0).map (·.toNat)) = bs.dropWhile (· == 0)
  | [], _ => rfl
  | b :: bs, h => by
    have hb := h b List.mem_cons_self
    have e : (UInt8.ofNat b == 0) = (b == 0) := by
      by_cases h0 : b = 0
      · subst h0; rfl
      · have h1 : UInt8.ofNat b ≠ 0 := fun e => h0 (by have := congrArg UInt8.toNat e; rw [toNat_ofNat hb] at this; exact this)
        rw [beq_eq_false_iff_ne.2 h1, beq_eq_false_iff_ne.2 h0]
    unfold Lib.trimLeftB
    rw [List.map_cons, List.dropWhile_cons, List.dropWhile_cons, e]
    split
    · exact trim_nats bs (fun x hx => h x (List.mem_cons_of_mem _ hx))
    · rw [List.map_cons, toNat_ofNat hb, List.map_map]
      congr 1
      have : ∀ x ∈ bs, ((fun (y : UInt8) => y.toNat) ∘ UInt8.ofNat) x = x := fun x hx => toNat_ofNat (h x (List.mem_cons_of_mem _ hx))
      rw [List.map_congr_left this, List.map_id']
set_option maxRecDepth 100000 in
set_option maxHeartbeats 1000000 in
theorem shortest_any (v : Value) (bs : List Nat) (B : Nat) (w : World) (h : RowAt w B v (u8s bs)) (hb : ∀ b ∈ bs, b < 256) :
    Calls Tryz.prog 182 #[v] w fun e w' => ∃ m : ByteArray, e = .returned (.string m) ∧ w' = w ∧ m.data.toList.map (·.toNat) = bs.dropWhile (· == 0) := by
  have hcv := run_string_row h
  have HT := Lib.hid (trim_nats bs hb)
  obtain ⟨A, c, rfl⟩ := h.len
  clear h
  go_enter Tryz.func182, Tryz.ntmps182
  go_wp2_with fail
  refine (Any.strings_TrimLeft_one lays161 (strOf bs) 0 (by decide) _).mono ?_
  rintro e w' ⟨rfl, rfl⟩
  go_wp2_with fail
  go_ret
  exact ⟨_, rfl, rfl, HT.out⟩
theorem magAt_row {w : World} {M c : Nat} {l : List Nat} (h : MagAt w M 0 l) (hc : l.length ≤ c) : RowAt w w.heap.size (.slice (some ⟨M, 0, none⟩) l.length c) (u8s l) := by
  refine ⟨_, c, by rw [u8s_len], by rw [u8s_len]; exact hc, fun _ => ⟨M, 0, rfl, h.lt, fun i u hu => ?_⟩⟩
  have hi : i < l.length := by have := (List.getElem?_eq_some_iff.1 hu).1; rwa [u8s_len] at this
  rw [h.cell hi, ← hu]
  simp [u8s, hi]
theorem own_holds {w : World} {B : Nat} {v : Value} {n : Nat} {zs : List Nat} (h : w.ownsRow B 5 1 v n (u8s zs)) (hp : 0 < zs.length) : ∃ g cap, v = .slice (some ⟨g, 0, none⟩) zs.length cap ∧ B ≤ g ∧ zs.length ≤ cap ∧ Sort.Holds (fun n : Nat => Value.int .u8 (n : Int)) w g 0 zs.toArray := by
  have hlen : (u8s zs).length = n := by have := h.1; omega
  rw [u8s_len] at hlen
  rcases h.2 with ⟨rfl, h0⟩ | ⟨g, cap, cur, rfl, hb, hg, hc, hm, hs, ht⟩
  · omega
  · refine ⟨g, cap, by rw [hlen], hb, by omega, fun j hj => ?_⟩
    have hj' : j < zs.length := by simpa using hj
    have e1 : (u8s zs)[j]? = some (.int .u8 (zs[j] : Nat)) := by simp [u8s, hj']
    rw [← ht, List.getElem?_take] at e1
    have hjn : j < n * 1 := by omega
    rw [if_pos hjn] at e1
    refine ⟨?_, by simp [World.frozen?, hg]⟩
    simp only [World.cell?, hg, Option.isSome_none, Nat.zero_add]
    have e2 : zs.toArray[j]! = zs[j] := by simp [hj']
    rw [e2]
    simpa using e1
theorem putRow_row {w : World} {g cap : Nat} {zs : List Nat} (h : Sort.Holds (fun n : Nat => Value.int .u8 (n : Int)) w g 0 zs.toArray) (hc : zs.length ≤ cap) :
    RowAt (Sort.putRow (fun n : Nat => Value.int .u8 (n : Int)) w g 0 zs.reverse.toArray) (g + 1) (.slice (some ⟨g, 0, none⟩) zs.reverse.length cap) (u8s zs.reverse) := by
  have h2 := Sort.holds_putRow _ w g 0 _ zs.reverse.toArray h (by simp)
  refine ⟨_, cap, by rw [u8s_len], by rw [u8s_len, List.length_reverse]; exact hc, fun _ => ⟨g, 0, rfl, Nat.lt_succ_self _, fun i u hu => ?_⟩⟩
  have hi : i < zs.reverse.length := by have := (List.getElem?_eq_some_iff.1 hu).1; rwa [u8s_len] at this
  rw [(h2 i (by simpa using hi)).1, ← hu]
  have e2 : zs.reverse.toArray[i]! = zs.reverse[i] := by simp only [List.length_reverse] at hi; simp [hi]
  rw [e2]
  simp only [u8s, List.getElem?_map, List.getElem?_eq_getElem hi, Option.map_some]
theorem strip_idem (l : List Nat) : (l.dropWhile (· == 0)).dropWhile (· == 0) = l.dropWhile (· == 0) := by
  rcases strip_head l with h | ⟨b, r, h, hb⟩
  · rw [h]; rfl
  · rw [h, List.dropWhile_cons, if_neg (by simpa using hb)]
theorem own_keep {W W' : World} {n e size k : Nat} {v : Value} {xs : List Value} (h : W.ownsRow n e size v k xs) (hk : ∀ g, v.ownBlock = some g → W'.heap[g]? = W.heap[g]?) : W'.ownsRow n e size v k xs := by
  refine ⟨h.1, ?_⟩
  rcases h.2 with h0 | ⟨g, cap, cur, h1, h2, h3, h4⟩
  · exact .inl h0
  · exact .inr ⟨g, cap, cur, h1, h2, (hk g (by rw [h1]; rfl)).trans h3, h4⟩
theorem setCell_heap {w : World} {M o b : Nat} (v : Value) (h : b ≠ M) : (w.setCell ⟨M, o, none⟩ v).heap[b]? = w.heap[b]? := by
  simp [World.setCell, Array.getElem?_modify, Ne.symm h]
set_option maxRecDepth 100000 in
set_option maxHeartbeats 2000000 in
theorem natPrint_ok (b : Bool) (m : ByteArray) (w : World) (hm : m.size ≤ 255) (hp : 0 < m.size) (hw : numWhy b m = 0) :
    Calls Tryz.prog 162 #[.agg #[.bool b, .string m]] w (fun e w' => e = .returned (.tuple #[.string (txt (numText b m)), .int .i64 0]) ∧ Below w.heap.size w w') := by
  have HB := Lib.hid ((Below.refl w.heap.size w).alloc (Nat.le_refl _) (.cells #[.bool b, .string m] 27))
  have HC := Lib.hid (fun w => natCheck_any b m w (by unfold maxLen; omega))
  rw [hw] at HC
  obtain ⟨xh, xr, hxe, hx0⟩ := head_ok hm hp hw
  have HZ : Hid ((m.data.toList.map (·.toNat)).dropWhile (· == 0) = m.data.toList.map (·.toNat)) := Lib.hid (by rw [hxe, List.dropWhile_cons, if_neg (by simpa using hx0)])
  have HP0 : Hid (valF 0 (m.data.toList.map (·.toNat)) ≠ 0) := Lib.hid (by rw [hxe]; exact Nat.ne_of_gt (valF_pos hx0))
  have HDn : Hid ((Lib.decDigits (valF 0 (m.data.toList.map (·.toNat)))).length ≤ 799) := Lib.hid (digits_bound hm)
  have hne := toList_ne hp
  clear hw hxe hx0
  have hcv := fun w s => Lib.run_convert_string_bytes (P := Tryz.prog) w 9 153 5 s Tryz.underlying9 Tryz.underlying153 Tryz.underlying5
  go_enter Tryz.func162, Tryz.ntmps162
  go_wp2_with fail
  refine (HC.out _).mono ?_
  rintro e w2 ⟨rfl, hb2⟩
  have HB2 := Lib.hid (HB.out.trans (hb2.mono HB.out.size))
  have g0 := (hb2.cell (p := ⟨w.heap.size, 0, none⟩) (by simp)).trans (show _ = some (.bool b) from by have h := World.alloc_heap_new w (.cells #[.bool b, .string m] 27); simp only [World.cell?, h]; rfl)
  have g1 := (hb2.cell (p := ⟨w.heap.size, 1, none⟩) (by simp)).trans (show _ = some (.string m) from by have h := World.alloc_heap_new w (.cells #[.bool b, .string m] 27); simp only [World.cell?, h]; rfl)
  have hsz := hb2.size
  simp at hsz
  clear hb2 HB
  have hTl : w.heap.size < w2.heap.size := by omega
  clear hsz
  generalize hT : w.heap.size = T at g0 g1 hTl ⊢
  have HT := Lib.hid hT
  clear hT
  go_wp2_with fail
  have HM : Hid (MagAt (Lib.bytesWorld w2 5 m) w2.heap.size 0 (m.data.toList.map (·.toNat))) := Lib.hid (magAt_bytes w2 m)
  have HBw : Hid (Below w.heap.size w (Lib.bytesWorld w2 5 m)) := Lib.hid (HB2.out.trans ((Lib.bytesWorld_below w2 _ m).mono HB2.out.size))
  have hTw : (Lib.bytesWorld w2 5 m).cell? ⟨T, 0, none⟩ = some (.bool b) := (Lib.bytesWorld_old w2 _ m ⟨T, 0, none⟩ hTl).trans g0
  have hcw : m.size ≤ grownCap w2 m.size 0 5 := grownCap_ge w2 m.size 0 _
  have hsw := Lib.bytesWorld_size w2 5 m
  generalize hW : Lib.bytesWorld w2 5 m = W at HM HBw hTw hsw ⊢
  generalize hG : grownCap w2 m.size 0 5 = G at hcw ⊢
  clear hW hG g0 g1 HB2
  generalize hMM : w2.heap.size = NB at HM hTl hsw ⊢
  clear hMM
  have hlb : w.heap.size ≤ NB := by rw [HT.out]; exact Nat.le_of_lt hTl
  go_loopw [5, 6, 7, 8] (fun v5 v6 _ _ wr => ∃ (l : List Nat) (A : Option Addr) (c : Nat) (back : List Nat) (vb : Value), vb = v5 ∧ v6 = .slice A l.length c ∧ l.length ≤ c ∧ l.length ≤ 255 ∧ back.length ≤ 800 ∧
      Hid (l ≠ [] → ∃ M, A = some ⟨M, 0, none⟩ ∧ NB ≤ M ∧ vb.ownBlock ≠ some M ∧ MagAt wr M 0 l) ∧ Hid (∀ x ∈ l, x < 256) ∧ Hid (l.dropWhile (· == 0) = l) ∧ wr.ownsRow NB 5 1 vb back.length (u8s back) ∧
      Hid (ToldD (valF 0 (m.data.toList.map (·.toNat))) (valF 0 l) (back.map UInt8.ofNat)) ∧ Hid (Below w.heap.size w wr) ∧ Hid (NB < wr.heap.size) ∧ wr.cell? ⟨T, 0, none⟩ = some (.bool b)) (fun v5 _ _ _ _ => 900 - sLen v5)
  case atStart =>
    refine ⟨m.data.toList.map (·.toNat), _, G, [], _, rfl, by simp, by simpa using hcw, by simpa using hm, by simp, Lib.hid (fun _ => ⟨NB, rfl, Nat.le_refl _, by simp [Value.ownBlock], HM.out⟩), Lib.hid (by intro x hx; obtain ⟨y, _, rfl⟩ := List.mem_map.1 hx; exact y.toNat_lt), HZ, World.ownsRow_nil _ _ _ _, Lib.hid (ToldD.start HP0.out), HBw, Lib.hid (by omega), hTw⟩
  case round =>
    obtain ⟨l, A, c, back, vb, rfl, rfl, hlc, hl, hbk, HL, HU, HD, hown, HTo, HB, HMl, hT2⟩ := hrel
    by_cases hlt : 0 < l.length
    · obtain ⟨M, rfl, hMB, hMo, HMg⟩ := HL.out (by intro e; rw [e] at hlt; exact Nat.lt_irrefl _ hlt)
      clear HL
      have HMg := Lib.hid HMg
      have HMo := Lib.hid hMo
      clear hMo
      go_wp2_with fail
      go_loopw [7, 25] (fun v7 v25 wi => ∃ k : Nat, k ≤ l.length ∧ v25 = .int .i64 k ∧ v7 = .int .i64 (divR 0 (l.take k) : Nat) ∧ Hid (MagAt wi M 0 (divQ 0 (l.take k) ++ l.drop k)) ∧
          wi.ownsRow NB 5 1 vb back.length (u8s back) ∧ Hid (Below w.heap.size w wi) ∧ Hid (NB < wi.heap.size) ∧ wi.cell? ⟨T, 0, none⟩ = some (.bool b)) (fun _ v25 _ => l.length - (intOf v25).toNat)
      case atStart => exact ⟨0, by omega, rfl, rfl, by simpa [divQ] using HMg, hown, HB, HMl, hT2⟩
      case round =>
        clear HB HMl hT2 hown HMg
        obtain ⟨k, hk, rfl, rfl, HMg, hown, HB, HMl, hT2⟩ := hrel
        by_cases hkl : k < l.length
        · obtain ⟨hk2, hge⟩ := div_get hkl
          have gc := HMg.out.cell hk2
          have gf := HMg.out.free hk2
          rw [hge, Nat.zero_add] at gc
          rw [Nat.zero_add] at gf
          have hr10 := divR_lt (l.take k) 0 (by omega)
          have hb256 := HU.out l[k] (List.getElem_mem hkl)
          clear hge
          have HX := Lib.hid (HMg.out.set hk2 ((256 * divR 0 (l.take k) + l[k]) / 10))
          rw [← div_step hkl, Nat.zero_add] at HX
          have HE := Lib.hid (show (((divR 0 (l.take k) : Int) * 256 + (l[k] : Int)) / 10) = (((256 * divR 0 (l.take k) + l[k]) / 10 : Nat) : Int) by omega)
          have HE2 := Lib.hid (show (((divR 0 (l.take k) : Int) * 256 + (l[k] : Int)) % 10) = ((divR 0 (l.take (k + 1)) : Nat) : Int) by rw [take_snoc hkl, divR_snoc]; omega)
          go_wp2_with fail
          refine ⟨⟨k + 1, by omega, congrArg (Value.int .i64) (by omega), congrArg (Value.int .i64) HE2.out, ?_, own_keep hown (fun g e => setCell_heap _ (fun e2 => HMo.out (by rw [e, e2]))), Lib.hid (HB.out.setCell (by show w.heap.size ≤ M; omega) _), Lib.hid ?_, ?_⟩, by simp [intOf]; omega⟩
          · rw [HE.out]; exact HX
          · rw [World.setCell, Array.size_modify]; exact HMl.out
          · rw [World.cell?_setCell_far _ _ _ _ (by show M ≠ T; omega)]; exact hT2
        · obtain rfl : k = l.length := by omega
          have hr10 := divR_lt l 0 (by omega)
          obtain ⟨i0, hi, hz0, hz1, hz2⟩ := info_parts u8_info
          rw [List.take_length, List.drop_length, List.append_nil] at HMg
          rw [List.take_length]
          have hcn := cells_new wr #[.int .u8 (48 + (divR 0 l : Int))] 5
          have hMl := HMg.out.lt
          have hNl := HMl.out
          go_upto_region 18 with (first
            | (at_builtin; refine wpList_append_own _ rfl _ _ 153 rfl NB 5 i0 (.int .u8 0) 1 1 Tryz.underlying153 hi hz0 hz1 hz2 rfl (by decide) _ _ _ rfl (hown.alloc _) _ _ _ [.int .u8 (48 + (divR 0 l : Int))] rfl (by simp) hcn (by simp [Value.oneCell']) (by unfold maxLen; omega) (by omega) (by simp; omega) ?_; intro v' w1 hown' hgrow _))
          have hrow : ∀ g, vb.ownBlock = some g → NB ≤ g := fun g e => (hown.lt g e).1
          have hM1 : w1.heap[M]? = wr.heap[M]? := by
            rw [hgrow.5 M (by simp; omega) (by intro e; exact HMo.out (by first | exact e | exact e.symm)), Below.heap_alloc _ _ _ hMl]
          have hT1 : w1.heap[T]? = wr.heap[T]? := by
            rw [hgrow.5 T (by simp; omega) (by intro e; have := hrow T (by first | exact e | exact e.symm); omega), Below.heap_alloc _ _ _ (by omega)]
          have HMg1 := Lib.hid (HMg.out.same hM1)
          have hT3 := (World.cell?_of_block (w := wr) (w' := w1) (a := ⟨T, 0, none⟩) hT1).trans hT2
          have HB1 := Lib.hid ((HB.out.alloc (by omega) (.cells #[.int .u8 (48 + (divR 0 l : Int))] 5)).grown hgrow (by simp; omega) (fun k e => by have := hrow k e; omega))
          have hN1 : NB < w1.heap.size := by
            have := HMg1.out.lt
            omega
          have HS := Lib.hid (shortest_any _ _ _ w1 (magAt_row HMg1.out (c := c) (by rw [divQ_len]; exact hlc)) (divQ_byte l 0 (by omega) HU.out))
          rw [divQ_len] at HS
          have hs0 := own_sLen hown
          have hs1 := own_sLen hown'
          clear hT2 HB HMl HMg hown hcn hM1 hT1 hrow hgrow HMg1
          go_wp2_with fail
          refine HS.out.mono ?_
          rintro e w4 ⟨m', rfl, rfl, hm'⟩
          have hl' : m'.size ≤ l.length := by
            have h1 : (m'.data.toList.map (·.toNat)).length = m'.size := by simp
            rw [← h1, hm']
            have h2 := (List.dropWhile_sublist (l := divQ 0 l) (fun x => x == 0)).length_le
            rw [divQ_len] at h2
            exact h2
          have HNX := Lib.hid (told_next (l' := m'.data.toList.map (·.toNat)) hlt HD.out (by rw [hm']; exact strip_idem _) HTo.out)
          have hbl := told_len HNX.out
          rw [List.length_map, List.length_append, List.length_singleton] at hbl
          have hdn := HDn.out
          have HIdem := Lib.hid (show (m'.data.toList.map (·.toNat)).dropWhile (· == 0) = m'.data.toList.map (·.toNat) by rw [hm']; exact strip_idem _)
          have HU' : Hid (∀ x ∈ m'.data.toList.map (·.toNat), x < 256) := Lib.hid (by intro x hx; obtain ⟨y, _, rfl⟩ := List.mem_map.1 hx; exact y.toNat_lt)
          have hcw' : m'.size ≤ grownCap w4 m'.size 0 5 := grownCap_ge w4 m'.size 0 _
          have HMn := Lib.hid (magAt_bytes w4 m')
          have HBn := Lib.hid (HB1.out.trans ((Lib.bytesWorld_below w4 5 m').mono HB1.out.size))
          have hTn : (Lib.bytesWorld w4 5 m').cell? ⟨T, 0, none⟩ = some (.bool b) := (Lib.bytesWorld_old w4 _ m' ⟨T, 0, none⟩ (by show T < _; omega)).trans hT3
          have hownN := own_keep hown' (W' := Lib.bytesWorld w4 5 m') (fun g e => Lib.bytesWorld_at_old w4 _ m' g (hown'.lt g e).2)
          have hlt' : ∀ g, v'.ownBlock = some g → g < w4.heap.size := fun g e => (hown'.lt g e).2
          have HLT := Lib.hid hlt'
          have hsN := Lib.bytesWorld_size w4 5 m'
          have hlen : (m'.data.toList.map (·.toNat)).length = m'.size := by simp
          have HLen := Lib.hid hlen
          clear hm' hlt' hlen hT3 HB1 hown'
          go_wp2_with fail
          refine ⟨⟨m'.data.toList.map (·.toNat), _, _, back ++ [48 + divR 0 l], _, rfl, by rw [HLen.out], by rw [HLen.out]; exact hcw', by rw [HLen.out]; omega, by rw [List.length_append, List.length_singleton]; omega, Lib.hid (fun _ => ⟨w4.heap.size, rfl, by omega, fun e => by have := HLT.out _ e; omega, HMn.out⟩), HU', HIdem, by simpa [u8s] using hownN, HNX, HBn, Lib.hid (by omega), hTn⟩, by omega⟩
    · have h0 : l = [] := List.length_eq_zero_iff.1 (by omega)
      subst h0
      have HTe := Lib.hid HTo.out.end
      clear HTo HL HU HD
      have hHB := HB.out.size
      have hML := HMl.out
      obtain ⟨i0, hi, hz0, hz1, hz2⟩ := info_parts u8_info
      have HFin := Lib.hid (numText_told (b := b) hp HTe.out)
      obtain ⟨W0, hW0⟩ : ∃ W0 : World, W0 = wr := ⟨_, rfl⟩
      subst hW0
      go_upto_if 55 with fail
      go_cut [5] (fun s5 wx => wx.ownsRow NB 5 1 s5 (back.length + (sgnl b).length) (u8s (back ++ sgnl b)) ∧ Hid (Below w.heap.size w wx))
      case first =>
        cases b with
        | true =>
          have hcn := cells_new W0 #[.int .u8 45] 5
          go_wp2_with (first
            | (at_builtin; refine wpList_append_own _ rfl _ _ 153 rfl NB 5 i0 (.int .u8 0) 1 1 Tryz.underlying153 hi hz0 hz1 hz2 rfl (by decide) _ _ _ rfl (hown.alloc _) _ _ _ [.int .u8 45] rfl (by simp) hcn (by simp [Value.oneCell']) (by unfold maxLen; omega) (by omega) (by simp; omega) ?_; intro v' w1 hown' hgrow _))
          go_meet
          exact ⟨by simpa [u8s, sgnl] using hown', Lib.hid ((HB.out.alloc hHB _).grown hgrow (by simp; omega) (fun k e => by have := row_ge hown e; omega))⟩
        | false =>
          go_wp2_with fail
          go_meet
          exact ⟨by simpa [sgnl] using hown, HB⟩
      case rest =>
        obtain ⟨hs, HBs⟩ := hcut
        have hpos : 0 < back.length := by
          have h1 := Lib.nDigits_pos (valF 0 (m.data.toList.map (·.toNat)))
          rw [← Lib.decDigits_length, ← HTe.out] at h1
          simp at h1
          omega
        have hsl := sgnl_len b
        obtain ⟨g, cap, hv5, hgB, hcap, hH⟩ := own_holds hs (by rw [List.length_append]; omega)
        subst hv5
        have HR := Lib.hid (AnyE.slices_Reverse lays35 (fun n : Nat => Value.int .u8 (n : Int)) (fun x => by rfl) g 0 cap (back ++ sgnl b) wc hH (by rw [List.length_append]; omega))
        rw [List.length_append] at HR
        have hH' := Lib.hid hH
        have HBs' := Lib.hid (fun n => Go.Lib.below_putRow (enc := fun n : Nat => Value.int .u8 (n : Int)) (q := n) (d := (back ++ sgnl b).reverse.toArray) HBs.out (show w.heap.size ≤ g by omega))
        clear hs hH
        go_wp2_with fail
        refine HR.out.mono ?_
        rintro e w9 ⟨rfl, q, rfl⟩
        have hrow9 := putRow_row (cap := cap) (Sort.holds_ahead _ _ q _ _ _ hH'.out) hcap
        have hcv9 := run_string_row hrow9
        rw [List.length_reverse, List.length_append] at hcv9
        have HF9 := Lib.hid (show strOf ((sgnl b).reverse ++ back.reverse) = txt (numText b m) by
          rw [← HFin.out]
          cases b <;> rfl)
        have HB9 := Lib.hid (HBs'.out q)
        clear hrow9 HBs' hH'
        generalize hW9 : Sort.putRow (fun n : Nat => Value.int .u8 (n : Int)) (Sort.ahead wc q) g 0 (back ++ sgnl b).reverse.toArray = W9 at hcv9 HB9 ⊢
        clear hW9
        go_wp2_with fail
        go_ret2
        refine ⟨?_, HB9.out⟩
        rw [HF9.out]
        rfl
set_option maxRecDepth 100000 in
set_option maxHeartbeats 1000000 in
theorem natPrint_zero (w : World) :
    Calls Tryz.prog 162 #[.agg #[.bool false, .string ⟨#[]⟩]] w (fun e w' => e = .returned (.tuple #[.string ⟨#[48]⟩, .int .i64 0]) ∧ Below w.heap.size w w') := by
  have HB := Lib.hid ((Below.refl w.heap.size w).alloc (Nat.le_refl _) (.cells #[.bool false, .string ⟨#[]⟩] 27))
  have HC := Lib.hid (fun w => natCheck_any false ⟨#[]⟩ w (by unfold maxLen; decide))
  rw [numWhy_nil] at HC
  go_enter Tryz.func162, Tryz.ntmps162
  go_wp2_with fail
  refine (HC.out _).mono ?_
  rintro e w2 ⟨rfl, hb2⟩
  have HB2 := Lib.hid (HB.out.trans (hb2.mono HB.out.size))
  have g0 := (hb2.cell (p := ⟨w.heap.size, 0, none⟩) (by simp)).trans (show _ = some (.bool false) from by have h := World.alloc_heap_new w (.cells #[.bool false, .string ⟨#[]⟩] 27); simp only [World.cell?, h]; rfl)
  have g1 := (hb2.cell (p := ⟨w.heap.size, 1, none⟩) (by simp)).trans (show _ = some (.string ⟨#[]⟩) from by have h := World.alloc_heap_new w (.cells #[.bool false, .string ⟨#[]⟩] 27); simp only [World.cell?, h]; rfl)
  clear hb2
  go_wp2_with fail
  go_ret2
  exact ⟨rfl, HB2.out⟩
set_option maxRecDepth 100000 in
set_option maxHeartbeats 1000000 in
theorem refPrint_zero (w : World) :
    Calls Tryz.prog 114 #[.agg #[.bool false, .string ⟨#[]⟩]] w (fun e w' => e = .returned (.tuple #[.string ⟨#[48]⟩, .int .i64 0]) ∧ Below w.heap.size w w') := by
  have HB := Lib.hid ((Below.refl w.heap.size w).alloc (Nat.le_refl _) (.cells #[.bool false, .string ⟨#[]⟩] 27))
  have HC := Lib.hid (fun w => refNatCheck_any false ⟨#[]⟩ w (by unfold maxLen; decide))
  rw [numWhy_nil] at HC
  go_enter Tryz.func114, Tryz.ntmps114
  go_wp2_with fail
  refine (HC.out _).mono ?_
  rintro e w2 ⟨rfl, hb2⟩
  have HB2 := Lib.hid (HB.out.trans (hb2.mono HB.out.size))
  have g0 := (hb2.cell (p := ⟨w.heap.size, 0, none⟩) (by simp)).trans (show _ = some (.bool false) from by have h := World.alloc_heap_new w (.cells #[.bool false, .string ⟨#[]⟩] 27); simp only [World.cell?, h]; rfl)
  have g1 := (hb2.cell (p := ⟨w.heap.size, 1, none⟩) (by simp)).trans (show _ = some (.string ⟨#[]⟩) from by have h := World.alloc_heap_new w (.cells #[.bool false, .string ⟨#[]⟩] 27); simp only [World.cell?, h]; rfl)
  clear hb2
  go_wp2_with fail
  go_ret2
  exact ⟨rfl, HB2.out⟩
theorem num_cases {b : Bool} {m : ByteArray} (hw : numWhy b m = 0) : m.size ≤ 255 ∧ (0 < m.size ∨ (b = false ∧ m = ⟨#[]⟩)) := by
  have h1 : m.size ≤ 255 := by
    rcases Nat.lt_or_ge 255 m.size with h | h
    · rw [numWhy_long h] at hw; cases hw
    · exact h
  refine ⟨h1, ?_⟩
  rcases Nat.eq_zero_or_pos m.size with h | h
  · have := ba_nil h
    subst this
    rw [numWhy_nil] at hw
    cases b with
    | true => cases hw
    | false => exact .inr ⟨rfl, rfl⟩
  · exact .inl h
theorem numText_zero : txt (numText false ⟨#[]⟩) = ⟨#[48]⟩ := rfl
/-- A number that may be, printed by the program. -/
theorem natPrint_any (b : Bool) (m : ByteArray) (w : World) (hw : numWhy b m = 0) :
    Calls Tryz.prog 162 #[.agg #[.bool b, .string m]] w (Ret (.tuple #[.string (txt (numText b m)), .int .i64 0]) w) := by
  obtain ⟨h1, h2 | ⟨rfl, rfl⟩⟩ := num_cases hw
  · exact natPrint_ok b m w h1 h2 hw
  · rw [numText_zero]; exact natPrint_zero w
/-- .. and by the document. -/
theorem refPrint_any (b : Bool) (m : ByteArray) (w : World) (hw : numWhy b m = 0) :
    Calls Tryz.prog 114 #[.agg #[.bool b, .string m]] w (Ret (.tuple #[.string (txt (numText b m)), .int .i64 0]) w) := by
  obtain ⟨h1, h2 | ⟨rfl, rfl⟩⟩ := num_cases hw
  · exact refPrint_ok b m w h1 h2 hw
  · rw [numText_zero]; exact refPrint_zero w
end Go.Proofs.YtcjllhdbepchnaaGreatDoor
