/-
  The law SpanMeets, walked.
-/
import Derived.Test.YtemippnhpejbkaaGreatDoorKG
import Derived.Deep.RegionHeld3
import Derived.Deep.DeepCutAuto
namespace Go.Proofs.YtemippnhpejbkaaGreatDoor
open Go.RowKit Go.WideShapes
set_option linter.unusedVariables false
def addF (n k : Int) : Int := if 16777216 < n then 16777217 else if 16777216 < k then 16777217 else n + k
theorem addF_nn {n k : Int} (hn : 0 ≤ n) (hk : 0 ≤ k) : 0 ≤ addF n k ∧ (addF n k ≤ 16777216 → n ≤ addF n k ∧ k ≤ addF n k) ∧ addF n k ≤ 33554432 := by
  unfold addF; split
  · omega
  · split <;> omega
set_option maxHeartbeats 1000000 in
theorem add_any (n k : Int) (w : World) (hn : 0 ≤ n) (hk : 0 ≤ k) : Calls Tryz.prog 4 #[.int .i64 n, .int .i64 k] w fun e w' => e = .returned (.int .i64 (addF n k)) ∧ w' = w := by
  by_cases h1 : 16777216 < n
  · have HF := Lib.hid (show addF n k = 16777217 by simp [addF, h1])
    go_enter Tryz.func4, Tryz.ntmps4
    go_wp2_with fail
    go_ret
    exact ⟨ret_int2 HF.out.symm, rfl⟩
  · by_cases h2 : 16777216 < k
    · have HF := Lib.hid (show addF n k = 16777217 by simp [addF, h1, h2])
      go_enter Tryz.func4, Tryz.ntmps4
      go_wp2_with fail
      go_ret
      exact ⟨ret_int2 HF.out.symm, rfl⟩
    · have HF := Lib.hid (show addF n k = n + k by simp [addF, h1, h2])
      have b1 : n ≤ 16777216 := by omega
      have b2 : k ≤ 16777216 := by omega
      clear h1 h2
      go_enter Tryz.func4, Tryz.ntmps4
      go_wp2_with fail
      go_ret
      exact ⟨ret_int2 HF.out.symm, rfl⟩
/-- A span's box. -/
def SpBox (W : World) (b : Nat) (a : Sp) : Prop := W.heap[b]? = some (.cells #[.string a.from_, .string a.to, .bool a.open_] 23 (0, 0))
theorem SpBox.cells {W : World} {b : Nat} {a : Sp} (h : SpBox W b a) : W.cell? ⟨b, 0, none⟩ = some (.string a.from_) ∧ W.cell? ⟨b, 1, none⟩ = some (.string a.to) ∧ W.cell? ⟨b, 2, none⟩ = some (.bool a.open_) := by simp [World.cell?, show W.heap[b]? = _ from h]
theorem SpBox.lt {W : World} {b : Nat} {a : Sp} (h : SpBox W b a) : b < W.heap.size := (Array.getElem?_eq_some_iff.1 h).1
theorem SpBox.below {W W' : World} {b : Nat} {a : Sp} (h : SpBox W b a) (hb : Below W.heap.size W W') : SpBox W' b a := (hb.block _ h.lt).trans h
theorem SpBox.drewN {W : World} {b : Nat} {a : Sp} (h : SpBox W b a) (n : Nat) : SpBox (W.drewN n) b a := h.below (drewN_below (Below.refl _ _) n)
theorem SpBox.new (W : World) (a : Sp) : SpBox (W.alloc (.cells #[.string a.from_, .string a.to, .bool a.open_] 23)) W.heap.size a := World.alloc_heap_new W _
def strs (l : List ByteArray) : List Value := l.map .string
theorem strs_len (l : List ByteArray) : (strs l).length = l.length := by simp [strs]
set_option maxRecDepth 100000 in
set_option maxHeartbeats 4000000 in
theorem law_any {w : World} (h : laidMetH Tryz.prog Rows.spanMeetsRow.laid w) (af at_ bf bt : ByteArray) (ao bo : Bool) (A : Option Addr) (c : Nat) (ks : List ByteArray) (hv : RowAt w w.heap.size (.slice A ks.length c) (strs ks)) (hks : ks.length ≤ 140737488351232) (hkz : ∀ k ∈ ks, k.size ≤ 140737488351232)
    (s1 : af.size ≤ 140737488351232) (s2 : at_.size ≤ 140737488351232) (s3 : bf.size ≤ 140737488351232) (s4 : bt.size ≤ 140737488351232) :
    Calls Tryz.prog 3 #[spV ⟨af, at_, ao⟩, spV ⟨bf, bt, bo⟩, .slice A ks.length c] w (Ret (.bool true) w) := by
  have HL := Lib.hid h
  have HV := Lib.hid hv
  have HKZ := Lib.hid hkz
  have HBa := Lib.hid (SpBox.new w ⟨af, at_, ao⟩)
  have HBb := Lib.hid (SpBox.new (w.alloc (.cells #[.string af, .string at_, .bool ao] 23)) ⟨bf, bt, bo⟩)
  obtain ⟨p1, p2, p3⟩ := addF_nn (n := (af.size : Int)) (k := (at_.size : Int)) (by omega) (by omega)
  obtain ⟨q1, q2, q3⟩ := addF_nn (n := (bf.size : Int)) (k := (bt.size : Int)) (by omega) (by omega)
  obtain ⟨r1, r2, r3⟩ := addF_nn p1 q1
  have HN0 := Lib.hid (show addF (addF af.size at_.size) (addF bf.size bt.size) ≤ 16777216 → (af.size : Int) ≤ addF (addF af.size at_.size) (addF bf.size bt.size) ∧ (bt.size : Int) ≤ addF (addF af.size at_.size) (addF bf.size bt.size) by omega)
  clear h hv hkz p2 p3 q2 q3 r2
  unfold spV
  go_enter Tryz.func3, Tryz.ntmps3
  go_wp2_with fail
  go_quiet ((go_at_call 4; exact Calls.quiet_of_same (add_any _ _ _ (by omega) (by omega))))
  have HB0 := Lib.hid (show Below w.heap.size w ((w.alloc (.cells #[.string af, .string at_, .bool ao] 23)).alloc (.cells #[.string bf, .string bt, .bool bo] 23)) from below_more (below_more (Below.refl _ _) (Nat.le_refl _) _) (by simp) _)
  have HBa0 := Lib.hid (HBa.out.below (below_b1 _ (.cells #[.string bf, .string bt, .bool bo] 23)))
  have hsz0 : ((w.alloc (.cells #[.string af, .string at_, .bool ao] 23)).alloc (.cells #[.string bf, .string bt, .bool bo] 23)).heap.size = w.heap.size + 2 := by simp
  have HBb0 := Lib.hid (show SpBox ((w.alloc (.cells #[.string af, .string at_, .bool ao] 23)).alloc (.cells #[.string bf, .string bt, .bool bo] 23)) (w.heap.size + 1) ⟨bf, bt, bo⟩ by have h9 := HBb.out; simpa using h9)
  clear HBa HBb
  generalize hW0 : (w.alloc (.cells #[.string af, .string at_, .bool ao] 23)).alloc (.cells #[.string bf, .string bt, .bool bo] 23) = W0 at HB0 HBa0 HBb0 hsz0 ⊢
  clear hW0
  generalize hn0 : addF (addF af.size at_.size) (addF bf.size bt.size) = n0 at HN0 r1 r3 ⊢
  clear hn0 p1 q1
  have HW := Lib.hid (drewN_below HB0.out nq)
  have HWa := Lib.hid (HBa0.out.drewN nq)
  have HWb := Lib.hid (HBb0.out.drewN nq)
  have hszW : (W0.drewN nq).heap.size = w.heap.size + 2 := hsz0
  generalize hW1 : W0.drewN nq = W1 at HW HWa HWb hszW ⊢
  clear hW1 HB0 HBa0 HBb0 hsz0
  go_wp2_with fail
  go_loop [7, 8] (fun s7 s8 => ∃ (k : Nat) (n : Int), s7 = .int .i64 n ∧ s8 = .int .i64 k ∧ k ≤ ks.length ∧ 0 ≤ n ∧ n ≤ 33554432 ∧ Hid (n ≤ 16777216 → (af.size : Int) ≤ n ∧ (bt.size : Int) ≤ n)) (fun _ s8 => ks.length - (intOf s8).toNat)
  case atStart => exact ⟨0, n0, rfl, rfl, Nat.zero_le _, r1, r3, HN0⟩
  case round =>
    clear HN0 r1 r3
    obtain ⟨k, n, rfl, rfl, hk, hn0, hn1, HN⟩ := hrel
    by_cases hlt : k < ks.length
    · by_cases hn : n ≤ 16777216
      · obtain ⟨A', c', e9, _, hcell⟩ := HV.out
        rw [strs_len] at e9 hcell
        injection e9 with e9 _ e10
        subst e9
        subst e10
        obtain ⟨b, o, rfl, hbl, hcs⟩ := hcell (by omega)
        have g1 : W1.cell? ⟨b, o + k, none⟩ = some (.string ks[k]) := (HW.out.cell (p := ⟨b, o + k, none⟩) hbl).trans (hcs k _ (by simp [strs, hlt]))
        clear hcs hcell
        have hz := HKZ.out ks[k] (List.getElem_mem hlt)
        obtain ⟨p1, p2, p3⟩ := addF_nn (n := n) (k := 1 + (ks[k].size : Int)) (by omega) (by omega)
        have HN' := Lib.hid (show addF n (1 + (ks[k].size : Int)) ≤ 16777216 → (af.size : Int) ≤ addF n (1 + (ks[k].size : Int)) ∧ (bt.size : Int) ≤ addF n (1 + (ks[k].size : Int)) from fun h => by have := HN.out hn; have := p2 h; omega)
        clear p2
        go_wp2_with ((with_reducible refine (add_any _ _ _ (by omega) (by omega)).mono ?_); rintro e w' ⟨rfl, rfl⟩)
        go_round
        case rel => exact ⟨k + 1, _, rfl, by go_num, by omega, p1, p3, HN'⟩
        case measure => simp [intOf]; omega
      · have hn4 : (4194304 : Int) < n := by omega
        go_wp2_with fail
        go_ret
        exact ⟨rfl, HW.out⟩
    · obtain rfl : k = ks.length := by omega
      clear hlt hk
      by_cases hn4 : (4194304 : Int) < n
      · go_wp2_with fail
        go_ret
        exact ⟨rfl, HW.out⟩
      · have hsz := HN.out (by omega)
        have hnn : n ≤ 4194304 := by omega
        by_cases hk4 : (4194304 : Int) < (ks.length : Int)
        · go_wp2_with fail
          go_ret
          exact ⟨rfl, HW.out⟩
        · obtain ⟨x0, x1, x2⟩ := HWa.out.cells
          obtain ⟨y0, y1, y2⟩ := HWb.out.cells
          clear HN
          go_wp2_with fail
          refine (spanMeet_any ⟨af, at_, ao⟩ ⟨bf, bt, bo⟩ _).mono ?_
          rintro e w1 ⟨rfl, hb1⟩
          have hz1 := hb1.size
          obtain ⟨mf, mt, mo, hm⟩ : ∃ mf mt mo, Sp.meet ⟨af, at_, ao⟩ ⟨bf, bt, bo⟩ = ⟨mf, mt, mo⟩ := ⟨_, _, _, rfl⟩
          have HM := Lib.hid hm
          rw [hm]
          clear hm
          have HB1 := Lib.hid (HW.out.trans (hb1.mono (by omega)))
          have HA1 := Lib.hid (HWa.out.below hb1)
          have HC1 := Lib.hid (HWb.out.below hb1)
          clear hb1 x0 x1 x2 y0 y1 y2
          obtain ⟨x0, x1, x2⟩ := HA1.out.cells
          obtain ⟨y0, y1, y2⟩ := HC1.out.cells
          unfold spV
          have l1 : w.heap.size + 1 < w1.heap.size := by omega
          have l0 : w.heap.size < w1.heap.size := by omega
          go_wp2_with fail
          refine (spanMeet_any ⟨bf, bt, bo⟩ ⟨af, at_, ao⟩ _).mono ?_
          rintro e w2 ⟨rfl, hb2⟩
          have hz2 := hb2.size
          rw [World.size_alloc] at hz2
          rw [Sp.meet_comm, HM.out]
          have HB2 := Lib.hid (HB1.out.trans ((below_b1 w1 (.cells #[.string mf, .string mt, .bool mo] 23)).trans (hb2.mono (by simp)) |>.mono (by omega)))
          have HA2 := Lib.hid ((HA1.out.below (below_b1 _ _)).below hb2)
          have HC2 := Lib.hid ((HC1.out.below (below_b1 _ _)).below hb2)
          have HD2 := Lib.hid ((SpBox.new w1 ⟨mf, mt, mo⟩).below hb2)
          clear hb2 HB1 HA1 HC1 x0 x1 x2 y0 y1 y2 HWa HWb
          unfold spV
          obtain ⟨x0, x1, x2⟩ := HA2.out.cells
          obtain ⟨y0, y1, y2⟩ := HC2.out.cells
          obtain ⟨z0, z1, z2⟩ := HD2.out.cells
          have l2 : w.heap.size + 1 < w2.heap.size := by omega
          have l3 : w1.heap.size < w2.heap.size := by omega
          go_upto_region 10 with fail
          have HB3 := Lib.hid (HB2.out.trans ((below_b1 w2 (.cells #[.string mf, .string mt, .bool mo] 23)).mono (by omega)))
          have HA3 := Lib.hid (HA2.out.below (below_b1 w2 (.cells #[.string mf, .string mt, .bool mo] 23)))
          have HC3 := Lib.hid (HC2.out.below (below_b1 w2 (.cells #[.string mf, .string mt, .bool mo] 23)))
          have HD3 := Lib.hid (HD2.out.below (below_b1 w2 (.cells #[.string mf, .string mt, .bool mo] 23)))
          have HE3 := Lib.hid (SpBox.new w2 ⟨mf, mt, mo⟩)
          have hs3 : (w2.alloc (.cells #[.string mf, .string mt, .bool mo] 23)).heap.size = w2.heap.size + 1 := by simp
          generalize hW3 : w2.alloc (.cells #[.string mf, .string mt, .bool mo] 23) = W3 at HB3 HA3 HC3 HD3 HE3 hs3 ⊢
          clear hW3 HB2 HA2 HC2 HD2 x0 x1 x2 y0 y1 y2 z0 z1 z2
          obtain ⟨ea, hea⟩ : ∃ ea, Sp.empty ⟨af, at_, ao⟩ = ea := ⟨_, rfl⟩
          obtain ⟨eb, heb⟩ : ∃ eb, Sp.empty ⟨bf, bt, bo⟩ = eb := ⟨_, rfl⟩
          obtain ⟨em, hem⟩ : ∃ em, Sp.empty ⟨mf, mt, mo⟩ = em := ⟨_, rfl⟩
          obtain ⟨sf, st, so, hs⟩ : ∃ sf st so, Sp.meet ⟨af, at_, ao⟩ ⟨af, at_, ao⟩ = ⟨sf, st, so⟩ := ⟨_, _, _, rfl⟩
          have hes : Sp.empty ⟨sf, st, so⟩ = ea := by rw [← hs, Sp.meet_self_empty, hea]
          have HEa := Lib.hid (show ∀ W, Calls Tryz.prog 7 #[.agg #[.string af, .string at_, .bool ao]] W (Ret (.bool ea) W) from fun W => by have h9 := spanEmpty_any ⟨af, at_, ao⟩ W; rw [hea] at h9; exact h9)
          have HEb := Lib.hid (show ∀ W, Calls Tryz.prog 7 #[.agg #[.string bf, .string bt, .bool bo]] W (Ret (.bool eb) W) from fun W => by have h9 := spanEmpty_any ⟨bf, bt, bo⟩ W; rw [heb] at h9; exact h9)
          have HEm := Lib.hid (show ∀ W, Calls Tryz.prog 7 #[.agg #[.string mf, .string mt, .bool mo]] W (Ret (.bool em) W) from fun W => by have h9 := spanEmpty_any ⟨mf, mt, mo⟩ W; rw [hem] at h9; exact h9)
          have HEs := Lib.hid (show ∀ W, Calls Tryz.prog 7 #[.agg #[.string sf, .string st, .bool so]] W (Ret (.bool ea) W) from fun W => by have h9 := spanEmpty_any ⟨sf, st, so⟩ W; rw [hes] at h9; exact h9)
          have HFa := Lib.hid (show ∀ W, Calls Tryz.prog 8 #[.agg #[.string af, .string at_, .bool ao]] W (Ret (.bool ea) W) from fun W => by have h9 := refEmpty_any ⟨af, at_, ao⟩ W (by unfold maxLen; simp only; omega) (by unfold maxLen; simp only; omega); rw [hea] at h9; exact h9)
          have HFb := Lib.hid (show ∀ W, Calls Tryz.prog 8 #[.agg #[.string bf, .string bt, .bool bo]] W (Ret (.bool eb) W) from fun W => by have h9 := refEmpty_any ⟨bf, bt, bo⟩ W (by unfold maxLen; simp only; omega) (by unfold maxLen; simp only; omega); rw [heb] at h9; exact h9)
          have HMt := Lib.hid (show ∀ W, Calls Tryz.prog 6 #[.agg #[.string af, .string at_, .bool ao], .agg #[.string bf, .string bt, .bool bo]] W (Ret (.agg #[.string mf, .string mt, .bool mo]) W) from fun W => by have h9 := refMeet_any ⟨af, at_, ao⟩ ⟨bf, bt, bo⟩ W (by unfold maxLen; simp only; omega) (by unfold maxLen; simp only; omega) (by unfold maxLen; simp only; omega) (by unfold maxLen; simp only; omega); rw [HM.out] at h9; exact h9)
          have HSs := Lib.hid (show ∀ W, Calls Tryz.prog 5 #[.agg #[.string af, .string at_, .bool ao], .agg #[.string af, .string at_, .bool ao]] W (Ret (.agg #[.string sf, .string st, .bool so]) W) from fun W => by have h9 := spanMeet_any ⟨af, at_, ao⟩ ⟨af, at_, ao⟩ W; rw [hs] at h9; exact h9)
          have HEA := Lib.hid hea
          clear hea heb hem hs hes
          have KS := Lib.hid (show ∀ W, Below W3.heap.size W3 W → W.cell? ⟨w.heap.size, 0, none⟩ = some (.string af) ∧ W.cell? ⟨w.heap.size, 1, none⟩ = some (.string at_) ∧ W.cell? ⟨w.heap.size, 2, none⟩ = some (.bool ao) ∧ W.cell? ⟨w.heap.size + 1, 0, none⟩ = some (.string bf) ∧ W.cell? ⟨w.heap.size + 1, 1, none⟩ = some (.string bt) ∧ W.cell? ⟨w.heap.size + 1, 2, none⟩ = some (.bool bo) ∧ W.cell? ⟨w1.heap.size, 0, none⟩ = some (.string mf) ∧ W.cell? ⟨w1.heap.size, 1, none⟩ = some (.string mt) ∧ W.cell? ⟨w1.heap.size, 2, none⟩ = some (.bool mo) ∧ W.cell? ⟨w2.heap.size, 0, none⟩ = some (.string mf) ∧ W.cell? ⟨w2.heap.size, 1, none⟩ = some (.string mt) ∧ W.cell? ⟨w2.heap.size, 2, none⟩ = some (.bool mo) from fun W hb => by
            obtain ⟨a0, a1, a2⟩ := (HA3.out.below hb).cells
            obtain ⟨b0, b1, b2⟩ := (HC3.out.below hb).cells
            obtain ⟨c0, c1, c2⟩ := (HD3.out.below hb).cells
            obtain ⟨d0, d1, d2⟩ := (HE3.out.below hb).cells
            exact ⟨a0, a1, a2, b0, b1, b2, c0, c1, c2, d0, d1, d2⟩)
          clear HA3 HC3 HD3 HE3
          go_cut [96] (fun s96 wx => s96 = .bool false ∧ Hid (Below W3.heap.size W3 wx))
          case first =>
            have HB := Lib.hid (Below.refl W3.heap.size W3)
            go_region_held3 (fun W => W.cell? ⟨w.heap.size, 0, none⟩ = some (.string af) ∧ W.cell? ⟨w.heap.size, 1, none⟩ = some (.string at_) ∧ W.cell? ⟨w.heap.size, 2, none⟩ = some (.bool ao) ∧ W.cell? ⟨w.heap.size + 1, 0, none⟩ = some (.string bf) ∧ W.cell? ⟨w.heap.size + 1, 1, none⟩ = some (.string bt) ∧ W.cell? ⟨w.heap.size + 1, 2, none⟩ = some (.bool bo) ∧ W.cell? ⟨w1.heap.size, 0, none⟩ = some (.string mf) ∧ W.cell? ⟨w1.heap.size, 1, none⟩ = some (.string mt) ∧ W.cell? ⟨w1.heap.size, 2, none⟩ = some (.bool mo) ∧ W.cell? ⟨w2.heap.size, 0, none⟩ = some (.string mf) ∧ W.cell? ⟨w2.heap.size, 1, none⟩ = some (.string mt) ∧ W.cell? ⟨w2.heap.size, 2, none⟩ = some (.bool mo))
              (first | exact KS.out _ HB.out | exact KS.out _ HB.out.drew)
              (first
                | ((with_reducible refine (HMt.out _).mono ?_); rintro e w4 ⟨rfl, hb4⟩; have HB := Lib.hid (show Below W3.heap.size W3 w4 from by first | exact HB.out.trans (hb4.mono HB.out.size) | exact HB.out.drew.trans (hb4.mono HB.out.size)); clear hb4)
                | ((with_reducible refine (HSs.out _).mono ?_); rintro e w4 ⟨rfl, hb4⟩; have HB := Lib.hid (show Below W3.heap.size W3 w4 from by first | exact HB.out.trans (hb4.mono HB.out.size) | exact HB.out.drew.trans (hb4.mono HB.out.size)); clear hb4)
                | ((with_reducible refine (HEa.out _).mono ?_); rintro e w4 ⟨rfl, hb4⟩; have HB := Lib.hid (show Below W3.heap.size W3 w4 from by first | exact HB.out.trans (hb4.mono HB.out.size) | exact HB.out.drew.trans (hb4.mono HB.out.size)); clear hb4)
                | ((with_reducible refine (HEb.out _).mono ?_); rintro e w4 ⟨rfl, hb4⟩; have HB := Lib.hid (show Below W3.heap.size W3 w4 from by first | exact HB.out.trans (hb4.mono HB.out.size) | exact HB.out.drew.trans (hb4.mono HB.out.size)); clear hb4)
                | ((with_reducible refine (HEm.out _).mono ?_); rintro e w4 ⟨rfl, hb4⟩; have HB := Lib.hid (show Below W3.heap.size W3 w4 from by first | exact HB.out.trans (hb4.mono HB.out.size) | exact HB.out.drew.trans (hb4.mono HB.out.size)); clear hb4)
                | ((with_reducible refine (HEs.out _).mono ?_); rintro e w4 ⟨rfl, hb4⟩; have HB := Lib.hid (show Below W3.heap.size W3 w4 from by first | exact HB.out.trans (hb4.mono HB.out.size) | exact HB.out.drew.trans (hb4.mono HB.out.size)); clear hb4)
                | ((with_reducible refine (HFa.out _).mono ?_); rintro e w4 ⟨rfl, hb4⟩; have HB := Lib.hid (show Below W3.heap.size W3 w4 from by first | exact HB.out.trans (hb4.mono HB.out.size) | exact HB.out.drew.trans (hb4.mono HB.out.size)); clear hb4)
                | ((with_reducible refine (HFb.out _).mono ?_); rintro e w4 ⟨rfl, hb4⟩; have HB := Lib.hid (show Below W3.heap.size W3 w4 from by first | exact HB.out.trans (hb4.mono HB.out.size) | exact HB.out.drew.trans (hb4.mono HB.out.size)); clear hb4))
            all_goals (go_wp2_with fail; go_meet; exact ⟨rfl, HB⟩)
          case rest =>
            obtain ⟨rfl, HX⟩ := hcut
            obtain ⟨a0, a1, a2, b0, b1, b2, c0, c1, c2, d0, d1, d2⟩ := KS.out _ HX.out
            clear HFa HFb HMt HSs HEs HEb HEm
            go_wp2_with fail
            have HB5 := Lib.hid (show Below w.heap.size w (wc.alloc (.cells #[.string ⟨#[]⟩, .string af, .string at_, .string bf, .string bt, .string (af ++ ⟨#[0]⟩), .string (bt ++ ⟨#[0]⟩)] 9)) from (HB3.out.trans (HX.out.mono HB3.out.size)).trans ((below_b1 wc _).mono (Nat.le_trans HB3.out.size HX.out.size)))
            have KS5 := Lib.hid (fun (W : World) (hb : Below (wc.alloc (.cells #[.string ⟨#[]⟩, .string af, .string at_, .string bf, .string bt, .string (af ++ ⟨#[0]⟩), .string (bt ++ ⟨#[0]⟩)] 9)).heap.size (wc.alloc (.cells #[.string ⟨#[]⟩, .string af, .string at_, .string bf, .string bt, .string (af ++ ⟨#[0]⟩), .string (bt ++ ⟨#[0]⟩)] 9)) W) => KS.out W ((HX.out.trans ((below_b1 wc _).mono HX.out.size)).trans (hb.mono (by simp only [World.size_alloc]; have := HX.out.size; omega))))
            obtain ⟨ml, hml⟩ : ∃ ml : List ByteArray, ml = [⟨#[]⟩, af, at_, bf, bt, af ++ ⟨#[0]⟩, bt ++ ⟨#[0]⟩] := ⟨_, rfl⟩
            have hm7 : ml.length = 7 := by rw [hml]; rfl
            have HMz := Lib.hid (show ∀ x ∈ ml, x.size ≤ 140737488351233 by
              intro x hx
              have z1 : (af ++ (⟨#[0]⟩ : ByteArray)).size = af.size + 1 := by rw [ByteArray.size_append]; rfl
              have z2 : (bt ++ (⟨#[0]⟩ : ByteArray)).size = bt.size + 1 := by rw [ByteArray.size_append]; rfl
              have z0 : (⟨#[]⟩ : ByteArray).size = 0 := rfl
              rw [hml] at hx
              simp only [List.mem_cons, List.not_mem_nil, or_false] at hx
              rcases hx with rfl | rfl | rfl | rfl | rfl | rfl | rfl <;> omega)
            have HMo := Lib.hid (fun (W : World) (hb : Below (wc.alloc (.cells #[.string ⟨#[]⟩, .string af, .string at_, .string bf, .string bt, .string (af ++ ⟨#[0]⟩), .string (bt ++ ⟨#[0]⟩)] 9)).heap.size (wc.alloc (.cells #[.string ⟨#[]⟩, .string af, .string at_, .string bf, .string bt, .string (af ++ ⟨#[0]⟩), .string (bt ++ ⟨#[0]⟩)] 9)) W) =>
              show ∀ j (hj : j < ml.length), W.cell? ⟨wc.heap.size, j, none⟩ = some (.string ml[j]) from fun j hj => by
                rw [hb.cell (p := ⟨wc.heap.size, j, none⟩) (by simp)]
                have h9 := World.alloc_heap_new wc (.cells #[.string ⟨#[]⟩, .string af, .string at_, .string bf, .string bt, .string (af ++ ⟨#[0]⟩), .string (bt ++ ⟨#[0]⟩)] 9)
                subst hml
                simp only [World.cell?, h9]
                simp only [List.length_cons, List.length_nil] at hj
                match j, hj with
                | 0, _ => rfl
                | 1, _ => rfl
                | 2, _ => rfl
                | 3, _ => rfl
                | 4, _ => rfl
                | 5, _ => rfl
                | 6, _ => rfl)
            generalize wc.heap.size = M at HMo ⊢
            generalize hW5 : wc.alloc (.cells #[.string ⟨#[]⟩, .string af, .string at_, .string bf, .string bt, .string (af ++ ⟨#[0]⟩), .string (bt ++ ⟨#[0]⟩)] 9) = W5 at HB5 KS5 HMo ⊢
            clear hW5 hml a0 a1 a2 b0 b1 b2 c0 c1 c2 d0 d1 d2 KS HX HB3
            have Hm7 := Lib.hid hm7
            clear hm7
            go_loopw [12] (fun s12 wx => ∃ k : Nat, s12 = .int .i64 k ∧ k ≤ ks.length + 7 ∧ Hid (Below W5.heap.size W5 wx)) (fun s12 _ => ks.length + 7 - (intOf s12).toNat)
            case atStart => exact ⟨0, rfl, Nat.zero_le _, Lib.hid (Below.refl _ _)⟩
            case round =>
              obtain ⟨k, rfl, hk, HB⟩ := hrel
              by_cases hlt : k < ks.length + 7
              · have hltI : (k : Int) < (ks.length : Int) + 7 := by omega
                go_upto_if 124 with fail
                go_cut [13] (fun s13 wy => ∃ key : ByteArray, s13 = .string key ∧ Hid (key.size ≤ 140737488351233) ∧ Hid (Below W5.heap.size W5 wy))
                case first =>
                  by_cases hkk : k < ks.length
                  · obtain ⟨A', c', e9, _, hcell⟩ := HV.out
                    rw [strs_len] at e9 hcell
                    injection e9 with e9 _ e10
                    subst e9
                    subst e10
                    obtain ⟨b, o, rfl, hbl, hcs⟩ := hcell (by omega)
                    have g1 := ((HB5.out.trans (HB.out.mono HB5.out.size)).cell (p := ⟨b, o + k, none⟩) hbl).trans (hcs k _ (by simp [strs, hkk]; rfl))
                    clear hcs hcell
                    have HZ := Lib.hid (show ks[k].size ≤ 140737488351233 by have := HKZ.out ks[k] (List.getElem_mem hkk); omega)
                    go_wp2_with fail
                    go_meet
                    exact ⟨ks[k], rfl, HZ, HB⟩
                  · obtain ⟨j, rfl⟩ : ∃ j, k = ks.length + j := ⟨k - ks.length, by omega⟩
                    have hj : j < ml.length := by have := Hm7.out; omega
                    have g1 := HMo.out _ HB.out j hj
                    have HZ := Lib.hid (HMz.out ml[j] (List.getElem_mem hj))
                    have hj7 : j < 7 := by omega
                    have hnl : ¬ (ks.length : Int) + (j : Int) < (ks.length : Int) := by omega
                    go_wp2_with fail
                    go_meet
                    exact ⟨ml[j], rfl, HZ, HB⟩
                case rest =>
                  clear HB
                  obtain ⟨key, rfl, HZ, HB⟩ := hcut
                  obtain ⟨a0, a1, a2, b0, b1, b2, c0, c1, c2, d0, d1, d2⟩ := KS5.out _ HB.out
                  obtain ⟨x, hx⟩ : ∃ x, Sp.has ⟨af, at_, ao⟩ key = x := ⟨_, rfl⟩
                  obtain ⟨y, hy⟩ : ∃ y, Sp.has ⟨bf, bt, bo⟩ key = y := ⟨_, rfl⟩
                  have hxy : Sp.has ⟨mf, mt, mo⟩ key = (x && y) := by rw [← HM.out, Sp.has_meet, hx, hy]
                  have hxe : x = true → ea = false := fun e => by rw [← HEA.out]; exact Sp.has_not_empty _ key (hx.trans e)
                  have HHa := Lib.hid (show ∀ W, Calls Tryz.prog 9 #[.agg #[.string af, .string at_, .bool ao], .string key] W (Ret (.bool x) W) from fun W => by have h9 := spanHas_any ⟨af, at_, ao⟩ key W; rw [hx] at h9; exact h9)
                  have HHb := Lib.hid (show ∀ W, Calls Tryz.prog 9 #[.agg #[.string bf, .string bt, .bool bo], .string key] W (Ret (.bool y) W) from fun W => by have h9 := spanHas_any ⟨bf, bt, bo⟩ key W; rw [hy] at h9; exact h9)
                  have HHm := Lib.hid (show ∀ W, Calls Tryz.prog 9 #[.agg #[.string mf, .string mt, .bool mo], .string key] W (Ret (.bool (x && y)) W) from fun W => by have h9 := spanHas_any ⟨mf, mt, mo⟩ key W; rw [hxy] at h9; exact h9)
                  have HRa := Lib.hid (show ∀ W, Calls Tryz.prog 10 #[.agg #[.string af, .string at_, .bool ao], .string key] W (Ret (.bool x) W) from fun W => by have h9 := refHas_any ⟨af, at_, ao⟩ key W (by unfold maxLen; simp only; omega) (by unfold maxLen; simp only; omega) (by have := HZ.out; unfold maxLen; omega); rw [hx] at h9; exact h9)
                  have HRb := Lib.hid (show ∀ W, Calls Tryz.prog 10 #[.agg #[.string bf, .string bt, .bool bo], .string key] W (Ret (.bool y) W) from fun W => by have h9 := refHas_any ⟨bf, bt, bo⟩ key W (by unfold maxLen; simp only; omega) (by unfold maxLen; simp only; omega) (by have := HZ.out; unfold maxLen; omega); rw [hy] at h9; exact h9)
                  clear hx hy hxy
                  cases x with
                  | true =>
                    obtain rfl := hxe rfl
                    clear hxe
                    cases y
                    all_goals (
                      simp only [Bool.true_and] at HHm
                      go_wp2_with (first | ((with_reducible refine (HHa.out _).mono ?_); rintro e w5 ⟨rfl, hb5⟩; have HB := Lib.hid (HB.out.trans (hb5.mono HB.out.size)); clear hb5 a0 a1 a2 b0 b1 b2 c0 c1 c2 d0 d1 d2; obtain ⟨a0, a1, a2, b0, b1, b2, c0, c1, c2, d0, d1, d2⟩ := KS5.out _ HB.out) | ((with_reducible refine (HHb.out _).mono ?_); rintro e w5 ⟨rfl, hb5⟩; have HB := Lib.hid (HB.out.trans (hb5.mono HB.out.size)); clear hb5 a0 a1 a2 b0 b1 b2 c0 c1 c2 d0 d1 d2; obtain ⟨a0, a1, a2, b0, b1, b2, c0, c1, c2, d0, d1, d2⟩ := KS5.out _ HB.out) | ((with_reducible refine (HHm.out _).mono ?_); rintro e w5 ⟨rfl, hb5⟩; have HB := Lib.hid (HB.out.trans (hb5.mono HB.out.size)); clear hb5 a0 a1 a2 b0 b1 b2 c0 c1 c2 d0 d1 d2; obtain ⟨a0, a1, a2, b0, b1, b2, c0, c1, c2, d0, d1, d2⟩ := KS5.out _ HB.out) | ((with_reducible refine (HRa.out _).mono ?_); rintro e w5 ⟨rfl, hb5⟩; have HB := Lib.hid (HB.out.trans (hb5.mono HB.out.size)); clear hb5 a0 a1 a2 b0 b1 b2 c0 c1 c2 d0 d1 d2; obtain ⟨a0, a1, a2, b0, b1, b2, c0, c1, c2, d0, d1, d2⟩ := KS5.out _ HB.out) | ((with_reducible refine (HRb.out _).mono ?_); rintro e w5 ⟨rfl, hb5⟩; have HB := Lib.hid (HB.out.trans (hb5.mono HB.out.size)); clear hb5 a0 a1 a2 b0 b1 b2 c0 c1 c2 d0 d1 d2; obtain ⟨a0, a1, a2, b0, b1, b2, c0, c1, c2, d0, d1, d2⟩ := KS5.out _ HB.out) | ((with_reducible refine (HEa.out _).mono ?_); rintro e w5 ⟨rfl, hb5⟩; have HB := Lib.hid (HB.out.trans (hb5.mono HB.out.size)); clear hb5 a0 a1 a2 b0 b1 b2 c0 c1 c2 d0 d1 d2; obtain ⟨a0, a1, a2, b0, b1, b2, c0, c1, c2, d0, d1, d2⟩ := KS5.out _ HB.out))
                      go_roundw
                      case rel => exact ⟨k + 1, by go_num, by omega, HB⟩
                      case measure => simp [intOf]; omega)
                  | false =>
                    clear hxe
                    cases y
                    all_goals (
                      simp only [Bool.false_and] at HHm
                      go_wp2_with (first | ((with_reducible refine (HHa.out _).mono ?_); rintro e w5 ⟨rfl, hb5⟩; have HB := Lib.hid (HB.out.trans (hb5.mono HB.out.size)); clear hb5 a0 a1 a2 b0 b1 b2 c0 c1 c2 d0 d1 d2; obtain ⟨a0, a1, a2, b0, b1, b2, c0, c1, c2, d0, d1, d2⟩ := KS5.out _ HB.out) | ((with_reducible refine (HHb.out _).mono ?_); rintro e w5 ⟨rfl, hb5⟩; have HB := Lib.hid (HB.out.trans (hb5.mono HB.out.size)); clear hb5 a0 a1 a2 b0 b1 b2 c0 c1 c2 d0 d1 d2; obtain ⟨a0, a1, a2, b0, b1, b2, c0, c1, c2, d0, d1, d2⟩ := KS5.out _ HB.out) | ((with_reducible refine (HHm.out _).mono ?_); rintro e w5 ⟨rfl, hb5⟩; have HB := Lib.hid (HB.out.trans (hb5.mono HB.out.size)); clear hb5 a0 a1 a2 b0 b1 b2 c0 c1 c2 d0 d1 d2; obtain ⟨a0, a1, a2, b0, b1, b2, c0, c1, c2, d0, d1, d2⟩ := KS5.out _ HB.out) | ((with_reducible refine (HRa.out _).mono ?_); rintro e w5 ⟨rfl, hb5⟩; have HB := Lib.hid (HB.out.trans (hb5.mono HB.out.size)); clear hb5 a0 a1 a2 b0 b1 b2 c0 c1 c2 d0 d1 d2; obtain ⟨a0, a1, a2, b0, b1, b2, c0, c1, c2, d0, d1, d2⟩ := KS5.out _ HB.out) | ((with_reducible refine (HRb.out _).mono ?_); rintro e w5 ⟨rfl, hb5⟩; have HB := Lib.hid (HB.out.trans (hb5.mono HB.out.size)); clear hb5 a0 a1 a2 b0 b1 b2 c0 c1 c2 d0 d1 d2; obtain ⟨a0, a1, a2, b0, b1, b2, c0, c1, c2, d0, d1, d2⟩ := KS5.out _ HB.out) | ((with_reducible refine (HEa.out _).mono ?_); rintro e w5 ⟨rfl, hb5⟩; have HB := Lib.hid (HB.out.trans (hb5.mono HB.out.size)); clear hb5 a0 a1 a2 b0 b1 b2 c0 c1 c2 d0 d1 d2; obtain ⟨a0, a1, a2, b0, b1, b2, c0, c1, c2, d0, d1, d2⟩ := KS5.out _ HB.out))
                      go_roundw
                      case rel => exact ⟨k + 1, by go_num, by omega, HB⟩
                      case measure => simp [intOf]; omega)
              · obtain rfl : k = ks.length + 7 := by omega
                obtain ⟨a0, a1, a2, b0, b1, b2, c0, c1, c2, d0, d1, d2⟩ := KS5.out _ HB.out
                have HAw := Lib.hid (fun (W : World) (hb : Below w.heap.size w W) => awake_any HL.out hb)
                have hfin := Sp.empty_or ⟨af, at_, ao⟩
                rw [HEA.out] at hfin
                clear hlt hk
                cases ea with
                | true =>
                  clear hfin
                  go_wp2_with fail
                  refine (HEa.out _).mono ?_
                  rintro e w5 ⟨rfl, hb5⟩
                  have HB := Lib.hid (HB.out.trans (hb5.mono HB.out.size))
                  clear hb5
                  go_wp2_with fail
                  refine (HAw.out _ (HB5.out.trans (HB.out.mono HB5.out.size))).mono ?_
                  rintro e w6 ⟨rfl, hb6⟩
                  have HB := Lib.hid (HB.out.trans (hb6.mono HB.out.size))
                  clear hb6
                  go_wp2_with fail
                  go_ret
                  exact ⟨rfl, HB5.out.trans (HB.out.mono HB5.out.size)⟩
                | false =>
                  have hfin' : Sp.has ⟨af, at_, ao⟩ af = true := hfin
                  have HHf := Lib.hid (show ∀ W, Calls Tryz.prog 9 #[.agg #[.string af, .string at_, .bool ao], .string af] W (Ret (.bool true) W) from fun W => by have h9 := spanHas_any ⟨af, at_, ao⟩ af W; rw [hfin'] at h9; exact h9)
                  clear hfin hfin'
                  go_wp2_with fail
                  refine (HEa.out _).mono ?_
                  rintro e w5 ⟨rfl, hb5⟩
                  have HB := Lib.hid (HB.out.trans (hb5.mono HB.out.size))
                  clear hb5 a0 a1 a2 b0 b1 b2 c0 c1 c2 d0 d1 d2
                  obtain ⟨a0, a1, a2, b0, b1, b2, c0, c1, c2, d0, d1, d2⟩ := KS5.out _ HB.out
                  go_wp2_with fail
                  refine (HHf.out _).mono ?_
                  rintro e w5 ⟨rfl, hb5⟩
                  have HB := Lib.hid (HB.out.trans (hb5.mono HB.out.size))
                  clear hb5
                  go_wp2_with fail
                  refine (HAw.out _ (HB5.out.trans (HB.out.mono HB5.out.size))).mono ?_
                  rintro e w6 ⟨rfl, hb6⟩
                  have HB := Lib.hid (HB.out.trans (hb6.mono HB.out.size))
                  clear hb6
                  go_wp2_with fail
                  go_ret
                  exact ⟨rfl, HB5.out.trans (HB.out.mono HB5.out.size)⟩
end Go.Proofs.YtemippnhpejbkaaGreatDoor
