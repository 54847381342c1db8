/-
  The laws' Why, of faults.
-/
import Derived.Test.YtjgicjgpahnmaaaDoorKT
import Derived.Test.YtjgicjgpahnmaaaDoorKS
/-! The laws' Why, of faults. -/
namespace Go.Proofs.YtjgicjgpahnmaaaDoor
open Go.RowKit Go.WideShapes
set_option linter.unusedVariables false
set_option maxRecDepth 100000 in
set_option maxHeartbeats 4000000 in
theorem keepWhy_fault {w0 w : World} {Tb : Nat} {code at_ n : Int} (h : laidMetH Tryd.prog Rows.rekeyGoesUptoRow.laid w0) (hb0 : Below w0.heap.size w0 w) (hF : FaultAt w Tb code at_ n) (hn : n = 90 ∨ n = 91) :
    Calls Tryd.prog 18 #[.iface 66 (.pointer (some ⟨Tb, 0, none⟩)), .int .i64 n] w (Ret (.bool true) w) := by
  have hTl := hF.lt
  have HA := Lib.hid (as_any (Tb := Tb) (b := w.heap.size) (wb := w.alloc (.cells #[.pointer none] 66)) h hb0 (Nat.le_refl _) ((Below.refl _ _).alloc (Nat.le_refl _) _) (BoxAt.new w w.heap.size _ _ rfl))
  have HF := Lib.hid hF
  have HIs := Lib.hid (fun (W : World) (hb : Below w.heap.size w W) => isE_any (n := n) h (hb0.trans (hb.mono (by have := hb0.size; omega))) hn)
  have he : errV n = .iface 32 (.int .i64 n) := by rcases hn with rfl | rfl <;> rfl
  clear h hb0 hF
  go_enter Tryd.func18, Tryd.ntmps18
  go_wp2_with fail
  refine HA.out.mono ?_
  rintro e w1 ⟨rfl, hb1, hf1⟩
  have HB1 := Lib.hid hb1
  have hz1 := hb1.size
  have HF1 := Lib.hid (HF.out.below hb1 hTl)
  obtain ⟨F0, F1, F2, F3⟩ := HF1.out.cells
  rw [he] at F3
  clear HA hb1 HF
  go_wp2_with fail
  refine (HIs.out _ HB1.out).mono ?_
  rintro e w2 ⟨rfl, hb2⟩
  have HB2 := Lib.hid (HB1.out.trans (hb2.mono (by omega)))
  clear hb2 HIs
  go_wp2_with fail
  go_ret
  exact ⟨rfl, HB2.out⟩
end Go.Proofs.YtjgicjgpahnmaaaDoor

/-! The law's vast, so far as it says how much there is. -/
namespace Go.Proofs.YtjgicjgpahnmaaaDoor
open Go.RowKit Go.WideShapes Go.ChangeShapes Go.ChangeAt
set_option linter.unusedVariables false
def VastX (l : List (Int × PT)) (w : World) (e : Ending) (w' : World) : Prop := ∃ b, e = .returned (.bool b) ∧ Below w.heap.size w w' ∧ (b = false → l.length ≤ 4000 ∧ ∀ i (hi : i < l.length), Small l[i].2)
theorem vast_true {l : List (Int × PT)} {w w' : World} (h : Below w.heap.size w w') : VastX l w (.returned (.bool true)) w' := ⟨true, rfl, h, fun h => by cases h⟩
set_option maxRecDepth 100000 in
set_option maxHeartbeats 4000000 in
theorem vast_anyX (l : List (Int × PT)) (A : Option Addr) (C : Nat) (t : PT) (a : Option Addr) (c : Nat) (w : World) (hl : SrcsAt w (· < w.heap.size) l A) (hp : PartAt w (· < w.heap.size) t (partCells t a c)) (hlen : l.length ≤ 9223372036854775807) :
    Calls Tryd.prog 7 #[.slice A l.length C, .agg (partCells t a c).toArray] w (VastX l w) := by
  have HL := Lib.hid hl
  have HD := Lib.hid (Deep_anyX t a c)
  have HW := Lib.hid (weight_any t a c)
  have HP := Lib.hid hp
  clear hl hp
  have HB0 := Lib.hid ((Below.refl w.heap.size w).alloc (Nat.le_refl _) (.cells (partCells t a c).toArray 30))
  have HP0 := Lib.hid (new_part w w.heap.size t a c 30 rfl)
  unfold partCells at HB0
  unfold partCells
  go_enter Tryd.func7, Tryd.ntmps7
  go_wp2_with fail
  refine (HD.out _ ((HP.out.below HB0.out).wide (by simp))).mono ?_
  rintro e w1 ⟨n1, rfl, hb1, _⟩
  have hz1 : w.heap.size + 1 ≤ w1.heap.size := by have := hb1.size; simpa using this
  have HB1 := Lib.hid (HB0.out.trans (hb1.mono (by simp)))
  have HP1 := Lib.hid (show CellsAt w1 w.heap.size 0 (partCells t a c) from CellsAt.keep HP0.out fun p hp => hb1.cell (by simp; omega))
  clear hb1 HB0 HP0 HD
  have p0 := HP1.out 0 _ rfl
  have p1 := HP1.out 1 _ rfl
  have p2 := HP1.out 2 _ rfl
  have p3 := HP1.out 3 _ rfl
  have p4 := HP1.out 4 _ rfl
  have p5 := HP1.out 5 _ rfl
  by_cases hn : 40 < n1
  · go_wp2_with fail
    go_ret
    exact vast_true HB1.out
  · go_wp2_with fail
    refine (HW.out _ ((HP.out.below HB1.out).wide (by omega))).mono ?_
    rintro e w2 ⟨n2, rfl, hb2⟩
    have hz2 := hb2.size
    have HB2 := Lib.hid (HB1.out.trans (hb2.mono (by omega)))
    have HP2 := Lib.hid (HP1.out.keep fun p hp => hb2.cell (by omega))
    clear hb2 HB1 HP1 p0 p1 p2 p3 p4 p5
    go_wp2_with fail
    go_loopw [5, 6] (fun n i wr => ∃ (k : Nat) (n' : Int), n = .int .i64 n' ∧ i = .int .i64 k ∧ k ≤ l.length ∧ Hid (∀ i (hi : i < l.length), i < k → Small l[i].2) ∧ Hid (Below w.heap.size w wr) ∧ Hid (CellsAt wr w.heap.size 0 (partCells t a c)) ∧ w.heap.size < wr.heap.size) (fun _ i _ => l.length - (intOf i).toNat)
    case atStart => exact ⟨0, _, rfl, rfl, by omega, Lib.hid (fun i hi h => absurd h (Nat.not_lt_zero i)), HB2, HP2, by omega⟩
    case round =>
      clear HB2 HP2
      obtain ⟨k, n', rfl, rfl, hk, HSs, HB, HP', hwz⟩ := hrel
      by_cases hlt : k < l.length
      · by_cases hn : n' ≤ 16777216
        · obtain ⟨b, o, a', c', rfl, hb, k0, k1, k2, k3, k4, k5, k6, hpa⟩ := (HL.out.below HB.out).cells hlt
          have HPA := Lib.hid (PartAt.wide hpa (by omega : w.heap.size ≤ wr.heap.size))
          have HD := Lib.hid (Deep_anyX _ _ _ _ HPA.out)
          have HW' := Lib.hid (weight_any l[k].2 a' c')
          unfold partCells at HD HW'
          clear hpa
          go_wp2_with fail
          refine HD.out.mono ?_
          rintro e w3 ⟨n3, rfl, hb3, hsm⟩
          have HSm := Lib.hid hsm
          clear hsm
          have hz3 := hb3.size
          have HB3 := Lib.hid (HB.out.trans (hb3.mono (by omega)))
          have HP3 := Lib.hid (HP'.out.keep fun p hp => hb3.cell (by omega))
          have HPA3 := Lib.hid ((HPA.out.below hb3).wide hz3)
          have k0 := (hb3.cell (p := ⟨b, o + k * 7, none⟩) (by simp only; omega)).trans k0
          have k1 := (hb3.cell (p := ⟨b, o + k * 7 + 1, none⟩) (by simp only; omega)).trans k1
          have k2 := (hb3.cell (p := ⟨b, o + k * 7 + 2, none⟩) (by simp only; omega)).trans k2
          have k3 := (hb3.cell (p := ⟨b, o + k * 7 + 3, none⟩) (by simp only; omega)).trans k3
          have k4 := (hb3.cell (p := ⟨b, o + k * 7 + 4, none⟩) (by simp only; omega)).trans k4
          have k5 := (hb3.cell (p := ⟨b, o + k * 7 + 5, none⟩) (by simp only; omega)).trans k5
          have k6 := (hb3.cell (p := ⟨b, o + k * 7 + 6, none⟩) (by simp only; omega)).trans k6
          clear hb3 HB HP' HPA HD
          by_cases hd : 40 < n3
          · go_wp2_with fail
            go_ret
            exact vast_true HB3.out
          · go_wp2_with fail
            refine (HW'.out _ HPA3.out).mono ?_
            rintro e w4 ⟨n4, rfl, hb4⟩
            have hz4 := hb4.size
            have HB4 := Lib.hid (HB3.out.trans (hb4.mono (by omega)))
            have HP4 := Lib.hid (HP3.out.keep fun p hp => hb4.cell (by omega))
            clear hb4 HB3 HP3 k0 k1 k2 k3 k4 k5 k6 HPA3
            go_wp2_with fail
            go_roundw
            case rel => exact ⟨k + 1, _, rfl, by go_num, by omega, Lib.hid (fun i hi h => by rcases Nat.lt_succ_iff_lt_or_eq.1 h with h | rfl; exact HSs.out i hi h; exact HSm.out (by omega)), HB4, HP4, by omega⟩
            case measure => simp [intOf]; omega
        · have hn' : 16777216 < n' := by omega
          clear hn
          go_wp2_with fail
          go_ret
          exact vast_true HB.out
      · have p0 := HP'.out 0 _ rfl
        have p1 := HP'.out 1 _ rfl
        have p2 := HP'.out 2 _ rfl
        have p3 := HP'.out 3 _ rfl
        have p4 := HP'.out 4 _ rfl
        have p5 := HP'.out 5 _ rfl
        obtain rfl : k = l.length := by omega
        by_cases hn : 16777216 < n'
        · go_wp2_with fail
          go_ret
          exact vast_true HB.out
        · by_cases hm : 4000 < l.length
          · go_wp2_with fail
            go_ret
            exact vast_true HB.out
          · go_wp2_with fail
            refine (HW.out _ ((HP.out.below HB.out).wide (by omega))).mono ?_
            rintro e w2 ⟨n2, rfl, hb2⟩
            have HB2 := Lib.hid (HB.out.trans (hb2.mono (by omega)))
            clear hb2 HB HP' p0 p1 p2 p3 p4 p5
            go_wp2_with fail
            go_ret
            exact ⟨_, rfl, HB2.out, fun _ => ⟨by omega, fun i hi => HSs.out i hi hi⟩⟩
end Go.Proofs.YtjgicjgpahnmaaaDoor
