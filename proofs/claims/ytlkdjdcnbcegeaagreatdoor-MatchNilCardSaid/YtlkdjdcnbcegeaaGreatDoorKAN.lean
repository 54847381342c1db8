/-
  internal/strconv.formatBits and FormatInt, by sixteens.
-/
import Derived.Test.YtlkdjdcnbcegeaaGreatDoorKA
import Derived.Test.YtlkdjdcnbcegeaaGreatDoorKB
namespace Go.Proofs.YtlkdjdcnbcegeaaGreatDoor
open Go.RowKit Go.WideShapes
set_option linter.unusedVariables false
/-- The box of digits: the last k are written. -/
def HexAt (W : World) (T k n : Nat) : Prop := ∃ cs : Array Value, W.heap[T]? = some (.cells cs 211 (0, 0)) ∧ cs.size = 65 ∧ ∀ j, j < k → cs[64 - j]? = some (.int .u8 (hexS (n / 16 ^ j % 16)).toNat)
section
variable {W W' : World} {T k n : Nat}
theorem HexAt.lt (h : HexAt W T k n) : T < W.heap.size := by obtain ⟨cs, h1, _⟩ := h; exact (Array.getElem?_eq_some_iff.1 h1).1
theorem HexAt.free (h : HexAt W T k n) (i : Nat) : W.frozen? ⟨T, i, none⟩ = false := by obtain ⟨cs, h1, _⟩ := h; simp [World.frozen?, h1]
theorem HexAt.cell (h : HexAt W T k n) {m : Nat} (hm : m < 65) : ∃ v, W.cell? ⟨T, m, none⟩ = some v := by
  obtain ⟨cs, h1, h2, _⟩ := h
  exact ⟨cs[m], by simp [World.cell?, h1, h2, hm]⟩
theorem HexAt.set (h : HexAt W T k n) {m : Nat} (hm : k + m = 64) {b : UInt8} (hb : b = hexS (n / 16 ^ k % 16)) : HexAt (W.setCell ⟨T, m, none⟩ (.int .u8 b.toNat)) T (k + 1) n := by
  obtain ⟨cs, h1, h2, h3⟩ := h
  refine ⟨cs.set! m (.int .u8 b.toNat), by simp [World.setCell, Array.getElem?_modify, h1], by simp [h2], fun j hj => ?_⟩
  by_cases hjk : j = k
  · subst hjk
    rw [show 64 - j = m by omega, hb, Array.set!_eq_setIfInBounds, Array.getElem?_setIfInBounds, if_pos rfl, if_pos (by omega)]
  · have := h3 j (by omega)
    simp only [Array.set!_eq_setIfInBounds]
    rw [Array.getElem?_setIfInBounds, if_neg (by omega)]
    exact this
end
/-- The digits. -/
def hexTab : ByteArray := ⟨#[48, 49, 50, 51, 52, 53, 54, 55, 56, 57, 97, 98, 99, 100, 101, 102, 103, 104, 105, 106, 107, 108, 109, 110, 111, 112, 113, 114, 115, 116, 117, 118, 119, 120, 121, 122]⟩
theorem hexTab_at {d : Nat} (h : d < 16) (h9 : d < hexTab.size) : hexTab[d] = hexS d := by
  have hc : d = 0 ∨ d = 1 ∨ d = 2 ∨ d = 3 ∨ d = 4 ∨ d = 5 ∨ d = 6 ∨ d = 7 ∨ d = 8 ∨ d = 9 ∨ d = 10 ∨ d = 11 ∨ d = 12 ∨ d = 13 ∨ d = 14 ∨ d = 15 := by omega
  rcases hc with rfl | rfl | rfl | rfl | rfl | rfl | rfl | rfl | rfl | rfl | rfl | rfl | rfl | rfl | rfl | rfl <;> rfl
theorem and15 (v : Nat) (h : v ≤ 1114111) : bits BinOp.and IntKind.u64 (v : Int) 15 = ((v % 16 : Nat) : Int) := by
  rw [show (15 : Int) = ((15 : Nat) : Int) from rfl, bits_and_u64_nat _ _ (by omega) (by omega)]
  congr 1
  exact Nat.and_two_pow_sub_one_eq_mod v 4
theorem pow2_any (w : World) : Calls Tryz.prog 167 #[.int .i64 16] w (Ret (.bool true) w) := by
  have HB := Lib.hid (Below.refl w.heap.size w)
  go_enter Tryz.func167, Tryz.ntmps167
  go_wp2_with fail
  go_ret
  exact ⟨rfl, HB.out⟩
set_option maxRecDepth 100000 in
set_option maxHeartbeats 4000000 in
theorem bits_any (n : Nat) (w : World) (hn : n ≤ 1114111) (hT : ∀ W, Below w.heap.size w W → Calls Tryz.prog 168 #[.int .u64 16] W (Ret (.int .i64 4) W)) :
    Calls Tryz.prog 154 #[.slice none 0 0, .int .u64 n, .int .i64 16, .bool false, .bool false] w (Ret (.tuple #[.slice none 0 0, .string (txt (digs hexS (hexN n) n))]) w) := by
  have HT := Lib.hid hT
  have HB1 := Lib.hid (below_a1 w (.cells Tryz.zeroCells211 211))
  have HX0 := Lib.hid (show HexAt (w.alloc (.cells Tryz.zeroCells211 211)) w.heap.size 0 n from ⟨_, World.alloc_heap_new w _, by kernel_rfl, fun j h => by omega⟩)
  clear hT
  go_enter Tryz.func154, Tryz.ntmps154
  go_wp2_with fail
  refine (pow2_any _).mono ?_
  rintro e w2 ⟨rfl, hb2⟩
  have HB2 := Lib.hid (HB1.out.trans (hb2.mono (by simp)))
  have HX2 := Lib.hid (show HexAt w2 w.heap.size 0 n from by obtain ⟨cs, h1, h2, h3⟩ := HX0.out; exact ⟨cs, (hb2.block _ (by simp)).trans h1, h2, h3⟩)
  have hz2 := hb2.size
  rw [World.size_alloc] at hz2
  clear hb2 HB1 HX0
  go_wp2_with fail
  refine (HT.out _ HB2.out).mono ?_
  rintro e w3 ⟨rfl, hb3⟩
  have HB3 := Lib.hid (HB2.out.trans (hb3.mono (by omega)))
  have HX3 := Lib.hid (show HexAt w3 w.heap.size 0 n from by obtain ⟨cs, h1, h2, h3⟩ := HX2.out; exact ⟨cs, (hb3.block _ (by omega)).trans h1, h2, h3⟩)
  have hz3 := hb3.size
  clear hb3 HB2 HX2 HT
  go_wp2_with fail
  have hn6 := hexN_few hn
  have hn1 := hexN_pos n
  go_loopw [1, 13] (fun u i wr => ∃ (k m v : Nat), u = .int .u64 v ∧ i = .int .i64 ((m : Int) + 1) ∧ k + m = 64 ∧ Hid (v = n / 16 ^ k) ∧ k + 1 ≤ hexN n ∧ Hid (HexAt wr w.heap.size k n) ∧ Hid (Below w.heap.size w wr)) (fun _ i _ => (intOf i).toNat)
  case atStart => exact ⟨0, 64, n, rfl, rfl, rfl, Lib.hid (by simp), by omega, HX3, HB3⟩
  case round =>
    clear HB3 HX3
    obtain ⟨k, m, v, rfl, rfl, hkm, HV, hk, HX, HB⟩ := hrel
    have hv9 : v ≤ 1114111 := by rw [HV.out]; exact Nat.le_trans (Nat.div_le_self _ _) hn
    have hand := and15 v hv9
    obtain ⟨old, hcell⟩ := HX.out.cell (m := m) (by omega)
    have hfz := HX.out.free m
    have hm0 : (0 : Int) ≤ (m : Int) := by omega
    have hm1 : (m : Int) < 65 := by omega
    by_cases hge : 16 ≤ v
    · have hgeI : (16 : Int) ≤ (v : Int) := by omega
      go_wp2_with fail
      go_roundw
      case rel =>
        have hb : hexTab[v % 16]'(by have : v % 16 < 16 := Nat.mod_lt _ (by omega)
                                     exact Nat.lt_of_lt_of_le this (by decide)) = hexS (n / 16 ^ k % 16) := by rw [hexTab_at (Nat.mod_lt _ (by omega)), HV.out]
        have hnx : k + 1 + 1 ≤ hexN n := by
          refine Nat.lt_of_not_le fun h9 => ?_
          have h8 := hexN_lt n
          have h7 : 16 ^ hexN n ≤ 16 ^ (k + 1) := Nat.pow_le_pow_right (by omega) h9
          have h6 := Nat.div_le_div_left h7 (Nat.pow_pos (by omega)) (a := n)
          rw [h8, Nat.pow_succ, ← Nat.div_div_eq_div_mul, ← HV.out] at h6
          omega
        exact ⟨k + 1, m - 1, v / 16, by simp, by congr 1; omega, by omega, Lib.hid (by rw [HV.out, Nat.div_div_eq_div_mul, Nat.pow_succ]), hnx, Lib.hid (HX.out.set hkm hb), Lib.hid (HB.out.setCell (by simp only; omega) _)⟩
      case measure => simp [intOf]
    · have hm2 : (m : Int) ≤ 65 := by omega
      have hgeI : ¬ (16 : Int) ≤ (v : Int) := by omega
      have hvi : v < 36 := by omega
      have hviI : (v : Int) < 36 := by omega
      have hb : hexTab[v]'(by exact Nat.lt_of_lt_of_le hvi (by decide)) = hexS (n / 16 ^ k % 16) := by rw [hexTab_at (by omega), ← HV.out, Nat.mod_eq_of_lt (by omega)]
      have hset := HX.out.set hkm hb
      have hkn : k + 1 = hexN n := by
        have h9 := hexN_le (n := n) (k := k + 1) (by omega) (by rw [Nat.pow_succ, ← Nat.div_div_eq_div_mul, ← HV.out]; omega)
        omega
      have hrow : RowAt (wr.setCell ⟨w.heap.size, m, none⟩ (.int .u8 (hexTab[v]'(by exact Nat.lt_of_lt_of_le hvi (by decide))).toNat)) (wr.setCell ⟨w.heap.size, m, none⟩ (.int .u8 (hexTab[v]'(by exact Nat.lt_of_lt_of_le hvi (by decide))).toNat)).heap.size (.slice (some ⟨w.heap.size, m, none⟩) (65 - m) (65 - m)) (u8s ((digs hexS (hexN n) n).map UInt8.toNat)) := by
        have hl : (u8s ((digs hexS (hexN n) n).map UInt8.toNat)).length = 65 - m := by rw [u8s_len, List.length_map, digs_len]; omega
        refine ⟨some ⟨w.heap.size, m, none⟩, 65 - m, by rw [hl], by omega, fun _ => ⟨w.heap.size, m, rfl, by have := HX.out.lt; simpa using this, fun j u hu => ?_⟩⟩
        obtain ⟨cs, h1, h2, h3⟩ := hset
        obtain ⟨hj, _⟩ := List.getElem?_eq_some_iff.1 hu
        rw [hl] at hj
        have hd : ∀ (k j : Nat), j < k → (digs hexS k n)[j]? = some (hexS (n / 16 ^ (k - 1 - j) % 16)) := by
          intro k
          induction k with
          | zero => intro j h; omega
          | succ k ih =>
            intro j h
            rw [digs]
            cases j with
            | zero => simp
            | succ j => rw [List.getElem?_cons_succ, ih j (by omega), show k - 1 - j = k + 1 - 1 - (j + 1) by omega]
        have hu2 : u = .int .u8 (hexS (n / 16 ^ (hexN n - 1 - j) % 16)).toNat := by
          simp only [u8s, List.map_map, List.getElem?_map, hd (hexN n) j (by omega), Option.map_some, Function.comp] at hu
          injection hu with hu
          exact hu.symm
        rw [hu2]
        simp only [World.cell?, h1]
        have := h3 (hexN n - 1 - j) (by omega)
        rw [show 64 - (hexN n - 1 - j) = m + j by omega] at this
        exact this
      have hcv := run_string_row hrow
      unfold hexTab at hcv
      have HS := Lib.hid (show strOf ((digs hexS (hexN n) n).map UInt8.toNat) = txt (digs hexS (hexN n) n) from by
        simp only [strOf, txt, List.map_map]
        congr 2
        exact (List.map_congr_left (fun x _ => by simp)).trans (List.map_id _))
      clear hset hkn hrow hb
      go_wp2_with fail
      go_returns
      rw [HS.out]
      exact ⟨rfl, HB.out.setCell (by simp only; omega) _⟩
set_option maxRecDepth 100000 in
set_option maxHeartbeats 2000000 in
/-- FormatInt(n, 16). -/
theorem hexInt_any (n : Nat) (w : World) (hn : n ≤ 1114111) (hT : ∀ W, Below w.heap.size w W → Calls Tryz.prog 168 #[.int .u64 16] W (Ret (.int .i64 4) W)) :
    Calls Tryz.prog 133 #[.int .i64 n, .int .i64 16] w (Ret (.string (txt (digs hexS (hexN n) n))) w) := by
  have HC := Lib.hid (bits_any n w hn hT)
  clear hT
  have h0 : ¬ (n : Int) < 0 := by omega
  go_enter Tryz.func133, Tryz.ntmps133
  go_wp2_with fail
  refine HC.out.mono ?_
  rintro e w2 ⟨rfl, hb2⟩
  have HB := Lib.hid hb2
  clear hb2
  go_wp2_with fail
  go_ret
  exact ⟨rfl, HB.out⟩
end Go.Proofs.YtlkdjdcnbcegeaaGreatDoor
