/-
  FormatInt by sixteens, of any 32 bits: some text of few letters.
-/
import Derived.Test.YtlkdjdcnbcegeaaGreatDoorKAN
namespace Go.Proofs.YtlkdjdcnbcegeaaGreatDoor
open Go.RowKit Go.WideShapes
set_option linter.unusedVariables false
set_option linter.unusedSimpArgs false
/-- The box of digits: the last ones are l. -/
def DigAt (W : World) (T : Nat) (l : List UInt8) : Prop := ∃ cs : Array Value, W.heap[T]? = some (.cells cs 211 (0, 0)) ∧ cs.size = 65 ∧ ∀ j (h : j < l.length), cs[65 - l.length + j]? = some (.int .u8 l[j].toNat)
section
variable {W W' : World} {T : Nat} {l : List UInt8}
theorem DigAt.lt (h : DigAt W T l) : T < W.heap.size := by obtain ⟨cs, h1, _⟩ := h; exact (Array.getElem?_eq_some_iff.1 h1).1
theorem DigAt.free (h : DigAt W T l) (i : Nat) : W.frozen? ⟨T, i, none⟩ = false := by obtain ⟨cs, h1, _⟩ := h; simp [World.frozen?, h1]
theorem DigAt.cell (h : DigAt W T l) {m : Nat} (hm : m < 65) : ∃ v, W.cell? ⟨T, m, none⟩ = some v := by
  obtain ⟨cs, h1, h2, _⟩ := h
  exact ⟨cs[m], by simp [World.cell?, h1, h2, hm]⟩
theorem DigAt.set (h : DigAt W T l) {m : Nat} (hm : m + l.length = 64) (b : UInt8) : DigAt (W.setCell ⟨T, m, none⟩ (.int .u8 b.toNat)) T (b :: l) := by
  obtain ⟨cs, h1, h2, h3⟩ := h
  refine ⟨cs.set! m (.int .u8 b.toNat), by simp [World.setCell, Array.getElem?_modify, h1], by simp [h2], fun j hj => ?_⟩
  rw [List.length_cons] at hj ⊢
  simp only [Array.set!_eq_setIfInBounds]
  cases j with
  | zero => rw [show 65 - (l.length + 1) + 0 = m by omega, Array.getElem?_setIfInBounds, if_pos rfl, if_pos (by omega)]; rfl
  | succ j =>
    have := h3 j (by omega)
    rw [show 65 - (l.length + 1) + (j + 1) = 65 - l.length + j by omega, Array.getElem?_setIfInBounds, if_neg (by omega), this]
    rfl
theorem DigAt.row (h : DigAt W T l) {m : Nat} (hm : m + l.length = 65) : RowAt W W.heap.size (.slice (some ⟨T, m, none⟩) (65 - m) (65 - m)) (u8s (l.map UInt8.toNat)) := by
  have hl : (u8s (l.map UInt8.toNat)).length = 65 - m := by rw [u8s_len, List.length_map]; omega
  have hlt := h.lt
  refine ⟨some ⟨T, m, none⟩, 65 - m, by rw [hl], by omega, fun _ => ⟨T, m, rfl, hlt, fun j u hu => ?_⟩⟩
  obtain ⟨cs, h1, h2, h3⟩ := h
  obtain ⟨hj, _⟩ := List.getElem?_eq_some_iff.1 hu
  rw [hl] at hj
  have hu2 : u = .int .u8 (l[j]'(by omega)).toNat := by
    simp only [u8s, List.map_map, List.getElem?_map, List.getElem?_eq_getElem (show j < l.length by omega), Option.map_some, Function.comp] at hu
    injection hu with hu
    exact hu.symm
  rw [hu2]
  simp only [World.cell?, h1]
  have := h3 j (by omega)
  rw [show 65 - l.length + j = m + j by omega] at this
  exact this
end
theorem strOf_txtY (l : List UInt8) : strOf (l.map UInt8.toNat) = txt l := by
  simp only [strOf, txt, List.map_map]
  congr 2
  exact (List.map_congr_left (fun x _ => by simp)).trans (List.map_id _)
theorem and15w (v : Nat) (h : v ≤ 4294967295) : bits BinOp.and IntKind.u64 (v : Int) 15 = ((v % 16 : Nat) : Int) := by
  rw [show (15 : Int) = ((15 : Nat) : Int) from rfl, bits_and_u64_nat _ _ (by omega) (by omega)]
  congr 1
  exact Nat.and_two_pow_sub_one_eq_mod v 4
/-- Some text of few letters, each of them ASCII. -/
def FewPost (w : World) (mk : Value → Value) (e : Ending) (w' : World) : Prop := ∃ l : List UInt8, e = .returned (mk (.string (txt l))) ∧ l.length ≤ 9 ∧ (∀ b ∈ l, b.toNat < 128) ∧ Below w.heap.size w w'
theorem hexS_ascii {d : Nat} (h : d < 16) : (hexS d).toNat < 128 := by
  have : ∀ d, d < 16 → (hexS d).toNat < 128 := by decide
  exact this d h
set_option maxRecDepth 100000 in
set_option maxHeartbeats 4000000 in
theorem bitsPos_few (n : Nat) (w : World) (hn : n ≤ 2147483648) (hT : ∀ W, Below w.heap.size w W → Calls Tryz.prog 168 #[.int .u64 16] W (Ret (.int .i64 4) W)) :
    Calls Tryz.prog 154 #[.slice none 0 0, .int .u64 n, .int .i64 16, .bool false, .bool false] w (FewPost w fun s => .tuple #[.slice none 0 0, s]) := by
  have HT := Lib.hid hT
  have HB1 := Lib.hid (below_a1 w (.cells Tryz.zeroCells211 211))
  have HX0 := Lib.hid (show DigAt (w.alloc (.cells Tryz.zeroCells211 211)) w.heap.size [] from ⟨_, World.alloc_heap_new w _, by kernel_rfl, fun j h => by simp at h⟩)
  clear hT
  go_enter Tryz.func154, Tryz.ntmps154
  go_wp2_with fail
  refine (pow2_any _).mono ?_
  rintro e w2 ⟨rfl, hb2⟩
  have HB2 := Lib.hid (HB1.out.trans (hb2.mono (by simp)))
  have HX2 := Lib.hid (show DigAt w2 w.heap.size [] from by obtain ⟨cs, h1, h2, h3⟩ := HX0.out; exact ⟨cs, (hb2.block _ (by simp)).trans h1, h2, h3⟩)
  have hz2 := hb2.size
  rw [World.size_alloc] at hz2
  clear hb2 HB1 HX0
  go_wp2_with fail
  refine (HT.out _ HB2.out).mono ?_
  rintro e w3 ⟨rfl, hb3⟩
  have HB3 := Lib.hid (HB2.out.trans (hb3.mono (by omega)))
  have HX3 := Lib.hid (show DigAt w3 w.heap.size [] from by obtain ⟨cs, h1, h2, h3⟩ := HX2.out; exact ⟨cs, (hb3.block _ (by omega)).trans h1, h2, h3⟩)
  have hz3 := hb3.size
  clear hb3 HB2 HX2 HT
  go_wp2_with fail
  go_loopw [1, 13] (fun u i wr => ∃ (m v : Nat) (l : List UInt8), u = .int .u64 v ∧ i = .int .i64 ((m : Int) + 1) ∧ m + l.length = 64 ∧ l.length ≤ 7 ∧ v ≤ 4294967295 ∧ Hid (v * 16 ^ l.length ≤ 4294967295 ∧ (∀ b ∈ l, b.toNat < 128)) ∧ Hid (DigAt wr w.heap.size l) ∧ Hid (Below w.heap.size w wr)) (fun _ i _ => (intOf i).toNat)
  case atStart => exact ⟨64, n, [], rfl, rfl, rfl, by simp, by omega, Lib.hid ⟨by simp; omega, by simp⟩, HX3, HB3⟩
  case round =>
    clear HB3 HX3
    obtain ⟨m, v, l, rfl, rfl, hkm, hl7, hv9, HV, HX, HB⟩ := hrel
    have hand := and15w v hv9
    obtain ⟨old, hcell⟩ := HX.out.cell (m := m) (by omega)
    have hfz := HX.out.free m
    have hm0 : (0 : Int) ≤ (m : Int) := by omega
    have hm1 : (m : Int) < 65 := by omega
    by_cases hge : 16 ≤ v
    · have hgeI : (16 : Int) ≤ (v : Int) := by omega
      go_wp2_with fail
      go_roundw
      case rel =>
        have hb : hexTab[v % 16]'(by have : v % 16 < 16 := Nat.mod_lt _ (by omega)
                                     exact Nat.lt_of_lt_of_le this (by decide)) = hexS (v % 16) := by rw [hexTab_at (Nat.mod_lt _ (by omega))]
        have hs := HX.out.set hkm (hexTab[v % 16]'(by have : v % 16 < 16 := Nat.mod_lt _ (by omega)
                                                      exact Nat.lt_of_lt_of_le this (by decide)))
        obtain ⟨hv1, hv2⟩ := HV.out
        have h6 : 16 ^ (l.length + 1) ≤ 4294967295 := by
          rw [Nat.pow_succ]
          have : 16 * 16 ^ l.length ≤ v * 16 ^ l.length := Nat.mul_le_mul_right _ hge
          omega
        have hl6 : l.length + 1 ≤ 7 := by
          refine Nat.le_of_not_lt fun h9 => ?_
          have h8 : (16 : Nat) ^ 8 ≤ 16 ^ (l.length + 1) := Nat.pow_le_pow_right (by omega) (by omega)
          have h7 : (16 : Nat) ^ 8 = 4294967296 := by decide
          omega
        refine ⟨m - 1, v / 16, _ :: l, by simp, by congr 1; omega, by simp; omega, by simpa using hl6, by omega, Lib.hid ⟨?_, ?_⟩, Lib.hid hs, Lib.hid (HB.out.setCell (by simp only; omega) _)⟩
        · rw [List.length_cons, Nat.pow_succ, Nat.mul_comm (16 ^ l.length), ← Nat.mul_assoc]
          have : v / 16 * 16 ≤ v := Nat.div_mul_le_self _ _
          exact Nat.le_trans (Nat.mul_le_mul_right _ this) hv1
        · intro b hb9
          rcases List.mem_cons.1 hb9 with rfl | hb9
          · rw [hb]; exact hexS_ascii (Nat.mod_lt _ (by omega))
          · exact hv2 b hb9
      case measure => simp [intOf]
    · have hm2 : (m : Int) ≤ 65 := by omega
      have hgeI : ¬ (16 : Int) ≤ (v : Int) := by omega
      have hvi : v < 36 := by omega
      have hviI : (v : Int) < 36 := by omega
      have hb : hexTab[v]'(by exact Nat.lt_of_lt_of_le hvi (by decide)) = hexS v := by rw [hexTab_at (by omega)]
      have hset := HX.out.set hkm (hexTab[v]'(by exact Nat.lt_of_lt_of_le hvi (by decide)))
      have hasc : ∀ b ∈ (hexTab[v]'(by exact Nat.lt_of_lt_of_le hvi (by decide))) :: l, b.toNat < 128 := by
        intro b hb9
        rcases List.mem_cons.1 hb9 with rfl | hb9
        · rw [hb]; exact hexS_ascii (by omega)
        · exact HV.out.2 b hb9
      have hcv := run_string_row (hset.row (m := m) (by simp; omega))
      rw [strOf_txtY] at hcv
      unfold hexTab at hcv hasc
      have HAS := Lib.hid hasc
      clear hset hb hasc
      go_wp2_with fail
      go_returns
      exact ⟨_, rfl, by simp; omega, HAS.out, HB.out.setCell (by simp only; omega) _⟩
set_option maxRecDepth 100000 in
set_option maxHeartbeats 4000000 in
theorem bitsNeg_few (n : Nat) (w : World) (hn : n ≤ 2147483648) (h1 : 1 ≤ n) (hT : ∀ W, Below w.heap.size w W → Calls Tryz.prog 168 #[.int .u64 16] W (Ret (.int .i64 4) W)) :
    Calls Tryz.prog 154 #[.slice none 0 0, .int .u64 (18446744073709551616 - (n : Int)), .int .i64 16, .bool true, .bool false] w (FewPost w fun s => .tuple #[.slice none 0 0, s]) := by
  have HT := Lib.hid hT
  have HB1 := Lib.hid (below_a1 w (.cells Tryz.zeroCells211 211))
  have HX0 := Lib.hid (show DigAt (w.alloc (.cells Tryz.zeroCells211 211)) w.heap.size [] from ⟨_, World.alloc_heap_new w _, by kernel_rfl, fun j h => by simp at h⟩)
  clear hT
  have hneg : IntKind.u64.wrap (-(18446744073709551616 - (n : Int))) = (n : Int) := by rw [IntKind.wrap_u64]; omega
  go_enter Tryz.func154, Tryz.ntmps154
  go_wp2_with fail
  refine (pow2_any _).mono ?_
  rintro e w2 ⟨rfl, hb2⟩
  have HB2 := Lib.hid (HB1.out.trans (hb2.mono (by simp)))
  have HX2 := Lib.hid (show DigAt w2 w.heap.size [] from by obtain ⟨cs, h1, h2, h3⟩ := HX0.out; exact ⟨cs, (hb2.block _ (by simp)).trans h1, h2, h3⟩)
  have hz2 := hb2.size
  rw [World.size_alloc] at hz2
  clear hb2 HB1 HX0
  go_wp2_with fail
  refine (HT.out _ HB2.out).mono ?_
  rintro e w3 ⟨rfl, hb3⟩
  have HB3 := Lib.hid (HB2.out.trans (hb3.mono (by omega)))
  have HX3 := Lib.hid (show DigAt w3 w.heap.size [] from by obtain ⟨cs, h1, h2, h3⟩ := HX2.out; exact ⟨cs, (hb3.block _ (by omega)).trans h1, h2, h3⟩)
  have hz3 := hb3.size
  clear hb3 HB2 HX2 HT
  go_wp2_with fail
  go_loopw [1, 13] (fun u i wr => ∃ (m v : Nat) (l : List UInt8), u = .int .u64 v ∧ i = .int .i64 ((m : Int) + 1) ∧ m + l.length = 64 ∧ l.length ≤ 7 ∧ v ≤ 4294967295 ∧ Hid (v * 16 ^ l.length ≤ 4294967295 ∧ (∀ b ∈ l, b.toNat < 128)) ∧ Hid (DigAt wr w.heap.size l) ∧ Hid (Below w.heap.size w wr)) (fun _ i _ => (intOf i).toNat)
  case atStart => exact ⟨64, n, [], rfl, rfl, rfl, by simp, by omega, Lib.hid ⟨by simp; omega, by simp⟩, HX3, HB3⟩
  case round =>
    clear HB3 HX3
    obtain ⟨m, v, l, rfl, rfl, hkm, hl7, hv9, HV, HX, HB⟩ := hrel
    have hand := and15w v hv9
    obtain ⟨old, hcell⟩ := HX.out.cell (m := m) (by omega)
    have hfz := HX.out.free m
    have hm0 : (0 : Int) ≤ (m : Int) := by omega
    have hm1 : (m : Int) < 65 := by omega
    by_cases hge : 16 ≤ v
    · have hgeI : (16 : Int) ≤ (v : Int) := by omega
      go_wp2_with fail
      go_roundw
      case rel =>
        have hb : hexTab[v % 16]'(by have : v % 16 < 16 := Nat.mod_lt _ (by omega)
                                     exact Nat.lt_of_lt_of_le this (by decide)) = hexS (v % 16) := by rw [hexTab_at (Nat.mod_lt _ (by omega))]
        have hs := HX.out.set hkm (hexTab[v % 16]'(by have : v % 16 < 16 := Nat.mod_lt _ (by omega)
                                                      exact Nat.lt_of_lt_of_le this (by decide)))
        obtain ⟨hv1, hv2⟩ := HV.out
        have h6 : 16 ^ (l.length + 1) ≤ 4294967295 := by
          rw [Nat.pow_succ]
          have : 16 * 16 ^ l.length ≤ v * 16 ^ l.length := Nat.mul_le_mul_right _ hge
          omega
        have hl6 : l.length + 1 ≤ 7 := by
          refine Nat.le_of_not_lt fun h9 => ?_
          have h8 : (16 : Nat) ^ 8 ≤ 16 ^ (l.length + 1) := Nat.pow_le_pow_right (by omega) (by omega)
          have h7 : (16 : Nat) ^ 8 = 4294967296 := by decide
          omega
        refine ⟨m - 1, v / 16, _ :: l, by simp, by congr 1; omega, by simp; omega, by simpa using hl6, by omega, Lib.hid ⟨?_, ?_⟩, Lib.hid hs, Lib.hid (HB.out.setCell (by simp only; omega) _)⟩
        · rw [List.length_cons, Nat.pow_succ, Nat.mul_comm (16 ^ l.length), ← Nat.mul_assoc]
          have : v / 16 * 16 ≤ v := Nat.div_mul_le_self _ _
          exact Nat.le_trans (Nat.mul_le_mul_right _ this) hv1
        · intro b hb9
          rcases List.mem_cons.1 hb9 with rfl | hb9
          · rw [hb]; exact hexS_ascii (Nat.mod_lt _ (by omega))
          · exact hv2 b hb9
      case measure => simp [intOf]
    · have hm2 : (m : Int) ≤ 65 := by omega
      have hgeI : ¬ (16 : Int) ≤ (v : Int) := by omega
      have hvi : v < 36 := by omega
      have hviI : (v : Int) < 36 := by omega
      have hb : hexTab[v]'(by exact Nat.lt_of_lt_of_le hvi (by decide)) = hexS v := by rw [hexTab_at (by omega)]
      have hset := HX.out.set hkm (hexTab[v]'(by exact Nat.lt_of_lt_of_le hvi (by decide)))
      have hasc : ∀ b ∈ (hexTab[v]'(by exact Nat.lt_of_lt_of_le hvi (by decide))) :: l, b.toNat < 128 := by
        intro b hb9
        rcases List.mem_cons.1 hb9 with rfl | hb9
        · rw [hb]; exact hexS_ascii (by omega)
        · exact HV.out.2 b hb9
      have hcell2 := hset.cell (m := m - 1) (by omega)
      obtain ⟨old2, hcell2⟩ := hcell2
      have hfz2 := hset.free (m - 1)
      have hset2 := hset.set (m := m - 1) (by simp; omega) 45
      have hm3 : (0 : Int) ≤ ((m - 1 : Nat) : Int) := by omega
      have hm4 : ((m - 1 : Nat) : Int) < 65 := by omega
      have hm5 : (m : Int) - 1 = ((m - 1 : Nat) : Int) := by omega
      have hm6 : ((m - 1 : Nat) : Int) ≤ 65 := by omega
      have hcv := run_string_row (hset2.row (m := m - 1) (by simp; omega))
      rw [strOf_txtY] at hcv
      rw [show (((45 : UInt8).toNat : Nat) : Int) = 45 from rfl] at hcv
      unfold hexTab at hcv hasc hcell2 hfz2
      have HAS := Lib.hid hasc
      clear hset hset2 hb hasc
      go_wp2_with (rw [hm5])
      go_returns
      refine ⟨_, rfl, by simp; omega, ?_, (HB.out.setCell (by simp only; omega) _).setCell (by simp only; omega) _⟩
      intro b hb9
      rcases List.mem_cons.1 hb9 with rfl | hb9
      · decide
      · exact HAS.out b hb9
set_option maxRecDepth 100000 in
set_option maxHeartbeats 2000000 in
/-- FormatInt(v, 16). -/
theorem fmt_few (v : Int) (w : World) (h0 : -2147483648 ≤ v) (h1 : v ≤ 2147483647) (hT : ∀ W, Below w.heap.size w W → Calls Tryz.prog 168 #[.int .u64 16] W (Ret (.int .i64 4) W)) :
    Calls Tryz.prog 133 #[.int .i64 v, .int .i64 16] w (FewPost w id) := by
  rcases Int.lt_or_le v 0 with hv | hv
  · obtain ⟨n, rfl⟩ : ∃ n : Nat, v = -(n : Int) := ⟨v.natAbs, by omega⟩
    have HC := Lib.hid (bitsNeg_few n w (by omega) (by omega) hT)
    have hw : IntKind.u64.wrap (-(n : Int)) = 18446744073709551616 - (n : Int) := by rw [IntKind.wrap_u64]; omega
    clear hT
    go_enter Tryz.func133, Tryz.ntmps133
    go_wp2_with fail
    rw [show decide (0 < n) = true from decide_eq_true (by omega)]
    refine HC.out.mono ?_
    rintro e w2 ⟨l, rfl, hl, ha, hb2⟩
    have HB := Lib.hid hb2
    have HAS := Lib.hid ha
    clear hb2 ha
    go_wp2_with fail
    go_ret
    exact ⟨l, rfl, hl, HAS.out, HB.out⟩
  · obtain ⟨n, rfl⟩ : ∃ n : Nat, v = (n : Int) := ⟨v.natAbs, by omega⟩
    have HC := Lib.hid (bitsPos_few n w (by omega) hT)
    have hw : IntKind.u64.wrap (n : Int) = (n : Int) := by rw [IntKind.wrap_u64]; omega
    clear hT
    have h0 : ¬ (n : Int) < 0 := by omega
    go_enter Tryz.func133, Tryz.ntmps133
    go_wp2_with fail
    refine HC.out.mono ?_
    rintro e w2 ⟨l, rfl, hl, ha, hb2⟩
    have HB := Lib.hid hb2
    have HAS := Lib.hid ha
    clear hb2 ha
    go_wp2_with fail
    go_ret
    exact ⟨l, rfl, hl, HAS.out, HB.out⟩
set_option maxRecDepth 100000 in
theorem sfmt_few (v : Int) (w : World) (h0 : -2147483648 ≤ v) (h1 : v ≤ 2147483647) (hT : ∀ W, Below w.heap.size w W → Calls Tryz.prog 168 #[.int .u64 16] W (Ret (.int .i64 4) W)) :
    Calls Tryz.prog 117 #[.int .i64 v, .int .i64 16] w (FewPost w id) := by
  have HC := Lib.hid (fmt_few v w h0 h1 hT)
  clear hT
  go_enter Tryz.func117, Tryz.ntmps117
  go_wp2_with fail
  refine HC.out.mono ?_
  rintro e w2 ⟨l, rfl, hl, ha, hb2⟩
  have HB := Lib.hid hb2
  have HAS := Lib.hid ha
  clear hb2 ha
  go_wp2_with fail
  go_ret
  exact ⟨l, rfl, hl, HAS.out, HB.out⟩
end Go.Proofs.YtlkdjdcnbcegeaaGreatDoor
