/-
  table.hex: a number with four digits at least.
-/
import Derived.Test.YtlkdjdcnbcegeaaGreatDoorKE
import Derived.Test.YtlkdjdcnbcegeaaGreatDoorKAO
import Derived.Test.YtlkdjdcnbcegeaaGreatDoorKF
namespace Go.Proofs.YtlkdjdcnbcegeaaGreatDoor
open Go.RowKit Go.WideShapes
set_option linter.unusedVariables false
theorem hexS_up {d : Nat} (h : d < 16) : Lib.upperB (hexS d) = hexU d ∧ (hexS d).toNat < 128 := by
  have hc : d = 0 ∨ d = 1 ∨ d = 2 ∨ d = 3 ∨ d = 4 ∨ d = 5 ∨ d = 6 ∨ d = 7 ∨ d = 8 ∨ d = 9 ∨ d = 10 ∨ d = 11 ∨ d = 12 ∨ d = 13 ∨ d = 14 ∨ d = 15 := by omega
  rcases hc with rfl | rfl | rfl | rfl | rfl | rfl | rfl | rfl | rfl | rfl | rfl | rfl | rfl | rfl | rfl | rfl <;> exact ⟨rfl, by decide⟩
theorem digs_up : ∀ k n, Lib.toUpperA (digs hexS k n) = digs hexU k n
  | 0, _ => rfl
  | k + 1, n => by
    have ih := digs_up k n
    unfold Lib.toUpperA at ih ⊢
    rw [digs, List.map_cons, ih, (hexS_up (Nat.mod_lt _ (by omega))).1, digs]
theorem digs_ascii : ∀ k n, ∀ b ∈ digs hexS k n, b.toNat < 128
  | 0, _, b, hb => by cases hb
  | k + 1, n, b, hb => by
    rw [digs] at hb
    rcases List.mem_cons.1 hb with rfl | hb
    · exact (hexS_up (Nat.mod_lt _ (by omega))).2
    · exact digs_ascii k n b hb
theorem upper_any (n : Nat) (hn : n ≤ 1114111) (w : World) : Calls Tryz.prog 116 #[.string (txt (digs hexS (hexN n) n))] w (Ret (.string (txt (digs hexU (hexN n) n))) w) := by
  refine (Any.strings_ToUpper_ascii lays158 extra158 (txt (digs hexS (hexN n) n)) w ?_ ?_).mono ?_
  · rw [txt_size, digs_len]; have := hexN_few hn; omega
  · intro j b hj
    rw [txt_list] at hj
    exact digs_ascii _ _ b (List.mem_of_getElem? hj)
  · rintro e w' ⟨rfl, hb⟩
    refine ⟨?_, hb⟩
    rw [txt_list, digs_up]; rfl
theorem fmt_any (n : Nat) (w : World) (hn : n ≤ 1114111) (hT : ∀ W, Below w.heap.size w W → Calls Tryz.prog 168 #[.int .u64 16] W (Ret (.int .i64 4) W)) :
    Calls Tryz.prog 117 #[.int .i64 n, .int .i64 16] w (Ret (.string (txt (digs hexS (hexN n) n))) w) := by
  have HC := Lib.hid (hexInt_any n w hn hT)
  clear hT
  go_enter Tryz.func117, Tryz.ntmps117
  go_wp2_with fail
  refine HC.out.mono ?_
  rintro e w2 ⟨rfl, hb2⟩
  have HB := Lib.hid hb2
  clear hb2
  go_wp2_with fail
  go_ret
  exact ⟨rfl, HB.out⟩
theorem digs_padW {k n : Nat} (hk : hexN n ≤ k) : txt [48] ++ txt (digs hexU k n) = txt (digs hexU (k + 1) n) := by
  rw [txt_append]
  have h1 := hexN_lt n
  have h2 : n / 16 ^ k = 0 := by
    have h7 : 16 ^ hexN n ≤ 16 ^ k := Nat.pow_le_pow_right (by omega) hk
    have h6 := Nat.div_le_div_left h7 (Nat.pow_pos (by omega)) (a := n)
    rw [h1] at h6
    exact Nat.le_zero.1 h6
  rw [digs_pad k n h2]; rfl
set_option maxRecDepth 100000 in
set_option maxHeartbeats 1000000 in
theorem hex_any (n : Nat) (hn : n ≤ 1114111) {w0 w : World} (h : laidMetH Tryz.prog Rows.matchNilRow.laid w0) (hb0 : Below w0.heap.size w0 w) : Calls Tryz.prog 88 #[.int .i64 n] w (Ret (.string (txt (hexW n))) w) := by
  have HF := Lib.hid (fmt_any n w hn (fun W hb => tz_any h (hb0.trans (hb.mono hb0.size))))
  have HU := Lib.hid (upper_any n hn)
  have hn6 := hexN_few hn
  clear h hb0
  go_enter Tryz.func88, Tryz.ntmps88
  go_wp2_with fail
  refine HF.out.mono ?_
  rintro e w1 ⟨rfl, hb1⟩
  have HB1 := Lib.hid hb1
  clear hb1
  go_wp2_with fail
  refine (HU.out _).mono ?_
  rintro e w2 ⟨rfl, hb2⟩
  have HB2 := Lib.hid (HB1.out.trans (hb2.mono HB1.out.size))
  clear hb2 HB1
  go_wp2_with fail
  go_loop [3] (fun t3 => ∃ (k : Nat), t3 = .string (txt (digs hexU k n)) ∧ hexN n ≤ k ∧ k ≤ 6 ∧ Hid (k ≤ 4 ∨ k = hexN n)) (fun t3 => (match t3 with | .string s => 4 - s.size | _ => 0))
  case atStart => exact ⟨hexN n, rfl, Nat.le_refl _, hn6, Lib.hid (.inr rfl)⟩
  case round =>
    obtain ⟨k, rfl, hk1, hk6, HK⟩ := hrel
    have hsz : (txt (digs hexU k n)).size = k := by rw [txt_size, digs_len]
    by_cases h4 : k < 4
    · have hk4I : ((txt (digs hexU k n)).size : Int) < 4 := by omega
      have HP := Lib.hid (digs_padW hk1)
      have HS := Lib.hid hsz
      have z : (9223372036854775807 < 1 + (txt (digs hexU k n)).size) = False := eq_false (by omega)
      clear hsz
      go_wp2_with fail
      go_round
      case rel => exact ⟨k + 1, congrArg Value.string HP.out, by omega, by omega, Lib.hid (.inl (by omega))⟩
      case measure =>
        have e : ByteArray.mk #[48] ++ txt (digs hexU k n) = txt (digs hexU (k + 1) n) := HP.out
        rw [e]
        have e2 : (txt (digs hexU (k + 1) n)).size = k + 1 := by rw [txt_size, digs_len]
        simp only [e2, HS.out]
        omega
    · have hk4I : ¬ ((txt (digs hexU k n)).size : Int) < 4 := by omega
      have HE := Lib.hid (show digs hexU k n = hexW n by unfold hexW; rw [show k = max 4 (hexN n) by rcases HK.out with h | h <;> omega])
      clear hsz
      go_wp2_with fail
      go_ret
      exact ret_s (by rw [HE.out]) HB2.out
end Go.Proofs.YtlkdjdcnbcegeaaGreatDoor
