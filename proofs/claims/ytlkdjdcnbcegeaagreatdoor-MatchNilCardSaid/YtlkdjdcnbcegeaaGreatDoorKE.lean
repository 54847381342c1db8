/-
  Numbers with four digits at least: the document's Digits.
-/
import Derived.Test.YtlkdjdcnbcegeaaGreatDoorKA
import Derived.Laws.Strings2
import Derived.Laws.DeepStrings4
import Derived.Test.YtlkdjdcnbcegeaaGreatDoorKB
namespace Go.Proofs.YtlkdjdcnbcegeaaGreatDoor
open Go.RowKit Go.WideShapes
set_option linter.unusedVariables false
def hexTabU : ByteArray := ⟨#[48, 49, 50, 51, 52, 53, 54, 55, 56, 57, 65, 66, 67, 68, 69, 70]⟩
theorem hexSigns {d : Nat} (h : d < 16) : hexTabU.extract d (d + 1) = txt [hexU d] := by
  have hc : d = 0 ∨ d = 1 ∨ d = 2 ∨ d = 3 ∨ d = 4 ∨ d = 5 ∨ d = 6 ∨ d = 7 ∨ d = 8 ∨ d = 9 ∨ d = 10 ∨ d = 11 ∨ d = 12 ∨ d = 13 ∨ d = 14 ∨ d = 15 := by omega
  rcases hc with rfl | rfl | rfl | rfl | rfl | rfl | rfl | rfl | rfl | rfl | rfl | rfl | rfl | rfl | rfl | rfl <;> rfl
set_option maxRecDepth 100000 in
set_option maxHeartbeats 1000000 in
theorem digits_any (n : Nat) (w : World) (hn : n ≤ 9223372036854775807) : Calls Tryz.prog 91 #[.int .i64 n] w (Ret (.string (txt (hexW n))) w) := by
  have HB := Lib.hid (Below.refl w.heap.size w)
  go_enter Tryz.func91, Tryz.ntmps91
  go_wp2_with fail
  go_loop [0, 3] (fun t0 t3 => ∃ (k v : Nat), t0 = .int .i64 v ∧ t3 = .string (txt (digs hexU k n)) ∧ Hid (v = n / 16 ^ k) ∧ v ≤ 9223372036854775807 ∧ Hid (k ≤ 4 ∨ n / 16 ^ (k - 1) ≠ 0)) (fun t0 t3 => (intOf t0).toNat + (match t3 with | .string s => 4 - s.size | _ => 0))
  case atStart => exact ⟨0, n, rfl, rfl, Lib.hid (by simp), hn, Lib.hid (by omega)⟩
  case round =>
    obtain ⟨k, v, rfl, rfl, HV, hv, HP⟩ := hrel
    have hk : k ≤ 17 := by
      rcases HP.out with h | h
      · omega
      · refine Nat.le_of_not_lt fun h9 => h (Nat.div_eq_of_lt (Nat.lt_of_le_of_lt hn ?_))
        exact Nat.lt_of_lt_of_le (by decide : 9223372036854775807 < 16 ^ 16) (Nat.pow_le_pow_right (by omega) (by omega))
    have hsz : (txt (digs hexU k n)).size = k := by rw [txt_size, digs_len]
    by_cases hgo : k < 4 ∨ 0 < v
    · obtain ⟨d, hd⟩ : ∃ d, d = v % 16 := ⟨_, rfl⟩
      have hr16 : d < 16 := by rw [hd]; exact Nat.mod_lt _ (by omega)
      have hr : (v : Int).tmod 16 = (d : Int) := by rw [Int.tmod_eq_emod_of_nonneg (by omega)]; omega
      have hq : (v : Int).tdiv 16 = ((v / 16 : Nat) : Int) := by rw [Int.tdiv_eq_ediv_of_nonneg (by omega)]; omega
      have hd16 : (d : Int) + 1 ≤ 16 := by omega
      have hd0 : (0 : Int) ≤ (d : Int) := by omega
      have HE := Lib.hid (hexSigns hr16)
      have HN := Lib.hid (show txt [hexU d] ++ txt (digs hexU k n) = txt (digs hexU (k + 1) n) by rw [hd, txt_append, digs, HV.out]; rfl)
      have hP' := Lib.hid (show k + 1 ≤ 4 ∨ n / 16 ^ (k + 1 - 1) ≠ 0 by rw [Nat.add_sub_cancel, ← HV.out]; omega)
      have hV' := Lib.hid (show v / 16 = n / 16 ^ (k + 1) by rw [HV.out, Nat.div_div_eq_div_mul, Nat.pow_succ])
      clear hd
      have hm1 : (txt (digs hexU (k + 1) n)).size = k + 1 := by rw [txt_size, digs_len]
      have hm2 : v / 16 + (4 - (k + 1)) < v + (4 - k) := by omega
      have HM := Lib.hid (And.intro hm1 hm2)
      have HZ := Lib.hid hsz
      clear hm1 hm2
      by_cases hk4 : k < 4
      · have hk4I : ((txt (digs hexU k n)).size : Int) < 4 := by omega
        clear hgo
        go_wp2_with fail
        go_round
        case rel =>
          refine ⟨k + 1, v / 16, by simp, congrArg Value.string (by rw [← HN.out, ← HE.out]; rfl), hV', by omega, hP'⟩
        case measure =>
          have e : ByteArray.extract ⟨#[48, 49, 50, 51, 52, 53, 54, 55, 56, 57, 65, 66, 67, 68, 69, 70]⟩ d (d + 1) ++ txt (digs hexU k n) = txt (digs hexU (k + 1) n) := by rw [← HN.out, ← HE.out]; rfl
          rw [e]
          simp only [intOf, HM.out.1, HZ.out]
          have := HM.out.2
          omega
      · have hk4I : ¬ ((txt (digs hexU k n)).size : Int) < 4 := by omega
        have hv0 : (0 : Int) < (v : Int) := by omega
        clear hgo
        go_wp2_with fail
        go_round
        case rel =>
          refine ⟨k + 1, v / 16, by simp, congrArg Value.string (by rw [← HN.out, ← HE.out]; rfl), hV', by omega, hP'⟩
        case measure =>
          have e : ByteArray.extract ⟨#[48, 49, 50, 51, 52, 53, 54, 55, 56, 57, 65, 66, 67, 68, 69, 70]⟩ d (d + 1) ++ txt (digs hexU k n) = txt (digs hexU (k + 1) n) := by rw [← HN.out, ← HE.out]; rfl
          rw [e]
          simp only [intOf, HM.out.1, HZ.out]
          have := HM.out.2
          omega
    · have hk4 : 4 ≤ k := by omega
      obtain rfl : v = 0 := by omega
      have hk4I : ¬ ((txt (digs hexU k n)).size : Int) < 4 := by omega
      have HE := Lib.hid (digs_end hk4 HV.out.symm (by rcases HP.out with h | h <;> omega))
      clear hgo
      go_wp2_with fail
      go_ret
      exact ret_s (by rw [HE.out]) HB.out
end Go.Proofs.YtlkdjdcnbcegeaaGreatDoor
