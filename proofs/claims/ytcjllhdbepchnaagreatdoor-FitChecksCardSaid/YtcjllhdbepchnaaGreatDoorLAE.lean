/-
  dovetailref03.Check: what they return.
-/
import Derived.WalkKit
import Derived.Outline
import Derived.OwnWalk
import Derived.Maps.AppendAt
import Derived.Test.YtcjllhdbepchnaaGreatDoorLAD
import Derived.Test.YtcjllhdbepchnaaGreatDoorLW
import Derived.Test.YtcjllhdbepchnaaGreatDoorLF
namespace Go.Proofs.YtcjllhdbepchnaaGreatDoor
open Go.RowKit
theorem badAt_bad {s : ByteArray} {k : Nat} (h : k < s.size) (h0 : wideF s k (byteD s k) = 0) : badAt (charsFrom s (s.size - k) k) = some k := by
  rw [charsFrom_bad h h0]; rfl
theorem badAt_good {s : ByteArray} {k n : Nat} (h : k < s.size) (h0 : wideF s k (byteD s k) = n) (hn : 0 < n) : badAt (charsFrom s (s.size - k) k) = badAt (charsFrom s (s.size - (k + n)) (k + n)) := by
  rw [charsFrom_good h h0 hn]; simp only [badAt]; rw [if_neg (by omega)]
set_option maxRecDepth 100000 in
set_option maxHeartbeats 1000000 in
theorem refcheck_any (s : ByteArray) (w : World) (hs : s.size < 9223372036854775800) :
    Calls Tryz.prog 73 #[.string s] w fun e w' => e = .returned (.int .i64 (checkV s)) ∧ ∃ n, w' = w.drewN n := by
  go_enter Tryz.func73, Tryz.ntmps73
  go_wp2_with fail
  go_loopw [3, 4] (fun x _ wr => ∃ k n : Nat, x = .int .i64 k ∧ k ≤ s.size ∧ Hid (badAt (chars s) = badAt (charsFrom s (s.size - k) k)) ∧ wr = w.drewN n) (fun i _ _ => s.size - (intOf i).toNat)
  case atStart => exact ⟨0, 0, rfl, by omega, Lib.hid (by simp [chars]), rfl⟩
  case round =>
    obtain ⟨k, m, rfl, hk, HP, rfl⟩ := hrel
    by_cases hlt : k < s.size
    · have hf : k + wideF s k (byteD s k) ≤ s.size := wideF_fits hlt
      obtain ⟨n, hn⟩ : ∃ n, wideF s k (byteD s k) = n := ⟨_, rfl⟩
      rw [hn] at hf
      have HN := Lib.hid hn
      clear hn
      by_cases h0 : n = 0
      · subst h0
        have HF := Lib.hid (show checkV s = k by rw [checkV, HP.out, badAt_bad hlt HN.out])
        go_wp2_with (with_reducible refine (one_any s k _ hs hlt).mono ?_; rintro e w' ⟨rfl, q, rfl⟩; rw [HN.out])
        go_ret
        exact ⟨ret_int HF.out.symm, _, rfl⟩
      · have hnb : ((n : Int) == 0) = false := by simp; omega
        have hpos : 0 < n := by omega
        have HQ := Lib.hid (HP.out.trans (badAt_good hlt HN.out hpos))
        clear h0
        go_wp2_with (with_reducible refine (one_any s k _ hs hlt).mono ?_; rintro e w' ⟨rfl, q, rfl⟩; rw [HN.out])
        go_roundw
        case rel => exact ⟨k + n, _, by go_num, by omega, HQ, rfl⟩
        case measure => simp [intOf]; omega
    · have HF := Lib.hid (show checkV s = -1 by rw [checkV, HP.out, charsFrom_end _ (by omega)]; rfl)
      go_wp2_with fail
      go_ret
      exact ⟨ret_int HF.out.symm, _, rfl⟩
end Go.Proofs.YtcjllhdbepchnaaGreatDoor
