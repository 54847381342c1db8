/-
  dovetailref03: long, second, One: what they return.
-/
import Derived.WalkKit
import Derived.Outline
import Derived.BigQuiet
import Derived.Deep.QuietTactic
import Derived.Test.YtcjllhdbepchnaaGreatDoorLW
namespace Go.Proofs.YtcjllhdbepchnaaGreatDoor
open Go.RowKit
set_option maxRecDepth 100000 in
theorem long_any (a : Int) (w : World) (h0 : 0 ≤ a) (h1 : a < 256) :
    Calls Tryz.prog 122 #[.int .i64 a] w fun e w' => e = .returned (.int .i64 (wn a.toNat)) ∧ w = w' := by
  obtain ⟨b, rfl⟩ := Int.eq_ofNat_of_zero_le h0
  rw [Int.toNat_natCast]
  have HC : b ≤ 0x7f ∨ (0x7f < b ∧ b < 0xc2) ∨ (0xc2 ≤ b ∧ b ≤ 0xdf) ∨ (0xe0 ≤ b ∧ b ≤ 0xef) ∨ (0xf0 ≤ b ∧ b ≤ 0xf4) ∨ 0xf4 < b := by omega
  rcases HC with h | h | h | h | h | h
  all_goals
    have HW := Lib.hid (rfl : wn b = wn b)
    go_enter Tryz.func122, Tryz.ntmps122
    go_wp2_with fail
    go_ret
    refine ⟨ret_int ?_, rfl⟩
    first
      | (rw [wn_is.1 (by omega)]; rfl)
      | (rw [wn_is.2.1 (by omega) (by omega)]; rfl)
      | (rw [wn_is.2.2.1 (by omega) (by omega)]; rfl)
      | (rw [wn_is.2.2.2.1 (by omega) (by omega)]; rfl)
      | (rw [wn_is.2.2.2.2.1 (by omega) (by omega)]; rfl)
      | (rw [wn_is.2.2.2.2.2 (by omega)]; rfl)
def secondB (f b : Nat) : Bool := decide (wlo f ≤ b) && decide (b ≤ whi f)
set_option maxRecDepth 100000 in
theorem second_any (f b : Nat) (w : World) :
    Calls Tryz.prog 123 #[.int .i64 f, .int .i64 b] w fun e w' => e = .returned (.bool (secondB f b)) ∧ w = w' := by
  have HC : f = 0xe0 ∨ f = 0xed ∨ f = 0xf0 ∨ f = 0xf4 ∨ (f ≠ 0xe0 ∧ f ≠ 0xed ∧ f ≠ 0xf0 ∧ f ≠ 0xf4) := by omega
  have hs : ∀ lo hi : Nat, wlo f = lo → whi f = hi → secondB f b = (decide ((lo : Int) ≤ b) && decide ((b : Int) ≤ hi)) := by
    intro lo hi h1 h2; unfold secondB; rw [h1, h2]; congr 1 <;> (rw [decide_eq_decide]; omega)
  rcases HC with rfl | rfl | rfl | rfl | ⟨h1, h2, h3, h4⟩
  · have HS := Lib.hid (hs 0xa0 0xbf rfl rfl); clear hs
    go_enter Tryz.func123, Tryz.ntmps123
    go_wp2_with fail
    all_goals (go_ret; exact ⟨ret_bool (by rw [HS.out]; simp; omega), rfl⟩)
  · have HS := Lib.hid (hs 0x80 0x9f rfl rfl); clear hs
    go_enter Tryz.func123, Tryz.ntmps123
    go_wp2_with fail
    all_goals (go_ret; exact ⟨ret_bool (by rw [HS.out]; simp; omega), rfl⟩)
  · have HS := Lib.hid (hs 0x90 0xbf rfl rfl); clear hs
    go_enter Tryz.func123, Tryz.ntmps123
    go_wp2_with fail
    all_goals (go_ret; exact ⟨ret_bool (by rw [HS.out]; simp; omega), rfl⟩)
  · have HS := Lib.hid (hs 0x80 0x8f rfl rfl); clear hs
    go_enter Tryz.func123, Tryz.ntmps123
    go_wp2_with fail
    all_goals (go_ret; exact ⟨ret_bool (by rw [HS.out]; simp; omega), rfl⟩)
  · have HS := Lib.hid (hs 0x80 0xbf (wlo_is.1 h1 h3) (whi_is.1 h2 h4)); clear hs
    have e1 : ((f : Int) == 0xe0) = false := by simp; omega
    have e2 : ((f : Int) == 0xed) = false := by simp; omega
    have e3 : ((f : Int) == 0xf0) = false := by simp; omega
    have e4 : ((f : Int) == 0xf4) = false := by simp; omega
    clear h1 h2 h3 h4
    go_enter Tryz.func123, Tryz.ntmps123
    go_wp2_with fail
    all_goals (go_ret; exact ⟨ret_bool (by rw [HS.out]; simp; omega), rfl⟩)

theorem behindB_out {s : ByteArray} {k lo hi : Nat} (h : k < s.size) (ho : s[k].toNat < lo ∨ hi < s[k].toNat) : behindB s k lo hi = false := by
  unfold behindB; rw [dif_pos h]; simp; omega
theorem behindB_in {s : ByteArray} {k lo hi : Nat} (h : k < s.size) (h1 : lo ≤ s[k].toNat) (h2 : s[k].toNat ≤ hi) : behindB s k lo hi = true := by
  unfold behindB; rw [dif_pos h]; simp; omega
theorem behindB_past {s : ByteArray} {k lo hi : Nat} (h : s.size ≤ k) : behindB s k lo hi = false := by
  unfold behindB; rw [dif_neg (by omega)]
theorem behindB_second {s : ByteArray} {k f : Nat} (h : k < s.size) : behindB s k (wlo f) (whi f) = secondB f s[k].toNat := by
  unfold behindB secondB; rw [dif_pos h]
theorem wlo_ge (b : Nat) : 128 ≤ wlo b := by unfold wlo; repeat' split <;> first | omega | skip
theorem whi_le (b : Nat) : whi b ≤ 191 := by unfold whi; repeat' split <;> first | omega | skip
/-- One's answer: the point, and how many bytes. -/
def oneP (s : ByteArray) (k : Nat) : Nat := if wideF s k (byteD s k) = 0 then 0 else charPt s k (wideF s k (byteD s k))
theorem one_zero {s : ByteArray} {k : Nat} (h : wideF s k (byteD s k) = 0) : Ending.returned (.tuple #[.int .i64 0, .int .i64 0]) = .returned (.tuple #[.int .i64 (oneP s k), .int .i64 (wideF s k (byteD s k))]) := by
  simp [oneP, h]
theorem one_some {s : ByteArray} {k n p : Nat} (h : wideF s k (byteD s k) = n) (hn : 0 < n) (hp : charPt s k n = p) : Ending.returned (.tuple #[.int .i64 p, .int .i64 n]) = .returned (.tuple #[.int .i64 (oneP s k), .int .i64 (wideF s k (byteD s k))]) := by
  simp [oneP, h, show ¬ n = 0 from by omega, hp]
theorem ptTo_step {s : ByteArray} {k n b j : Nat} (h : k + j < s.size) (hj : 1 ≤ j) : ptTo s k n b (j + 1 - 1) = 64 * ptTo s k n b (j - 1) + s[k + j].toNat % 64 := by
  obtain ⟨i, rfl⟩ : ∃ i, j = i + 1 := ⟨j - 1, by omega⟩
  rw [← byteD_eq h]; simp [ptTo]; omega
set_option maxRecDepth 100000 in
set_option maxHeartbeats 4000000 in
theorem one_any (s : ByteArray) (k : Nat) (w : World) (hs : s.size < 9223372036854775800) (hk : k < s.size) :
    Calls Tryz.prog 103 #[.string s, .int .i64 k] w fun e w' => e = .returned (.tuple #[.int .i64 (oneP s k), .int .i64 (wideF s k (byteD s k))]) ∧ ∃ n, w' = w.drewN n := by
  have hb0 : s[k].toNat < 256 := UInt8.toNat_lt _
  have HB := Lib.hid (byteD_eq hk)
  have h4 : wn s[k].toNat ≤ 4 := by unfold wn; repeat' split <;> first | omega | skip
  have H1 : 1 < wn s[k].toNat ∨ wn s[k].toNat ≤ 1 := by omega
  have HR := Lib.hid (fun (h : 1 < wn s[k].toNat) => show 128 ≤ s[k].toNat by
    rcases Nat.lt_or_ge s[k].toNat 128 with h0 | h0
    · rw [wn_is.1 (by omega)] at h; omega
    · exact h0)
  obtain ⟨n, hn⟩ : ∃ n, wn s[k].toNat = n := ⟨_, rfl⟩
  rw [hn] at h4
  have HN := Lib.hid hn
  clear hn H1
  have HC : n = 0 ∨ n = 1 ∨ n = 2 ∨ n = 3 ∨ n = 4 := by omega
  rcases HC with rfl | rfl | rfl | rfl | rfl
  · have HZ := Lib.hid (show wideF s k (byteD s k) = 0 by rw [HB.out]; exact wideF_none HN.out)
    go_enter Tryz.func103, Tryz.ntmps103
    go_wp2_with (with_reducible refine (long_any _ _ (by omega) (by omega)).mono ?_; rintro e w' ⟨rfl, rfl⟩; rw [Int.toNat_natCast, HN.out])
    go_ret2
    exact ⟨one_zero HZ.out, 0, rfl⟩
  · have HZ := Lib.hid (show wideF s k (byteD s k) = 1 by rw [HB.out]; unfold wideF; rw [HN.out]; rfl)
    have HP := Lib.hid (show charPt s k 1 = s[k].toNat by rw [charPt, HB.out]; rfl)
    go_enter Tryz.func103, Tryz.ntmps103
    by_cases hbig : s.size < k + 1
    · omega
    go_wp2_with (with_reducible refine (long_any _ _ (by omega) (by omega)).mono ?_; rintro e w' ⟨rfl, rfl⟩; rw [Int.toNat_natCast, HN.out])
    go_ret2
    exact ⟨one_some (n := 1) HZ.out (by omega) HP.out, 0, rfl⟩
  · by_cases hbig : s.size < k + 2
    · have HZ := Lib.hid (show wideF s k (byteD s k) = 0 by
        rw [HB.out]
        by_cases h2 : s.size ≤ k + 1
        · exact wideF_no1 (by rw [HN.out]; omega) rfl rfl (behindB_past h2)
        · exact wideF_noj (2 - 1) (by omega) (by rw [HN.out]; omega) (by rw [HN.out]; omega) (behindB_past (by omega)))
      go_enter Tryz.func103, Tryz.ntmps103
      go_wp2_with (with_reducible refine (long_any _ _ (by omega) (by omega)).mono ?_; rintro e w' ⟨rfl, rfl⟩; rw [Int.toNat_natCast, HN.out])
      go_ret2
      exact ⟨one_zero HZ.out, 0, rfl⟩
    have hnb : decide ((s.size : Int) < (k : Int) + 2) = false := by simp; omega
    go_enter Tryz.func103, Tryz.ntmps103
    go_wp2_with (with_reducible refine (long_any _ _ (by omega) (by omega)).mono ?_; rintro e w' ⟨rfl, rfl⟩; rw [Int.toNat_natCast, HN.out])
    go_loopw [8, 9] (fun p i wr => ∃ j m : Nat, 1 ≤ j ∧ j ≤ 2 ∧ i = .int .i64 j ∧ p = .int .i64 (ptTo s k 2 s[k].toNat (j - 1)) ∧ Hid (∀ m, 1 ≤ m → m < j → (if m = 1 then behindB s (k + 1) (wlo s[k].toNat) (whi s[k].toNat) else behindB s (k + m) 128 191) = true) ∧ wr = w.drewN m) (fun _ i _ => 9 - (intOf i).toNat)
    case atStart => exact ⟨1, 0, by omega, by omega, rfl, by simp [ptTo, lead1], Lib.hid (by omega), rfl⟩
    case round =>
      obtain ⟨j, m, hj1, hj, rfl, rfl, HA, rfl⟩ := hrel
      by_cases hjn : j < 2
      · have hk2 : k + j < s.size := by omega
        have hp := ptTo_le3 s k (n := 2) hb0 (show j - 1 ≤ 3 by omega)
        have hb2 : s[k + j].toNat < 256 := UInt8.toNat_lt _
        have HST := Lib.hid (ptTo_step (n := 2) (b := s[k].toNat) hk2 hj1)
        by_cases hin : 128 ≤ s[k + j].toNat ∧ s[k + j].toNat ≤ 191
        · by_cases hjj : j = 1
          · obtain rfl : 1 = j := hjj.symm
            have hp0 := ptTo_le3 s k (n := 2) hb0 (show 0 ≤ 3 by omega)
            cases hS : secondB s[k].toNat s[k + 1].toNat
            · have HZ := Lib.hid (show wideF s k (byteD s k) = 0 by rw [HB.out]; exact wideF_no1 (by rw [HN.out]; omega) rfl rfl (by rw [behindB_second hk2, hS]))
              have HS := Lib.hid hS
              clear hS
              go_wp2_with (with_reducible refine (second_any _ _ _).mono ?_; rintro e w' ⟨rfl, rfl⟩; rw [HS.out])
              go_ret2
              exact ⟨one_zero HZ.out, _, rfl⟩
            · have HS := Lib.hid hS
              have HY := Lib.hid (show behindB s (k + 1) (wlo s[k].toNat) (whi s[k].toNat) = true by rw [behindB_second hk2, hS])
              clear hS
              go_wp2_with (with_reducible refine (second_any _ _ _).mono ?_; rintro e w' ⟨rfl, rfl⟩; rw [HS.out])
              go_roundw
              case rel => exact ⟨2, _, by omega, by omega, by go_num, by rw [show (2 : Nat) = 1 + 1 from rfl, HST.out]; go_num, Lib.hid (fun m h1 h2 => by
                obtain rfl : m = 1 := by omega
                simpa using HY.out), rfl⟩
              case measure => simp [intOf]
          · have hjf : ((j : Int) == 1) = false := by simp; omega
            have HY := Lib.hid (behindB_in hk2 hin.1 hin.2)
            clear hjj
            go_wp2_with fail
            go_roundw
            case rel => exact ⟨j + 1, _, by omega, by omega, by go_num, by rw [HST.out]; go_num, Lib.hid (fun m h1 h2 => by
              rcases Nat.lt_or_ge m j with h3 | h3
              · exact HA.out m h1 h3
              · obtain rfl : m = j := by omega
                rw [if_neg (by simp at hjf; omega)]; exact HY.out), rfl⟩
            case measure => simp [intOf]; omega
        · have HZ := Lib.hid (show wideF s k (byteD s k) = 0 by
            rw [HB.out]
            by_cases hjj : j = 1
            · subst hjj
              exact wideF_no1 (by rw [HN.out]; omega) rfl rfl (behindB_out hk2 (by have := wlo_ge s[k].toNat; have := whi_le s[k].toNat; omega))
            · exact wideF_noj j (by omega) (by rw [HN.out]; omega) (by rw [HN.out]; omega) (behindB_out hk2 (by omega)))
          by_cases hlo : s[k + j].toNat < 128
          · clear hin
            go_wp2_with fail
            go_ret2
            exact ⟨one_zero HZ.out, _, rfl⟩
          · have hhi : 191 < s[k + j].toNat := by omega
            clear hin
            go_wp2_with fail
            go_ret2
            exact ⟨one_zero HZ.out, _, rfl⟩
      · obtain rfl : j = 2 := by omega
        have HZ := Lib.hid (show wideF s k (byteD s k) = 2 by
          rw [HB.out, ← HN.out]
          have h1 := HA.out 1 (by omega) (by omega)
          rw [if_pos rfl] at h1
          refine wideF_yes (by rw [HN.out]; omega) (by rw [HN.out]; omega) rfl rfl h1 (fun m h2 h3 => ?_)
          have := HA.out m (by omega) (by rw [HN.out] at h3; exact h3)
          rwa [if_neg (by omega)] at this)
        have HP := Lib.hid (show charPt s k 2 = ptTo s k 2 s[k].toNat 1 by rw [charPt, HB.out])
        go_wp2_with fail
        go_ret2
        exact ⟨one_some (n := 2) HZ.out (by omega) HP.out, _, rfl⟩
  · by_cases hbig : s.size < k + 3
    · have HZ := Lib.hid (show wideF s k (byteD s k) = 0 by
        rw [HB.out]
        by_cases h2 : s.size ≤ k + 1
        · exact wideF_no1 (by rw [HN.out]; omega) rfl rfl (behindB_past h2)
        · exact wideF_noj (3 - 1) (by omega) (by rw [HN.out]; omega) (by rw [HN.out]; omega) (behindB_past (by omega)))
      go_enter Tryz.func103, Tryz.ntmps103
      go_wp2_with (with_reducible refine (long_any _ _ (by omega) (by omega)).mono ?_; rintro e w' ⟨rfl, rfl⟩; rw [Int.toNat_natCast, HN.out])
      go_ret2
      exact ⟨one_zero HZ.out, 0, rfl⟩
    have hnb : decide ((s.size : Int) < (k : Int) + 3) = false := by simp; omega
    go_enter Tryz.func103, Tryz.ntmps103
    go_wp2_with (with_reducible refine (long_any _ _ (by omega) (by omega)).mono ?_; rintro e w' ⟨rfl, rfl⟩; rw [Int.toNat_natCast, HN.out])
    go_loopw [8, 9] (fun p i wr => ∃ j m : Nat, 1 ≤ j ∧ j ≤ 3 ∧ i = .int .i64 j ∧ p = .int .i64 (ptTo s k 3 s[k].toNat (j - 1)) ∧ Hid (∀ m, 1 ≤ m → m < j → (if m = 1 then behindB s (k + 1) (wlo s[k].toNat) (whi s[k].toNat) else behindB s (k + m) 128 191) = true) ∧ wr = w.drewN m) (fun _ i _ => 9 - (intOf i).toNat)
    case atStart => exact ⟨1, 0, by omega, by omega, rfl, by simp [ptTo, lead1], Lib.hid (by omega), rfl⟩
    case round =>
      obtain ⟨j, m, hj1, hj, rfl, rfl, HA, rfl⟩ := hrel
      by_cases hjn : j < 3
      · have hk2 : k + j < s.size := by omega
        have hp := ptTo_le3 s k (n := 3) hb0 (show j - 1 ≤ 3 by omega)
        have hb2 : s[k + j].toNat < 256 := UInt8.toNat_lt _
        have HST := Lib.hid (ptTo_step (n := 3) (b := s[k].toNat) hk2 hj1)
        by_cases hin : 128 ≤ s[k + j].toNat ∧ s[k + j].toNat ≤ 191
        · by_cases hjj : j = 1
          · obtain rfl : 1 = j := hjj.symm
            have hp0 := ptTo_le3 s k (n := 3) hb0 (show 0 ≤ 3 by omega)
            cases hS : secondB s[k].toNat s[k + 1].toNat
            · have HZ := Lib.hid (show wideF s k (byteD s k) = 0 by rw [HB.out]; exact wideF_no1 (by rw [HN.out]; omega) rfl rfl (by rw [behindB_second hk2, hS]))
              have HS := Lib.hid hS
              clear hS
              go_wp2_with (with_reducible refine (second_any _ _ _).mono ?_; rintro e w' ⟨rfl, rfl⟩; rw [HS.out])
              go_ret2
              exact ⟨one_zero HZ.out, _, rfl⟩
            · have HS := Lib.hid hS
              have HY := Lib.hid (show behindB s (k + 1) (wlo s[k].toNat) (whi s[k].toNat) = true by rw [behindB_second hk2, hS])
              clear hS
              go_wp2_with (with_reducible refine (second_any _ _ _).mono ?_; rintro e w' ⟨rfl, rfl⟩; rw [HS.out])
              go_roundw
              case rel => exact ⟨2, _, by omega, by omega, by go_num, by rw [show (2 : Nat) = 1 + 1 from rfl, HST.out]; go_num, Lib.hid (fun m h1 h2 => by
                obtain rfl : m = 1 := by omega
                simpa using HY.out), rfl⟩
              case measure => simp [intOf]
          · have hjf : ((j : Int) == 1) = false := by simp; omega
            have HY := Lib.hid (behindB_in hk2 hin.1 hin.2)
            clear hjj
            go_wp2_with fail
            go_roundw
            case rel => exact ⟨j + 1, _, by omega, by omega, by go_num, by rw [HST.out]; go_num, Lib.hid (fun m h1 h2 => by
              rcases Nat.lt_or_ge m j with h3 | h3
              · exact HA.out m h1 h3
              · obtain rfl : m = j := by omega
                rw [if_neg (by simp at hjf; omega)]; exact HY.out), rfl⟩
            case measure => simp [intOf]; omega
        · have HZ := Lib.hid (show wideF s k (byteD s k) = 0 by
            rw [HB.out]
            by_cases hjj : j = 1
            · subst hjj
              exact wideF_no1 (by rw [HN.out]; omega) rfl rfl (behindB_out hk2 (by have := wlo_ge s[k].toNat; have := whi_le s[k].toNat; omega))
            · exact wideF_noj j (by omega) (by rw [HN.out]; omega) (by rw [HN.out]; omega) (behindB_out hk2 (by omega)))
          by_cases hlo : s[k + j].toNat < 128
          · clear hin
            go_wp2_with fail
            go_ret2
            exact ⟨one_zero HZ.out, _, rfl⟩
          · have hhi : 191 < s[k + j].toNat := by omega
            clear hin
            go_wp2_with fail
            go_ret2
            exact ⟨one_zero HZ.out, _, rfl⟩
      · obtain rfl : j = 3 := by omega
        have HZ := Lib.hid (show wideF s k (byteD s k) = 3 by
          rw [HB.out, ← HN.out]
          have h1 := HA.out 1 (by omega) (by omega)
          rw [if_pos rfl] at h1
          refine wideF_yes (by rw [HN.out]; omega) (by rw [HN.out]; omega) rfl rfl h1 (fun m h2 h3 => ?_)
          have := HA.out m (by omega) (by rw [HN.out] at h3; exact h3)
          rwa [if_neg (by omega)] at this)
        have HP := Lib.hid (show charPt s k 3 = ptTo s k 3 s[k].toNat 2 by rw [charPt, HB.out])
        go_wp2_with fail
        go_ret2
        exact ⟨one_some (n := 3) HZ.out (by omega) HP.out, _, rfl⟩
  · by_cases hbig : s.size < k + 4
    · have HZ := Lib.hid (show wideF s k (byteD s k) = 0 by
        rw [HB.out]
        by_cases h2 : s.size ≤ k + 1
        · exact wideF_no1 (by rw [HN.out]; omega) rfl rfl (behindB_past h2)
        · exact wideF_noj (4 - 1) (by omega) (by rw [HN.out]; omega) (by rw [HN.out]; omega) (behindB_past (by omega)))
      go_enter Tryz.func103, Tryz.ntmps103
      go_wp2_with (with_reducible refine (long_any _ _ (by omega) (by omega)).mono ?_; rintro e w' ⟨rfl, rfl⟩; rw [Int.toNat_natCast, HN.out])
      go_ret2
      exact ⟨one_zero HZ.out, 0, rfl⟩
    have hnb : decide ((s.size : Int) < (k : Int) + 4) = false := by simp; omega
    go_enter Tryz.func103, Tryz.ntmps103
    go_wp2_with (with_reducible refine (long_any _ _ (by omega) (by omega)).mono ?_; rintro e w' ⟨rfl, rfl⟩; rw [Int.toNat_natCast, HN.out])
    go_loopw [8, 9] (fun p i wr => ∃ j m : Nat, 1 ≤ j ∧ j ≤ 4 ∧ i = .int .i64 j ∧ p = .int .i64 (ptTo s k 4 s[k].toNat (j - 1)) ∧ Hid (∀ m, 1 ≤ m → m < j → (if m = 1 then behindB s (k + 1) (wlo s[k].toNat) (whi s[k].toNat) else behindB s (k + m) 128 191) = true) ∧ wr = w.drewN m) (fun _ i _ => 9 - (intOf i).toNat)
    case atStart => exact ⟨1, 0, by omega, by omega, rfl, by simp [ptTo, lead1], Lib.hid (by omega), rfl⟩
    case round =>
      obtain ⟨j, m, hj1, hj, rfl, rfl, HA, rfl⟩ := hrel
      by_cases hjn : j < 4
      · have hk2 : k + j < s.size := by omega
        have hp := ptTo_le3 s k (n := 4) hb0 (show j - 1 ≤ 3 by omega)
        have hb2 : s[k + j].toNat < 256 := UInt8.toNat_lt _
        have HST := Lib.hid (ptTo_step (n := 4) (b := s[k].toNat) hk2 hj1)
        by_cases hin : 128 ≤ s[k + j].toNat ∧ s[k + j].toNat ≤ 191
        · by_cases hjj : j = 1
          · obtain rfl : 1 = j := hjj.symm
            have hp0 := ptTo_le3 s k (n := 4) hb0 (show 0 ≤ 3 by omega)
            cases hS : secondB s[k].toNat s[k + 1].toNat
            · have HZ := Lib.hid (show wideF s k (byteD s k) = 0 by rw [HB.out]; exact wideF_no1 (by rw [HN.out]; omega) rfl rfl (by rw [behindB_second hk2, hS]))
              have HS := Lib.hid hS
              clear hS
              go_wp2_with (with_reducible refine (second_any _ _ _).mono ?_; rintro e w' ⟨rfl, rfl⟩; rw [HS.out])
              go_ret2
              exact ⟨one_zero HZ.out, _, rfl⟩
            · have HS := Lib.hid hS
              have HY := Lib.hid (show behindB s (k + 1) (wlo s[k].toNat) (whi s[k].toNat) = true by rw [behindB_second hk2, hS])
              clear hS
              go_wp2_with (with_reducible refine (second_any _ _ _).mono ?_; rintro e w' ⟨rfl, rfl⟩; rw [HS.out])
              go_roundw
              case rel => exact ⟨2, _, by omega, by omega, by go_num, by rw [show (2 : Nat) = 1 + 1 from rfl, HST.out]; go_num, Lib.hid (fun m h1 h2 => by
                obtain rfl : m = 1 := by omega
                simpa using HY.out), rfl⟩
              case measure => simp [intOf]
          · have hjf : ((j : Int) == 1) = false := by simp; omega
            have HY := Lib.hid (behindB_in hk2 hin.1 hin.2)
            clear hjj
            go_wp2_with fail
            go_roundw
            case rel => exact ⟨j + 1, _, by omega, by omega, by go_num, by rw [HST.out]; go_num, Lib.hid (fun m h1 h2 => by
              rcases Nat.lt_or_ge m j with h3 | h3
              · exact HA.out m h1 h3
              · obtain rfl : m = j := by omega
                rw [if_neg (by simp at hjf; omega)]; exact HY.out), rfl⟩
            case measure => simp [intOf]; omega
        · have HZ := Lib.hid (show wideF s k (byteD s k) = 0 by
            rw [HB.out]
            by_cases hjj : j = 1
            · subst hjj
              exact wideF_no1 (by rw [HN.out]; omega) rfl rfl (behindB_out hk2 (by have := wlo_ge s[k].toNat; have := whi_le s[k].toNat; omega))
            · exact wideF_noj j (by omega) (by rw [HN.out]; omega) (by rw [HN.out]; omega) (behindB_out hk2 (by omega)))
          by_cases hlo : s[k + j].toNat < 128
          · clear hin
            go_wp2_with fail
            go_ret2
            exact ⟨one_zero HZ.out, _, rfl⟩
          · have hhi : 191 < s[k + j].toNat := by omega
            clear hin
            go_wp2_with fail
            go_ret2
            exact ⟨one_zero HZ.out, _, rfl⟩
      · obtain rfl : j = 4 := by omega
        have HZ := Lib.hid (show wideF s k (byteD s k) = 4 by
          rw [HB.out, ← HN.out]
          have h1 := HA.out 1 (by omega) (by omega)
          rw [if_pos rfl] at h1
          refine wideF_yes (by rw [HN.out]; omega) (by rw [HN.out]; omega) rfl rfl h1 (fun m h2 h3 => ?_)
          have := HA.out m (by omega) (by rw [HN.out] at h3; exact h3)
          rwa [if_neg (by omega)] at this)
        have HP := Lib.hid (show charPt s k 4 = ptTo s k 4 s[k].toNat 3 by rw [charPt, HB.out])
        go_wp2_with fail
        go_ret2
        exact ⟨one_some (n := 4) HZ.out (by omega) HP.out, _, rfl⟩
end Go.Proofs.YtcjllhdbepchnaaGreatDoor
