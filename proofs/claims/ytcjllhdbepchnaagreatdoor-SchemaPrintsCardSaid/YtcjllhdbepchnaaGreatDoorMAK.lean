/-
  utf.behind and utf.wide: what they return, at every string and place.
-/
import Derived.Test.YtcjllhdbepchnaaGreatDoorMG
import Derived.WalkKit
import Derived.Lib.Hide
import Derived.RangeFuncNested
import Derived.RangeFuncBound
import Derived.RangeFuncCalls
import Derived.RangeFuncLeaves
import Derived.Shelf.Abstract
import Derived.Shelf.RegionOpen
import Derived.OwnWalkIn
import Derived.TacticsInMore
import Derived.LoopNIn
import Derived.LoopIn
import Derived.Laws.BitsLemmas
import Derived.Maps.AppendAt
/-! utf.behind and utf.wide: what they return, at every string and place. -/
namespace Go.Proofs.YtcjllhdbepchnaaGreatDoor
open Go.RowKit

def behindB (s : ByteArray) (k lo hi : Nat) : Bool := if h : k < s.size then decide (lo ≤ s[k].toNat) && decide (s[k].toNat ≤ hi) else false


set_option maxHeartbeats 400000 in
theorem behind_nat (s : ByteArray) (k : Nat) (lo hi : Nat) (w : World) (_hs : s.size ≤ maxLen) :
    Calls Tryz.prog 150 #[.string s, .int .i64 k, .int .u8 lo, .int .u8 hi] w fun e w' => e = .returned (.bool (behindB s k lo hi)) ∧ w' = w := by
  unfold maxLen at _hs
  by_cases hlt : k < s.size
  · go_enter Tryz.func150, Tryz.ntmps150
    go_wp2_with fail
    all_goals
      go_ret
      refine ⟨ret_bool ?_, rfl⟩
      simp only [behindB, hlt, dite_true]
      simp
      omega
  · go_enter Tryz.func150, Tryz.ntmps150
    go_wp2_with fail
    go_ret
    refine ⟨ret_bool ?_, rfl⟩
    simp [behindB, hlt]
theorem behind_any (s : ByteArray) (a lo hi : Int) (w : World) (hs : s.size ≤ maxLen) (ha : 0 ≤ a) (hl : 0 ≤ lo) (hh : 0 ≤ hi) :
    Calls Tryz.prog 150 #[.string s, .int .i64 a, .int .u8 lo, .int .u8 hi] w fun e w' => e = .returned (.bool (behindB s a.toNat lo.toNat hi.toNat)) ∧ w = w' := by
  obtain ⟨k, rfl⟩ := Int.eq_ofNat_of_zero_le ha
  obtain ⟨l, rfl⟩ := Int.eq_ofNat_of_zero_le hl
  obtain ⟨h, rfl⟩ := Int.eq_ofNat_of_zero_le hh
  exact (behind_nat s k l h w hs).mono fun _ _ h => ⟨h.1, h.2.symm⟩

/-- bytes of a character by its first byte: how many; the second one's least and greatest -/
def wn (b : Nat) : Nat := if b ≤ 0x7f then 1 else if 0xc2 ≤ b ∧ b ≤ 0xdf then 2 else if 0xe0 ≤ b ∧ b ≤ 0xef then 3 else if 0xf0 ≤ b ∧ b ≤ 0xf4 then 4 else 0
def wlo (b : Nat) : Nat := if b = 0xe0 then 0xa0 else if b = 0xf0 then 0x90 else 0x80
def whi (b : Nat) : Nat := if b = 0xed then 0x9f else if b = 0xf4 then 0x8f else 0xbf
def wideF (s : ByteArray) (k b : Nat) : Nat :=
  if wn b ≤ 1 then wn b else if behindB s (k + 1) (wlo b) (whi b) && (decide (wn b < 3) || behindB s (k + 2) 0x80 0xbf) && (decide (wn b < 4) || behindB s (k + 3) 0x80 0xbf) then wn b else 0


theorem wideF_one {s : ByteArray} {k b : Nat} (h : b ≤ 0x7f) : wideF s k b = 1 := by simp [wideF, wn, h]
theorem wideF_none {s : ByteArray} {k b : Nat} (h : wn b = 0) : wideF s k b = 0 := by simp [wideF, h]
theorem wideF_no1 {s : ByteArray} {k b lo hi : Nat} (h : 1 < wn b) (hl : wlo b = lo) (hh : whi b = hi) (h1 : behindB s (k + 1) lo hi = false) : wideF s k b = 0 := by
  unfold wideF; rw [if_neg (by omega), hl, hh, h1]; simp
theorem wideF_noj {s : ByteArray} {k b : Nat} (j : Nat) (h2 : 2 ≤ j) (h : j < wn b) (h4 : wn b ≤ 4) (hj : behindB s (k + j) 128 191 = false) : wideF s k b = 0 := by
  have : j = 2 ∨ j = 3 := by omega
  unfold wideF; rw [if_neg (by omega)]
  rcases this with rfl | rfl
  · rw [hj]; simp; omega
  · rw [hj]; simp; omega
theorem wideF_yes {s : ByteArray} {k b lo hi : Nat} (h : 1 < wn b) (h4 : wn b ≤ 4) (hl : wlo b = lo) (hh : whi b = hi) (h1 : behindB s (k + 1) lo hi = true)
    (hall : ∀ m, 2 ≤ m → m < wn b → behindB s (k + m) 128 191 = true) : wideF s k b = wn b := by
  unfold wideF; rw [if_neg (by omega), hl, hh, h1, if_pos]
  simp
  constructor
  · by_cases h3 : wn b < 3
    · exact .inl h3
    · exact .inr (hall 2 (by omega) (by omega))
  · by_cases h3 : wn b < 4
    · exact .inl h3
    · exact .inr (hall 3 (by omega) (by omega))
theorem wn_is {b : Nat} : (b ≤ 0x7f → wn b = 1) ∧ (0xc2 ≤ b → b ≤ 0xdf → wn b = 2) ∧ (0xe0 ≤ b → b ≤ 0xef → wn b = 3) ∧ (0xf0 ≤ b → b ≤ 0xf4 → wn b = 4) ∧ (0x7f < b → b < 0xc2 → wn b = 0) ∧ (0xf4 < b → wn b = 0) := by
  unfold wn; refine ⟨?_, ?_, ?_, ?_, ?_, ?_⟩ <;> intros <;> repeat (first | rw [if_pos (by omega)] | rw [if_neg (by omega)])
theorem wlo_is {b : Nat} : (b ≠ 0xe0 → b ≠ 0xf0 → wlo b = 0x80) ∧ (b = 0xe0 → wlo b = 0xa0) ∧ (b = 0xf0 → wlo b = 0x90) := by
  unfold wlo; refine ⟨?_, ?_, ?_⟩ <;> intros <;> repeat (first | rw [if_pos (by omega)] | rw [if_neg (by omega)])
theorem whi_is {b : Nat} : (b ≠ 0xed → b ≠ 0xf4 → whi b = 0xbf) ∧ (b = 0xed → whi b = 0x9f) ∧ (b = 0xf4 → whi b = 0x8f) := by
  unfold whi; refine ⟨?_, ?_, ?_⟩ <;> intros <;> repeat (first | rw [if_pos (by omega)] | rw [if_neg (by omega)])

set_option maxRecDepth 100000 in
set_option maxHeartbeats 2000000 in
theorem wide_any (s : ByteArray) (k : Nat) (w : World) (hs : s.size < 9223372036854775800) (hk : k < s.size) :
    Calls Tryz.prog 120 #[.string s, .int .i64 k] w fun e w' => e = .returned (.int .i64 (wideF s k s[k].toNat)) ∧ w = w' := by
  have hm : s.size ≤ maxLen := by unfold maxLen; omega
  have hb : s[k].toNat < 256 := UInt8.toNat_lt _
  have hb' : (s[k].toNat : Int) < 256 := by omega
  have HC : s[k].toNat ≤ 0x7f ∨ (0x7f < s[k].toNat ∧ s[k].toNat < 0xc2) ∨ (0xc2 ≤ s[k].toNat ∧ s[k].toNat ≤ 0xdf) ∨ (0xe0 ≤ s[k].toNat ∧ s[k].toNat ≤ 0xe0) ∨ (0xe0 < s[k].toNat ∧ s[k].toNat < 0xed) ∨ (0xed ≤ s[k].toNat ∧ s[k].toNat ≤ 0xed) ∨ (0xed < s[k].toNat ∧ s[k].toNat ≤ 0xef) ∨ (0xf0 ≤ s[k].toNat ∧ s[k].toNat ≤ 0xf0) ∨ (0xf0 < s[k].toNat ∧ s[k].toNat < 0xf4) ∨ (0xf4 ≤ s[k].toNat ∧ s[k].toNat ≤ 0xf4) ∨ 0xf4 < s[k].toNat := by omega
  rcases HC with h | h | h | h | h | h | h | h | h | h | h
  · have HF := Lib.hid (show wideF s k s[k].toNat = _ from wideF_one h)
    go_enter Tryz.func120, Tryz.ntmps120
    go_wp2_with fail
    go_ret
    exact ⟨ret_int (by rw [HF.out]; rfl), rfl⟩
  · have HF := Lib.hid (show wideF s k s[k].toNat = _ from wideF_none (by first | exact wn_is.2.2.2.2.1 h.1 h.2 | exact wn_is.2.2.2.2.2 h))
    go_enter Tryz.func120, Tryz.ntmps120
    go_wp2_with fail
    go_ret
    exact ⟨ret_int (by rw [HF.out]; rfl), rfl⟩
  · have HN := Lib.hid (show wn s[k].toNat = 2 from wn_is.2.1 (by omega) (by omega))
    have d127 : decide ((s[k].toNat : Int) ≤ 127) = false := by simp; omega
    have d194 : decide (194 ≤ (s[k].toNat : Int)) = true := by simp; omega
    have d223 : decide ((s[k].toNat : Int) ≤ 223) = true := by simp; omega
    have d224 : decide (224 ≤ (s[k].toNat : Int)) = false := by simp; omega
    have d239 : decide ((s[k].toNat : Int) ≤ 239) = true := by simp; omega
    have d240 : decide (240 ≤ (s[k].toNat : Int)) = false := by simp; omega
    have d244 : decide ((s[k].toNat : Int) ≤ 244) = true := by simp; omega
    have HL := Lib.hid (show wlo s[k].toNat = 128 from wlo_is.1 (by omega) (by omega))
    have HH := Lib.hid (show whi s[k].toNat = 191 from whi_is.1 (by omega) (by omega))
    go_enter Tryz.func120, Tryz.ntmps120
    go_wp2_with (with_reducible refine (behind_any _ _ _ _ _ hm (by omega) (by omega) (by omega)).mono ?_; rintro e w' ⟨rfl, rfl⟩)
    · go_ret
      exact ⟨ret_int (by rw [wideF_no1 (by rw [HN.out]; omega) HL.out HH.out (by simpa using (show (!behindB s (k + 1) 128 191) = true by assumption))]; rfl), rfl⟩
    have h1 := Lib.hid (show behindB s (k + 1) 128 191 = true by simpa using (show (!behindB s (k + 1) 128 191) = false by assumption))
    rename (!behindB s (k + 1) 128 191) = false => hq0
    clear hq0
    go_loop [9] (fun i => ∃ j : Nat, 2 ≤ j ∧ j ≤ 2 ∧ i = .int .i64 j ∧ Hid (∀ m, 2 ≤ m → m < j → behindB s (k + m) 128 191 = true)) (fun i => 9 - (intOf i).toNat)
    case atStart => exact ⟨2, by omega, by omega, rfl, Lib.hid (by omega)⟩
    case round =>
      obtain ⟨j, hj2, hjn, rfl, HA⟩ := hrel
      by_cases hlt : j < 2
      · omega
      · obtain rfl : j = 2 := by omega
        go_wp2_with fail
        go_ret
        exact ⟨ret_int (by rw [wideF_yes (by rw [HN.out]; omega) (by rw [HN.out]; omega) HL.out HH.out h1.out (by rw [HN.out]; exact HA.out), HN.out]; rfl), rfl⟩
  · have HN := Lib.hid (show wn s[k].toNat = 3 from wn_is.2.2.1 (by omega) (by omega))
    have e224 : ((s[k].toNat : Int) == 224) = true := by simp; omega
    have e237 : ((s[k].toNat : Int) == 237) = false := by simp; omega
    have d127 : decide ((s[k].toNat : Int) ≤ 127) = false := by simp; omega
    have d194 : decide (194 ≤ (s[k].toNat : Int)) = true := by simp; omega
    have d223 : decide ((s[k].toNat : Int) ≤ 223) = false := by simp; omega
    have d224 : decide (224 ≤ (s[k].toNat : Int)) = true := by simp; omega
    have d239 : decide ((s[k].toNat : Int) ≤ 239) = true := by simp; omega
    have d240 : decide (240 ≤ (s[k].toNat : Int)) = false := by simp; omega
    have d244 : decide ((s[k].toNat : Int) ≤ 244) = true := by simp; omega
    have HL := Lib.hid (show wlo s[k].toNat = 160 from wlo_is.2.1 (by omega))
    have HH := Lib.hid (show whi s[k].toNat = 191 from whi_is.1 (by omega) (by omega))
    go_enter Tryz.func120, Tryz.ntmps120
    go_wp2_with (with_reducible refine (behind_any _ _ _ _ _ hm (by omega) (by omega) (by omega)).mono ?_; rintro e w' ⟨rfl, rfl⟩)
    · go_ret
      exact ⟨ret_int (by rw [wideF_no1 (by rw [HN.out]; omega) HL.out HH.out (by simpa using (show (!behindB s (k + 1) 160 191) = true by assumption))]; rfl), rfl⟩
    have h1 := Lib.hid (show behindB s (k + 1) 160 191 = true by simpa using (show (!behindB s (k + 1) 160 191) = false by assumption))
    rename (!behindB s (k + 1) 160 191) = false => hq0
    clear hq0
    go_loop [9] (fun i => ∃ j : Nat, 2 ≤ j ∧ j ≤ 3 ∧ i = .int .i64 j ∧ Hid (∀ m, 2 ≤ m → m < j → behindB s (k + m) 128 191 = true)) (fun i => 9 - (intOf i).toNat)
    case atStart => exact ⟨2, by omega, by omega, rfl, Lib.hid (by omega)⟩
    case round =>
      obtain ⟨j, hj2, hjn, rfl, HA⟩ := hrel
      by_cases hlt : j < 3
      · go_wp2_with (with_reducible refine (behind_any _ _ _ _ _ hm (by omega) (by omega) (by omega)).mono ?_; rintro e w' ⟨rfl, rfl⟩)
        · go_ret
          exact ⟨ret_int (by rw [wideF_noj j hj2 (by rw [HN.out]; omega) (by rw [HN.out]; omega) (by simpa using (show (!behindB s (k + j) 128 191) = true by assumption))]; rfl), rfl⟩
        · have hq : behindB s (k + j) 128 191 = true := by simpa using (show (!behindB s (k + j) 128 191) = false by assumption)
          go_round
          case rel => exact ⟨j + 1, by omega, by omega, by go_num, Lib.hid (fun m h1 h2 => by
            rcases Nat.lt_or_ge m j with h3 | h3
            · exact HA.out m h1 h3
            · obtain rfl : m = j := by omega
              exact hq)⟩
          case measure => simp [intOf] <;> omega
      · obtain rfl : j = 3 := by omega
        go_wp2_with fail
        go_ret
        exact ⟨ret_int (by rw [wideF_yes (by rw [HN.out]; omega) (by rw [HN.out]; omega) HL.out HH.out h1.out (by rw [HN.out]; exact HA.out), HN.out]; rfl), rfl⟩
  · have HN := Lib.hid (show wn s[k].toNat = 3 from wn_is.2.2.1 (by omega) (by omega))
    have e224 : ((s[k].toNat : Int) == 224) = false := by simp; omega
    have e237 : ((s[k].toNat : Int) == 237) = false := by simp; omega
    have d127 : decide ((s[k].toNat : Int) ≤ 127) = false := by simp; omega
    have d194 : decide (194 ≤ (s[k].toNat : Int)) = true := by simp; omega
    have d223 : decide ((s[k].toNat : Int) ≤ 223) = false := by simp; omega
    have d224 : decide (224 ≤ (s[k].toNat : Int)) = true := by simp; omega
    have d239 : decide ((s[k].toNat : Int) ≤ 239) = true := by simp; omega
    have d240 : decide (240 ≤ (s[k].toNat : Int)) = false := by simp; omega
    have d244 : decide ((s[k].toNat : Int) ≤ 244) = true := by simp; omega
    have HL := Lib.hid (show wlo s[k].toNat = 128 from wlo_is.1 (by omega) (by omega))
    have HH := Lib.hid (show whi s[k].toNat = 191 from whi_is.1 (by omega) (by omega))
    go_enter Tryz.func120, Tryz.ntmps120
    go_wp2_with (with_reducible refine (behind_any _ _ _ _ _ hm (by omega) (by omega) (by omega)).mono ?_; rintro e w' ⟨rfl, rfl⟩)
    · go_ret
      exact ⟨ret_int (by rw [wideF_no1 (by rw [HN.out]; omega) HL.out HH.out (by simpa using (show (!behindB s (k + 1) 128 191) = true by assumption))]; rfl), rfl⟩
    have h1 := Lib.hid (show behindB s (k + 1) 128 191 = true by simpa using (show (!behindB s (k + 1) 128 191) = false by assumption))
    rename (!behindB s (k + 1) 128 191) = false => hq0
    clear hq0
    go_loop [9] (fun i => ∃ j : Nat, 2 ≤ j ∧ j ≤ 3 ∧ i = .int .i64 j ∧ Hid (∀ m, 2 ≤ m → m < j → behindB s (k + m) 128 191 = true)) (fun i => 9 - (intOf i).toNat)
    case atStart => exact ⟨2, by omega, by omega, rfl, Lib.hid (by omega)⟩
    case round =>
      obtain ⟨j, hj2, hjn, rfl, HA⟩ := hrel
      by_cases hlt : j < 3
      · go_wp2_with (with_reducible refine (behind_any _ _ _ _ _ hm (by omega) (by omega) (by omega)).mono ?_; rintro e w' ⟨rfl, rfl⟩)
        · go_ret
          exact ⟨ret_int (by rw [wideF_noj j hj2 (by rw [HN.out]; omega) (by rw [HN.out]; omega) (by simpa using (show (!behindB s (k + j) 128 191) = true by assumption))]; rfl), rfl⟩
        · have hq : behindB s (k + j) 128 191 = true := by simpa using (show (!behindB s (k + j) 128 191) = false by assumption)
          go_round
          case rel => exact ⟨j + 1, by omega, by omega, by go_num, Lib.hid (fun m h1 h2 => by
            rcases Nat.lt_or_ge m j with h3 | h3
            · exact HA.out m h1 h3
            · obtain rfl : m = j := by omega
              exact hq)⟩
          case measure => simp [intOf] <;> omega
      · obtain rfl : j = 3 := by omega
        go_wp2_with fail
        go_ret
        exact ⟨ret_int (by rw [wideF_yes (by rw [HN.out]; omega) (by rw [HN.out]; omega) HL.out HH.out h1.out (by rw [HN.out]; exact HA.out), HN.out]; rfl), rfl⟩
  · have HN := Lib.hid (show wn s[k].toNat = 3 from wn_is.2.2.1 (by omega) (by omega))
    have e224 : ((s[k].toNat : Int) == 224) = false := by simp; omega
    have e237 : ((s[k].toNat : Int) == 237) = true := by simp; omega
    have d127 : decide ((s[k].toNat : Int) ≤ 127) = false := by simp; omega
    have d194 : decide (194 ≤ (s[k].toNat : Int)) = true := by simp; omega
    have d223 : decide ((s[k].toNat : Int) ≤ 223) = false := by simp; omega
    have d224 : decide (224 ≤ (s[k].toNat : Int)) = true := by simp; omega
    have d239 : decide ((s[k].toNat : Int) ≤ 239) = true := by simp; omega
    have d240 : decide (240 ≤ (s[k].toNat : Int)) = false := by simp; omega
    have d244 : decide ((s[k].toNat : Int) ≤ 244) = true := by simp; omega
    have HL := Lib.hid (show wlo s[k].toNat = 128 from wlo_is.1 (by omega) (by omega))
    have HH := Lib.hid (show whi s[k].toNat = 159 from whi_is.2.1 (by omega))
    go_enter Tryz.func120, Tryz.ntmps120
    go_wp2_with (with_reducible refine (behind_any _ _ _ _ _ hm (by omega) (by omega) (by omega)).mono ?_; rintro e w' ⟨rfl, rfl⟩)
    · go_ret
      exact ⟨ret_int (by rw [wideF_no1 (by rw [HN.out]; omega) HL.out HH.out (by simpa using (show (!behindB s (k + 1) 128 159) = true by assumption))]; rfl), rfl⟩
    have h1 := Lib.hid (show behindB s (k + 1) 128 159 = true by simpa using (show (!behindB s (k + 1) 128 159) = false by assumption))
    rename (!behindB s (k + 1) 128 159) = false => hq0
    clear hq0
    go_loop [9] (fun i => ∃ j : Nat, 2 ≤ j ∧ j ≤ 3 ∧ i = .int .i64 j ∧ Hid (∀ m, 2 ≤ m → m < j → behindB s (k + m) 128 191 = true)) (fun i => 9 - (intOf i).toNat)
    case atStart => exact ⟨2, by omega, by omega, rfl, Lib.hid (by omega)⟩
    case round =>
      obtain ⟨j, hj2, hjn, rfl, HA⟩ := hrel
      by_cases hlt : j < 3
      · go_wp2_with (with_reducible refine (behind_any _ _ _ _ _ hm (by omega) (by omega) (by omega)).mono ?_; rintro e w' ⟨rfl, rfl⟩)
        · go_ret
          exact ⟨ret_int (by rw [wideF_noj j hj2 (by rw [HN.out]; omega) (by rw [HN.out]; omega) (by simpa using (show (!behindB s (k + j) 128 191) = true by assumption))]; rfl), rfl⟩
        · have hq : behindB s (k + j) 128 191 = true := by simpa using (show (!behindB s (k + j) 128 191) = false by assumption)
          go_round
          case rel => exact ⟨j + 1, by omega, by omega, by go_num, Lib.hid (fun m h1 h2 => by
            rcases Nat.lt_or_ge m j with h3 | h3
            · exact HA.out m h1 h3
            · obtain rfl : m = j := by omega
              exact hq)⟩
          case measure => simp [intOf] <;> omega
      · obtain rfl : j = 3 := by omega
        go_wp2_with fail
        go_ret
        exact ⟨ret_int (by rw [wideF_yes (by rw [HN.out]; omega) (by rw [HN.out]; omega) HL.out HH.out h1.out (by rw [HN.out]; exact HA.out), HN.out]; rfl), rfl⟩
  · have HN := Lib.hid (show wn s[k].toNat = 3 from wn_is.2.2.1 (by omega) (by omega))
    have e224 : ((s[k].toNat : Int) == 224) = false := by simp; omega
    have e237 : ((s[k].toNat : Int) == 237) = false := by simp; omega
    have d127 : decide ((s[k].toNat : Int) ≤ 127) = false := by simp; omega
    have d194 : decide (194 ≤ (s[k].toNat : Int)) = true := by simp; omega
    have d223 : decide ((s[k].toNat : Int) ≤ 223) = false := by simp; omega
    have d224 : decide (224 ≤ (s[k].toNat : Int)) = true := by simp; omega
    have d239 : decide ((s[k].toNat : Int) ≤ 239) = true := by simp; omega
    have d240 : decide (240 ≤ (s[k].toNat : Int)) = false := by simp; omega
    have d244 : decide ((s[k].toNat : Int) ≤ 244) = true := by simp; omega
    have HL := Lib.hid (show wlo s[k].toNat = 128 from wlo_is.1 (by omega) (by omega))
    have HH := Lib.hid (show whi s[k].toNat = 191 from whi_is.1 (by omega) (by omega))
    go_enter Tryz.func120, Tryz.ntmps120
    go_wp2_with (with_reducible refine (behind_any _ _ _ _ _ hm (by omega) (by omega) (by omega)).mono ?_; rintro e w' ⟨rfl, rfl⟩)
    · go_ret
      exact ⟨ret_int (by rw [wideF_no1 (by rw [HN.out]; omega) HL.out HH.out (by simpa using (show (!behindB s (k + 1) 128 191) = true by assumption))]; rfl), rfl⟩
    have h1 := Lib.hid (show behindB s (k + 1) 128 191 = true by simpa using (show (!behindB s (k + 1) 128 191) = false by assumption))
    rename (!behindB s (k + 1) 128 191) = false => hq0
    clear hq0
    go_loop [9] (fun i => ∃ j : Nat, 2 ≤ j ∧ j ≤ 3 ∧ i = .int .i64 j ∧ Hid (∀ m, 2 ≤ m → m < j → behindB s (k + m) 128 191 = true)) (fun i => 9 - (intOf i).toNat)
    case atStart => exact ⟨2, by omega, by omega, rfl, Lib.hid (by omega)⟩
    case round =>
      obtain ⟨j, hj2, hjn, rfl, HA⟩ := hrel
      by_cases hlt : j < 3
      · go_wp2_with (with_reducible refine (behind_any _ _ _ _ _ hm (by omega) (by omega) (by omega)).mono ?_; rintro e w' ⟨rfl, rfl⟩)
        · go_ret
          exact ⟨ret_int (by rw [wideF_noj j hj2 (by rw [HN.out]; omega) (by rw [HN.out]; omega) (by simpa using (show (!behindB s (k + j) 128 191) = true by assumption))]; rfl), rfl⟩
        · have hq : behindB s (k + j) 128 191 = true := by simpa using (show (!behindB s (k + j) 128 191) = false by assumption)
          go_round
          case rel => exact ⟨j + 1, by omega, by omega, by go_num, Lib.hid (fun m h1 h2 => by
            rcases Nat.lt_or_ge m j with h3 | h3
            · exact HA.out m h1 h3
            · obtain rfl : m = j := by omega
              exact hq)⟩
          case measure => simp [intOf] <;> omega
      · obtain rfl : j = 3 := by omega
        go_wp2_with fail
        go_ret
        exact ⟨ret_int (by rw [wideF_yes (by rw [HN.out]; omega) (by rw [HN.out]; omega) HL.out HH.out h1.out (by rw [HN.out]; exact HA.out), HN.out]; rfl), rfl⟩
  · have HN := Lib.hid (show wn s[k].toNat = 4 from wn_is.2.2.2.1 (by omega) (by omega))
    have e240 : ((s[k].toNat : Int) == 240) = true := by simp; omega
    have e244 : ((s[k].toNat : Int) == 244) = false := by simp; omega
    have d127 : decide ((s[k].toNat : Int) ≤ 127) = false := by simp; omega
    have d194 : decide (194 ≤ (s[k].toNat : Int)) = true := by simp; omega
    have d223 : decide ((s[k].toNat : Int) ≤ 223) = false := by simp; omega
    have d224 : decide (224 ≤ (s[k].toNat : Int)) = true := by simp; omega
    have d239 : decide ((s[k].toNat : Int) ≤ 239) = false := by simp; omega
    have d240 : decide (240 ≤ (s[k].toNat : Int)) = true := by simp; omega
    have d244 : decide ((s[k].toNat : Int) ≤ 244) = true := by simp; omega
    have HL := Lib.hid (show wlo s[k].toNat = 144 from wlo_is.2.2 (by omega))
    have HH := Lib.hid (show whi s[k].toNat = 191 from whi_is.1 (by omega) (by omega))
    go_enter Tryz.func120, Tryz.ntmps120
    go_wp2_with (with_reducible refine (behind_any _ _ _ _ _ hm (by omega) (by omega) (by omega)).mono ?_; rintro e w' ⟨rfl, rfl⟩)
    · go_ret
      exact ⟨ret_int (by rw [wideF_no1 (by rw [HN.out]; omega) HL.out HH.out (by simpa using (show (!behindB s (k + 1) 144 191) = true by assumption))]; rfl), rfl⟩
    have h1 := Lib.hid (show behindB s (k + 1) 144 191 = true by simpa using (show (!behindB s (k + 1) 144 191) = false by assumption))
    rename (!behindB s (k + 1) 144 191) = false => hq0
    clear hq0
    go_loop [9] (fun i => ∃ j : Nat, 2 ≤ j ∧ j ≤ 4 ∧ i = .int .i64 j ∧ Hid (∀ m, 2 ≤ m → m < j → behindB s (k + m) 128 191 = true)) (fun i => 9 - (intOf i).toNat)
    case atStart => exact ⟨2, by omega, by omega, rfl, Lib.hid (by omega)⟩
    case round =>
      obtain ⟨j, hj2, hjn, rfl, HA⟩ := hrel
      by_cases hlt : j < 4
      · go_wp2_with (with_reducible refine (behind_any _ _ _ _ _ hm (by omega) (by omega) (by omega)).mono ?_; rintro e w' ⟨rfl, rfl⟩)
        · go_ret
          exact ⟨ret_int (by rw [wideF_noj j hj2 (by rw [HN.out]; omega) (by rw [HN.out]; omega) (by simpa using (show (!behindB s (k + j) 128 191) = true by assumption))]; rfl), rfl⟩
        · have hq : behindB s (k + j) 128 191 = true := by simpa using (show (!behindB s (k + j) 128 191) = false by assumption)
          go_round
          case rel => exact ⟨j + 1, by omega, by omega, by go_num, Lib.hid (fun m h1 h2 => by
            rcases Nat.lt_or_ge m j with h3 | h3
            · exact HA.out m h1 h3
            · obtain rfl : m = j := by omega
              exact hq)⟩
          case measure => simp [intOf] <;> omega
      · obtain rfl : j = 4 := by omega
        go_wp2_with fail
        go_ret
        exact ⟨ret_int (by rw [wideF_yes (by rw [HN.out]; omega) (by rw [HN.out]; omega) HL.out HH.out h1.out (by rw [HN.out]; exact HA.out), HN.out]; rfl), rfl⟩
  · have HN := Lib.hid (show wn s[k].toNat = 4 from wn_is.2.2.2.1 (by omega) (by omega))
    have e240 : ((s[k].toNat : Int) == 240) = false := by simp; omega
    have e244 : ((s[k].toNat : Int) == 244) = false := by simp; omega
    have d127 : decide ((s[k].toNat : Int) ≤ 127) = false := by simp; omega
    have d194 : decide (194 ≤ (s[k].toNat : Int)) = true := by simp; omega
    have d223 : decide ((s[k].toNat : Int) ≤ 223) = false := by simp; omega
    have d224 : decide (224 ≤ (s[k].toNat : Int)) = true := by simp; omega
    have d239 : decide ((s[k].toNat : Int) ≤ 239) = false := by simp; omega
    have d240 : decide (240 ≤ (s[k].toNat : Int)) = true := by simp; omega
    have d244 : decide ((s[k].toNat : Int) ≤ 244) = true := by simp; omega
    have HL := Lib.hid (show wlo s[k].toNat = 128 from wlo_is.1 (by omega) (by omega))
    have HH := Lib.hid (show whi s[k].toNat = 191 from whi_is.1 (by omega) (by omega))
    go_enter Tryz.func120, Tryz.ntmps120
    go_wp2_with (with_reducible refine (behind_any _ _ _ _ _ hm (by omega) (by omega) (by omega)).mono ?_; rintro e w' ⟨rfl, rfl⟩)
    · go_ret
      exact ⟨ret_int (by rw [wideF_no1 (by rw [HN.out]; omega) HL.out HH.out (by simpa using (show (!behindB s (k + 1) 128 191) = true by assumption))]; rfl), rfl⟩
    have h1 := Lib.hid (show behindB s (k + 1) 128 191 = true by simpa using (show (!behindB s (k + 1) 128 191) = false by assumption))
    rename (!behindB s (k + 1) 128 191) = false => hq0
    clear hq0
    go_loop [9] (fun i => ∃ j : Nat, 2 ≤ j ∧ j ≤ 4 ∧ i = .int .i64 j ∧ Hid (∀ m, 2 ≤ m → m < j → behindB s (k + m) 128 191 = true)) (fun i => 9 - (intOf i).toNat)
    case atStart => exact ⟨2, by omega, by omega, rfl, Lib.hid (by omega)⟩
    case round =>
      obtain ⟨j, hj2, hjn, rfl, HA⟩ := hrel
      by_cases hlt : j < 4
      · go_wp2_with (with_reducible refine (behind_any _ _ _ _ _ hm (by omega) (by omega) (by omega)).mono ?_; rintro e w' ⟨rfl, rfl⟩)
        · go_ret
          exact ⟨ret_int (by rw [wideF_noj j hj2 (by rw [HN.out]; omega) (by rw [HN.out]; omega) (by simpa using (show (!behindB s (k + j) 128 191) = true by assumption))]; rfl), rfl⟩
        · have hq : behindB s (k + j) 128 191 = true := by simpa using (show (!behindB s (k + j) 128 191) = false by assumption)
          go_round
          case rel => exact ⟨j + 1, by omega, by omega, by go_num, Lib.hid (fun m h1 h2 => by
            rcases Nat.lt_or_ge m j with h3 | h3
            · exact HA.out m h1 h3
            · obtain rfl : m = j := by omega
              exact hq)⟩
          case measure => simp [intOf] <;> omega
      · obtain rfl : j = 4 := by omega
        go_wp2_with fail
        go_ret
        exact ⟨ret_int (by rw [wideF_yes (by rw [HN.out]; omega) (by rw [HN.out]; omega) HL.out HH.out h1.out (by rw [HN.out]; exact HA.out), HN.out]; rfl), rfl⟩
  · have HN := Lib.hid (show wn s[k].toNat = 4 from wn_is.2.2.2.1 (by omega) (by omega))
    have e240 : ((s[k].toNat : Int) == 240) = false := by simp; omega
    have e244 : ((s[k].toNat : Int) == 244) = true := by simp; omega
    have d127 : decide ((s[k].toNat : Int) ≤ 127) = false := by simp; omega
    have d194 : decide (194 ≤ (s[k].toNat : Int)) = true := by simp; omega
    have d223 : decide ((s[k].toNat : Int) ≤ 223) = false := by simp; omega
    have d224 : decide (224 ≤ (s[k].toNat : Int)) = true := by simp; omega
    have d239 : decide ((s[k].toNat : Int) ≤ 239) = false := by simp; omega
    have d240 : decide (240 ≤ (s[k].toNat : Int)) = true := by simp; omega
    have d244 : decide ((s[k].toNat : Int) ≤ 244) = true := by simp; omega
    have HL := Lib.hid (show wlo s[k].toNat = 128 from wlo_is.1 (by omega) (by omega))
    have HH := Lib.hid (show whi s[k].toNat = 143 from whi_is.2.2 (by omega))
    go_enter Tryz.func120, Tryz.ntmps120
    go_wp2_with (with_reducible refine (behind_any _ _ _ _ _ hm (by omega) (by omega) (by omega)).mono ?_; rintro e w' ⟨rfl, rfl⟩)
    · go_ret
      exact ⟨ret_int (by rw [wideF_no1 (by rw [HN.out]; omega) HL.out HH.out (by simpa using (show (!behindB s (k + 1) 128 143) = true by assumption))]; rfl), rfl⟩
    have h1 := Lib.hid (show behindB s (k + 1) 128 143 = true by simpa using (show (!behindB s (k + 1) 128 143) = false by assumption))
    rename (!behindB s (k + 1) 128 143) = false => hq0
    clear hq0
    go_loop [9] (fun i => ∃ j : Nat, 2 ≤ j ∧ j ≤ 4 ∧ i = .int .i64 j ∧ Hid (∀ m, 2 ≤ m → m < j → behindB s (k + m) 128 191 = true)) (fun i => 9 - (intOf i).toNat)
    case atStart => exact ⟨2, by omega, by omega, rfl, Lib.hid (by omega)⟩
    case round =>
      obtain ⟨j, hj2, hjn, rfl, HA⟩ := hrel
      by_cases hlt : j < 4
      · go_wp2_with (with_reducible refine (behind_any _ _ _ _ _ hm (by omega) (by omega) (by omega)).mono ?_; rintro e w' ⟨rfl, rfl⟩)
        · go_ret
          exact ⟨ret_int (by rw [wideF_noj j hj2 (by rw [HN.out]; omega) (by rw [HN.out]; omega) (by simpa using (show (!behindB s (k + j) 128 191) = true by assumption))]; rfl), rfl⟩
        · have hq : behindB s (k + j) 128 191 = true := by simpa using (show (!behindB s (k + j) 128 191) = false by assumption)
          go_round
          case rel => exact ⟨j + 1, by omega, by omega, by go_num, Lib.hid (fun m h1 h2 => by
            rcases Nat.lt_or_ge m j with h3 | h3
            · exact HA.out m h1 h3
            · obtain rfl : m = j := by omega
              exact hq)⟩
          case measure => simp [intOf] <;> omega
      · obtain rfl : j = 4 := by omega
        go_wp2_with fail
        go_ret
        exact ⟨ret_int (by rw [wideF_yes (by rw [HN.out]; omega) (by rw [HN.out]; omega) HL.out HH.out h1.out (by rw [HN.out]; exact HA.out), HN.out]; rfl), rfl⟩
  · have HF := Lib.hid (show wideF s k s[k].toNat = _ from wideF_none (by first | exact wn_is.2.2.2.2.1 h.1 h.2 | exact wn_is.2.2.2.2.2 h))
    go_enter Tryz.func120, Tryz.ntmps120
    go_wp2_with fail
    go_ret
    exact ⟨ret_int (by rw [HF.out]; rfl), rfl⟩
end Go.Proofs.YtcjllhdbepchnaaGreatDoor

/-! utf.characters: the places and points that it tells, at every string. -/
namespace Go.Proofs.YtcjllhdbepchnaaGreatDoor
open Go.RowKit Go.Shelf
attribute [local go_sem] Oper.semAt_some

def byteD (s : ByteArray) (i : Nat) : Nat := if h : i < s.size then s[i].toNat else 0
theorem byteD_eq {s : ByteArray} {i : Nat} (h : i < s.size) : byteD s i = s[i].toNat := by simp [byteD, h]
theorem byteD_lt (s : ByteArray) (i : Nat) : byteD s i < 256 := by
  unfold byteD; split
  · exact UInt8.toNat_lt _
  · omega
def lead1 (n b : Nat) : Nat := if n ≤ 1 then b else if n = 2 then b % 32 else if n = 3 then b % 16 else b % 8
def ptTo (s : ByteArray) (k n b : Nat) : Nat → Nat
  | 0 => lead1 n b
  | j + 1 => ptTo s k n b j * 64 + byteD s (k + (j + 1)) % 64
def charPt (s : ByteArray) (k n : Nat) : Nat := ptTo s k n (byteD s k) (n - 1)
/-- The characters from a place on: places and points; where none stands, -1, and no more. -/
def charsFrom (s : ByteArray) : Nat → Nat → List (Nat × Int)
  | 0, _ => []
  | f + 1, k => if k < s.size then
      (if wideF s k (byteD s k) = 0 then [(k, -1)] else (k, (charPt s k (wideF s k (byteD s k)) : Int)) :: charsFrom s f (k + wideF s k (byteD s k)))
    else []
def chars (s : ByteArray) : List (Nat × Int) := charsFrom s s.size 0

theorem behindB_lt {s : ByteArray} {k lo hi : Nat} (h : behindB s k lo hi = true) : k < s.size := by
  unfold behindB at h; split at h
  · assumption
  · cases h
theorem wideF_le (s : ByteArray) (k b : Nat) : wideF s k b ≤ 4 := by
  have : wn b ≤ 4 := by unfold wn; repeat' split <;> first | omega | skip
  unfold wideF; split
  · omega
  · split <;> omega
theorem wideF_fits {s : ByteArray} {k b : Nat} (hk : k < s.size) : k + wideF s k b ≤ s.size := by
  have h4 : wn b ≤ 4 := by unfold wn; repeat' split <;> first | omega | skip
  unfold wideF; split
  · omega
  · split
    · rename_i h1 h2
      simp only [Bool.and_eq_true, Bool.or_eq_true, decide_eq_true_eq] at h2
      obtain ⟨⟨ha, hb⟩, hc⟩ := h2
      have := behindB_lt ha
      rcases hc with hc | hc
      · rcases hb with hb | hb
        · omega
        · have := behindB_lt hb; omega
      · have := behindB_lt hc; omega
    · omega
theorem charsFrom_enough (s : ByteArray) : ∀ (f g k : Nat), s.size - k ≤ f → s.size - k ≤ g → charsFrom s f k = charsFrom s g k := by
  intro f
  induction f with
  | zero =>
    intro g k h _
    cases g with
    | zero => rfl
    | succ g => simp [charsFrom, show ¬ k < s.size from by omega]
  | succ f ih =>
    intro g k h hg
    cases g with
    | zero => simp [charsFrom, show ¬ k < s.size from by omega]
    | succ g =>
      simp only [charsFrom]
      by_cases hk : k < s.size
      · simp only [hk, if_true]
        by_cases h0 : wideF s k (byteD s k) = 0
        · simp [h0]
        · simp only [h0, if_false]
          rw [ih g _ (by omega) (by omega)]
      · simp [hk]
theorem charsFrom_end {s : ByteArray} {k : Nat} (f : Nat) (h : s.size ≤ k) : charsFrom s f k = [] := by
  cases f with
  | zero => rfl
  | succ f => simp [charsFrom, show ¬ k < s.size from by omega]
theorem charsFrom_bad {s : ByteArray} {k : Nat} (h : k < s.size) (h0 : wideF s k (byteD s k) = 0) : charsFrom s (s.size - k) k = [(k, -1)] := by
  obtain ⟨m, hm⟩ : ∃ m, s.size - k = m + 1 := ⟨s.size - k - 1, by omega⟩
  rw [hm]; simp [charsFrom, h, h0]
theorem charsFrom_good {s : ByteArray} {k n : Nat} (h : k < s.size) (h0 : wideF s k (byteD s k) = n) (hn : 0 < n) :
    charsFrom s (s.size - k) k = (k, (charPt s k n : Int)) :: charsFrom s (s.size - (k + n)) (k + n) := by
  obtain ⟨m, hm⟩ : ∃ m, s.size - k = m + 1 := ⟨s.size - k - 1, by omega⟩
  rw [hm]; simp only [charsFrom, h, if_true, h0, show ¬ n = 0 from by omega, if_false]
  rw [charsFrom_enough s m (s.size - (k + n)) (k + n) (by omega) (by omega)]
theorem lead1_lt {n b : Nat} (hb : b < 256) : lead1 n b < 256 := by unfold lead1; repeat' split <;> first | omega | skip
theorem ptTo_lt (s : ByteArray) (k : Nat) {n b : Nat} (hb : b < 256) : ptTo s k n b 0 < 256 ∧ ptTo s k n b 1 < 16384 ∧ ptTo s k n b 2 < 1048576 ∧ ptTo s k n b 3 < 67108864 := by
  have h0 := lead1_lt (n := n) hb
  have e0 : ptTo s k n b 0 = lead1 n b := rfl
  have e1 : ptTo s k n b 1 = ptTo s k n b 0 * 64 + byteD s (k + 1) % 64 := rfl
  have e2 : ptTo s k n b 2 = ptTo s k n b 1 * 64 + byteD s (k + 2) % 64 := rfl
  have e3 : ptTo s k n b 3 = ptTo s k n b 2 * 64 + byteD s (k + 3) % 64 := rfl
  omega
theorem ptTo_le3 (s : ByteArray) (k : Nat) {n b j : Nat} (hb : b < 256) (hj : j ≤ 3) : ptTo s k n b j < 67108864 := by
  have := ptTo_lt s k (n := n) hb
  have hj' : j = 0 ∨ j = 1 ∨ j = 2 ∨ j = 3 := by omega
  rcases hj' with rfl | rfl | rfl | rfl <;> omega
theorem wrap64_small {n : Int} (h0 : 0 ≤ n) (h1 : n < 9223372036854775808) : wrap64 n = n := by unfold wrap64; omega
theorem i64_or6 {x y : Int} (hx0 : 0 ≤ x) (hx : x < 67108864) (h0 : 0 ≤ y) (h1 : y < 64) : bits .or .i64 (x * 64) y = x * 64 + y :=
  bits_join .i64 63 (by decide) (fun n h₀ h₁ => by rw [IntKind.wrap_i64]; omega) 6 (x * 64) y (by omega) (by omega) (by omega) h0 h1 (by omega)
theorem i64_mask {x : Int} (i : Nat) (hi : i ≤ 63) (h0 : 0 ≤ x) (h1 : x < 256) : bits .and .i64 x (2 ^ i - 1) = x % 2 ^ i :=
  bits_mask .i64 63 (by decide) (fun n h₀ h₁ => by rw [IntKind.wrap_i64]; omega) i hi x h0 (by omega)
theorem i64_and31 {x : Int} (h0 : 0 ≤ x) (h1 : x < 256) : bits .and .i64 x 31 = x % 32 := i64_mask 5 (by decide) h0 h1
theorem i64_and15 {x : Int} (h0 : 0 ≤ x) (h1 : x < 256) : bits .and .i64 x 15 = x % 16 := i64_mask 4 (by decide) h0 h1
theorem i64_and7 {x : Int} (h0 : 0 ≤ x) (h1 : x < 256) : bits .and .i64 x 7 = x % 8 := i64_mask 3 (by decide) h0 h1

set_option maxRecDepth 100000 in
set_option maxHeartbeats 4000000 in
theorem chars1_in (m : Nat) (hm : 1 ≤ m) (l Bs : Nat) (s : ByteArray) (hs : s.size < 9223372036854775800) (J Jx : List (Nat × Int) → World → Prop)
    (hY : ∀ pre x W, J pre W → pre.length < (chars s).length → YieldAt Fence.wide (m - 1) Tryz.prog l #[.int .i64 (x.1 : Int), .int .i64 x.2] W fun e W' =>
      (e = .returned (.bool true) ∧ J (pre ++ [x]) W' ∧ W'.cell? ⟨Bs, 0, none⟩ = W.cell? ⟨Bs, 0, none⟩) ∨ (e = .returned (.bool false) ∧ Jx (pre ++ [x]) W'))
    (W : World) (hBs : W.cell? ⟨Bs, 0, none⟩ = some (.string s)) (h0 : J [] W) :
    CallsIn Fence.wide m Tryz.prog 119 #[.func (.yield l) #[] #[], .pointer (some ⟨Bs, 0, none⟩)] W fun e W' => (∃ v, e = .returned v) ∧
      ((∃ ys, ys = chars s ∧ J ys W') ∨ (∃ pre, pre <+: chars s ∧ Jx pre W')) := by
  have hro : Fence.wide.round = none := rfl
  refine callsIn_of_wp Tryz.func119 rfl trivial ?_ hro
  simp only [Tryz.ntmps119, List.size_toArray, List.length_cons, List.length_nil, Nat.reduceAdd, Nat.reduceSub, Array.replicate_succ, Array.replicate_zero, List.push_toArray, List.append_toArray, List.nil_append, List.cons_append]
  gi_wp2
  gi_loopw [3, 4, 5, 6] (fun x _ _ _ wr => ∃ (k : Nat) (pre : List (Nat × Int)), x = .int .i64 k ∧ k ≤ s.size ∧ Hid (chars s = pre ++ charsFrom s (s.size - k) k) ∧ J pre wr ∧ wr.cell? ⟨Bs, 0, none⟩ = some (.string s)) (fun i _ _ _ _ => s.size - (intOf i).toNat)
  case atStart => exact ⟨0, [], rfl, Nat.zero_le _, Lib.hid (by simp [chars]), h0, hBs⟩
  case round =>
    obtain ⟨k, pre, rfl, hk, HP, hJ, hc⟩ := hrel
    by_cases hlt : k < s.size
    · have HB := Lib.hid (byteD_eq hlt)
      have hb0 : s[k].toNat < 256 := UInt8.toNat_lt _
      have hf : k + wideF s k s[k].toNat ≤ s.size := wideF_fits hlt
      have hw4 : wideF s k s[k].toNat ≤ 4 := wideF_le _ _ _
      obtain ⟨n, hn⟩ : ∃ n, wideF s k s[k].toNat = n := ⟨_, rfl⟩
      rw [hn] at hf hw4
      have HN := Lib.hid hn
      clear hn
      have HC : n = 0 ∨ n = 1 ∨ n = 2 ∨ n = 3 ∨ n = 4 := by omega
      rcases HC with rfl | rfl | rfl | rfl | rfl
      · have hfrom : chars s = pre ++ [(k, -1)] := by rw [HP.out, charsFrom_bad hlt (by rw [HB.out]; exact HN.out)]
        have hlen : pre.length < (chars s).length := by rw [hfrom]; simp
        have HF := Lib.hid hfrom
        clear hfrom
        obtain ⟨fn, tmps, assign, body, hy, hR⟩ := hY pre (k, -1) wr hJ hlen
        dsimp only at hy hR
        have HR := Lib.hid hR
        clear hR
        gi_wp2_with (refine ⟨trivial, ?_⟩; gi_at_call 120; refine (callsIn_wide.2 (wide_any s k _ hs hlt)).mono ?_; rintro e w' ⟨rfl, rfl⟩; rw [HN.out])
        refine HR.out.mono ?_
        rintro e W3 (⟨rfl, hJ3, hk3⟩ | ⟨rfl, hJx3⟩)
        · gi_wp2
          refine bodyPost_ret (results_none rfl _ _ _) rfl ?_
          exact ⟨⟨_, rfl⟩, .inl ⟨_, HF.out.symm, hJ3⟩⟩
        · gi_wp2
          refine bodyPost_ret (results_none rfl _ _ _) rfl ?_
          exact ⟨⟨_, rfl⟩, .inr ⟨_, by rw [HF.out]; exact List.prefix_refl _, hJx3⟩⟩
      · have hfrom : chars s = pre ++ (k, (ptTo s k 1 s[k].toNat 0 : Int)) :: charsFrom s (s.size - (k + 1)) (k + 1) := by rw [HP.out, charsFrom_good (n := 1) hlt (by rw [HB.out]; exact HN.out) (by omega), charPt, HB.out]
        have hlen : pre.length < (chars s).length := by rw [hfrom]; simp
        have HF := Lib.hid hfrom
        clear hfrom
        obtain ⟨fn, tmps, assign, body, hy, hR⟩ := hY pre (k, (ptTo s k 1 s[k].toNat 0 : Int)) wr hJ hlen
        dsimp only at hy hR
        have HR := Lib.hid hR
        clear hR
        gi_wp2_with (refine ⟨trivial, ?_⟩; gi_at_call 120; refine (callsIn_wide.2 (wide_any s k _ hs hlt)).mono ?_; rintro e w' ⟨rfl, rfl⟩; rw [HN.out])
        gi_loopw [5, 6] (fun p i wr' => ∃ j : Nat, 1 ≤ j ∧ j ≤ 1 ∧ i = .int .i64 j ∧ p = .int .i64 (ptTo s k 1 s[k].toNat (j - 1)) ∧ wr' = wr) (fun _ i _ => 9 - (intOf i).toNat)
        case atStart => exact ⟨1, by omega, by omega, rfl, by simp [ptTo, lead1], rfl⟩
        case round =>
          obtain ⟨j, hj1, hj, rfl, rfl, rfl⟩ := hrel
          by_cases hjn : j < 1
          · omega
          · obtain rfl : j = 1 := by omega
            have hy' := hy
            clear hj1 hj hjn
            gi_wp2
            refine HR.out.mono ?_
            rintro e W3 (⟨rfl, hJ3, hk3⟩ | ⟨rfl, hJx3⟩)
            · gi_wp2
              go_roundw
              case rel => exact ⟨k + 1, pre ++ [(k, (ptTo s k 1 s[k].toNat 0 : Int))], by go_num, by omega, Lib.hid (by rw [HF.out]; simp), hJ3, hk3.trans hc⟩
              case measure => simp [intOf]; omega
            · gi_wp2
              refine bodyPost_ret (results_none rfl _ _ _) rfl ?_
              exact ⟨⟨_, rfl⟩, .inr ⟨_, ⟨charsFrom s (s.size - (k + 1)) (k + 1), by rw [HF.out]; simp⟩, hJx3⟩⟩
      · have hfrom : chars s = pre ++ (k, (ptTo s k 2 s[k].toNat 1 : Int)) :: charsFrom s (s.size - (k + 2)) (k + 2) := by rw [HP.out, charsFrom_good (n := 2) hlt (by rw [HB.out]; exact HN.out) (by omega), charPt, HB.out]
        have hlen : pre.length < (chars s).length := by rw [hfrom]; simp
        have HF := Lib.hid hfrom
        clear hfrom
        obtain ⟨fn, tmps, assign, body, hy, hR⟩ := hY pre (k, (ptTo s k 2 s[k].toNat 1 : Int)) wr hJ hlen
        dsimp only at hy hR
        have HR := Lib.hid hR
        clear hR
        gi_wp2_with (refine ⟨trivial, ?_⟩; gi_at_call 120; refine (callsIn_wide.2 (wide_any s k _ hs hlt)).mono ?_; rintro e w' ⟨rfl, rfl⟩; rw [HN.out])
        gi_loopw [5, 6] (fun p i wr' => ∃ j : Nat, 1 ≤ j ∧ j ≤ 2 ∧ i = .int .i64 j ∧ p = .int .i64 (ptTo s k 2 s[k].toNat (j - 1)) ∧ wr' = wr) (fun _ i _ => 9 - (intOf i).toNat)
        case atStart => exact ⟨1, by omega, by omega, rfl, by rw [i64_and31 (by omega) (by omega)]; simp [ptTo, lead1], rfl⟩
        case round =>
          obtain ⟨j, hj1, hj, rfl, rfl, rfl⟩ := hrel
          by_cases hjn : j < 2
          · have hk2 : k + j < s.size := by omega
            have hp := ptTo_le3 s k (n := 2) hb0 (show j - 1 ≤ 3 by omega)
            have hb2 : s[k + j].toNat < 256 := UInt8.toNat_lt _
            gi_wp2
            go_roundw
            case rel =>
              refine ⟨j + 1, by omega, by omega, by go_num, ?_, trivial⟩
              rw [i64_or6 (by omega) (by omega) (by omega) (by omega)]
              obtain ⟨i, rfl⟩ : ∃ i, j = i + 1 := ⟨j - 1, by omega⟩
              have hpt : ptTo s k 2 s[k].toNat (i + 1 + 1 - 1) = ptTo s k 2 s[k].toNat i * 64 + byteD s (k + (i + 1)) % 64 := rfl
              rw [hpt, byteD_eq hk2]
              simp
            case measure => simp [intOf]; omega
          · obtain rfl : j = 2 := by omega
            have hy' := hy
            clear hj1 hj hjn
            gi_wp2
            refine HR.out.mono ?_
            rintro e W3 (⟨rfl, hJ3, hk3⟩ | ⟨rfl, hJx3⟩)
            · gi_wp2
              go_roundw
              case rel => exact ⟨k + 2, pre ++ [(k, (ptTo s k 2 s[k].toNat 1 : Int))], by go_num, by omega, Lib.hid (by rw [HF.out]; simp), hJ3, hk3.trans hc⟩
              case measure => simp [intOf]; omega
            · gi_wp2
              refine bodyPost_ret (results_none rfl _ _ _) rfl ?_
              exact ⟨⟨_, rfl⟩, .inr ⟨_, ⟨charsFrom s (s.size - (k + 2)) (k + 2), by rw [HF.out]; simp⟩, hJx3⟩⟩
      · have hfrom : chars s = pre ++ (k, (ptTo s k 3 s[k].toNat 2 : Int)) :: charsFrom s (s.size - (k + 3)) (k + 3) := by rw [HP.out, charsFrom_good (n := 3) hlt (by rw [HB.out]; exact HN.out) (by omega), charPt, HB.out]
        have hlen : pre.length < (chars s).length := by rw [hfrom]; simp
        have HF := Lib.hid hfrom
        clear hfrom
        obtain ⟨fn, tmps, assign, body, hy, hR⟩ := hY pre (k, (ptTo s k 3 s[k].toNat 2 : Int)) wr hJ hlen
        dsimp only at hy hR
        have HR := Lib.hid hR
        clear hR
        gi_wp2_with (refine ⟨trivial, ?_⟩; gi_at_call 120; refine (callsIn_wide.2 (wide_any s k _ hs hlt)).mono ?_; rintro e w' ⟨rfl, rfl⟩; rw [HN.out])
        gi_loopw [5, 6] (fun p i wr' => ∃ j : Nat, 1 ≤ j ∧ j ≤ 3 ∧ i = .int .i64 j ∧ p = .int .i64 (ptTo s k 3 s[k].toNat (j - 1)) ∧ wr' = wr) (fun _ i _ => 9 - (intOf i).toNat)
        case atStart => exact ⟨1, by omega, by omega, rfl, by rw [i64_and15 (by omega) (by omega)]; simp [ptTo, lead1], rfl⟩
        case round =>
          obtain ⟨j, hj1, hj, rfl, rfl, rfl⟩ := hrel
          by_cases hjn : j < 3
          · have hk2 : k + j < s.size := by omega
            have hp := ptTo_le3 s k (n := 3) hb0 (show j - 1 ≤ 3 by omega)
            have hb2 : s[k + j].toNat < 256 := UInt8.toNat_lt _
            gi_wp2
            go_roundw
            case rel =>
              refine ⟨j + 1, by omega, by omega, by go_num, ?_, trivial⟩
              rw [i64_or6 (by omega) (by omega) (by omega) (by omega)]
              obtain ⟨i, rfl⟩ : ∃ i, j = i + 1 := ⟨j - 1, by omega⟩
              have hpt : ptTo s k 3 s[k].toNat (i + 1 + 1 - 1) = ptTo s k 3 s[k].toNat i * 64 + byteD s (k + (i + 1)) % 64 := rfl
              rw [hpt, byteD_eq hk2]
              simp
            case measure => simp [intOf]; omega
          · obtain rfl : j = 3 := by omega
            have hy' := hy
            clear hj1 hj hjn
            gi_wp2
            refine HR.out.mono ?_
            rintro e W3 (⟨rfl, hJ3, hk3⟩ | ⟨rfl, hJx3⟩)
            · gi_wp2
              go_roundw
              case rel => exact ⟨k + 3, pre ++ [(k, (ptTo s k 3 s[k].toNat 2 : Int))], by go_num, by omega, Lib.hid (by rw [HF.out]; simp), hJ3, hk3.trans hc⟩
              case measure => simp [intOf]; omega
            · gi_wp2
              refine bodyPost_ret (results_none rfl _ _ _) rfl ?_
              exact ⟨⟨_, rfl⟩, .inr ⟨_, ⟨charsFrom s (s.size - (k + 3)) (k + 3), by rw [HF.out]; simp⟩, hJx3⟩⟩
      · have hfrom : chars s = pre ++ (k, (ptTo s k 4 s[k].toNat 3 : Int)) :: charsFrom s (s.size - (k + 4)) (k + 4) := by rw [HP.out, charsFrom_good (n := 4) hlt (by rw [HB.out]; exact HN.out) (by omega), charPt, HB.out]
        have hlen : pre.length < (chars s).length := by rw [hfrom]; simp
        have HF := Lib.hid hfrom
        clear hfrom
        obtain ⟨fn, tmps, assign, body, hy, hR⟩ := hY pre (k, (ptTo s k 4 s[k].toNat 3 : Int)) wr hJ hlen
        dsimp only at hy hR
        have HR := Lib.hid hR
        clear hR
        gi_wp2_with (refine ⟨trivial, ?_⟩; gi_at_call 120; refine (callsIn_wide.2 (wide_any s k _ hs hlt)).mono ?_; rintro e w' ⟨rfl, rfl⟩; rw [HN.out])
        gi_loopw [5, 6] (fun p i wr' => ∃ j : Nat, 1 ≤ j ∧ j ≤ 4 ∧ i = .int .i64 j ∧ p = .int .i64 (ptTo s k 4 s[k].toNat (j - 1)) ∧ wr' = wr) (fun _ i _ => 9 - (intOf i).toNat)
        case atStart => exact ⟨1, by omega, by omega, rfl, by rw [i64_and7 (by omega) (by omega)]; simp [ptTo, lead1], rfl⟩
        case round =>
          obtain ⟨j, hj1, hj, rfl, rfl, rfl⟩ := hrel
          by_cases hjn : j < 4
          · have hk2 : k + j < s.size := by omega
            have hp := ptTo_le3 s k (n := 4) hb0 (show j - 1 ≤ 3 by omega)
            have hb2 : s[k + j].toNat < 256 := UInt8.toNat_lt _
            gi_wp2
            go_roundw
            case rel =>
              refine ⟨j + 1, by omega, by omega, by go_num, ?_, trivial⟩
              rw [i64_or6 (by omega) (by omega) (by omega) (by omega)]
              obtain ⟨i, rfl⟩ : ∃ i, j = i + 1 := ⟨j - 1, by omega⟩
              have hpt : ptTo s k 4 s[k].toNat (i + 1 + 1 - 1) = ptTo s k 4 s[k].toNat i * 64 + byteD s (k + (i + 1)) % 64 := rfl
              rw [hpt, byteD_eq hk2]
              simp
            case measure => simp [intOf]; omega
          · obtain rfl : j = 4 := by omega
            have hy' := hy
            clear hj1 hj hjn
            gi_wp2
            refine HR.out.mono ?_
            rintro e W3 (⟨rfl, hJ3, hk3⟩ | ⟨rfl, hJx3⟩)
            · gi_wp2
              go_roundw
              case rel => exact ⟨k + 4, pre ++ [(k, (ptTo s k 4 s[k].toNat 3 : Int))], by go_num, by omega, Lib.hid (by rw [HF.out]; simp), hJ3, hk3.trans hc⟩
              case measure => simp [intOf]; omega
            · gi_wp2
              refine bodyPost_ret (results_none rfl _ _ _) rfl ?_
              exact ⟨⟨_, rfl⟩, .inr ⟨_, ⟨charsFrom s (s.size - (k + 4)) (k + 4), by rw [HF.out]; simp⟩, hJx3⟩⟩
    · obtain rfl : k = s.size := by omega
      gi_wp2
      go_end0
      exact ⟨⟨_, rfl⟩, .inl ⟨_, by rw [HP.out, charsFrom_end _ (Nat.le_refl _), List.append_nil], hJ⟩⟩
end Go.Proofs.YtcjllhdbepchnaaGreatDoor

/-! utf.Check and utf.Points: what they return, at every string that is not longer than memory bears. -/
namespace Go.Proofs.YtcjllhdbepchnaaGreatDoor
open Go.RowKit Go.Shelf
attribute [local go_sem] Oper.semAt_some

theorem characters_in (n : Nat) (s : ByteArray) (w : World) :
    CallsIn Fence.wide n Tryz.prog 101 #[.string s] w fun e w' => e = .returned (.func (.func 119) #[] #[.pointer (some ⟨w.heap.size, 0, none⟩)]) ∧ w' = w.alloc (.cells #[.string s] 9) := by
  refine callsIn_of_wp Tryz.func101 rfl trivial ?_ rfl
  simp only [Tryz.ntmps101, List.size_toArray, List.length_cons, List.length_nil, Nat.reduceAdd, Nat.reduceSub, Array.replicate_succ, Array.replicate_zero, List.push_toArray, List.append_toArray, List.nil_append, List.cons_append]
  gi_wp2
  go_ret
  exact ⟨rfl, rfl⟩
/-- What the iterator asks of a loop's body: its string's box stays. -/
def KeepBox (Bs : Nat) (A B : World) : Prop := B.cell? ⟨Bs, 0, none⟩ = A.cell? ⟨Bs, 0, none⟩
theorem keepBox_t {Bs : Nat} {A B C : World} (h : KeepBox Bs A B) (k : KeepBox Bs B C) : KeepBox Bs A C := Eq.trans k h
theorem keepBox_b {Bs n : Nat} (hn : Bs < n) (W : World) (l : Nat) (o o' : Obj) (hl : n ≤ l) (_ : W.heap[l]? = some o) (_ : o.isCells = false) (_ : o.isWalk = false) : KeepBox Bs W (W.putObj l o') :=
  ((Below.refl n W).grown (grownBy_putObj' W l o') (by have := (Array.getElem?_eq_some_iff.1 (by assumption : W.heap[l]? = some o)).1; omega) (fun k e => by cases e; omega)).cell (p := ⟨Bs, 0, none⟩) hn
theorem chars_stops (m : Nat) (hm : 1 ≤ m) (Bs : Nat) (s : ByteArray) (hs : s.size < 9223372036854775800) (w : World) (hBs : Bs < w.heap.size) (hc : w.cell? ⟨Bs, 0, none⟩ = some (.string s)) :
    SeqStopsK Fence.wide m Tryz.prog 119 #[.pointer (some ⟨Bs, 0, none⟩)] (fun x : Nat × Int => #[Value.int .i64 (x.1 : Int), Value.int .i64 x.2]) (KeepBox Bs) (fun ys => ys = chars s) (fun pre => pre <+: chars s) (chars s).length w := fun l J Jx W hW _ _ hY h0 =>
  chars1_in m hm l Bs s hs J Jx hY W ((hW.cell (p := ⟨Bs, 0, none⟩) hBs).trans hc) h0

/-- The place of the first character that is none. -/
def badAt : List (Nat × Int) → Option Nat
  | [] => none
  | x :: r => if x.2 < 0 then some x.1 else badAt r
theorem badAt_app (a b : List (Nat × Int)) (h : ∀ p ∈ a, 0 ≤ p.2) : badAt (a ++ b) = badAt b := by
  induction a with
  | nil => rfl
  | cons x r ih => simp only [List.cons_append, badAt]; rw [if_neg (by have := h x (by simp); omega)]; exact ih fun p hp => h p (by simp [hp])
theorem badAt_none (a : List (Nat × Int)) (h : ∀ p ∈ a, 0 ≤ p.2) : badAt a = none := by have := badAt_app a [] h; rwa [List.append_nil] at this
def checkV (s : ByteArray) : Int := match badAt (chars s) with | none => -1 | some k => k

set_option maxRecDepth 100000 in
set_option maxHeartbeats 2000000 in
theorem check_any (s : ByteArray) (hs : s.size < 9223372036854775800) (w : World) :
    Calls Tryz.prog 70 #[.string s] w fun e W' => e = .returned (.int .i64 (checkV s)) ∧ Below w.heap.size w W' := by
  refine (callsIn_wide (n := 3)).1 ?_
  have hro : Fence.wide.round = none := rfl
  have h1 : 1 ≤ 3 := by omega
  refine callsIn_of_wp_marks Tryz.func70 rfl trivial ?_ hro
  simp only [Tryz.ntmps70, List.size_toArray, List.length_cons, List.length_nil, Nat.reduceAdd, Nat.reduceSub, Array.replicate_succ, Array.replicate_zero, List.push_toArray, List.append_toArray, List.nil_append, List.cons_append]
  gi_wp2_with (refine ⟨trivial, ?_⟩; gi_at_call 101; refine (characters_in (3 - 1) _ _).mono ?_; rintro e w' ⟨rfl, rfl⟩)
  have bR := Boxed.new w 3 (.int .i64 0)
  have bN := Boxed.new (w.alloc (.cells #[.int .i64 0] 3)) 9 (.string s)
  rw [World.size_alloc] at bN
  have hB0 : Below w.heap.size w ((w.alloc (.cells #[.int .i64 0] 3)).alloc (.cells #[.string s] 9)) := ((Below.refl _ w).alloc (Nat.le_refl _) _).alloc (by simp) _
  refine wpIn_rangeFunc_ownG hro h1 (gf := 119) (lb := #[.pointer (some ⟨w.heap.size + 1, 0, none⟩)]) rfl trivial (enters_of Tryz.func119 (by kernel_rfl) rfl)
    (chars_stops (3 - 1) (by omega) (w.heap.size + 1) s hs _ (by simp) bN.cell) keepBox_t (keepBox_b (by simp)) (Below.refl _ _) (fun _ => rfl)
    (fun pre W => ((∀ p ∈ pre, 0 ≤ p.2) ∧ W.cell? ⟨w.heap.size, 0, none⟩ = some (.int .i64 0) ∧ W.frozen? ⟨w.heap.size, 0, none⟩ = false) ∧ Below w.heap.size w W)
    (fun c pre W => (c = .ret ∧ ∃ ini last, pre = ini ++ [last] ∧ (∀ p ∈ ini, 0 ≤ p.2) ∧ last.2 < 0 ∧ W.cell? ⟨w.heap.size, 0, none⟩ = some (.int .i64 (last.1 : Int))) ∧ Below w.heap.size w W)
    (OwnFrom.and (Own.from (fun s A B row hs hg hr => ⟨hs.1, cell_kept hs.2.1 hg hr, (frozen_kept hs.2.1 hg hr).trans hs.2.2⟩) _) (ownFrom_below (Nat.le_refl _) (by simp; omega)))
    (fun c => OwnFrom.and (Own.from (fun s A B row hs hg hr => by obtain ⟨hc, ini, last, e1, e2, e3, e4⟩ := hs; exact ⟨hc, ini, last, e1, e2, e3, cell_kept e4 hg hr⟩) _) (ownFrom_below (Nat.le_refl _) (by simp; omega)))
    ⟨⟨by simp, (bR.alloc _).cell, (bR.alloc _).frozen⟩, hB0⟩
    (fun x => { tmps := #[.string s, undef, .pointer (some ⟨w.heap.size, 0, none⟩), .int .i64 (x.1 : Int), .int .i64 x.2, .string s, .func (.func 119) #[] #[.pointer (some ⟨w.heap.size + 1, 0, none⟩)], .int .i64 (x.1 : Int), .int .i64 x.2, undef, undef, undef], defers := [] }) ?assign ?body ?done ?stop
  case assign =>
    intro l x W K hK
    gi_wp2
    exact hK
  case body =>
    rintro l pre x W ⟨⟨hp, hcr, hfr⟩, hB⟩ _
    gi_wp2
    · have hx : x.2 < 0 := by assumption
      exact ⟨(KeepsOthers.setCell _ _ _).from _, ⟨rfl, pre, x, rfl, hp, hx, World.cell?_setCell_same' _ _ _ (by rw [hcr]; rfl)⟩, hB.setCell (p := ⟨w.heap.size, 0, none⟩) (Nat.le_refl _) _⟩
    · have hx : 0 ≤ x.2 := by assumption
      exact ⟨KeepsFrom.refl _ _, rfl, ⟨fun p hp' => (List.mem_append.1 hp').elim (hp p) (fun e => by simp at e; subst e; exact hx), hcr, hfr⟩, hB⟩
  case done =>
    rintro D ys W hD rfl ⟨⟨hne, hcr, hfr⟩, hB⟩ hK
    gi_wp2
    have hK' := (KeepsOthers.setCell W ⟨w.heap.size, 0, none⟩ (.int .i64 (-1))).same D _ hK rfl
    refine ⟨by simp, .inl ⟨_, _, rfl, run_takeDeferred hK', ?_⟩⟩
    have hc5 := cell_kept (World.cell?_setCell_same' W ⟨w.heap.size, 0, none⟩ (.int .i64 (-1)) (by rw [hcr]; rfl)) (grownBy_putObj' _ D (.deferred none)) (fun r e => by cases e; exact ⟨_, hK', rfl⟩)
    refine ⟨.int .i64 (-1), ?_, ?_, (hB.setCell (p := ⟨w.heap.size, 0, none⟩) (Nat.le_refl _) _).trans (belowK_b (w := w) (Nat.le_refl _) _ D _ _ (by simp at hD; omega) hK' rfl rfl)⟩
    · simp [results, Tryz.f70, go_sem, hc5]
    · rw [checkV, badAt_none _ hne]
  case stop =>
    rintro D c pre W hD ⟨t, ht⟩ ⟨⟨rfl, ini, last, rfl, e2, e3, hcr⟩, hB⟩ hK
    gi_wp2
    refine ⟨by simp, .inl ⟨_, _, rfl, run_takeDeferred hK, ?_⟩⟩
    have hc5 := cell_kept hcr (grownBy_putObj' _ D (.deferred none)) (fun r e => by cases e; exact ⟨_, hK, rfl⟩)
    refine ⟨.int .i64 (last.1 : Int), ?_, ?_, hB.trans (belowK_b (w := w) (Nat.le_refl _) W D _ _ (by simp at hD; omega) hK rfl rfl)⟩
    · simp [results, Tryz.f70, go_sem, hc5]
    · rw [checkV, ← ht, List.append_assoc, badAt_app _ _ e2]
      simp [badAt, e3]
end Go.Proofs.YtcjllhdbepchnaaGreatDoor
