/-
  utf.behind and utf.wide: what they return, at every string and place.
-/
import Derived.Test.YtdidepaldppcjaaProg
import Derived.WalkKit
import Derived.Lib.Hide
namespace Go.Proofs.Ytdidepaldppcjaa
open Go.RowKit

def behindB (s : ByteArray) (k lo hi : Nat) : Bool := if h : k < s.size then decide (lo ≤ s[k].toNat) && decide (s[k].toNat ≤ hi) else false

theorem ret_bool {a b : Bool} (h : a = b) : Ending.returned (.bool a) = .returned (.bool b) := by rw [h]
theorem ret_int {k : IntKind} {a b : Int} (h : a = b) : Ending.returned (.int k a) = .returned (.int k b) := by rw [h]

set_option maxHeartbeats 400000 in
theorem behind_nat (s : ByteArray) (k : Nat) (lo hi : Nat) (w : World) (_hs : s.size ≤ maxLen) :
    Calls Try.prog 28 #[.string s, .int .i64 k, .int .u8 lo, .int .u8 hi] w fun e w' => e = .returned (.bool (behindB s k lo hi)) ∧ w' = w := by
  unfold maxLen at _hs
  by_cases hlt : k < s.size
  · go_enter Try.func28, Try.ntmps28
    go_wp2_with fail
    all_goals
      go_ret
      refine ⟨ret_bool ?_, rfl⟩
      simp only [behindB, hlt, dite_true]
      simp
      omega
  · go_enter Try.func28, Try.ntmps28
    go_wp2_with fail
    go_ret
    refine ⟨ret_bool ?_, rfl⟩
    simp [behindB, hlt]
theorem behind_any (s : ByteArray) (a lo hi : Int) (w : World) (hs : s.size ≤ maxLen) (ha : 0 ≤ a) (hl : 0 ≤ lo) (hh : 0 ≤ hi) :
    Calls Try.prog 28 #[.string s, .int .i64 a, .int .u8 lo, .int .u8 hi] w fun e w' => e = .returned (.bool (behindB s a.toNat lo.toNat hi.toNat)) ∧ w = w' := by
  obtain ⟨k, rfl⟩ := Int.eq_ofNat_of_zero_le ha
  obtain ⟨l, rfl⟩ := Int.eq_ofNat_of_zero_le hl
  obtain ⟨h, rfl⟩ := Int.eq_ofNat_of_zero_le hh
  exact (behind_nat s k l h w hs).mono fun _ _ h => ⟨h.1, h.2.symm⟩

/-- bytes of a character by its first byte: how many; the second one's least and greatest -/
def wn (b : Nat) : Nat := if b ≤ 0x7f then 1 else if 0xc2 ≤ b ∧ b ≤ 0xdf then 2 else if 0xe0 ≤ b ∧ b ≤ 0xef then 3 else if 0xf0 ≤ b ∧ b ≤ 0xf4 then 4 else 0
def wlo (b : Nat) : Nat := if b = 0xe0 then 0xa0 else if b = 0xf0 then 0x90 else 0x80
def whi (b : Nat) : Nat := if b = 0xed then 0x9f else if b = 0xf4 then 0x8f else 0xbf
def wideF (s : ByteArray) (k b : Nat) : Nat :=
  if wn b ≤ 1 then wn b else if behindB s (k + 1) (wlo b) (whi b) && (decide (wn b < 3) || behindB s (k + 2) 0x80 0xbf) && (decide (wn b < 4) || behindB s (k + 3) 0x80 0xbf) then wn b else 0


theorem wideF_one {s : ByteArray} {k b : Nat} (h : b ≤ 0x7f) : wideF s k b = 1 := by simp [wideF, wn, h]
theorem wideF_none {s : ByteArray} {k b : Nat} (h : wn b = 0) : wideF s k b = 0 := by simp [wideF, h]
theorem wideF_no1 {s : ByteArray} {k b lo hi : Nat} (h : 1 < wn b) (hl : wlo b = lo) (hh : whi b = hi) (h1 : behindB s (k + 1) lo hi = false) : wideF s k b = 0 := by
  unfold wideF; rw [if_neg (by omega), hl, hh, h1]; simp
theorem wideF_noj {s : ByteArray} {k b : Nat} (j : Nat) (h2 : 2 ≤ j) (h : j < wn b) (h4 : wn b ≤ 4) (hj : behindB s (k + j) 128 191 = false) : wideF s k b = 0 := by
  have : j = 2 ∨ j = 3 := by omega
  unfold wideF; rw [if_neg (by omega)]
  rcases this with rfl | rfl
  · rw [hj]; simp; omega
  · rw [hj]; simp; omega
theorem wideF_yes {s : ByteArray} {k b lo hi : Nat} (h : 1 < wn b) (h4 : wn b ≤ 4) (hl : wlo b = lo) (hh : whi b = hi) (h1 : behindB s (k + 1) lo hi = true)
    (hall : ∀ m, 2 ≤ m → m < wn b → behindB s (k + m) 128 191 = true) : wideF s k b = wn b := by
  unfold wideF; rw [if_neg (by omega), hl, hh, h1, if_pos]
  simp
  constructor
  · by_cases h3 : wn b < 3
    · exact .inl h3
    · exact .inr (hall 2 (by omega) (by omega))
  · by_cases h3 : wn b < 4
    · exact .inl h3
    · exact .inr (hall 3 (by omega) (by omega))
theorem wn_is {b : Nat} : (b ≤ 0x7f → wn b = 1) ∧ (0xc2 ≤ b → b ≤ 0xdf → wn b = 2) ∧ (0xe0 ≤ b → b ≤ 0xef → wn b = 3) ∧ (0xf0 ≤ b → b ≤ 0xf4 → wn b = 4) ∧ (0x7f < b → b < 0xc2 → wn b = 0) ∧ (0xf4 < b → wn b = 0) := by
  unfold wn; refine ⟨?_, ?_, ?_, ?_, ?_, ?_⟩ <;> intros <;> repeat (first | rw [if_pos (by omega)] | rw [if_neg (by omega)])
theorem wlo_is {b : Nat} : (b ≠ 0xe0 → b ≠ 0xf0 → wlo b = 0x80) ∧ (b = 0xe0 → wlo b = 0xa0) ∧ (b = 0xf0 → wlo b = 0x90) := by
  unfold wlo; refine ⟨?_, ?_, ?_⟩ <;> intros <;> repeat (first | rw [if_pos (by omega)] | rw [if_neg (by omega)])
theorem whi_is {b : Nat} : (b ≠ 0xed → b ≠ 0xf4 → whi b = 0xbf) ∧ (b = 0xed → whi b = 0x9f) ∧ (b = 0xf4 → whi b = 0x8f) := by
  unfold whi; refine ⟨?_, ?_, ?_⟩ <;> intros <;> repeat (first | rw [if_pos (by omega)] | rw [if_neg (by omega)])

set_option maxRecDepth 100000 in
set_option maxHeartbeats 2000000 in
theorem wide_any (s : ByteArray) (k : Nat) (w : World) (hs : s.size < 9223372036854775800) (hk : k < s.size) :
    Calls Try.prog 25 #[.string s, .int .i64 k] w fun e w' => e = .returned (.int .i64 (wideF s k s[k].toNat)) ∧ w = w' := by
  have hm : s.size ≤ maxLen := by unfold maxLen; omega
  have hb : s[k].toNat < 256 := UInt8.toNat_lt _
  have hb' : (s[k].toNat : Int) < 256 := by omega
  have HC : s[k].toNat ≤ 0x7f ∨ (0x7f < s[k].toNat ∧ s[k].toNat < 0xc2) ∨ (0xc2 ≤ s[k].toNat ∧ s[k].toNat ≤ 0xdf) ∨ (0xe0 ≤ s[k].toNat ∧ s[k].toNat ≤ 0xe0) ∨ (0xe0 < s[k].toNat ∧ s[k].toNat < 0xed) ∨ (0xed ≤ s[k].toNat ∧ s[k].toNat ≤ 0xed) ∨ (0xed < s[k].toNat ∧ s[k].toNat ≤ 0xef) ∨ (0xf0 ≤ s[k].toNat ∧ s[k].toNat ≤ 0xf0) ∨ (0xf0 < s[k].toNat ∧ s[k].toNat < 0xf4) ∨ (0xf4 ≤ s[k].toNat ∧ s[k].toNat ≤ 0xf4) ∨ 0xf4 < s[k].toNat := by omega
  rcases HC with h | h | h | h | h | h | h | h | h | h | h
  · have HF := Lib.hid (show wideF s k s[k].toNat = _ from wideF_one h)
    go_enter Try.func25, Try.ntmps25
    go_wp2_with fail
    go_ret
    exact ⟨ret_int (by rw [HF.out]; rfl), rfl⟩
  · have HF := Lib.hid (show wideF s k s[k].toNat = _ from wideF_none (by first | exact wn_is.2.2.2.2.1 h.1 h.2 | exact wn_is.2.2.2.2.2 h))
    go_enter Try.func25, Try.ntmps25
    go_wp2_with fail
    go_ret
    exact ⟨ret_int (by rw [HF.out]; rfl), rfl⟩
  · have HN := Lib.hid (show wn s[k].toNat = 2 from wn_is.2.1 (by omega) (by omega))
    have d127 : decide ((s[k].toNat : Int) ≤ 127) = false := by simp; omega
    have d194 : decide (194 ≤ (s[k].toNat : Int)) = true := by simp; omega
    have d223 : decide ((s[k].toNat : Int) ≤ 223) = true := by simp; omega
    have d224 : decide (224 ≤ (s[k].toNat : Int)) = false := by simp; omega
    have d239 : decide ((s[k].toNat : Int) ≤ 239) = true := by simp; omega
    have d240 : decide (240 ≤ (s[k].toNat : Int)) = false := by simp; omega
    have d244 : decide ((s[k].toNat : Int) ≤ 244) = true := by simp; omega
    have HL := Lib.hid (show wlo s[k].toNat = 128 from wlo_is.1 (by omega) (by omega))
    have HH := Lib.hid (show whi s[k].toNat = 191 from whi_is.1 (by omega) (by omega))
    go_enter Try.func25, Try.ntmps25
    go_wp2_with (with_reducible refine (behind_any _ _ _ _ _ hm (by omega) (by omega) (by omega)).mono ?_; rintro e w' ⟨rfl, rfl⟩)
    · go_ret
      exact ⟨ret_int (by rw [wideF_no1 (by rw [HN.out]; omega) HL.out HH.out (by simpa using (show (!behindB s (k + 1) 128 191) = true by assumption))]; rfl), rfl⟩
    have h1 := Lib.hid (show behindB s (k + 1) 128 191 = true by simpa using (show (!behindB s (k + 1) 128 191) = false by assumption))
    rename (!behindB s (k + 1) 128 191) = false => hq0
    clear hq0
    go_loop [9] (fun i => ∃ j : Nat, 2 ≤ j ∧ j ≤ 2 ∧ i = .int .i64 j ∧ Hid (∀ m, 2 ≤ m → m < j → behindB s (k + m) 128 191 = true)) (fun i => 9 - (intOf i).toNat)
    case atStart => exact ⟨2, by omega, by omega, rfl, Lib.hid (by omega)⟩
    case round =>
      obtain ⟨j, hj2, hjn, rfl, HA⟩ := hrel
      by_cases hlt : j < 2
      · omega
      · obtain rfl : j = 2 := by omega
        go_wp2_with fail
        go_ret
        exact ⟨ret_int (by rw [wideF_yes (by rw [HN.out]; omega) (by rw [HN.out]; omega) HL.out HH.out h1.out (by rw [HN.out]; exact HA.out), HN.out]; rfl), rfl⟩
  · have HN := Lib.hid (show wn s[k].toNat = 3 from wn_is.2.2.1 (by omega) (by omega))
    have e224 : ((s[k].toNat : Int) == 224) = true := by simp; omega
    have e237 : ((s[k].toNat : Int) == 237) = false := by simp; omega
    have d127 : decide ((s[k].toNat : Int) ≤ 127) = false := by simp; omega
    have d194 : decide (194 ≤ (s[k].toNat : Int)) = true := by simp; omega
    have d223 : decide ((s[k].toNat : Int) ≤ 223) = false := by simp; omega
    have d224 : decide (224 ≤ (s[k].toNat : Int)) = true := by simp; omega
    have d239 : decide ((s[k].toNat : Int) ≤ 239) = true := by simp; omega
    have d240 : decide (240 ≤ (s[k].toNat : Int)) = false := by simp; omega
    have d244 : decide ((s[k].toNat : Int) ≤ 244) = true := by simp; omega
    have HL := Lib.hid (show wlo s[k].toNat = 160 from wlo_is.2.1 (by omega))
    have HH := Lib.hid (show whi s[k].toNat = 191 from whi_is.1 (by omega) (by omega))
    go_enter Try.func25, Try.ntmps25
    go_wp2_with (with_reducible refine (behind_any _ _ _ _ _ hm (by omega) (by omega) (by omega)).mono ?_; rintro e w' ⟨rfl, rfl⟩)
    · go_ret
      exact ⟨ret_int (by rw [wideF_no1 (by rw [HN.out]; omega) HL.out HH.out (by simpa using (show (!behindB s (k + 1) 160 191) = true by assumption))]; rfl), rfl⟩
    have h1 := Lib.hid (show behindB s (k + 1) 160 191 = true by simpa using (show (!behindB s (k + 1) 160 191) = false by assumption))
    rename (!behindB s (k + 1) 160 191) = false => hq0
    clear hq0
    go_loop [9] (fun i => ∃ j : Nat, 2 ≤ j ∧ j ≤ 3 ∧ i = .int .i64 j ∧ Hid (∀ m, 2 ≤ m → m < j → behindB s (k + m) 128 191 = true)) (fun i => 9 - (intOf i).toNat)
    case atStart => exact ⟨2, by omega, by omega, rfl, Lib.hid (by omega)⟩
    case round =>
      obtain ⟨j, hj2, hjn, rfl, HA⟩ := hrel
      by_cases hlt : j < 3
      · go_wp2_with (with_reducible refine (behind_any _ _ _ _ _ hm (by omega) (by omega) (by omega)).mono ?_; rintro e w' ⟨rfl, rfl⟩)
        · go_ret
          exact ⟨ret_int (by rw [wideF_noj j hj2 (by rw [HN.out]; omega) (by rw [HN.out]; omega) (by simpa using (show (!behindB s (k + j) 128 191) = true by assumption))]; rfl), rfl⟩
        · have hq : behindB s (k + j) 128 191 = true := by simpa using (show (!behindB s (k + j) 128 191) = false by assumption)
          go_round
          case rel => exact ⟨j + 1, by omega, by omega, by go_num, Lib.hid (fun m h1 h2 => by
            rcases Nat.lt_or_ge m j with h3 | h3
            · exact HA.out m h1 h3
            · obtain rfl : m = j := by omega
              exact hq)⟩
          case measure => simp [intOf] <;> omega
      · obtain rfl : j = 3 := by omega
        go_wp2_with fail
        go_ret
        exact ⟨ret_int (by rw [wideF_yes (by rw [HN.out]; omega) (by rw [HN.out]; omega) HL.out HH.out h1.out (by rw [HN.out]; exact HA.out), HN.out]; rfl), rfl⟩
  · have HN := Lib.hid (show wn s[k].toNat = 3 from wn_is.2.2.1 (by omega) (by omega))
    have e224 : ((s[k].toNat : Int) == 224) = false := by simp; omega
    have e237 : ((s[k].toNat : Int) == 237) = false := by simp; omega
    have d127 : decide ((s[k].toNat : Int) ≤ 127) = false := by simp; omega
    have d194 : decide (194 ≤ (s[k].toNat : Int)) = true := by simp; omega
    have d223 : decide ((s[k].toNat : Int) ≤ 223) = false := by simp; omega
    have d224 : decide (224 ≤ (s[k].toNat : Int)) = true := by simp; omega
    have d239 : decide ((s[k].toNat : Int) ≤ 239) = true := by simp; omega
    have d240 : decide (240 ≤ (s[k].toNat : Int)) = false := by simp; omega
    have d244 : decide ((s[k].toNat : Int) ≤ 244) = true := by simp; omega
    have HL := Lib.hid (show wlo s[k].toNat = 128 from wlo_is.1 (by omega) (by omega))
    have HH := Lib.hid (show whi s[k].toNat = 191 from whi_is.1 (by omega) (by omega))
    go_enter Try.func25, Try.ntmps25
    go_wp2_with (with_reducible refine (behind_any _ _ _ _ _ hm (by omega) (by omega) (by omega)).mono ?_; rintro e w' ⟨rfl, rfl⟩)
    · go_ret
      exact ⟨ret_int (by rw [wideF_no1 (by rw [HN.out]; omega) HL.out HH.out (by simpa using (show (!behindB s (k + 1) 128 191) = true by assumption))]; rfl), rfl⟩
    have h1 := Lib.hid (show behindB s (k + 1) 128 191 = true by simpa using (show (!behindB s (k + 1) 128 191) = false by assumption))
    rename (!behindB s (k + 1) 128 191) = false => hq0
    clear hq0
    go_loop [9] (fun i => ∃ j : Nat, 2 ≤ j ∧ j ≤ 3 ∧ i = .int .i64 j ∧ Hid (∀ m, 2 ≤ m → m < j → behindB s (k + m) 128 191 = true)) (fun i => 9 - (intOf i).toNat)
    case atStart => exact ⟨2, by omega, by omega, rfl, Lib.hid (by omega)⟩
    case round =>
      obtain ⟨j, hj2, hjn, rfl, HA⟩ := hrel
      by_cases hlt : j < 3
      · go_wp2_with (with_reducible refine (behind_any _ _ _ _ _ hm (by omega) (by omega) (by omega)).mono ?_; rintro e w' ⟨rfl, rfl⟩)
        · go_ret
          exact ⟨ret_int (by rw [wideF_noj j hj2 (by rw [HN.out]; omega) (by rw [HN.out]; omega) (by simpa using (show (!behindB s (k + j) 128 191) = true by assumption))]; rfl), rfl⟩
        · have hq : behindB s (k + j) 128 191 = true := by simpa using (show (!behindB s (k + j) 128 191) = false by assumption)
          go_round
          case rel => exact ⟨j + 1, by omega, by omega, by go_num, Lib.hid (fun m h1 h2 => by
            rcases Nat.lt_or_ge m j with h3 | h3
            · exact HA.out m h1 h3
            · obtain rfl : m = j := by omega
              exact hq)⟩
          case measure => simp [intOf] <;> omega
      · obtain rfl : j = 3 := by omega
        go_wp2_with fail
        go_ret
        exact ⟨ret_int (by rw [wideF_yes (by rw [HN.out]; omega) (by rw [HN.out]; omega) HL.out HH.out h1.out (by rw [HN.out]; exact HA.out), HN.out]; rfl), rfl⟩
  · have HN := Lib.hid (show wn s[k].toNat = 3 from wn_is.2.2.1 (by omega) (by omega))
    have e224 : ((s[k].toNat : Int) == 224) = false := by simp; omega
    have e237 : ((s[k].toNat : Int) == 237) = true := by simp; omega
    have d127 : decide ((s[k].toNat : Int) ≤ 127) = false := by simp; omega
    have d194 : decide (194 ≤ (s[k].toNat : Int)) = true := by simp; omega
    have d223 : decide ((s[k].toNat : Int) ≤ 223) = false := by simp; omega
    have d224 : decide (224 ≤ (s[k].toNat : Int)) = true := by simp; omega
    have d239 : decide ((s[k].toNat : Int) ≤ 239) = true := by simp; omega
    have d240 : decide (240 ≤ (s[k].toNat : Int)) = false := by simp; omega
    have d244 : decide ((s[k].toNat : Int) ≤ 244) = true := by simp; omega
    have HL := Lib.hid (show wlo s[k].toNat = 128 from wlo_is.1 (by omega) (by omega))
    have HH := Lib.hid (show whi s[k].toNat = 159 from whi_is.2.1 (by omega))
    go_enter Try.func25, Try.ntmps25
    go_wp2_with (with_reducible refine (behind_any _ _ _ _ _ hm (by omega) (by omega) (by omega)).mono ?_; rintro e w' ⟨rfl, rfl⟩)
    · go_ret
      exact ⟨ret_int (by rw [wideF_no1 (by rw [HN.out]; omega) HL.out HH.out (by simpa using (show (!behindB s (k + 1) 128 159) = true by assumption))]; rfl), rfl⟩
    have h1 := Lib.hid (show behindB s (k + 1) 128 159 = true by simpa using (show (!behindB s (k + 1) 128 159) = false by assumption))
    rename (!behindB s (k + 1) 128 159) = false => hq0
    clear hq0
    go_loop [9] (fun i => ∃ j : Nat, 2 ≤ j ∧ j ≤ 3 ∧ i = .int .i64 j ∧ Hid (∀ m, 2 ≤ m → m < j → behindB s (k + m) 128 191 = true)) (fun i => 9 - (intOf i).toNat)
    case atStart => exact ⟨2, by omega, by omega, rfl, Lib.hid (by omega)⟩
    case round =>
      obtain ⟨j, hj2, hjn, rfl, HA⟩ := hrel
      by_cases hlt : j < 3
      · go_wp2_with (with_reducible refine (behind_any _ _ _ _ _ hm (by omega) (by omega) (by omega)).mono ?_; rintro e w' ⟨rfl, rfl⟩)
        · go_ret
          exact ⟨ret_int (by rw [wideF_noj j hj2 (by rw [HN.out]; omega) (by rw [HN.out]; omega) (by simpa using (show (!behindB s (k + j) 128 191) = true by assumption))]; rfl), rfl⟩
        · have hq : behindB s (k + j) 128 191 = true := by simpa using (show (!behindB s (k + j) 128 191) = false by assumption)
          go_round
          case rel => exact ⟨j + 1, by omega, by omega, by go_num, Lib.hid (fun m h1 h2 => by
            rcases Nat.lt_or_ge m j with h3 | h3
            · exact HA.out m h1 h3
            · obtain rfl : m = j := by omega
              exact hq)⟩
          case measure => simp [intOf] <;> omega
      · obtain rfl : j = 3 := by omega
        go_wp2_with fail
        go_ret
        exact ⟨ret_int (by rw [wideF_yes (by rw [HN.out]; omega) (by rw [HN.out]; omega) HL.out HH.out h1.out (by rw [HN.out]; exact HA.out), HN.out]; rfl), rfl⟩
  · have HN := Lib.hid (show wn s[k].toNat = 3 from wn_is.2.2.1 (by omega) (by omega))
    have e224 : ((s[k].toNat : Int) == 224) = false := by simp; omega
    have e237 : ((s[k].toNat : Int) == 237) = false := by simp; omega
    have d127 : decide ((s[k].toNat : Int) ≤ 127) = false := by simp; omega
    have d194 : decide (194 ≤ (s[k].toNat : Int)) = true := by simp; omega
    have d223 : decide ((s[k].toNat : Int) ≤ 223) = false := by simp; omega
    have d224 : decide (224 ≤ (s[k].toNat : Int)) = true := by simp; omega
    have d239 : decide ((s[k].toNat : Int) ≤ 239) = true := by simp; omega
    have d240 : decide (240 ≤ (s[k].toNat : Int)) = false := by simp; omega
    have d244 : decide ((s[k].toNat : Int) ≤ 244) = true := by simp; omega
    have HL := Lib.hid (show wlo s[k].toNat = 128 from wlo_is.1 (by omega) (by omega))
    have HH := Lib.hid (show whi s[k].toNat = 191 from whi_is.1 (by omega) (by omega))
    go_enter Try.func25, Try.ntmps25
    go_wp2_with (with_reducible refine (behind_any _ _ _ _ _ hm (by omega) (by omega) (by omega)).mono ?_; rintro e w' ⟨rfl, rfl⟩)
    · go_ret
      exact ⟨ret_int (by rw [wideF_no1 (by rw [HN.out]; omega) HL.out HH.out (by simpa using (show (!behindB s (k + 1) 128 191) = true by assumption))]; rfl), rfl⟩
    have h1 := Lib.hid (show behindB s (k + 1) 128 191 = true by simpa using (show (!behindB s (k + 1) 128 191) = false by assumption))
    rename (!behindB s (k + 1) 128 191) = false => hq0
    clear hq0
    go_loop [9] (fun i => ∃ j : Nat, 2 ≤ j ∧ j ≤ 3 ∧ i = .int .i64 j ∧ Hid (∀ m, 2 ≤ m → m < j → behindB s (k + m) 128 191 = true)) (fun i => 9 - (intOf i).toNat)
    case atStart => exact ⟨2, by omega, by omega, rfl, Lib.hid (by omega)⟩
    case round =>
      obtain ⟨j, hj2, hjn, rfl, HA⟩ := hrel
      by_cases hlt : j < 3
      · go_wp2_with (with_reducible refine (behind_any _ _ _ _ _ hm (by omega) (by omega) (by omega)).mono ?_; rintro e w' ⟨rfl, rfl⟩)
        · go_ret
          exact ⟨ret_int (by rw [wideF_noj j hj2 (by rw [HN.out]; omega) (by rw [HN.out]; omega) (by simpa using (show (!behindB s (k + j) 128 191) = true by assumption))]; rfl), rfl⟩
        · have hq : behindB s (k + j) 128 191 = true := by simpa using (show (!behindB s (k + j) 128 191) = false by assumption)
          go_round
          case rel => exact ⟨j + 1, by omega, by omega, by go_num, Lib.hid (fun m h1 h2 => by
            rcases Nat.lt_or_ge m j with h3 | h3
            · exact HA.out m h1 h3
            · obtain rfl : m = j := by omega
              exact hq)⟩
          case measure => simp [intOf] <;> omega
      · obtain rfl : j = 3 := by omega
        go_wp2_with fail
        go_ret
        exact ⟨ret_int (by rw [wideF_yes (by rw [HN.out]; omega) (by rw [HN.out]; omega) HL.out HH.out h1.out (by rw [HN.out]; exact HA.out), HN.out]; rfl), rfl⟩
  · have HN := Lib.hid (show wn s[k].toNat = 4 from wn_is.2.2.2.1 (by omega) (by omega))
    have e240 : ((s[k].toNat : Int) == 240) = true := by simp; omega
    have e244 : ((s[k].toNat : Int) == 244) = false := by simp; omega
    have d127 : decide ((s[k].toNat : Int) ≤ 127) = false := by simp; omega
    have d194 : decide (194 ≤ (s[k].toNat : Int)) = true := by simp; omega
    have d223 : decide ((s[k].toNat : Int) ≤ 223) = false := by simp; omega
    have d224 : decide (224 ≤ (s[k].toNat : Int)) = true := by simp; omega
    have d239 : decide ((s[k].toNat : Int) ≤ 239) = false := by simp; omega
    have d240 : decide (240 ≤ (s[k].toNat : Int)) = true := by simp; omega
    have d244 : decide ((s[k].toNat : Int) ≤ 244) = true := by simp; omega
    have HL := Lib.hid (show wlo s[k].toNat = 144 from wlo_is.2.2 (by omega))
    have HH := Lib.hid (show whi s[k].toNat = 191 from whi_is.1 (by omega) (by omega))
    go_enter Try.func25, Try.ntmps25
    go_wp2_with (with_reducible refine (behind_any _ _ _ _ _ hm (by omega) (by omega) (by omega)).mono ?_; rintro e w' ⟨rfl, rfl⟩)
    · go_ret
      exact ⟨ret_int (by rw [wideF_no1 (by rw [HN.out]; omega) HL.out HH.out (by simpa using (show (!behindB s (k + 1) 144 191) = true by assumption))]; rfl), rfl⟩
    have h1 := Lib.hid (show behindB s (k + 1) 144 191 = true by simpa using (show (!behindB s (k + 1) 144 191) = false by assumption))
    rename (!behindB s (k + 1) 144 191) = false => hq0
    clear hq0
    go_loop [9] (fun i => ∃ j : Nat, 2 ≤ j ∧ j ≤ 4 ∧ i = .int .i64 j ∧ Hid (∀ m, 2 ≤ m → m < j → behindB s (k + m) 128 191 = true)) (fun i => 9 - (intOf i).toNat)
    case atStart => exact ⟨2, by omega, by omega, rfl, Lib.hid (by omega)⟩
    case round =>
      obtain ⟨j, hj2, hjn, rfl, HA⟩ := hrel
      by_cases hlt : j < 4
      · go_wp2_with (with_reducible refine (behind_any _ _ _ _ _ hm (by omega) (by omega) (by omega)).mono ?_; rintro e w' ⟨rfl, rfl⟩)
        · go_ret
          exact ⟨ret_int (by rw [wideF_noj j hj2 (by rw [HN.out]; omega) (by rw [HN.out]; omega) (by simpa using (show (!behindB s (k + j) 128 191) = true by assumption))]; rfl), rfl⟩
        · have hq : behindB s (k + j) 128 191 = true := by simpa using (show (!behindB s (k + j) 128 191) = false by assumption)
          go_round
          case rel => exact ⟨j + 1, by omega, by omega, by go_num, Lib.hid (fun m h1 h2 => by
            rcases Nat.lt_or_ge m j with h3 | h3
            · exact HA.out m h1 h3
            · obtain rfl : m = j := by omega
              exact hq)⟩
          case measure => simp [intOf] <;> omega
      · obtain rfl : j = 4 := by omega
        go_wp2_with fail
        go_ret
        exact ⟨ret_int (by rw [wideF_yes (by rw [HN.out]; omega) (by rw [HN.out]; omega) HL.out HH.out h1.out (by rw [HN.out]; exact HA.out), HN.out]; rfl), rfl⟩
  · have HN := Lib.hid (show wn s[k].toNat = 4 from wn_is.2.2.2.1 (by omega) (by omega))
    have e240 : ((s[k].toNat : Int) == 240) = false := by simp; omega
    have e244 : ((s[k].toNat : Int) == 244) = false := by simp; omega
    have d127 : decide ((s[k].toNat : Int) ≤ 127) = false := by simp; omega
    have d194 : decide (194 ≤ (s[k].toNat : Int)) = true := by simp; omega
    have d223 : decide ((s[k].toNat : Int) ≤ 223) = false := by simp; omega
    have d224 : decide (224 ≤ (s[k].toNat : Int)) = true := by simp; omega
    have d239 : decide ((s[k].toNat : Int) ≤ 239) = false := by simp; omega
    have d240 : decide (240 ≤ (s[k].toNat : Int)) = true := by simp; omega
    have d244 : decide ((s[k].toNat : Int) ≤ 244) = true := by simp; omega
    have HL := Lib.hid (show wlo s[k].toNat = 128 from wlo_is.1 (by omega) (by omega))
    have HH := Lib.hid (show whi s[k].toNat = 191 from whi_is.1 (by omega) (by omega))
    go_enter Try.func25, Try.ntmps25
    go_wp2_with (with_reducible refine (behind_any _ _ _ _ _ hm (by omega) (by omega) (by omega)).mono ?_; rintro e w' ⟨rfl, rfl⟩)
    · go_ret
      exact ⟨ret_int (by rw [wideF_no1 (by rw [HN.out]; omega) HL.out HH.out (by simpa using (show (!behindB s (k + 1) 128 191) = true by assumption))]; rfl), rfl⟩
    have h1 := Lib.hid (show behindB s (k + 1) 128 191 = true by simpa using (show (!behindB s (k + 1) 128 191) = false by assumption))
    rename (!behindB s (k + 1) 128 191) = false => hq0
    clear hq0
    go_loop [9] (fun i => ∃ j : Nat, 2 ≤ j ∧ j ≤ 4 ∧ i = .int .i64 j ∧ Hid (∀ m, 2 ≤ m → m < j → behindB s (k + m) 128 191 = true)) (fun i => 9 - (intOf i).toNat)
    case atStart => exact ⟨2, by omega, by omega, rfl, Lib.hid (by omega)⟩
    case round =>
      obtain ⟨j, hj2, hjn, rfl, HA⟩ := hrel
      by_cases hlt : j < 4
      · go_wp2_with (with_reducible refine (behind_any _ _ _ _ _ hm (by omega) (by omega) (by omega)).mono ?_; rintro e w' ⟨rfl, rfl⟩)
        · go_ret
          exact ⟨ret_int (by rw [wideF_noj j hj2 (by rw [HN.out]; omega) (by rw [HN.out]; omega) (by simpa using (show (!behindB s (k + j) 128 191) = true by assumption))]; rfl), rfl⟩
        · have hq : behindB s (k + j) 128 191 = true := by simpa using (show (!behindB s (k + j) 128 191) = false by assumption)
          go_round
          case rel => exact ⟨j + 1, by omega, by omega, by go_num, Lib.hid (fun m h1 h2 => by
            rcases Nat.lt_or_ge m j with h3 | h3
            · exact HA.out m h1 h3
            · obtain rfl : m = j := by omega
              exact hq)⟩
          case measure => simp [intOf] <;> omega
      · obtain rfl : j = 4 := by omega
        go_wp2_with fail
        go_ret
        exact ⟨ret_int (by rw [wideF_yes (by rw [HN.out]; omega) (by rw [HN.out]; omega) HL.out HH.out h1.out (by rw [HN.out]; exact HA.out), HN.out]; rfl), rfl⟩
  · have HN := Lib.hid (show wn s[k].toNat = 4 from wn_is.2.2.2.1 (by omega) (by omega))
    have e240 : ((s[k].toNat : Int) == 240) = false := by simp; omega
    have e244 : ((s[k].toNat : Int) == 244) = true := by simp; omega
    have d127 : decide ((s[k].toNat : Int) ≤ 127) = false := by simp; omega
    have d194 : decide (194 ≤ (s[k].toNat : Int)) = true := by simp; omega
    have d223 : decide ((s[k].toNat : Int) ≤ 223) = false := by simp; omega
    have d224 : decide (224 ≤ (s[k].toNat : Int)) = true := by simp; omega
    have d239 : decide ((s[k].toNat : Int) ≤ 239) = false := by simp; omega
    have d240 : decide (240 ≤ (s[k].toNat : Int)) = true := by simp; omega
    have d244 : decide ((s[k].toNat : Int) ≤ 244) = true := by simp; omega
    have HL := Lib.hid (show wlo s[k].toNat = 128 from wlo_is.1 (by omega) (by omega))
    have HH := Lib.hid (show whi s[k].toNat = 143 from whi_is.2.2 (by omega))
    go_enter Try.func25, Try.ntmps25
    go_wp2_with (with_reducible refine (behind_any _ _ _ _ _ hm (by omega) (by omega) (by omega)).mono ?_; rintro e w' ⟨rfl, rfl⟩)
    · go_ret
      exact ⟨ret_int (by rw [wideF_no1 (by rw [HN.out]; omega) HL.out HH.out (by simpa using (show (!behindB s (k + 1) 128 143) = true by assumption))]; rfl), rfl⟩
    have h1 := Lib.hid (show behindB s (k + 1) 128 143 = true by simpa using (show (!behindB s (k + 1) 128 143) = false by assumption))
    rename (!behindB s (k + 1) 128 143) = false => hq0
    clear hq0
    go_loop [9] (fun i => ∃ j : Nat, 2 ≤ j ∧ j ≤ 4 ∧ i = .int .i64 j ∧ Hid (∀ m, 2 ≤ m → m < j → behindB s (k + m) 128 191 = true)) (fun i => 9 - (intOf i).toNat)
    case atStart => exact ⟨2, by omega, by omega, rfl, Lib.hid (by omega)⟩
    case round =>
      obtain ⟨j, hj2, hjn, rfl, HA⟩ := hrel
      by_cases hlt : j < 4
      · go_wp2_with (with_reducible refine (behind_any _ _ _ _ _ hm (by omega) (by omega) (by omega)).mono ?_; rintro e w' ⟨rfl, rfl⟩)
        · go_ret
          exact ⟨ret_int (by rw [wideF_noj j hj2 (by rw [HN.out]; omega) (by rw [HN.out]; omega) (by simpa using (show (!behindB s (k + j) 128 191) = true by assumption))]; rfl), rfl⟩
        · have hq : behindB s (k + j) 128 191 = true := by simpa using (show (!behindB s (k + j) 128 191) = false by assumption)
          go_round
          case rel => exact ⟨j + 1, by omega, by omega, by go_num, Lib.hid (fun m h1 h2 => by
            rcases Nat.lt_or_ge m j with h3 | h3
            · exact HA.out m h1 h3
            · obtain rfl : m = j := by omega
              exact hq)⟩
          case measure => simp [intOf] <;> omega
      · obtain rfl : j = 4 := by omega
        go_wp2_with fail
        go_ret
        exact ⟨ret_int (by rw [wideF_yes (by rw [HN.out]; omega) (by rw [HN.out]; omega) HL.out HH.out h1.out (by rw [HN.out]; exact HA.out), HN.out]; rfl), rfl⟩
  · have HF := Lib.hid (show wideF s k s[k].toNat = _ from wideF_none (by first | exact wn_is.2.2.2.2.1 h.1 h.2 | exact wn_is.2.2.2.2.2 h))
    go_enter Try.func25, Try.ntmps25
    go_wp2_with fail
    go_ret
    exact ⟨ret_int (by rw [HF.out]; rfl), rfl⟩
end Go.Proofs.Ytdidepaldppcjaa
