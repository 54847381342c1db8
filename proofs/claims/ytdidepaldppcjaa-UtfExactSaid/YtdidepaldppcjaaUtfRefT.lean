/-
  dovetailref03: IsPoint, char, Text: what they return.
-/
import Derived.Test.YtdidepaldppcjaaUtfText
namespace Go.Proofs.Ytdidepaldppcjaa
open Go.RowKit
set_option maxRecDepth 100000 in
theorem ispoint_any (p : Int) (w : World) : Calls Try.prog 22 #[.int .i64 p] w fun e w' => e = .returned (.bool (isPt p)) ∧ w = w' := by
  have HC : p < 0 ∨ 1114111 < p ∨ (0 ≤ p ∧ p < 55296) ∨ (55296 ≤ p ∧ p ≤ 57343) ∨ (57343 < p ∧ p ≤ 1114111) := by omega
  rcases HC with h | h | ⟨h, h'⟩ | ⟨h, h'⟩ | ⟨h, h'⟩
  · have HF := Lib.hid (show isPt p = false by simp [isPt]; omega)
    go_enter Try.func22, Try.ntmps22
    go_wp2_with fail
    go_ret
    exact ⟨ret_bool HF.out.symm, rfl⟩
  · have HF := Lib.hid (show isPt p = false by simp [isPt]; omega)
    go_enter Try.func22, Try.ntmps22
    go_wp2_with fail
    go_ret
    exact ⟨ret_bool HF.out.symm, rfl⟩
  · have HF := Lib.hid (show isPt p = true by simp [isPt]; omega)
    go_enter Try.func22, Try.ntmps22
    go_wp2_with fail
    go_ret
    exact ⟨ret_bool HF.out.symm, rfl⟩
  · have HF := Lib.hid (show isPt p = false by simp [isPt]; omega)
    have t1 : decide (p < 55296) = false := decide_eq_false (by omega)
    have t2 : decide (57343 < p) = false := decide_eq_false (by omega)
    go_enter Try.func22, Try.ntmps22
    go_wp2_with fail
    go_ret
    exact ⟨ret_bool HF.out.symm, rfl⟩
  · have HF := Lib.hid (show isPt p = true by simp [isPt]; omega)
    have t1 : decide (p < 55296) = false := decide_eq_false (by omega)
    have t2 : decide (57343 < p) = true := decide_eq_true (by omega)
    go_enter Try.func22, Try.ntmps22
    go_wp2_with fail
    go_ret
    exact ⟨ret_bool HF.out.symm, rfl⟩
theorem isPt_bounds {p : Int} (h : isPt p = true) : 0 ≤ p ∧ p ≤ 1114111 := by
  simp [isPt] at h; omega
/-- A new block of bytes, as a slice value. -/
def NewBytes (w w' : World) (v : Value) (bs : List Nat) : Prop :=
  w' = w.alloc (.cells (u8s bs).toArray 5) ∧ v = .slice (some ⟨w.heap.size, 0, none⟩) bs.length bs.length
theorem char_any (a : Int) (w : World) (h0 : 0 ≤ a) (h1 : a ≤ 1114111) : Calls Try.prog 23 #[.int .i64 a] w fun e w' => ∃ v, e = .returned v ∧ NewBytes w w' v (charB a.toNat) := by
  obtain ⟨p, rfl⟩ := Int.eq_ofNat_of_zero_le h0
  rw [Int.toNat_natCast]
  have HC : p < 128 ∨ (128 ≤ p ∧ p < 2048) ∨ (2048 ≤ p ∧ p < 65536) ∨ 65536 ≤ p := by omega
  rcases HC with h | ⟨h, h'⟩ | ⟨h, h'⟩ | h
  · have HL := Lib.hid (charB_1 h)
    have ta : decide ((p : Int) < 128) = true := decide_eq_true (by omega)
    go_enter Try.func23, Try.ntmps23
    go_wp2_with fail
    go_ret
    refine ⟨_, rfl, ?_⟩
    rw [NewBytes, HL.out]
    exact ⟨by simp [u8s], rfl⟩
  · have HL := Lib.hid (charB_2 h h')
    have ta : decide ((p : Int) < 128) = false := decide_eq_false (by omega)
    have tb : decide ((p : Int) < 2048) = true := decide_eq_true (by omega)
    go_enter Try.func23, Try.ntmps23
    go_wp2_with fail
    go_ret
    refine ⟨_, rfl, ?_⟩
    rw [NewBytes, HL.out]
    exact ⟨by simp [u8s], rfl⟩
  · have HL := Lib.hid (charB_3 h h')
    have ta : decide ((p : Int) < 128) = false := decide_eq_false (by omega)
    have tb : decide ((p : Int) < 2048) = false := decide_eq_false (by omega)
    have tc : decide ((p : Int) < 65536) = true := decide_eq_true (by omega)
    go_enter Try.func23, Try.ntmps23
    go_wp2_with fail
    go_ret
    refine ⟨_, rfl, ?_⟩
    rw [NewBytes, HL.out]
    exact ⟨by simp [u8s], rfl⟩
  · have HL := Lib.hid (charB_4 h)
    have ta : decide ((p : Int) < 128) = false := decide_eq_false (by omega)
    have tb : decide ((p : Int) < 2048) = false := decide_eq_false (by omega)
    have tc : decide ((p : Int) < 65536) = false := decide_eq_false (by omega)
    go_enter Try.func23, Try.ntmps23
    go_wp2_with fail
    go_ret
    refine ⟨_, rfl, ?_⟩
    rw [NewBytes, HL.out]
    exact ⟨by simp [u8s], rfl⟩
set_option maxRecDepth 100000 in
set_option maxHeartbeats 4000000 in
theorem reftext_any (va : Value) (xs : List Int) (w : World) (ha : RowAt w w.heap.size va (ints xs)) (hx : xs.length ≤ 1099511627776) :
    Calls Try.prog 17 #[va] w (TextPost xs w) := by
  obtain ⟨A, c, rfl, hc, HA⟩ := ha.ints
  clear ha
  have HA := Lib.hid HA
  obtain ⟨i0, hi, hz0, hz1, hz2⟩ := info_parts u8_info
  go_enter Try.func17, Try.ntmps17
  go_wp2_with fail
  go_loopw [5, 6, 7] (fun v i _ wr => ∃ k : Nat, k ≤ xs.length ∧ i = .int .i64 k ∧ Hid (∀ j (h : j < xs.length), j < k → isPt xs[j] = true) ∧
      wr.ownsRow w.heap.size 5 1 v (textB (xs.take k)).length (u8s (textB (xs.take k))) ∧ Below w.heap.size w wr) (fun _ i _ _ => xs.length - (intOf i).toNat)
  case atStart => exact ⟨0, by omega, rfl, Lib.hid (by omega), World.ownsRow_nil _ _ _ _, Below.refl _ _⟩
  case round =>
    obtain ⟨k, hk, rfl, HP, hown, hB⟩ := hrel
    by_cases hlt : k < xs.length
    · obtain ⟨b, o, rfl, hbl, HC⟩ := HA.out (by omega)
      have g1 : wr.cell? ⟨b, o + k, none⟩ = some (.int .i64 xs[k]) := (hB.cell (p := ⟨b, o + k, none⟩) hbl).trans (HC k hlt)
      clear HC
      have hsz := hB.size
      have htl := text_len_le xs (k := k)
      have HTS := Lib.hid (textB_snoc hlt)
      have hcl := charB_len xs[k].toNat
      cases hpt : isPt xs[k]
      · have HF := Lib.hid (show badPt xs = some k from badPt_take hlt HP.out hpt)
        have HI := Lib.hid hpt
        clear hpt
        go_wp2_with (with_reducible refine (ispoint_any _ _).mono ?_; rintro e w' ⟨rfl, rfl⟩; rw [HI.out])
        go_ret3
        exact ⟨hB, .inl ⟨k, HF.out, rfl⟩⟩
      · have HP' := Lib.hid (show ∀ j (h : j < xs.length), j < k + 1 → isPt xs[j] = true from fun j h hj => by
          rcases Nat.lt_or_ge j k with h1 | h1
          · exact HP.out j h h1
          · obtain rfl : j = k := by omega
            exact hpt)
        have hbd := isPt_bounds hpt
        have HI := Lib.hid hpt
        clear hpt
        have hg2 : (wr.alloc (.cells (u8s (charB xs[k].toNat)).toArray 5)).cell? ⟨b, o + k, none⟩ = some (.int .i64 xs[k]) := by
          rw [World.cell?_alloc_lt _ _ _ (by show b < _; omega)]; exact g1
        go_wp2_with (first
          | (with_reducible refine (ispoint_any _ _).mono ?_; rintro e w' ⟨rfl, rfl⟩; rw [HI.out])
          | ((with_reducible refine (char_any _ _ hbd.1 hbd.2).mono ?_); rintro e w' ⟨v', rfl, HNB⟩; obtain ⟨rfl, rfl⟩ := HNB)
          | (at_builtin; refine wpList_append_own _ rfl _ _ 46 rfl w.heap.size 5 i0 (.int .u8 0) 1 1 Try.underlying46 hi hz0 hz1 hz2 rfl (by decide) _ _ _ rfl (hown.alloc _) _ _ _ (u8s (charB xs[k].toNat)) rfl (by rw [u8s_len]; simp) (by simpa using cells_new wr (u8s (charB xs[k].toNat)).toArray 5) (by simp [u8s, Value.oneCell']) (by unfold maxLen; omega) (by omega) (by simp; omega) ?_; intro v' w1 hown' hgrow _))
        go_roundw
        case rel =>
          refine ⟨k + 1, by omega, by go_num, HP', ?_, (hB.alloc (by omega) _).grown hgrow (by simp; omega) (fun j ej => row_ge hown ej)⟩
          rw [HTS.out, u8s_append, List.length_append]
          exact hown'
        case measure => simp [intOf]; omega
    · have HF := Lib.hid (show badPt xs = none from badPt_none (fun j h => HP.out j h (by omega)))
      rw [List.take_of_length_le (by omega)] at hown
      have hcv := run_string_row (RowAt.of_own hown)
      go_wp2_with fail
      go_ret3
      exact ⟨hB, .inr ⟨HF.out, rfl⟩⟩
end Go.Proofs.Ytdidepaldppcjaa
