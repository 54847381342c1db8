/-
  internal/strconv.ParseUint by sixteens.
-/
import Derived.Test.YtlkdjdcnbcegeaaGreatDoorKA
import Derived.Test.YtlkdjdcnbcegeaaGreatDoorKB
import Derived.Lib.ConvBytes
import Derived.Lib.AtoiErrMem
import Derived.Lib.SmallJoins
import Derived.Lib.Hide
import Derived.Laws.Strings3
import Derived.Laws.Closers25
import Derived.Laws.Closers25b
namespace Go.Proofs.YtlkdjdcnbcegeaaGreatDoor
open Go.RowKit Go.WideShapes Go.Lib
set_option linter.unusedVariables false
set_option linter.unusedSimpArgs false
theorem lower_any (c : Int) (w : World) : Calls Tryz.prog 155 #[.int .u8 c] w fun e w' => e = .returned (.int .u8 (bits .or .u8 c 32)) ∧ w' = w := by
  go_enter Tryz.func155, Tryz.ntmps155
  go_wp2_with fail
  go_returns
  exact ⟨rfl, rfl⟩
theorem or32 (n : Nat) (h : n < 256) : bits .or .u8 (n : Int) 32 = ((n ||| 32 : Nat) : Int) := by
  have : ∀ n : Nat, n < 256 → bits .or .u8 (n : Int) 32 = ((n ||| 32 : Nat) : Int) := by decide +kernel
  exact this n h
/-- A byte as a digit, as the code looks at it. -/
theorem hexD_cases (c : UInt8) :
    (48 ≤ c.toNat ∧ c.toNat ≤ 57 ∧ hexD c = some (c.toNat - 48)) ∨
    (∃ v : Nat, v < 256 ∧ bits .or .u8 (c.toNat : Int) 32 = (v : Int) ∧ ((57 < c.toNat ∧ c.toNat ≠ 95 ∧ 97 ≤ v ∧ v ≤ 102 ∧ hexD c = some (v - 87)) ∨ (hexD c = none ∧ (c.toNat < 48 ∧ v < 97 ∨ 57 < c.toNat ∧ c.toNat ≠ 95 ∧ v < 97 ∨ 57 < c.toNat ∧ c.toNat ≠ 95 ∧ 102 < v ∧ v ≤ 122 ∨ 57 < c.toNat ∧ c.toNat ≠ 95 ∧ 122 < v ∨ c.toNat = 95 ∧ v = 127)))) := by
  have hc := c.toNat_lt
  by_cases h : 48 ≤ c.toNat ∧ c.toNat ≤ 57
  · exact Or.inl ⟨h.1, h.2, by simp [hexD, h]⟩
  · have h1 := lower_or c.toNat hc h
    have h2 : UInt8.ofNat c.toNat = c := UInt8.ofNat_toNat
    rw [h2] at h1
    exact Or.inr ⟨_, Nat.or_lt_two_pow (n := 8) hc (by decide), or32 _ hc, h1⟩
set_option maxHeartbeats 16000000 in
set_option maxRecDepth 100000 in
theorem xuint16_any (t : ByteArray) (hne : t.size ≠ 0) (hmax : t.size ≤ 9223372036854775806) (w : World) :
    Calls Tryz.prog 134 #[.string t, .int .i64 16, .int .i64 16] w fun e w' => e = .returned (uintTupleM 170 65535 (parseX 65535 0 t.data.toList)) ∧ w' = Lib.bytesWorld w 5 t := by
  have hcv := Lib.run_convert_string_bytes (P := Tryz.prog) w 9 160 5 t Tryz.underlying9 Tryz.underlying160 Tryz.underlying5
  have hB : ∀ j, j < t.size → (Lib.bytesWorld w 5 t).cell? ⟨w.heap.size, j, none⟩ = some (.int .u8 (t.data.toList.getD j 0).toNat) := fun j hj => Lib.bytesWorld_cell w 5 t j hj
  have hemp : t.toList.isEmpty = false := by
    rw [← decide_eq_emptyBytes]
    exact decide_eq_false (fun h => hne (by rw [h]; rfl))
  obtain ⟨W1, hW1⟩ : ∃ W1, W1 = Lib.bytesWorld w 5 t := ⟨_, rfl⟩
  rw [← hW1] at hcv hB ⊢
  clear hW1
  obtain ⟨bs, hL⟩ : ∃ bs, bs = t.data.toList := ⟨_, rfl⟩
  have hLn : bs.length = t.size := by rw [hL, Lib.size_eq]
  rw [← hL] at hB ⊢
  clear hL
  have hmv : IntKind.u64.wrap (IntKind.u64.wrap 65536 - 1) = 65535 := by
    rw [IntKind.wrap_u64, IntKind.wrap_u64]
    decide
  go_enter Tryz.func134, Tryz.ntmps134
  go_wp2_with fail
  go_loop [12, 13, 101] (fun vu vn vi => ∃ (k acc : Nat) (a : Int), vu = .bool false ∧ vn = .int .u64 a ∧ vi = .int .i64 k ∧ k ≤ t.size ∧ Hid (a = (acc : Int) ∧ acc ≤ 65535 ∧ parseX 65535 0 bs = parseX 65535 acc (bs.drop k)))
    (fun _ _ vi => t.size - (intOf vi).toNat)
  case atStart => exact ⟨0, 0, 0, rfl, rfl, rfl, by omega, Lib.hid ⟨rfl, by omega, rfl⟩⟩
  case round =>
    obtain ⟨k, acc, a, rfl, rfl, rfl, hk, hh⟩ := hrel
    obtain ⟨ha, hacc, hdec⟩ := hh.out
    clear hh
    have a0 : 0 ≤ a := by omega
    have a1 : a ≤ 65535 := by omega
    by_cases hkn : k < t.size
    · have hc := hB k hkn
      have hdrop : bs.drop k = bs[k]'(by omega) :: bs.drop (k + 1) := List.drop_eq_getElem_cons (by omega)
      have hget : bs.getD k 0 = bs[k]'(by omega) := by simp [List.getD, List.getElem?_eq_getElem (show k < bs.length by omega)]
      rw [hdrop] at hdec
      rw [hget] at hc
      generalize bs[k]'(by omega) = c at hc hdec
      have hc256 : c.toNat < 256 := c.toNat_lt
      clear hB hdrop hget
      have hF := hdec
      rw [parseX] at hF
      rcases hexD_cases c with ⟨hd0, hd1, hD⟩ | ⟨v, hv0, hv, ⟨h57, h95, hd0, hd1, hD⟩ | ⟨hD, hno⟩⟩
      · rw [hD] at hF
        simp only at hF
        by_cases hov : 65535 < acc * 16 + (c.toNat - 48)
        · rw [if_pos hov] at hF
          have iov : 65535 < a * 16 + ((c.toNat : Int) - 48) := by omega
          have HF := Lib.hid hF
          clear hacc hdec hF hov ha hD
          go_wp2_with fail
          go_returns
          rw [HF.out]
          exact ⟨rfl, rfl⟩
        · rw [if_neg hov] at hF
          have HN : Hid (a * 16 + ((c.toNat : Int) - 48) = ((acc * 16 + (c.toNat - 48) : Nat) : Int) ∧ acc * 16 + (c.toNat - 48) ≤ 65535 ∧ parseX 65535 0 bs = parseX 65535 (acc * 16 + (c.toNat - 48)) (bs.drop (k + 1))) := Lib.hid ⟨by omega, by omega, hF⟩
          have iov : a * 16 + ((c.toNat : Int) - 48) ≤ 65535 := by omega
          clear hacc hF hov hdec ha hD
          go_wp2_with fail
          go_round
          case rel => exact ⟨k + 1, acc * 16 + (c.toNat - 48), a * 16 + ((c.toNat : Int) - 48), rfl, (by first | rfl | (congr 1; omega)), (by first | rfl | (congr 1; omega)), by omega, HN⟩
          case measure => simp [intOf]; omega
      · rw [hD] at hF
        simp only at hF
        have h57I : ¬ (c.toNat : Int) ≤ 57 := by omega
        have h48I : (48 : Int) ≤ (c.toNat : Int) := by omega
        have h95I : ¬ (c.toNat : Int) = 95 := by omega
        have hvI0 : (97 : Int) ≤ (v : Int) := by omega
        have hvI1 : (v : Int) ≤ 102 := by omega
        by_cases hov : 65535 < acc * 16 + (v - 87)
        · rw [if_pos hov] at hF
          have iov : 65535 < a * 16 + ((v : Int) - 97 + 10) := by omega
          have HF := Lib.hid hF
          clear hacc hdec hF hov ha hD hd0 hd1 h57 h95
          go_wp2_with fail
          refine (lower_any _ _).mono ?_
          rintro e w' ⟨rfl, rfl⟩
          rw [hv]
          go_wp2_with fail
          refine (lower_any _ _).mono ?_
          rintro e w' ⟨rfl, rfl⟩
          rw [hv]
          go_wp2_with fail
          refine (lower_any _ _).mono ?_
          rintro e w' ⟨rfl, rfl⟩
          rw [hv]
          go_wp2_with fail
          all_goals go_returns
          all_goals rw [HF.out]
          all_goals exact ⟨rfl, rfl⟩
        · rw [if_neg hov] at hF
          have HN : Hid (a * 16 + ((v : Int) - 97 + 10) = ((acc * 16 + (v - 87) : Nat) : Int) ∧ acc * 16 + (v - 87) ≤ 65535 ∧ parseX 65535 0 bs = parseX 65535 (acc * 16 + (v - 87)) (bs.drop (k + 1))) := Lib.hid ⟨by omega, by omega, hF⟩
          have iov : a * 16 + ((v : Int) - 97 + 10) ≤ 65535 := by omega
          clear hacc hF hov hdec ha hD hd0 hd1 h57 h95
          go_wp2_with fail
          refine (lower_any _ _).mono ?_
          rintro e w' ⟨rfl, rfl⟩
          rw [hv]
          go_wp2_with fail
          refine (lower_any _ _).mono ?_
          rintro e w' ⟨rfl, rfl⟩
          rw [hv]
          go_wp2_with fail
          refine (lower_any _ _).mono ?_
          rintro e w' ⟨rfl, rfl⟩
          rw [hv]
          go_wp2_with fail
          all_goals go_round
          case rel => exact ⟨k + 1, acc * 16 + (v - 87), a * 16 + ((v : Int) - 97 + 10), rfl, (by first | rfl | (congr 1; omega)), (by first | rfl | (congr 1; omega)), by omega, HN⟩
          case measure => simp [intOf]; omega
      · rw [hD] at hF
        simp only at hF
        have HF := Lib.hid hF
        rcases hno with ⟨h1, h2⟩ | ⟨h1, h3, h2⟩ | ⟨h1, h3, h2, h4⟩ | ⟨h1, h3, h2⟩ | ⟨h1, h2⟩
        · have h48I : ¬ (48 : Int) ≤ (c.toNat : Int) := by omega
          have h95I : ¬ (c.toNat : Int) = 95 := by omega
          have hv9 : ¬ (97 : Int) ≤ (v : Int) := by omega
          clear hacc hdec hF ha hD
          go_wp2_with fail
          refine (lower_any _ _).mono ?_
          rintro e w' ⟨rfl, rfl⟩
          rw [hv]
          go_wp2_with fail
          all_goals go_returns
          all_goals rw [HF.out]
          all_goals exact ⟨rfl, rfl⟩
        · have h48I : (48 : Int) ≤ (c.toNat : Int) := by omega
          have h57I : ¬ (c.toNat : Int) ≤ 57 := by omega
          have h95I : ¬ (c.toNat : Int) = 95 := by omega
          have hv9 : ¬ (97 : Int) ≤ (v : Int) := by omega
          clear hacc hdec hF ha hD
          go_wp2_with fail
          refine (lower_any _ _).mono ?_
          rintro e w' ⟨rfl, rfl⟩
          rw [hv]
          go_wp2_with fail
          all_goals go_returns
          all_goals rw [HF.out]
          all_goals exact ⟨rfl, rfl⟩
        · have h48I : (48 : Int) ≤ (c.toNat : Int) := by omega
          have h57I : ¬ (c.toNat : Int) ≤ 57 := by omega
          have h95I : ¬ (c.toNat : Int) = 95 := by omega
          have hv9 : (97 : Int) ≤ (v : Int) := by omega
          have hv8 : (v : Int) ≤ 122 := by omega
          have hv7 : (102 : Int) < (v : Int) := by omega
          clear hacc hdec hF ha hD
          go_wp2_with fail
          refine (lower_any _ _).mono ?_
          rintro e w' ⟨rfl, rfl⟩
          rw [hv]
          go_wp2_with fail
          refine (lower_any _ _).mono ?_
          rintro e w' ⟨rfl, rfl⟩
          rw [hv]
          go_wp2_with fail
          refine (lower_any _ _).mono ?_
          rintro e w' ⟨rfl, rfl⟩
          rw [hv]
          go_wp2_with fail
          all_goals go_returns
          all_goals rw [HF.out]
          all_goals exact ⟨rfl, rfl⟩
        · have h48I : (48 : Int) ≤ (c.toNat : Int) := by omega
          have h57I : ¬ (c.toNat : Int) ≤ 57 := by omega
          have h95I : ¬ (c.toNat : Int) = 95 := by omega
          have hv9 : (97 : Int) ≤ (v : Int) := by omega
          have hv8 : ¬ (v : Int) ≤ 122 := by omega
          clear hacc hdec hF ha hD
          go_wp2_with fail
          refine (lower_any _ _).mono ?_
          rintro e w' ⟨rfl, rfl⟩
          rw [hv]
          go_wp2_with fail
          refine (lower_any _ _).mono ?_
          rintro e w' ⟨rfl, rfl⟩
          rw [hv]
          go_wp2_with fail
          all_goals go_returns
          all_goals rw [HF.out]
          all_goals exact ⟨rfl, rfl⟩
        · have h95I : (c.toNat : Int) = 95 := by omega
          rw [h1, h2] at hv
          rw [h1] at hc
          replace hv : bits BinOp.or IntKind.u8 95 32 = 127 := hv
          clear hacc hdec hF ha hD
          go_wp2_with fail
          refine (lower_any _ _).mono ?_
          rintro e w' ⟨rfl, rfl⟩
          rw [hv]
          go_wp2_with fail
          refine (lower_any _ _).mono ?_
          rintro e w' ⟨rfl, rfl⟩
          rw [hv]
          go_wp2_with fail
          all_goals go_returns
          all_goals rw [HF.out]
          all_goals exact ⟨rfl, rfl⟩
    · have hkk : k = t.size := by omega
      subst hkk
      rw [List.drop_eq_nil_of_le (by omega), parseX] at hdec
      subst ha
      have HF := Lib.hid hdec
      clear hacc hdec a0 a1
      go_wp2_with fail
      go_returns
      rw [HF.out]
      exact ⟨rfl, rfl⟩
set_option maxHeartbeats 16000000 in
set_option maxRecDepth 100000 in
theorem xuint32_any (t : ByteArray) (hne : t.size ≠ 0) (hmax : t.size ≤ 9223372036854775806) (w : World) :
    Calls Tryz.prog 134 #[.string t, .int .i64 16, .int .i64 32] w fun e w' => e = .returned (uintTupleM 170 4294967295 (parseX 4294967295 0 t.data.toList)) ∧ w' = Lib.bytesWorld w 5 t := by
  have hcv := Lib.run_convert_string_bytes (P := Tryz.prog) w 9 160 5 t Tryz.underlying9 Tryz.underlying160 Tryz.underlying5
  have hB : ∀ j, j < t.size → (Lib.bytesWorld w 5 t).cell? ⟨w.heap.size, j, none⟩ = some (.int .u8 (t.data.toList.getD j 0).toNat) := fun j hj => Lib.bytesWorld_cell w 5 t j hj
  have hemp : t.toList.isEmpty = false := by
    rw [← decide_eq_emptyBytes]
    exact decide_eq_false (fun h => hne (by rw [h]; rfl))
  obtain ⟨W1, hW1⟩ : ∃ W1, W1 = Lib.bytesWorld w 5 t := ⟨_, rfl⟩
  rw [← hW1] at hcv hB ⊢
  clear hW1
  obtain ⟨bs, hL⟩ : ∃ bs, bs = t.data.toList := ⟨_, rfl⟩
  have hLn : bs.length = t.size := by rw [hL, Lib.size_eq]
  rw [← hL] at hB ⊢
  clear hL
  have hmv : IntKind.u64.wrap (IntKind.u64.wrap 4294967296 - 1) = 4294967295 := by
    rw [IntKind.wrap_u64, IntKind.wrap_u64]
    decide
  go_enter Tryz.func134, Tryz.ntmps134
  go_wp2_with fail
  go_loop [12, 13, 101] (fun vu vn vi => ∃ (k acc : Nat) (a : Int), vu = .bool false ∧ vn = .int .u64 a ∧ vi = .int .i64 k ∧ k ≤ t.size ∧ Hid (a = (acc : Int) ∧ acc ≤ 4294967295 ∧ parseX 4294967295 0 bs = parseX 4294967295 acc (bs.drop k)))
    (fun _ _ vi => t.size - (intOf vi).toNat)
  case atStart => exact ⟨0, 0, 0, rfl, rfl, rfl, by omega, Lib.hid ⟨rfl, by omega, rfl⟩⟩
  case round =>
    obtain ⟨k, acc, a, rfl, rfl, rfl, hk, hh⟩ := hrel
    obtain ⟨ha, hacc, hdec⟩ := hh.out
    clear hh
    have a0 : 0 ≤ a := by omega
    have a1 : a ≤ 4294967295 := by omega
    by_cases hkn : k < t.size
    · have hc := hB k hkn
      have hdrop : bs.drop k = bs[k]'(by omega) :: bs.drop (k + 1) := List.drop_eq_getElem_cons (by omega)
      have hget : bs.getD k 0 = bs[k]'(by omega) := by simp [List.getD, List.getElem?_eq_getElem (show k < bs.length by omega)]
      rw [hdrop] at hdec
      rw [hget] at hc
      generalize bs[k]'(by omega) = c at hc hdec
      have hc256 : c.toNat < 256 := c.toNat_lt
      clear hB hdrop hget
      have hF := hdec
      rw [parseX] at hF
      rcases hexD_cases c with ⟨hd0, hd1, hD⟩ | ⟨v, hv0, hv, ⟨h57, h95, hd0, hd1, hD⟩ | ⟨hD, hno⟩⟩
      · rw [hD] at hF
        simp only at hF
        by_cases hov : 4294967295 < acc * 16 + (c.toNat - 48)
        · rw [if_pos hov] at hF
          have iov : 4294967295 < a * 16 + ((c.toNat : Int) - 48) := by omega
          have HF := Lib.hid hF
          clear hacc hdec hF hov ha hD
          go_wp2_with fail
          go_returns
          rw [HF.out]
          exact ⟨rfl, rfl⟩
        · rw [if_neg hov] at hF
          have HN : Hid (a * 16 + ((c.toNat : Int) - 48) = ((acc * 16 + (c.toNat - 48) : Nat) : Int) ∧ acc * 16 + (c.toNat - 48) ≤ 4294967295 ∧ parseX 4294967295 0 bs = parseX 4294967295 (acc * 16 + (c.toNat - 48)) (bs.drop (k + 1))) := Lib.hid ⟨by omega, by omega, hF⟩
          have iov : a * 16 + ((c.toNat : Int) - 48) ≤ 4294967295 := by omega
          clear hacc hF hov hdec ha hD
          go_wp2_with fail
          go_round
          case rel => exact ⟨k + 1, acc * 16 + (c.toNat - 48), a * 16 + ((c.toNat : Int) - 48), rfl, (by first | rfl | (congr 1; omega)), (by first | rfl | (congr 1; omega)), by omega, HN⟩
          case measure => simp [intOf]; omega
      · rw [hD] at hF
        simp only at hF
        have h57I : ¬ (c.toNat : Int) ≤ 57 := by omega
        have h48I : (48 : Int) ≤ (c.toNat : Int) := by omega
        have h95I : ¬ (c.toNat : Int) = 95 := by omega
        have hvI0 : (97 : Int) ≤ (v : Int) := by omega
        have hvI1 : (v : Int) ≤ 102 := by omega
        by_cases hov : 4294967295 < acc * 16 + (v - 87)
        · rw [if_pos hov] at hF
          have iov : 4294967295 < a * 16 + ((v : Int) - 97 + 10) := by omega
          have HF := Lib.hid hF
          clear hacc hdec hF hov ha hD hd0 hd1 h57 h95
          go_wp2_with fail
          refine (lower_any _ _).mono ?_
          rintro e w' ⟨rfl, rfl⟩
          rw [hv]
          go_wp2_with fail
          refine (lower_any _ _).mono ?_
          rintro e w' ⟨rfl, rfl⟩
          rw [hv]
          go_wp2_with fail
          refine (lower_any _ _).mono ?_
          rintro e w' ⟨rfl, rfl⟩
          rw [hv]
          go_wp2_with fail
          all_goals go_returns
          all_goals rw [HF.out]
          all_goals exact ⟨rfl, rfl⟩
        · rw [if_neg hov] at hF
          have HN : Hid (a * 16 + ((v : Int) - 97 + 10) = ((acc * 16 + (v - 87) : Nat) : Int) ∧ acc * 16 + (v - 87) ≤ 4294967295 ∧ parseX 4294967295 0 bs = parseX 4294967295 (acc * 16 + (v - 87)) (bs.drop (k + 1))) := Lib.hid ⟨by omega, by omega, hF⟩
          have iov : a * 16 + ((v : Int) - 97 + 10) ≤ 4294967295 := by omega
          clear hacc hF hov hdec ha hD hd0 hd1 h57 h95
          go_wp2_with fail
          refine (lower_any _ _).mono ?_
          rintro e w' ⟨rfl, rfl⟩
          rw [hv]
          go_wp2_with fail
          refine (lower_any _ _).mono ?_
          rintro e w' ⟨rfl, rfl⟩
          rw [hv]
          go_wp2_with fail
          refine (lower_any _ _).mono ?_
          rintro e w' ⟨rfl, rfl⟩
          rw [hv]
          go_wp2_with fail
          all_goals go_round
          case rel => exact ⟨k + 1, acc * 16 + (v - 87), a * 16 + ((v : Int) - 97 + 10), rfl, (by first | rfl | (congr 1; omega)), (by first | rfl | (congr 1; omega)), by omega, HN⟩
          case measure => simp [intOf]; omega
      · rw [hD] at hF
        simp only at hF
        have HF := Lib.hid hF
        rcases hno with ⟨h1, h2⟩ | ⟨h1, h3, h2⟩ | ⟨h1, h3, h2, h4⟩ | ⟨h1, h3, h2⟩ | ⟨h1, h2⟩
        · have h48I : ¬ (48 : Int) ≤ (c.toNat : Int) := by omega
          have h95I : ¬ (c.toNat : Int) = 95 := by omega
          have hv9 : ¬ (97 : Int) ≤ (v : Int) := by omega
          clear hacc hdec hF ha hD
          go_wp2_with fail
          refine (lower_any _ _).mono ?_
          rintro e w' ⟨rfl, rfl⟩
          rw [hv]
          go_wp2_with fail
          all_goals go_returns
          all_goals rw [HF.out]
          all_goals exact ⟨rfl, rfl⟩
        · have h48I : (48 : Int) ≤ (c.toNat : Int) := by omega
          have h57I : ¬ (c.toNat : Int) ≤ 57 := by omega
          have h95I : ¬ (c.toNat : Int) = 95 := by omega
          have hv9 : ¬ (97 : Int) ≤ (v : Int) := by omega
          clear hacc hdec hF ha hD
          go_wp2_with fail
          refine (lower_any _ _).mono ?_
          rintro e w' ⟨rfl, rfl⟩
          rw [hv]
          go_wp2_with fail
          all_goals go_returns
          all_goals rw [HF.out]
          all_goals exact ⟨rfl, rfl⟩
        · have h48I : (48 : Int) ≤ (c.toNat : Int) := by omega
          have h57I : ¬ (c.toNat : Int) ≤ 57 := by omega
          have h95I : ¬ (c.toNat : Int) = 95 := by omega
          have hv9 : (97 : Int) ≤ (v : Int) := by omega
          have hv8 : (v : Int) ≤ 122 := by omega
          have hv7 : (102 : Int) < (v : Int) := by omega
          clear hacc hdec hF ha hD
          go_wp2_with fail
          refine (lower_any _ _).mono ?_
          rintro e w' ⟨rfl, rfl⟩
          rw [hv]
          go_wp2_with fail
          refine (lower_any _ _).mono ?_
          rintro e w' ⟨rfl, rfl⟩
          rw [hv]
          go_wp2_with fail
          refine (lower_any _ _).mono ?_
          rintro e w' ⟨rfl, rfl⟩
          rw [hv]
          go_wp2_with fail
          all_goals go_returns
          all_goals rw [HF.out]
          all_goals exact ⟨rfl, rfl⟩
        · have h48I : (48 : Int) ≤ (c.toNat : Int) := by omega
          have h57I : ¬ (c.toNat : Int) ≤ 57 := by omega
          have h95I : ¬ (c.toNat : Int) = 95 := by omega
          have hv9 : (97 : Int) ≤ (v : Int) := by omega
          have hv8 : ¬ (v : Int) ≤ 122 := by omega
          clear hacc hdec hF ha hD
          go_wp2_with fail
          refine (lower_any _ _).mono ?_
          rintro e w' ⟨rfl, rfl⟩
          rw [hv]
          go_wp2_with fail
          refine (lower_any _ _).mono ?_
          rintro e w' ⟨rfl, rfl⟩
          rw [hv]
          go_wp2_with fail
          all_goals go_returns
          all_goals rw [HF.out]
          all_goals exact ⟨rfl, rfl⟩
        · have h95I : (c.toNat : Int) = 95 := by omega
          rw [h1, h2] at hv
          rw [h1] at hc
          replace hv : bits BinOp.or IntKind.u8 95 32 = 127 := hv
          clear hacc hdec hF ha hD
          go_wp2_with fail
          refine (lower_any _ _).mono ?_
          rintro e w' ⟨rfl, rfl⟩
          rw [hv]
          go_wp2_with fail
          refine (lower_any _ _).mono ?_
          rintro e w' ⟨rfl, rfl⟩
          rw [hv]
          go_wp2_with fail
          all_goals go_returns
          all_goals rw [HF.out]
          all_goals exact ⟨rfl, rfl⟩
    · have hkk : k = t.size := by omega
      subst hkk
      rw [List.drop_eq_nil_of_le (by omega), parseX] at hdec
      subst ha
      have HF := Lib.hid hdec
      clear hacc hdec a0 a1
      go_wp2_with fail
      go_returns
      rw [HF.out]
      exact ⟨rfl, rfl⟩
end Go.Proofs.YtlkdjdcnbcegeaaGreatDoor
