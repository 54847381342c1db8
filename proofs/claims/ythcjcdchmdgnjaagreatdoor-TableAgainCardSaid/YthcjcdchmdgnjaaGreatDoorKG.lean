/-
  Numbers by sixteens, read: in plain words.
-/
import Derived.Test.YthcjcdchmdgnjaaGreatDoorKA
import Derived.Lib.ParseIntBMem
namespace Go.Proofs.YthcjcdchmdgnjaaGreatDoor
open Go.RowKit Go.Lib
set_option linter.unusedVariables false
/-- What a byte is worth as a digit. -/
def hexD (c : UInt8) : Option Nat :=
  if 48 ≤ c.toNat ∧ c.toNat ≤ 57 then some (c.toNat - 48)
  else if 65 ≤ c.toNat ∧ c.toNat ≤ 70 then some (c.toNat - 55)
  else if 97 ≤ c.toNat ∧ c.toNat ≤ 102 then some (c.toNat - 87) else none
/-- A text by sixteens, up to M. -/
def parseX (M : Nat) : Nat → List UInt8 → NumEnd Nat
  | acc, [] => .ok acc
  | acc, c :: r => match hexD c with
    | none => .syntax
    | some d => if M < acc * 16 + d then .range else parseX M (acc * 16 + d) r
theorem hexD_lt {c : UInt8} {d : Nat} (h : hexD c = some d) : d < 16 := by
  unfold hexD at h
  split at h
  · cases h; omega
  · split at h
    · cases h; omega
    · split at h
      · cases h; omega
      · cases h
theorem hexD_hexU {d : Nat} (h : d < 16) : hexD (hexU d) = some d := by
  have hc : d = 0 ∨ d = 1 ∨ d = 2 ∨ d = 3 ∨ d = 4 ∨ d = 5 ∨ d = 6 ∨ d = 7 ∨ d = 8 ∨ d = 9 ∨ d = 10 ∨ d = 11 ∨ d = 12 ∨ d = 13 ∨ d = 14 ∨ d = 15 := by omega
  rcases hc with rfl | rfl | rfl | rfl | rfl | rfl | rfl | rfl | rfl | rfl | rfl | rfl | rfl | rfl | rfl | rfl <;> rfl
set_option synthInstance.maxHeartbeats 400000 in
set_option synthInstance.maxSize 2000 in
/-- A byte that is no cipher, by lower's answer. -/
theorem lower_or : ∀ n : Nat, n < 256 → ¬ (48 ≤ n ∧ n ≤ 57) →
    (57 < n ∧ n ≠ 95 ∧ 97 ≤ n ||| 32 ∧ n ||| 32 ≤ 102 ∧ hexD (UInt8.ofNat n) = some ((n ||| 32) - 87)) ∨ (hexD (UInt8.ofNat n) = none ∧ (n < 48 ∧ n ||| 32 < 97 ∨ 57 < n ∧ n ≠ 95 ∧ n ||| 32 < 97 ∨ 57 < n ∧ n ≠ 95 ∧ 102 < n ||| 32 ∧ n ||| 32 ≤ 122 ∨ 57 < n ∧ n ≠ 95 ∧ 122 < n ||| 32 ∨ n = 95 ∧ n ||| 32 = 127)) := by
  decide +kernel
theorem parseX_le {M : Nat} : ∀ {l : List UInt8} {acc n : Nat}, acc ≤ M → parseX M acc l = .ok n → n ≤ M
  | [], acc, n, ha, h => by simp only [parseX] at h; cases h; exact ha
  | c :: r, acc, n, ha, h => by
    simp only [parseX] at h
    split at h
    · cases h
    · split at h
      · cases h
      · exact parseX_le (by omega) h
/-- The digits of a number are read as it. -/
theorem parseX_digs {M : Nat} : ∀ (k n acc : Nat), acc * 16 ^ k + n % 16 ^ k ≤ M → parseX M acc (digs hexU k n) = .ok (acc * 16 ^ k + n % 16 ^ k)
  | 0, n, acc, h => by simp [digs, parseX, Nat.mod_one]
  | k + 1, n, acc, h => by
    have hd : n / 16 ^ k % 16 < 16 := Nat.mod_lt _ (by omega)
    have he : n % 16 ^ (k + 1) = n / 16 ^ k % 16 * 16 ^ k + n % 16 ^ k := by
      rw [Nat.pow_succ, Nat.mod_mul]; rw [Nat.mul_comm, Nat.add_comm]
    have hs : acc * 16 ^ (k + 1) + n % 16 ^ (k + 1) = (acc * 16 + n / 16 ^ k % 16) * 16 ^ k + n % 16 ^ k := by
      rw [he, Nat.pow_succ, Nat.add_mul, Nat.mul_assoc acc, Nat.mul_comm 16, Nat.add_assoc]
    have hM : acc * 16 + n / 16 ^ k % 16 ≤ M := by
      have h1 : 1 ≤ 16 ^ k := Nat.pow_pos (by omega)
      have h2 := Nat.mul_le_mul_left (acc * 16 + n / 16 ^ k % 16) h1
      omega
    simp only [digs, parseX, hexD_hexU hd]
    rw [if_neg (by omega), parseX_digs k n _ (by omega), hs]
theorem parseX_hexW {M n : Nat} (h : n ≤ M) : parseX M 0 (hexW n) = .ok n := by
  have h1 := hexN_lt n
  have h2 : n % 16 ^ (max 4 (hexN n)) = n := by
    refine Nat.mod_eq_of_lt ?_
    have h3 : n < 16 ^ hexN n := by
      rcases Nat.div_eq_zero_iff.1 h1 with h4 | h4
      · have := Nat.pow_pos (n := hexN n) (show 0 < 16 by omega); omega
      · exact h4
    exact Nat.lt_of_lt_of_le h3 (Nat.pow_le_pow_right (by omega) (by omega))
  rw [hexW, parseX_digs _ _ _ (by omega)]
  simp [h2]
end Go.Proofs.YthcjcdchmdgnjaaGreatDoor
