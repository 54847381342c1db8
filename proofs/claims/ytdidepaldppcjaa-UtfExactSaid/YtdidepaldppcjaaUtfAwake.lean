/-
  dovetaillaw03: awake and add: what they return.
-/
import Derived.Test.YtdidepaldppcjaaUtfRefT
import Derived.Test.YtdidepaldppcjaaUtfSame
namespace Go.Proofs.Ytdidepaldppcjaa
open Go.RowKit
theorem rowAt_new (w : World) (vs : List Value) (t : TypeId) {B : Nat} (hB : w.heap.size < B) : RowAt (w.alloc (.cells vs.toArray t)) B (.slice (some ⟨w.heap.size, 0, none⟩) vs.length vs.length) vs := by
  refine ⟨_, _, rfl, Nat.le_refl _, fun _ => ⟨_, 0, rfl, hB, fun i u hu => ?_⟩⟩
  have h := World.alloc_heap_new w (.cells vs.toArray t)
  simp only [World.cell?, h, Option.isSome_none, Nat.zero_add]
  simpa using hu
def exA : ByteArray := ⟨#[97, 195, 169, 226, 130, 172, 240, 159, 152, 128]⟩
def exB : ByteArray := ⟨#[97, 195, 169]⟩
def exC : ByteArray := ⟨#[97, 255]⟩
theorem exA_chars : chars exA = [(0, 97), (1, 233), (3, 8364), (6, 128512)] := by decide +kernel
theorem exB_check : checkV exB = -1 := by decide +kernel
theorem exC_check : checkV exC = 1 := by decide +kernel
set_option maxRecDepth 100000 in
set_option maxHeartbeats 1000000 in
theorem awake_any (w : World) : Calls Try.prog 8 #[] w fun e w' => e = .returned (.bool true) ∧ Below w.heap.size w w' := by
  have hA : exA.size ≤ 1099511627776 := by decide
  have hB : exB.size < 9223372036854775800 := by decide
  have hC : exC.size < 9223372036854775800 := by decide
  have HA := Lib.hid hA; have HB := Lib.hid hB; have HC := Lib.hid hC
  clear hA hB hC
  have T1 := Lib.hid (show badPt [97, 1114111] = none by decide +kernel)
  have T2 := Lib.hid (show strOf (textB [97, 1114111]) = ⟨#[97, 244, 143, 191, 191]⟩ by decide +kernel)
  have T3 := Lib.hid (show badPt [97, 55296] = some 1 by decide +kernel)
  have A1 := Lib.hid exA_chars
  have A2 := Lib.hid (show badAt [(0, 97), (1, 233), (3, 8364), (6, 128512)] = none by decide +kernel)
  have B1 := Lib.hid exB_check
  have C1 := Lib.hid exC_check
  go_enter Try.func8, Try.ntmps8
  go_wp2_with fail
  refine (points_any exA HA.out _).mono ?_
  rintro e w1 hp
  rcases hp with ⟨k, hk, _⟩ | ⟨_, v, rfl, hown, _, hb1⟩
  · rw [A1.out, A2.out] at hk; cases hk
  rw [A1.out] at hown
  go_wp2_with fail
  refine (text_any _ [97, 1114111] _ (rowAt_new w1 (ints [97, 1114111]) 3 (by simp)) (by simp)).mono ?_
  rintro e w2 ⟨hb2, hq⟩
  rcases hq with ⟨k, hk, _⟩ | ⟨_, rfl⟩
  · rw [T1.out] at hk; cases hk
  rw [T2.out]
  have hz1 := hb1.size
  have hb2' : Below w.heap.size w w2 := (hb1.alloc hz1 _).trans (hb2.mono (by simp; omega))
  have r1 := (RowAt.of_own hown).alloc (Nat.le_refl _) (.cells #[.int .i64 97, .int .i64 1114111] 3)
  have r2 := r1.below (hb2.mono (by simp))
  go_wp2_with fail
  refine (text_any _ [97, 55296] _ (rowAt_new w2 (ints [97, 55296]) 3 (by simp)) (by simp)).mono ?_
  rintro e w3 ⟨hb3, hq⟩
  obtain ⟨k, hk, rfl⟩ := hq.resolve_right (fun h => by rw [T3.out] at h; cases h.1)
  rw [T3.out] at hk
  obtain rfl : 1 = k := by injection hk
  have hz2 := hb2'.size
  have hb3' : Below w.heap.size w w3 := (hb2'.alloc hz2 _).trans (hb3.mono (by simp; omega))
  have r3 := (r2.alloc (by have := hb2.size; simp at this; omega) (.cells #[.int .i64 97, .int .i64 55296] 3)).below (hb3.mono (by have := hb2.size; simp at this; simp; omega))
  have hz3 := hb3'.size
  have hz31 : w1.heap.size ≤ w3.heap.size := by have := hb2.size; have := hb3.size; simp at *; omega
  go_wp2_with fail
  refine (same_any _ _ [97, 233, 8364, 128512] [97, 233, 8364, 128512] _ (w3.heap.size + 1) ((r3.alloc (by omega) _).more (by omega)) (rowAt_new w3 (ints [97, 233, 8364, 128512]) 3 (by omega)) (by simp [maxLen])).mono ?_
  rintro e w4 ⟨rfl, n4, rfl⟩
  rw [show sameI [97, 233, 8364, 128512] [97, 233, 8364, 128512] = true by decide]
  have hb4 : Below w.heap.size w ((w3.alloc (.cells #[.int .i64 97, .int .i64 233, .int .i64 8364, .int .i64 128512] 3)).drewN n4) := below_drewN (hb3'.alloc hz3 _) _
  go_wp2_with fail
  refine (check_any exB HB.out _).mono ?_
  rintro e w5 ⟨rfl, hb5⟩
  rw [B1.out]
  have hb5' := hb4.trans (hb5.mono hb4.size)
  go_wp2_with fail
  refine (check_any exC HC.out _).mono ?_
  rintro e w6 ⟨rfl, hb6⟩
  rw [C1.out]
  have hb6' := hb5'.trans (hb6.mono hb5'.size)
  go_wp2_with fail
  go_ret
  exact ⟨rfl, hb6'⟩
/-- The law's sum that ends above the bound. -/
def addV (n k : Int) : Int := if n ≤ 2147483647 ∧ k ≤ 2147483647 then n + k else 2147483648
theorem add_any (n k : Int) (w : World) (hn : -4294967296 ≤ n) (hn' : n ≤ 4294967296) (hk : -4294967296 ≤ k) (hk' : k ≤ 4294967296) : Calls Try.prog 9 #[.int .i64 n, .int .i64 k] w fun e w' => e = .returned (.int .i64 (addV n k)) ∧ w = w' := by
  by_cases h1 : n ≤ 2147483647
  · by_cases h2 : k ≤ 2147483647
    · have HF := Lib.hid (show addV n k = n + k from if_pos ⟨h1, h2⟩)
      go_enter Try.func9, Try.ntmps9
      go_wp2_with fail
      go_ret
      exact ⟨ret_int HF.out.symm, rfl⟩
    · have HF := Lib.hid (show addV n k = 2147483648 from if_neg (by omega))
      have h2' : 2147483647 < k := by omega
      clear h2
      go_enter Try.func9, Try.ntmps9
      go_wp2_with fail
      go_ret
      exact ⟨ret_int HF.out.symm, rfl⟩
  · have HF := Lib.hid (show addV n k = 2147483648 from if_neg (by omega))
    have h2' : 2147483647 < n := by omega
    clear h1
    go_enter Try.func9, Try.ntmps9
    go_wp2_with fail
    go_ret
    exact ⟨ret_int HF.out.symm, rfl⟩
end Go.Proofs.Ytdidepaldppcjaa
