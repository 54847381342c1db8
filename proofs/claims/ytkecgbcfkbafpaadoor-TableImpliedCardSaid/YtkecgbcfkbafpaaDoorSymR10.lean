/-
  TableImplied: runs.
-/
import Derived.Test.YtkecgbcfkbafpaaDoorSymA
namespace Go.Proofs.YtkecgbcfkbafpaaDoor.tableImplied
open Ev (SCase)
theorem r_11_4_1 (p q : Int) (h : SCase.Valid ⟨262144, 1114111, 19968, 40959, [(1, 64448, 64320, true), (2, 32768, 32768, false), (0, 0, 0, false)]⟩ p q) : run _ p q h = true := by kernel_rfl
theorem r_11_5_0 (p q : Int) (h : SCase.Valid ⟨262144, 1114111, 40960, 55295, [(1, 64448, 64448, false), (0, 0, 0, false)]⟩ p q) : run _ p q h = true := by kernel_rfl
theorem r_11_5_1 (p q : Int) (h : SCase.Valid ⟨262144, 1114111, 40960, 55295, [(1, 64448, 64448, true), (2, 32768, 32768, false), (0, 0, 0, false)]⟩ p q) : run _ p q h = true := by kernel_rfl
theorem r_11_6_0 (p q : Int) (h : SCase.Valid ⟨262144, 1114111, 55296, 57343, []⟩ p q) : run _ p q h = true := by kernel_rfl
theorem r_11_7_0 (p q : Int) (h : SCase.Valid ⟨262144, 1114111, 57344, 63743, [(1, 64448, 64448, false), (0, 0, 0, false)]⟩ p q) : run _ p q h = true := by kernel_rfl
theorem r_11_7_1 (p q : Int) (h : SCase.Valid ⟨262144, 1114111, 57344, 63743, [(1, 64448, 64448, true), (2, 32768, 32768, false), (0, 0, 0, false)]⟩ p q) : run _ p q h = true := by kernel_rfl
theorem r_11_8_0 (p q : Int) (h : SCase.Valid ⟨262144, 1114111, 63744, 64255, [(1, 64448, 64320, false), (0, 0, 0, false)]⟩ p q) : run _ p q h = true := by kernel_rfl
theorem r_11_8_1 (p q : Int) (h : SCase.Valid ⟨262144, 1114111, 63744, 64255, [(1, 64448, 64320, true), (2, 32768, 32768, false), (0, 0, 0, false)]⟩ p q) : run _ p q h = true := by kernel_rfl
theorem r_11_9_0 (p q : Int) (h : SCase.Valid ⟨262144, 1114111, 64256, 131071, [(1, 64448, 64448, false), (0, 0, 0, false)]⟩ p q) : run _ p q h = true := by kernel_rfl
theorem r_11_9_1 (p q : Int) (h : SCase.Valid ⟨262144, 1114111, 64256, 131071, [(1, 64448, 64448, true), (2, 32768, 32768, false), (0, 0, 0, false)]⟩ p q) : run _ p q h = true := by kernel_rfl
theorem r_11_10_0 (p q : Int) (h : SCase.Valid ⟨262144, 1114111, 131072, 262143, [(1, 64448, 64384, false), (0, 0, 0, false)]⟩ p q) : run _ p q h = true := by kernel_rfl
theorem r_11_10_1 (p q : Int) (h : SCase.Valid ⟨262144, 1114111, 131072, 262143, [(1, 64448, 64384, true), (2, 32768, 32768, false), (0, 0, 0, false)]⟩ p q) : run _ p q h = true := by kernel_rfl
theorem r_11_11_0 (p q : Int) (h : SCase.Valid ⟨262144, 1114111, 262144, 1114111, [(1, 64448, 64448, false), (0, 0, 0, false)]⟩ p q) : run _ p q h = true := by kernel_rfl
theorem r_11_11_1 (p q : Int) (h : SCase.Valid ⟨262144, 1114111, 262144, 1114111, [(1, 64448, 64448, true), (2, 32768, 32768, false), (0, 0, 0, false)]⟩ p q) : run _ p q h = true := by kernel_rfl
theorem r_11_11_2 (p q : Int) (h : SCase.Valid ⟨262144, 1114111, 262144, 1114111, [(1, 64448, 64448, true), (2, 32768, 32768, true), (0, 0, 0, true)]⟩ p q) : run _ p q h = true := by kernel_rfl
theorem r_11_12_0 (p q : Int) (h : SCase.Valid ⟨262144, 1114111, 1114112, 9223372036854775807, []⟩ p q) : run _ p q h = true := by kernel_rfl
theorem r_12_0_0 (p q : Int) (h : SCase.Valid ⟨1114112, 9223372036854775807, -9223372036854775808, -1, []⟩ p q) : run _ p q h = true := by kernel_rfl
theorem r_12_1_0 (p q : Int) (h : SCase.Valid ⟨1114112, 9223372036854775807, 0, 13311, []⟩ p q) : run _ p q h = true := by kernel_rfl
theorem r_12_2_0 (p q : Int) (h : SCase.Valid ⟨1114112, 9223372036854775807, 13312, 19903, []⟩ p q) : run _ p q h = true := by kernel_rfl
theorem r_12_3_0 (p q : Int) (h : SCase.Valid ⟨1114112, 9223372036854775807, 19904, 19967, []⟩ p q) : run _ p q h = true := by kernel_rfl
theorem r_12_4_0 (p q : Int) (h : SCase.Valid ⟨1114112, 9223372036854775807, 19968, 40959, []⟩ p q) : run _ p q h = true := by kernel_rfl
theorem r_12_5_0 (p q : Int) (h : SCase.Valid ⟨1114112, 9223372036854775807, 40960, 55295, []⟩ p q) : run _ p q h = true := by kernel_rfl
theorem r_12_6_0 (p q : Int) (h : SCase.Valid ⟨1114112, 9223372036854775807, 55296, 57343, []⟩ p q) : run _ p q h = true := by kernel_rfl
theorem r_12_7_0 (p q : Int) (h : SCase.Valid ⟨1114112, 9223372036854775807, 57344, 63743, []⟩ p q) : run _ p q h = true := by kernel_rfl
theorem r_12_8_0 (p q : Int) (h : SCase.Valid ⟨1114112, 9223372036854775807, 63744, 64255, []⟩ p q) : run _ p q h = true := by kernel_rfl
end Go.Proofs.YtkecgbcfkbafpaaDoor.tableImplied
