/-
  TableImplied: runs.
-/
import Derived.Test.YtkecgbcfkbafpaaDoorSymA
namespace Go.Proofs.YtkecgbcfkbafpaaDoor.tableImplied
open Ev (SCase)
theorem r_0_0_0 (p q : Int) (h : SCase.Valid ⟨-9223372036854775808, -1, -9223372036854775808, -1, []⟩ p q) : run _ p q h = true := by kernel_rfl
theorem r_0_1_0 (p q : Int) (h : SCase.Valid ⟨-9223372036854775808, -1, 0, 13311, []⟩ p q) : run _ p q h = true := by kernel_rfl
theorem r_0_2_0 (p q : Int) (h : SCase.Valid ⟨-9223372036854775808, -1, 13312, 19903, []⟩ p q) : run _ p q h = true := by kernel_rfl
theorem r_0_3_0 (p q : Int) (h : SCase.Valid ⟨-9223372036854775808, -1, 19904, 19967, []⟩ p q) : run _ p q h = true := by kernel_rfl
theorem r_0_4_0 (p q : Int) (h : SCase.Valid ⟨-9223372036854775808, -1, 19968, 40959, []⟩ p q) : run _ p q h = true := by kernel_rfl
theorem r_0_5_0 (p q : Int) (h : SCase.Valid ⟨-9223372036854775808, -1, 40960, 55295, []⟩ p q) : run _ p q h = true := by kernel_rfl
theorem r_0_6_0 (p q : Int) (h : SCase.Valid ⟨-9223372036854775808, -1, 55296, 57343, []⟩ p q) : run _ p q h = true := by kernel_rfl
theorem r_0_7_0 (p q : Int) (h : SCase.Valid ⟨-9223372036854775808, -1, 57344, 63743, []⟩ p q) : run _ p q h = true := by kernel_rfl
theorem r_0_8_0 (p q : Int) (h : SCase.Valid ⟨-9223372036854775808, -1, 63744, 64255, []⟩ p q) : run _ p q h = true := by kernel_rfl
theorem r_0_9_0 (p q : Int) (h : SCase.Valid ⟨-9223372036854775808, -1, 64256, 131071, []⟩ p q) : run _ p q h = true := by kernel_rfl
theorem r_0_10_0 (p q : Int) (h : SCase.Valid ⟨-9223372036854775808, -1, 131072, 262143, []⟩ p q) : run _ p q h = true := by kernel_rfl
theorem r_0_11_0 (p q : Int) (h : SCase.Valid ⟨-9223372036854775808, -1, 262144, 1114111, []⟩ p q) : run _ p q h = true := by kernel_rfl
theorem r_0_12_0 (p q : Int) (h : SCase.Valid ⟨-9223372036854775808, -1, 1114112, 9223372036854775807, []⟩ p q) : run _ p q h = true := by kernel_rfl
theorem r_1_0_0 (p q : Int) (h : SCase.Valid ⟨0, 13311, -9223372036854775808, -1, []⟩ p q) : run _ p q h = true := by kernel_rfl
theorem r_1_1_0 (p q : Int) (h : SCase.Valid ⟨0, 13311, 0, 13311, [(1, 64448, 64448, false), (0, 0, 0, false)]⟩ p q) : run _ p q h = true := by kernel_rfl
theorem r_1_1_1 (p q : Int) (h : SCase.Valid ⟨0, 13311, 0, 13311, [(1, 64448, 64448, true), (2, 32768, 32768, false), (0, 0, 0, false)]⟩ p q) : run _ p q h = true := by kernel_rfl
theorem r_1_1_2 (p q : Int) (h : SCase.Valid ⟨0, 13311, 0, 13311, [(1, 64448, 64448, true), (2, 32768, 32768, true), (0, 0, 0, true)]⟩ p q) : run _ p q h = true := by kernel_rfl
theorem r_1_2_0 (p q : Int) (h : SCase.Valid ⟨0, 13311, 13312, 19903, [(1, 64448, 64384, false), (0, 0, 0, false)]⟩ p q) : run _ p q h = true := by kernel_rfl
theorem r_1_2_1 (p q : Int) (h : SCase.Valid ⟨0, 13311, 13312, 19903, [(1, 64448, 64384, true), (2, 32768, 32768, false), (0, 0, 0, false)]⟩ p q) : run _ p q h = true := by kernel_rfl
theorem r_1_3_0 (p q : Int) (h : SCase.Valid ⟨0, 13311, 19904, 19967, [(1, 64448, 64448, false), (0, 0, 0, false)]⟩ p q) : run _ p q h = true := by kernel_rfl
theorem r_1_3_1 (p q : Int) (h : SCase.Valid ⟨0, 13311, 19904, 19967, [(1, 64448, 64448, true), (2, 32768, 32768, false), (0, 0, 0, false)]⟩ p q) : run _ p q h = true := by kernel_rfl
theorem r_1_4_0 (p q : Int) (h : SCase.Valid ⟨0, 13311, 19968, 40959, [(1, 64448, 64320, false), (0, 0, 0, false)]⟩ p q) : run _ p q h = true := by kernel_rfl
theorem r_1_4_1 (p q : Int) (h : SCase.Valid ⟨0, 13311, 19968, 40959, [(1, 64448, 64320, true), (2, 32768, 32768, false), (0, 0, 0, false)]⟩ p q) : run _ p q h = true := by kernel_rfl
theorem r_1_5_0 (p q : Int) (h : SCase.Valid ⟨0, 13311, 40960, 55295, [(1, 64448, 64448, false), (0, 0, 0, false)]⟩ p q) : run _ p q h = true := by kernel_rfl
theorem r_1_5_1 (p q : Int) (h : SCase.Valid ⟨0, 13311, 40960, 55295, [(1, 64448, 64448, true), (2, 32768, 32768, false), (0, 0, 0, false)]⟩ p q) : run _ p q h = true := by kernel_rfl
end Go.Proofs.YtkecgbcfkbafpaaDoor.tableImplied
