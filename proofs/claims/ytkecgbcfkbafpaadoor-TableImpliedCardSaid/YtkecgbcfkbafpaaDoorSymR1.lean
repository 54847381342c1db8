/-
  TableImplied: runs.
-/
import Derived.Test.YtkecgbcfkbafpaaDoorSymA
namespace Go.Proofs.YtkecgbcfkbafpaaDoor.tableImplied
open Ev (SCase)
theorem r_1_6_0 (p q : Int) (h : SCase.Valid ⟨0, 13311, 55296, 57343, []⟩ p q) : run _ p q h = true := by kernel_rfl
theorem r_1_7_0 (p q : Int) (h : SCase.Valid ⟨0, 13311, 57344, 63743, [(1, 64448, 64448, false), (0, 0, 0, false)]⟩ p q) : run _ p q h = true := by kernel_rfl
theorem r_1_7_1 (p q : Int) (h : SCase.Valid ⟨0, 13311, 57344, 63743, [(1, 64448, 64448, true), (2, 32768, 32768, false), (0, 0, 0, false)]⟩ p q) : run _ p q h = true := by kernel_rfl
theorem r_1_8_0 (p q : Int) (h : SCase.Valid ⟨0, 13311, 63744, 64255, [(1, 64448, 64320, false), (0, 0, 0, false)]⟩ p q) : run _ p q h = true := by kernel_rfl
theorem r_1_8_1 (p q : Int) (h : SCase.Valid ⟨0, 13311, 63744, 64255, [(1, 64448, 64320, true), (2, 32768, 32768, false), (0, 0, 0, false)]⟩ p q) : run _ p q h = true := by kernel_rfl
theorem r_1_9_0 (p q : Int) (h : SCase.Valid ⟨0, 13311, 64256, 131071, [(1, 64448, 64448, false), (0, 0, 0, false)]⟩ p q) : run _ p q h = true := by kernel_rfl
theorem r_1_9_1 (p q : Int) (h : SCase.Valid ⟨0, 13311, 64256, 131071, [(1, 64448, 64448, true), (2, 32768, 32768, false), (0, 0, 0, false)]⟩ p q) : run _ p q h = true := by kernel_rfl
theorem r_1_10_0 (p q : Int) (h : SCase.Valid ⟨0, 13311, 131072, 262143, [(1, 64448, 64384, false), (0, 0, 0, false)]⟩ p q) : run _ p q h = true := by kernel_rfl
theorem r_1_10_1 (p q : Int) (h : SCase.Valid ⟨0, 13311, 131072, 262143, [(1, 64448, 64384, true), (2, 32768, 32768, false), (0, 0, 0, false)]⟩ p q) : run _ p q h = true := by kernel_rfl
theorem r_1_11_0 (p q : Int) (h : SCase.Valid ⟨0, 13311, 262144, 1114111, [(1, 64448, 64448, false), (0, 0, 0, false)]⟩ p q) : run _ p q h = true := by kernel_rfl
theorem r_1_11_1 (p q : Int) (h : SCase.Valid ⟨0, 13311, 262144, 1114111, [(1, 64448, 64448, true), (2, 32768, 32768, false), (0, 0, 0, false)]⟩ p q) : run _ p q h = true := by kernel_rfl
theorem r_1_12_0 (p q : Int) (h : SCase.Valid ⟨0, 13311, 1114112, 9223372036854775807, []⟩ p q) : run _ p q h = true := by kernel_rfl
theorem r_2_0_0 (p q : Int) (h : SCase.Valid ⟨13312, 19903, -9223372036854775808, -1, []⟩ p q) : run _ p q h = true := by kernel_rfl
theorem r_2_1_0 (p q : Int) (h : SCase.Valid ⟨13312, 19903, 0, 13311, [(1, 64384, 64448, false), (0, 0, 0, false)]⟩ p q) : run _ p q h = true := by kernel_rfl
theorem r_2_1_1 (p q : Int) (h : SCase.Valid ⟨13312, 19903, 0, 13311, [(1, 64384, 64448, true), (2, 32768, 32768, false), (0, 0, 0, false)]⟩ p q) : run _ p q h = true := by kernel_rfl
theorem r_2_2_0 (p q : Int) (h : SCase.Valid ⟨13312, 19903, 13312, 19903, [(1, 64384, 64384, false), (0, 0, 0, false)]⟩ p q) : run _ p q h = true := by kernel_rfl
theorem r_2_2_1 (p q : Int) (h : SCase.Valid ⟨13312, 19903, 13312, 19903, [(1, 64384, 64384, true), (2, 32768, 32768, false), (0, 0, 0, false)]⟩ p q) : run _ p q h = true := by kernel_rfl
theorem r_2_2_2 (p q : Int) (h : SCase.Valid ⟨13312, 19903, 13312, 19903, [(1, 64384, 64384, true), (2, 32768, 32768, true), (0, 0, 0, true)]⟩ p q) : run _ p q h = true := by kernel_rfl
theorem r_2_3_0 (p q : Int) (h : SCase.Valid ⟨13312, 19903, 19904, 19967, [(1, 64384, 64448, false), (0, 0, 0, false)]⟩ p q) : run _ p q h = true := by kernel_rfl
theorem r_2_3_1 (p q : Int) (h : SCase.Valid ⟨13312, 19903, 19904, 19967, [(1, 64384, 64448, true), (2, 32768, 32768, false), (0, 0, 0, false)]⟩ p q) : run _ p q h = true := by kernel_rfl
theorem r_2_4_0 (p q : Int) (h : SCase.Valid ⟨13312, 19903, 19968, 40959, [(1, 64384, 64320, false), (0, 0, 0, false)]⟩ p q) : run _ p q h = true := by kernel_rfl
theorem r_2_4_1 (p q : Int) (h : SCase.Valid ⟨13312, 19903, 19968, 40959, [(1, 64384, 64320, true), (2, 32768, 32768, false), (0, 0, 0, false)]⟩ p q) : run _ p q h = true := by kernel_rfl
theorem r_2_5_0 (p q : Int) (h : SCase.Valid ⟨13312, 19903, 40960, 55295, [(1, 64384, 64448, false), (0, 0, 0, false)]⟩ p q) : run _ p q h = true := by kernel_rfl
theorem r_2_5_1 (p q : Int) (h : SCase.Valid ⟨13312, 19903, 40960, 55295, [(1, 64384, 64448, true), (2, 32768, 32768, false), (0, 0, 0, false)]⟩ p q) : run _ p q h = true := by kernel_rfl
theorem r_2_6_0 (p q : Int) (h : SCase.Valid ⟨13312, 19903, 55296, 57343, []⟩ p q) : run _ p q h = true := by kernel_rfl
end Go.Proofs.YtkecgbcfkbafpaaDoor.tableImplied
