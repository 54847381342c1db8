/-
  TableImplied: runs.
-/
import Derived.Test.YtkecgbcfkbafpaaDoorSymA
namespace Go.Proofs.YtkecgbcfkbafpaaDoor.tableImplied
open Ev (SCase)
theorem r_9_3_1 (p q : Int) (h : SCase.Valid ⟨64256, 131071, 19904, 19967, [(1, 64448, 64448, true), (2, 32768, 32768, false), (0, 0, 0, false)]⟩ p q) : run _ p q h = true := by kernel_rfl
theorem r_9_4_0 (p q : Int) (h : SCase.Valid ⟨64256, 131071, 19968, 40959, [(1, 64448, 64320, false), (0, 0, 0, false)]⟩ p q) : run _ p q h = true := by kernel_rfl
theorem r_9_4_1 (p q : Int) (h : SCase.Valid ⟨64256, 131071, 19968, 40959, [(1, 64448, 64320, true), (2, 32768, 32768, false), (0, 0, 0, false)]⟩ p q) : run _ p q h = true := by kernel_rfl
theorem r_9_5_0 (p q : Int) (h : SCase.Valid ⟨64256, 131071, 40960, 55295, [(1, 64448, 64448, false), (0, 0, 0, false)]⟩ p q) : run _ p q h = true := by kernel_rfl
theorem r_9_5_1 (p q : Int) (h : SCase.Valid ⟨64256, 131071, 40960, 55295, [(1, 64448, 64448, true), (2, 32768, 32768, false), (0, 0, 0, false)]⟩ p q) : run _ p q h = true := by kernel_rfl
theorem r_9_6_0 (p q : Int) (h : SCase.Valid ⟨64256, 131071, 55296, 57343, []⟩ p q) : run _ p q h = true := by kernel_rfl
theorem r_9_7_0 (p q : Int) (h : SCase.Valid ⟨64256, 131071, 57344, 63743, [(1, 64448, 64448, false), (0, 0, 0, false)]⟩ p q) : run _ p q h = true := by kernel_rfl
theorem r_9_7_1 (p q : Int) (h : SCase.Valid ⟨64256, 131071, 57344, 63743, [(1, 64448, 64448, true), (2, 32768, 32768, false), (0, 0, 0, false)]⟩ p q) : run _ p q h = true := by kernel_rfl
theorem r_9_8_0 (p q : Int) (h : SCase.Valid ⟨64256, 131071, 63744, 64255, [(1, 64448, 64320, false), (0, 0, 0, false)]⟩ p q) : run _ p q h = true := by kernel_rfl
theorem r_9_8_1 (p q : Int) (h : SCase.Valid ⟨64256, 131071, 63744, 64255, [(1, 64448, 64320, true), (2, 32768, 32768, false), (0, 0, 0, false)]⟩ p q) : run _ p q h = true := by kernel_rfl
theorem r_9_9_0 (p q : Int) (h : SCase.Valid ⟨64256, 131071, 64256, 131071, [(1, 64448, 64448, false), (0, 0, 0, false)]⟩ p q) : run _ p q h = true := by kernel_rfl
theorem r_9_9_1 (p q : Int) (h : SCase.Valid ⟨64256, 131071, 64256, 131071, [(1, 64448, 64448, true), (2, 32768, 32768, false), (0, 0, 0, false)]⟩ p q) : run _ p q h = true := by kernel_rfl
theorem r_9_9_2 (p q : Int) (h : SCase.Valid ⟨64256, 131071, 64256, 131071, [(1, 64448, 64448, true), (2, 32768, 32768, true), (0, 0, 0, true)]⟩ p q) : run _ p q h = true := by kernel_rfl
theorem r_9_10_0 (p q : Int) (h : SCase.Valid ⟨64256, 131071, 131072, 262143, [(1, 64448, 64384, false), (0, 0, 0, false)]⟩ p q) : run _ p q h = true := by kernel_rfl
theorem r_9_10_1 (p q : Int) (h : SCase.Valid ⟨64256, 131071, 131072, 262143, [(1, 64448, 64384, true), (2, 32768, 32768, false), (0, 0, 0, false)]⟩ p q) : run _ p q h = true := by kernel_rfl
theorem r_9_11_0 (p q : Int) (h : SCase.Valid ⟨64256, 131071, 262144, 1114111, [(1, 64448, 64448, false), (0, 0, 0, false)]⟩ p q) : run _ p q h = true := by kernel_rfl
theorem r_9_11_1 (p q : Int) (h : SCase.Valid ⟨64256, 131071, 262144, 1114111, [(1, 64448, 64448, true), (2, 32768, 32768, false), (0, 0, 0, false)]⟩ p q) : run _ p q h = true := by kernel_rfl
theorem r_9_12_0 (p q : Int) (h : SCase.Valid ⟨64256, 131071, 1114112, 9223372036854775807, []⟩ p q) : run _ p q h = true := by kernel_rfl
theorem r_10_0_0 (p q : Int) (h : SCase.Valid ⟨131072, 262143, -9223372036854775808, -1, []⟩ p q) : run _ p q h = true := by kernel_rfl
theorem r_10_1_0 (p q : Int) (h : SCase.Valid ⟨131072, 262143, 0, 13311, [(1, 64384, 64448, false), (0, 0, 0, false)]⟩ p q) : run _ p q h = true := by kernel_rfl
theorem r_10_1_1 (p q : Int) (h : SCase.Valid ⟨131072, 262143, 0, 13311, [(1, 64384, 64448, true), (2, 32768, 32768, false), (0, 0, 0, false)]⟩ p q) : run _ p q h = true := by kernel_rfl
theorem r_10_2_0 (p q : Int) (h : SCase.Valid ⟨131072, 262143, 13312, 19903, [(1, 64384, 64384, false), (0, 0, 0, false)]⟩ p q) : run _ p q h = true := by kernel_rfl
theorem r_10_2_1 (p q : Int) (h : SCase.Valid ⟨131072, 262143, 13312, 19903, [(1, 64384, 64384, true), (2, 32768, 32768, false), (0, 0, 0, false)]⟩ p q) : run _ p q h = true := by kernel_rfl
theorem r_10_3_0 (p q : Int) (h : SCase.Valid ⟨131072, 262143, 19904, 19967, [(1, 64384, 64448, false), (0, 0, 0, false)]⟩ p q) : run _ p q h = true := by kernel_rfl
theorem r_10_3_1 (p q : Int) (h : SCase.Valid ⟨131072, 262143, 19904, 19967, [(1, 64384, 64448, true), (2, 32768, 32768, false), (0, 0, 0, false)]⟩ p q) : run _ p q h = true := by kernel_rfl
end Go.Proofs.YtkecgbcfkbafpaaDoor.tableImplied
