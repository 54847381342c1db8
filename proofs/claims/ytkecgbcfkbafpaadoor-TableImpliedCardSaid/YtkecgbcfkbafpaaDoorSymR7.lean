/-
  TableImplied: runs.
-/
import Derived.Test.YtkecgbcfkbafpaaDoorSymA
namespace Go.Proofs.YtkecgbcfkbafpaaDoor.tableImplied
open Ev (SCase)
theorem r_8_3_0 (p q : Int) (h : SCase.Valid ⟨63744, 64255, 19904, 19967, [(1, 64320, 64448, false), (0, 0, 0, false)]⟩ p q) : run _ p q h = true := by kernel_rfl
theorem r_8_3_1 (p q : Int) (h : SCase.Valid ⟨63744, 64255, 19904, 19967, [(1, 64320, 64448, true), (2, 32768, 32768, false), (0, 0, 0, false)]⟩ p q) : run _ p q h = true := by kernel_rfl
theorem r_8_4_0 (p q : Int) (h : SCase.Valid ⟨63744, 64255, 19968, 40959, [(1, 64320, 64320, false), (0, 0, 0, false)]⟩ p q) : run _ p q h = true := by kernel_rfl
theorem r_8_4_1 (p q : Int) (h : SCase.Valid ⟨63744, 64255, 19968, 40959, [(1, 64320, 64320, true), (2, 32768, 32768, false), (0, 0, 0, false)]⟩ p q) : run _ p q h = true := by kernel_rfl
theorem r_8_5_0 (p q : Int) (h : SCase.Valid ⟨63744, 64255, 40960, 55295, [(1, 64320, 64448, false), (0, 0, 0, false)]⟩ p q) : run _ p q h = true := by kernel_rfl
theorem r_8_5_1 (p q : Int) (h : SCase.Valid ⟨63744, 64255, 40960, 55295, [(1, 64320, 64448, true), (2, 32768, 32768, false), (0, 0, 0, false)]⟩ p q) : run _ p q h = true := by kernel_rfl
theorem r_8_6_0 (p q : Int) (h : SCase.Valid ⟨63744, 64255, 55296, 57343, []⟩ p q) : run _ p q h = true := by kernel_rfl
theorem r_8_7_0 (p q : Int) (h : SCase.Valid ⟨63744, 64255, 57344, 63743, [(1, 64320, 64448, false), (0, 0, 0, false)]⟩ p q) : run _ p q h = true := by kernel_rfl
theorem r_8_7_1 (p q : Int) (h : SCase.Valid ⟨63744, 64255, 57344, 63743, [(1, 64320, 64448, true), (2, 32768, 32768, false), (0, 0, 0, false)]⟩ p q) : run _ p q h = true := by kernel_rfl
theorem r_8_8_0 (p q : Int) (h : SCase.Valid ⟨63744, 64255, 63744, 64255, [(1, 64320, 64320, false), (0, 0, 0, false)]⟩ p q) : run _ p q h = true := by kernel_rfl
theorem r_8_8_1 (p q : Int) (h : SCase.Valid ⟨63744, 64255, 63744, 64255, [(1, 64320, 64320, true), (2, 32768, 32768, false), (0, 0, 0, false)]⟩ p q) : run _ p q h = true := by kernel_rfl
theorem r_8_8_2 (p q : Int) (h : SCase.Valid ⟨63744, 64255, 63744, 64255, [(1, 64320, 64320, true), (2, 32768, 32768, true), (0, 0, 0, true)]⟩ p q) : run _ p q h = true := by kernel_rfl
theorem r_8_9_0 (p q : Int) (h : SCase.Valid ⟨63744, 64255, 64256, 131071, [(1, 64320, 64448, false), (0, 0, 0, false)]⟩ p q) : run _ p q h = true := by kernel_rfl
theorem r_8_9_1 (p q : Int) (h : SCase.Valid ⟨63744, 64255, 64256, 131071, [(1, 64320, 64448, true), (2, 32768, 32768, false), (0, 0, 0, false)]⟩ p q) : run _ p q h = true := by kernel_rfl
theorem r_8_10_0 (p q : Int) (h : SCase.Valid ⟨63744, 64255, 131072, 262143, [(1, 64320, 64384, false), (0, 0, 0, false)]⟩ p q) : run _ p q h = true := by kernel_rfl
theorem r_8_10_1 (p q : Int) (h : SCase.Valid ⟨63744, 64255, 131072, 262143, [(1, 64320, 64384, true), (2, 32768, 32768, false), (0, 0, 0, false)]⟩ p q) : run _ p q h = true := by kernel_rfl
theorem r_8_11_0 (p q : Int) (h : SCase.Valid ⟨63744, 64255, 262144, 1114111, [(1, 64320, 64448, false), (0, 0, 0, false)]⟩ p q) : run _ p q h = true := by kernel_rfl
theorem r_8_11_1 (p q : Int) (h : SCase.Valid ⟨63744, 64255, 262144, 1114111, [(1, 64320, 64448, true), (2, 32768, 32768, false), (0, 0, 0, false)]⟩ p q) : run _ p q h = true := by kernel_rfl
theorem r_8_12_0 (p q : Int) (h : SCase.Valid ⟨63744, 64255, 1114112, 9223372036854775807, []⟩ p q) : run _ p q h = true := by kernel_rfl
theorem r_9_0_0 (p q : Int) (h : SCase.Valid ⟨64256, 131071, -9223372036854775808, -1, []⟩ p q) : run _ p q h = true := by kernel_rfl
theorem r_9_1_0 (p q : Int) (h : SCase.Valid ⟨64256, 131071, 0, 13311, [(1, 64448, 64448, false), (0, 0, 0, false)]⟩ p q) : run _ p q h = true := by kernel_rfl
theorem r_9_1_1 (p q : Int) (h : SCase.Valid ⟨64256, 131071, 0, 13311, [(1, 64448, 64448, true), (2, 32768, 32768, false), (0, 0, 0, false)]⟩ p q) : run _ p q h = true := by kernel_rfl
theorem r_9_2_0 (p q : Int) (h : SCase.Valid ⟨64256, 131071, 13312, 19903, [(1, 64448, 64384, false), (0, 0, 0, false)]⟩ p q) : run _ p q h = true := by kernel_rfl
theorem r_9_2_1 (p q : Int) (h : SCase.Valid ⟨64256, 131071, 13312, 19903, [(1, 64448, 64384, true), (2, 32768, 32768, false), (0, 0, 0, false)]⟩ p q) : run _ p q h = true := by kernel_rfl
theorem r_9_3_0 (p q : Int) (h : SCase.Valid ⟨64256, 131071, 19904, 19967, [(1, 64448, 64448, false), (0, 0, 0, false)]⟩ p q) : run _ p q h = true := by kernel_rfl
end Go.Proofs.YtkecgbcfkbafpaaDoor.tableImplied
