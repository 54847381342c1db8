/-
  TableImplied: runs.
-/
import Derived.Test.YtkecgbcfkbafpaaDoorSymA
namespace Go.Proofs.YtkecgbcfkbafpaaDoor.tableImplied
open Ev (SCase)
theorem r_2_7_0 (p q : Int) (h : SCase.Valid ⟨13312, 19903, 57344, 63743, [(1, 64384, 64448, false), (0, 0, 0, false)]⟩ p q) : run _ p q h = true := by kernel_rfl
theorem r_2_7_1 (p q : Int) (h : SCase.Valid ⟨13312, 19903, 57344, 63743, [(1, 64384, 64448, true), (2, 32768, 32768, false), (0, 0, 0, false)]⟩ p q) : run _ p q h = true := by kernel_rfl
theorem r_2_8_0 (p q : Int) (h : SCase.Valid ⟨13312, 19903, 63744, 64255, [(1, 64384, 64320, false), (0, 0, 0, false)]⟩ p q) : run _ p q h = true := by kernel_rfl
theorem r_2_8_1 (p q : Int) (h : SCase.Valid ⟨13312, 19903, 63744, 64255, [(1, 64384, 64320, true), (2, 32768, 32768, false), (0, 0, 0, false)]⟩ p q) : run _ p q h = true := by kernel_rfl
theorem r_2_9_0 (p q : Int) (h : SCase.Valid ⟨13312, 19903, 64256, 131071, [(1, 64384, 64448, false), (0, 0, 0, false)]⟩ p q) : run _ p q h = true := by kernel_rfl
theorem r_2_9_1 (p q : Int) (h : SCase.Valid ⟨13312, 19903, 64256, 131071, [(1, 64384, 64448, true), (2, 32768, 32768, false), (0, 0, 0, false)]⟩ p q) : run _ p q h = true := by kernel_rfl
theorem r_2_10_0 (p q : Int) (h : SCase.Valid ⟨13312, 19903, 131072, 262143, [(1, 64384, 64384, false), (0, 0, 0, false)]⟩ p q) : run _ p q h = true := by kernel_rfl
theorem r_2_10_1 (p q : Int) (h : SCase.Valid ⟨13312, 19903, 131072, 262143, [(1, 64384, 64384, true), (2, 32768, 32768, false), (0, 0, 0, false)]⟩ p q) : run _ p q h = true := by kernel_rfl
theorem r_2_11_0 (p q : Int) (h : SCase.Valid ⟨13312, 19903, 262144, 1114111, [(1, 64384, 64448, false), (0, 0, 0, false)]⟩ p q) : run _ p q h = true := by kernel_rfl
theorem r_2_11_1 (p q : Int) (h : SCase.Valid ⟨13312, 19903, 262144, 1114111, [(1, 64384, 64448, true), (2, 32768, 32768, false), (0, 0, 0, false)]⟩ p q) : run _ p q h = true := by kernel_rfl
theorem r_2_12_0 (p q : Int) (h : SCase.Valid ⟨13312, 19903, 1114112, 9223372036854775807, []⟩ p q) : run _ p q h = true := by kernel_rfl
theorem r_3_0_0 (p q : Int) (h : SCase.Valid ⟨19904, 19967, -9223372036854775808, -1, []⟩ p q) : run _ p q h = true := by kernel_rfl
theorem r_3_1_0 (p q : Int) (h : SCase.Valid ⟨19904, 19967, 0, 13311, [(1, 64448, 64448, false), (0, 0, 0, false)]⟩ p q) : run _ p q h = true := by kernel_rfl
theorem r_3_1_1 (p q : Int) (h : SCase.Valid ⟨19904, 19967, 0, 13311, [(1, 64448, 64448, true), (2, 32768, 32768, false), (0, 0, 0, false)]⟩ p q) : run _ p q h = true := by kernel_rfl
theorem r_3_2_0 (p q : Int) (h : SCase.Valid ⟨19904, 19967, 13312, 19903, [(1, 64448, 64384, false), (0, 0, 0, false)]⟩ p q) : run _ p q h = true := by kernel_rfl
theorem r_3_2_1 (p q : Int) (h : SCase.Valid ⟨19904, 19967, 13312, 19903, [(1, 64448, 64384, true), (2, 32768, 32768, false), (0, 0, 0, false)]⟩ p q) : run _ p q h = true := by kernel_rfl
theorem r_3_3_0 (p q : Int) (h : SCase.Valid ⟨19904, 19967, 19904, 19967, [(1, 64448, 64448, false), (0, 0, 0, false)]⟩ p q) : run _ p q h = true := by kernel_rfl
theorem r_3_3_1 (p q : Int) (h : SCase.Valid ⟨19904, 19967, 19904, 19967, [(1, 64448, 64448, true), (2, 32768, 32768, false), (0, 0, 0, false)]⟩ p q) : run _ p q h = true := by kernel_rfl
theorem r_3_3_2 (p q : Int) (h : SCase.Valid ⟨19904, 19967, 19904, 19967, [(1, 64448, 64448, true), (2, 32768, 32768, true), (0, 0, 0, true)]⟩ p q) : run _ p q h = true := by kernel_rfl
theorem r_3_4_0 (p q : Int) (h : SCase.Valid ⟨19904, 19967, 19968, 40959, [(1, 64448, 64320, false), (0, 0, 0, false)]⟩ p q) : run _ p q h = true := by kernel_rfl
theorem r_3_4_1 (p q : Int) (h : SCase.Valid ⟨19904, 19967, 19968, 40959, [(1, 64448, 64320, true), (2, 32768, 32768, false), (0, 0, 0, false)]⟩ p q) : run _ p q h = true := by kernel_rfl
theorem r_3_5_0 (p q : Int) (h : SCase.Valid ⟨19904, 19967, 40960, 55295, [(1, 64448, 64448, false), (0, 0, 0, false)]⟩ p q) : run _ p q h = true := by kernel_rfl
theorem r_3_5_1 (p q : Int) (h : SCase.Valid ⟨19904, 19967, 40960, 55295, [(1, 64448, 64448, true), (2, 32768, 32768, false), (0, 0, 0, false)]⟩ p q) : run _ p q h = true := by kernel_rfl
theorem r_3_6_0 (p q : Int) (h : SCase.Valid ⟨19904, 19967, 55296, 57343, []⟩ p q) : run _ p q h = true := by kernel_rfl
theorem r_3_7_0 (p q : Int) (h : SCase.Valid ⟨19904, 19967, 57344, 63743, [(1, 64448, 64448, false), (0, 0, 0, false)]⟩ p q) : run _ p q h = true := by kernel_rfl
end Go.Proofs.YtkecgbcfkbafpaaDoor.tableImplied
