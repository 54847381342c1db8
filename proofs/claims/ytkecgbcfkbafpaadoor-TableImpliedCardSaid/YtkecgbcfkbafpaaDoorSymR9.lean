/-
  TableImplied: runs.
-/
import Derived.Test.YtkecgbcfkbafpaaDoorSymA
namespace Go.Proofs.YtkecgbcfkbafpaaDoor.tableImplied
open Ev (SCase)
theorem r_10_4_0 (p q : Int) (h : SCase.Valid ⟨131072, 262143, 19968, 40959, [(1, 64384, 64320, false), (0, 0, 0, false)]⟩ p q) : run _ p q h = true := by kernel_rfl
theorem r_10_4_1 (p q : Int) (h : SCase.Valid ⟨131072, 262143, 19968, 40959, [(1, 64384, 64320, true), (2, 32768, 32768, false), (0, 0, 0, false)]⟩ p q) : run _ p q h = true := by kernel_rfl
theorem r_10_5_0 (p q : Int) (h : SCase.Valid ⟨131072, 262143, 40960, 55295, [(1, 64384, 64448, false), (0, 0, 0, false)]⟩ p q) : run _ p q h = true := by kernel_rfl
theorem r_10_5_1 (p q : Int) (h : SCase.Valid ⟨131072, 262143, 40960, 55295, [(1, 64384, 64448, true), (2, 32768, 32768, false), (0, 0, 0, false)]⟩ p q) : run _ p q h = true := by kernel_rfl
theorem r_10_6_0 (p q : Int) (h : SCase.Valid ⟨131072, 262143, 55296, 57343, []⟩ p q) : run _ p q h = true := by kernel_rfl
theorem r_10_7_0 (p q : Int) (h : SCase.Valid ⟨131072, 262143, 57344, 63743, [(1, 64384, 64448, false), (0, 0, 0, false)]⟩ p q) : run _ p q h = true := by kernel_rfl
theorem r_10_7_1 (p q : Int) (h : SCase.Valid ⟨131072, 262143, 57344, 63743, [(1, 64384, 64448, true), (2, 32768, 32768, false), (0, 0, 0, false)]⟩ p q) : run _ p q h = true := by kernel_rfl
theorem r_10_8_0 (p q : Int) (h : SCase.Valid ⟨131072, 262143, 63744, 64255, [(1, 64384, 64320, false), (0, 0, 0, false)]⟩ p q) : run _ p q h = true := by kernel_rfl
theorem r_10_8_1 (p q : Int) (h : SCase.Valid ⟨131072, 262143, 63744, 64255, [(1, 64384, 64320, true), (2, 32768, 32768, false), (0, 0, 0, false)]⟩ p q) : run _ p q h = true := by kernel_rfl
theorem r_10_9_0 (p q : Int) (h : SCase.Valid ⟨131072, 262143, 64256, 131071, [(1, 64384, 64448, false), (0, 0, 0, false)]⟩ p q) : run _ p q h = true := by kernel_rfl
theorem r_10_9_1 (p q : Int) (h : SCase.Valid ⟨131072, 262143, 64256, 131071, [(1, 64384, 64448, true), (2, 32768, 32768, false), (0, 0, 0, false)]⟩ p q) : run _ p q h = true := by kernel_rfl
theorem r_10_10_0 (p q : Int) (h : SCase.Valid ⟨131072, 262143, 131072, 262143, [(1, 64384, 64384, false), (0, 0, 0, false)]⟩ p q) : run _ p q h = true := by kernel_rfl
theorem r_10_10_1 (p q : Int) (h : SCase.Valid ⟨131072, 262143, 131072, 262143, [(1, 64384, 64384, true), (2, 32768, 32768, false), (0, 0, 0, false)]⟩ p q) : run _ p q h = true := by kernel_rfl
theorem r_10_10_2 (p q : Int) (h : SCase.Valid ⟨131072, 262143, 131072, 262143, [(1, 64384, 64384, true), (2, 32768, 32768, true), (0, 0, 0, true)]⟩ p q) : run _ p q h = true := by kernel_rfl
theorem r_10_11_0 (p q : Int) (h : SCase.Valid ⟨131072, 262143, 262144, 1114111, [(1, 64384, 64448, false), (0, 0, 0, false)]⟩ p q) : run _ p q h = true := by kernel_rfl
theorem r_10_11_1 (p q : Int) (h : SCase.Valid ⟨131072, 262143, 262144, 1114111, [(1, 64384, 64448, true), (2, 32768, 32768, false), (0, 0, 0, false)]⟩ p q) : run _ p q h = true := by kernel_rfl
theorem r_10_12_0 (p q : Int) (h : SCase.Valid ⟨131072, 262143, 1114112, 9223372036854775807, []⟩ p q) : run _ p q h = true := by kernel_rfl
theorem r_11_0_0 (p q : Int) (h : SCase.Valid ⟨262144, 1114111, -9223372036854775808, -1, []⟩ p q) : run _ p q h = true := by kernel_rfl
theorem r_11_1_0 (p q : Int) (h : SCase.Valid ⟨262144, 1114111, 0, 13311, [(1, 64448, 64448, false), (0, 0, 0, false)]⟩ p q) : run _ p q h = true := by kernel_rfl
theorem r_11_1_1 (p q : Int) (h : SCase.Valid ⟨262144, 1114111, 0, 13311, [(1, 64448, 64448, true), (2, 32768, 32768, false), (0, 0, 0, false)]⟩ p q) : run _ p q h = true := by kernel_rfl
theorem r_11_2_0 (p q : Int) (h : SCase.Valid ⟨262144, 1114111, 13312, 19903, [(1, 64448, 64384, false), (0, 0, 0, false)]⟩ p q) : run _ p q h = true := by kernel_rfl
theorem r_11_2_1 (p q : Int) (h : SCase.Valid ⟨262144, 1114111, 13312, 19903, [(1, 64448, 64384, true), (2, 32768, 32768, false), (0, 0, 0, false)]⟩ p q) : run _ p q h = true := by kernel_rfl
theorem r_11_3_0 (p q : Int) (h : SCase.Valid ⟨262144, 1114111, 19904, 19967, [(1, 64448, 64448, false), (0, 0, 0, false)]⟩ p q) : run _ p q h = true := by kernel_rfl
theorem r_11_3_1 (p q : Int) (h : SCase.Valid ⟨262144, 1114111, 19904, 19967, [(1, 64448, 64448, true), (2, 32768, 32768, false), (0, 0, 0, false)]⟩ p q) : run _ p q h = true := by kernel_rfl
theorem r_11_4_0 (p q : Int) (h : SCase.Valid ⟨262144, 1114111, 19968, 40959, [(1, 64448, 64320, false), (0, 0, 0, false)]⟩ p q) : run _ p q h = true := by kernel_rfl
end Go.Proofs.YtkecgbcfkbafpaaDoor.tableImplied
