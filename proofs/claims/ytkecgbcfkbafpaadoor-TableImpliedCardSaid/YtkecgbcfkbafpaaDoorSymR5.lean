/-
  TableImplied: runs.
-/
import Derived.Test.YtkecgbcfkbafpaaDoorSymA
namespace Go.Proofs.YtkecgbcfkbafpaaDoor.tableImplied
open Ev (SCase)
theorem r_5_8_1 (p q : Int) (h : SCase.Valid ⟨40960, 55295, 63744, 64255, [(1, 64448, 64320, true), (2, 32768, 32768, false), (0, 0, 0, false)]⟩ p q) : run _ p q h = true := by kernel_rfl
theorem r_5_9_0 (p q : Int) (h : SCase.Valid ⟨40960, 55295, 64256, 131071, [(1, 64448, 64448, false), (0, 0, 0, false)]⟩ p q) : run _ p q h = true := by kernel_rfl
theorem r_5_9_1 (p q : Int) (h : SCase.Valid ⟨40960, 55295, 64256, 131071, [(1, 64448, 64448, true), (2, 32768, 32768, false), (0, 0, 0, false)]⟩ p q) : run _ p q h = true := by kernel_rfl
theorem r_5_10_0 (p q : Int) (h : SCase.Valid ⟨40960, 55295, 131072, 262143, [(1, 64448, 64384, false), (0, 0, 0, false)]⟩ p q) : run _ p q h = true := by kernel_rfl
theorem r_5_10_1 (p q : Int) (h : SCase.Valid ⟨40960, 55295, 131072, 262143, [(1, 64448, 64384, true), (2, 32768, 32768, false), (0, 0, 0, false)]⟩ p q) : run _ p q h = true := by kernel_rfl
theorem r_5_11_0 (p q : Int) (h : SCase.Valid ⟨40960, 55295, 262144, 1114111, [(1, 64448, 64448, false), (0, 0, 0, false)]⟩ p q) : run _ p q h = true := by kernel_rfl
theorem r_5_11_1 (p q : Int) (h : SCase.Valid ⟨40960, 55295, 262144, 1114111, [(1, 64448, 64448, true), (2, 32768, 32768, false), (0, 0, 0, false)]⟩ p q) : run _ p q h = true := by kernel_rfl
theorem r_5_12_0 (p q : Int) (h : SCase.Valid ⟨40960, 55295, 1114112, 9223372036854775807, []⟩ p q) : run _ p q h = true := by kernel_rfl
theorem r_6_0_0 (p q : Int) (h : SCase.Valid ⟨55296, 57343, -9223372036854775808, -1, []⟩ p q) : run _ p q h = true := by kernel_rfl
theorem r_6_1_0 (p q : Int) (h : SCase.Valid ⟨55296, 57343, 0, 13311, []⟩ p q) : run _ p q h = true := by kernel_rfl
theorem r_6_2_0 (p q : Int) (h : SCase.Valid ⟨55296, 57343, 13312, 19903, []⟩ p q) : run _ p q h = true := by kernel_rfl
theorem r_6_3_0 (p q : Int) (h : SCase.Valid ⟨55296, 57343, 19904, 19967, []⟩ p q) : run _ p q h = true := by kernel_rfl
theorem r_6_4_0 (p q : Int) (h : SCase.Valid ⟨55296, 57343, 19968, 40959, []⟩ p q) : run _ p q h = true := by kernel_rfl
theorem r_6_5_0 (p q : Int) (h : SCase.Valid ⟨55296, 57343, 40960, 55295, []⟩ p q) : run _ p q h = true := by kernel_rfl
theorem r_6_6_0 (p q : Int) (h : SCase.Valid ⟨55296, 57343, 55296, 57343, []⟩ p q) : run _ p q h = true := by kernel_rfl
theorem r_6_7_0 (p q : Int) (h : SCase.Valid ⟨55296, 57343, 57344, 63743, []⟩ p q) : run _ p q h = true := by kernel_rfl
theorem r_6_8_0 (p q : Int) (h : SCase.Valid ⟨55296, 57343, 63744, 64255, []⟩ p q) : run _ p q h = true := by kernel_rfl
theorem r_6_9_0 (p q : Int) (h : SCase.Valid ⟨55296, 57343, 64256, 131071, []⟩ p q) : run _ p q h = true := by kernel_rfl
theorem r_6_10_0 (p q : Int) (h : SCase.Valid ⟨55296, 57343, 131072, 262143, []⟩ p q) : run _ p q h = true := by kernel_rfl
theorem r_6_11_0 (p q : Int) (h : SCase.Valid ⟨55296, 57343, 262144, 1114111, []⟩ p q) : run _ p q h = true := by kernel_rfl
theorem r_6_12_0 (p q : Int) (h : SCase.Valid ⟨55296, 57343, 1114112, 9223372036854775807, []⟩ p q) : run _ p q h = true := by kernel_rfl
theorem r_7_0_0 (p q : Int) (h : SCase.Valid ⟨57344, 63743, -9223372036854775808, -1, []⟩ p q) : run _ p q h = true := by kernel_rfl
theorem r_7_1_0 (p q : Int) (h : SCase.Valid ⟨57344, 63743, 0, 13311, [(1, 64448, 64448, false), (0, 0, 0, false)]⟩ p q) : run _ p q h = true := by kernel_rfl
theorem r_7_1_1 (p q : Int) (h : SCase.Valid ⟨57344, 63743, 0, 13311, [(1, 64448, 64448, true), (2, 32768, 32768, false), (0, 0, 0, false)]⟩ p q) : run _ p q h = true := by kernel_rfl
theorem r_7_2_0 (p q : Int) (h : SCase.Valid ⟨57344, 63743, 13312, 19903, [(1, 64448, 64384, false), (0, 0, 0, false)]⟩ p q) : run _ p q h = true := by kernel_rfl
end Go.Proofs.YtkecgbcfkbafpaaDoor.tableImplied
