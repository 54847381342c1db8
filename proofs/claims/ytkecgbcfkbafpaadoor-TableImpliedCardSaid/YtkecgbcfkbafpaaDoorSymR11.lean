/-
  TableImplied: runs.
-/
import Derived.Test.YtkecgbcfkbafpaaDoorSymA
namespace Go.Proofs.YtkecgbcfkbafpaaDoor.tableImplied
open Ev (SCase)
theorem r_12_9_0 (p q : Int) (h : SCase.Valid ⟨1114112, 9223372036854775807, 64256, 131071, []⟩ p q) : run _ p q h = true := by kernel_rfl
theorem r_12_10_0 (p q : Int) (h : SCase.Valid ⟨1114112, 9223372036854775807, 131072, 262143, []⟩ p q) : run _ p q h = true := by kernel_rfl
theorem r_12_11_0 (p q : Int) (h : SCase.Valid ⟨1114112, 9223372036854775807, 262144, 1114111, []⟩ p q) : run _ p q h = true := by kernel_rfl
theorem r_12_12_0 (p q : Int) (h : SCase.Valid ⟨1114112, 9223372036854775807, 1114112, 9223372036854775807, []⟩ p q) : run _ p q h = true := by kernel_rfl
end Go.Proofs.YtkecgbcfkbafpaaDoor.tableImplied
