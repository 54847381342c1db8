/-
  Where the text of slices.Reverse stands in the program: the numbers of what it names.
-/
import Derived.Test.YtcjllhdbepchnaaGreatDoorProg
import Derived.Shelf.SlicesE.Reverse
import Derived.KernelRfl
namespace Go.Proofs.YtcjllhdbepchnaaGreatDoor
open Go.Shelf
def lays35_ren : Go.Shelf.Ren := ⟨fun | 35 => 183 | n => n, fun | 0 => 0 | 3 => 3 | 4 => 4 | 22 => 153 | 23 => 5 | n => n, fun n => n⟩
theorem lays35 : Go.Proofs.SlLaysE.n35 Tryz.prog lays35_ren := {
  mixed := by kernel_rfl
  f35 := ⟨"slices.Reverse[[]byte,byte]", by kernel_rfl, Tryz.func183.trans (congrArg some (by kernel_rfl))⟩
  t0 := Tryz.underlying0
  a0 := Tryz.isAgg0
  z0 := Tryz.sizeOf0
  v0 := Tryz.zeroValue0
  t3 := Tryz.underlying3
  a3 := Tryz.isAgg3
  z3 := Tryz.sizeOf3
  v3 := Tryz.zeroValue3
  t4 := Tryz.underlying4
  a4 := Tryz.isAgg4
  z4 := Tryz.sizeOf4
  v4 := Tryz.zeroValue4
  t22 := Tryz.underlying153
  a22 := Tryz.isAgg153
  z22 := Tryz.sizeOf153
  v22 := Tryz.zeroValue153
  a23 := Tryz.isAgg5
  z23 := Tryz.sizeOf5 }
end Go.Proofs.YtcjllhdbepchnaaGreatDoor
