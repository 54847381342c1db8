/-
  Where slices.Clone stands in the program.
-/
import Derived.Test.YtlkdjdcnbcegeaaGreatDoorProg
import Derived.Shelf.SlicesE.Clone
import Derived.KernelRfl
namespace Go.Proofs.YtlkdjdcnbcegeaaGreatDoor
open Go.Shelf
def lays30c_ren : Go.Shelf.Ren := ⟨fun | 41 => 43 | n => n, fun | 22 => 24 | 23 => 3 | 4 => 4 | n => n, fun | n => n⟩
theorem lays30c : Go.Proofs.SlLaysE0.n41 Tryz.prog lays30c_ren := {
  mixed := by kernel_rfl
  f41 := ⟨"slices.Clone[[]int,int]", by decide, Tryz.func43.trans (congrArg some (by kernel_rfl))⟩
  t4 := Tryz.underlying4
  a4 := Tryz.isAgg4
  z4 := Tryz.sizeOf4
  v4 := Tryz.zeroValue4
  t22 := Tryz.underlying24
  a22 := Tryz.isAgg24
  z22 := Tryz.sizeOf24
  v22 := Tryz.zeroValue24 }
end Go.Proofs.YtlkdjdcnbcegeaaGreatDoor
