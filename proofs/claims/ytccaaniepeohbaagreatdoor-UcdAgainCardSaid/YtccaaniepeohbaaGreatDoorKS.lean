/-
  Where slices.Clone stands in the program, of numbers.
-/
import Derived.Test.YtccaaniepeohbaaGreatDoorProg
import Derived.Shelf.SlicesE.Clone
import Derived.KernelRfl
namespace Go.Proofs.YtccaaniepeohbaaGreatDoor
open Go.Shelf
def lays30c_ren : Go.Shelf.Ren := ⟨fun | 41 => 30 | n => n, fun | 22 => 34 | 23 => 3 | 4 => 4 | n => n, fun | n => n⟩
theorem lays30c : Go.Proofs.SlLaysE0.n41 Tryz.prog lays30c_ren := {
  mixed := by kernel_rfl
  f41 := ⟨"slices.Clone[[]int,int]", by decide, Tryz.func30.trans (congrArg some (by kernel_rfl))⟩
  t4 := Tryz.underlying4
  a4 := Tryz.isAgg4
  z4 := Tryz.sizeOf4
  v4 := Tryz.zeroValue4
  t22 := Tryz.underlying34
  a22 := Tryz.isAgg34
  z22 := Tryz.sizeOf34
  v22 := Tryz.zeroValue34 }
end Go.Proofs.YtccaaniepeohbaaGreatDoor
