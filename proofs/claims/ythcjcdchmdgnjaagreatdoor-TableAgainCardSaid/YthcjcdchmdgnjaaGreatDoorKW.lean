/-
  Where slices.Clone stands in the program, of numbers and of elements.
-/
import Derived.Test.YthcjcdchmdgnjaaGreatDoorProg
import Derived.Shelf.SlicesE.Clone
import Derived.KernelRfl
namespace Go.Proofs.YthcjcdchmdgnjaaGreatDoor
open Go.Shelf
def lays23c_ren : Go.Shelf.Ren := ⟨fun | 41 => 23 | n => n, fun | 22 => 33 | 23 => 3 | 4 => 4 | n => n, fun | n => n⟩
theorem lays23c : Go.Proofs.SlLaysE0.n41 Tryz.prog lays23c_ren := {
  mixed := by kernel_rfl
  f41 := ⟨"slices.Clone[[]int,int]", by decide, Tryz.func23.trans (congrArg some (by kernel_rfl))⟩
  t4 := Tryz.underlying4
  a4 := Tryz.isAgg4
  z4 := Tryz.sizeOf4
  v4 := Tryz.zeroValue4
  t22 := Tryz.underlying33
  a22 := Tryz.isAgg33
  z22 := Tryz.sizeOf33
  v22 := Tryz.zeroValue33 }
def lays24c_ren : Go.Shelf.Ren := ⟨fun | 41 => 24 | n => n, fun | 22 => 34 | 23 => 43 | 4 => 4 | n => n, fun | n => n⟩
theorem lays24c : Go.Proofs.SlLaysE0.n41 Tryz.prog lays24c_ren := {
  mixed := by kernel_rfl
  f41 := ⟨"slices.Clone[[]dovetail/api.Element,dovetail/api.Element]", by decide, Tryz.func24.trans (congrArg some (by kernel_rfl))⟩
  t4 := Tryz.underlying4
  a4 := Tryz.isAgg4
  z4 := Tryz.sizeOf4
  v4 := Tryz.zeroValue4
  t22 := Tryz.underlying34
  a22 := Tryz.isAgg34
  z22 := Tryz.sizeOf34
  v22 := Tryz.zeroValue34 }
end Go.Proofs.YthcjcdchmdgnjaaGreatDoor
