/-
  Where slices.SortFunc stands in the program.
-/
import Derived.Test.YthcjcdchmdgnjaaGreatDoorProg
import Derived.Shelf.SlSortCmp.WholeK
import Derived.KernelRfl
namespace Go.Proofs.YthcjcdchmdgnjaaGreatDoor
open Go.Shelf
def lays25_ren : Go.Shelf.Ren := ⟨fun | 6 => 25 | 15 => 38 | 14 => 37 | 28 => 61 | 29 => 62 | 20 => 53 | 21 => 54 | 22 => 55 | 23 => 56 | 24 => 57 | 25 => 58 | 26 => 59 | 27 => 60 | 46 => 83 | 47 => 84 | 48 => 85 | 49 => 86 | 50 => 87 | 57 => 104 | n => n, fun | 22 => 22 | 24 => 36 | 25 => 38 | 3 => 3 | 39 => 87 | 0 => 0 | 53 => 105 | 55 => 107 | 4 => 4 | 46 => 99 | 45 => 98 | 50 => 95 | 5 => 5 | 9 => 9 | 66 => 129 | 70 => 133 | 76 => 147 | 77 => 148 | n => n, fun | n => n⟩
theorem lays25 : Go.Proofs.SlLaysF0.n6 Tryz.prog lays25_ren := {
  mixed := by kernel_rfl
  f6 := ⟨"slices.SortFunc[[]dovetail/api.Entry,dovetail/api.Entry]", by decide, Tryz.func25.trans (congrArg some (by kernel_rfl))⟩
  f14 := ⟨"slices.pdqsortCmpFunc[dovetail/api.Entry]", by decide, Tryz.func37.trans (congrArg some (by kernel_rfl))⟩
  f15 := Tryz.func38.trans (congrArg some (by kernel_rfl))
  f20 := ⟨"slices.insertionSortCmpFunc[dovetail/api.Entry]", by decide, Tryz.func53.trans (congrArg some (by kernel_rfl))⟩
  f21 := ⟨"slices.heapSortCmpFunc[dovetail/api.Entry]", by decide, Tryz.func54.trans (congrArg some (by kernel_rfl))⟩
  f22 := ⟨"slices.breakPatternsCmpFunc[dovetail/api.Entry]", by decide, Tryz.func55.trans (congrArg some (by kernel_rfl))⟩
  f23 := ⟨"slices.choosePivotCmpFunc[dovetail/api.Entry]", by decide, Tryz.func56.trans (congrArg some (by kernel_rfl))⟩
  f24 := ⟨"slices.reverseRangeCmpFunc[dovetail/api.Entry]", by decide, Tryz.func57.trans (congrArg some (by kernel_rfl))⟩
  f25 := ⟨"slices.partialInsertionSortCmpFunc[dovetail/api.Entry]", by decide, Tryz.func58.trans (congrArg some (by kernel_rfl))⟩
  f26 := ⟨"slices.partitionEqualCmpFunc[dovetail/api.Entry]", by decide, Tryz.func59.trans (congrArg some (by kernel_rfl))⟩
  f27 := ⟨"slices.partitionCmpFunc[dovetail/api.Entry]", by decide, Tryz.func60.trans (congrArg some (by kernel_rfl))⟩
  f28 := Tryz.func61.trans (congrArg some (by kernel_rfl))
  f29 := Tryz.func62.trans (congrArg some (by kernel_rfl))
  f46 := ⟨"slices.siftDownCmpFunc[dovetail/api.Entry]", by decide, Tryz.func83.trans (congrArg some (by kernel_rfl))⟩
  f47 := Tryz.func84.trans (congrArg some (by kernel_rfl))
  f48 := Tryz.func85.trans (congrArg some (by kernel_rfl))
  f49 := ⟨"slices.medianAdjacentCmpFunc[dovetail/api.Entry]", by decide, Tryz.func86.trans (congrArg some (by kernel_rfl))⟩
  f50 := ⟨"slices.medianCmpFunc[dovetail/api.Entry]", by decide, Tryz.func87.trans (congrArg some (by kernel_rfl))⟩
  f57 := ⟨"slices.order2CmpFunc[dovetail/api.Entry]", by decide, Tryz.func104.trans (congrArg some (by kernel_rfl))⟩
  t0 := Tryz.underlying0
  a0 := Tryz.isAgg0
  z0 := Tryz.sizeOf0
  v0 := Tryz.zeroValue0
  t3 := Tryz.underlying3
  a3 := Tryz.isAgg3
  z3 := Tryz.sizeOf3
  v3 := Tryz.zeroValue3
  t4 := Tryz.underlying4
  a4 := Tryz.isAgg4
  z4 := Tryz.sizeOf4
  v4 := Tryz.zeroValue4
  t5 := Tryz.underlying5
  a5 := Tryz.isAgg5
  z5 := Tryz.sizeOf5
  v5 := Tryz.zeroValue5
  t9 := Tryz.underlying9
  a9 := Tryz.isAgg9
  z9 := Tryz.sizeOf9
  v9 := Tryz.zeroValue9
  t22 := Tryz.underlying22
  a22 := Tryz.isAgg22
  z22 := Tryz.sizeOf22
  v22 := Tryz.zeroValue22
  t25 := Tryz.underlying38
  a25 := Tryz.isAgg38
  z25 := Tryz.sizeOf38
  v25 := Tryz.zeroValue38
  t39 := Tryz.underlying87
  a39 := Tryz.isAgg87
  z39 := Tryz.sizeOf87
  v39 := Tryz.zeroValue87
  t45 := Tryz.underlying98
  a45 := Tryz.isAgg98
  z45 := Tryz.sizeOf98
  v45 := Tryz.zeroValue98
  t46 := Tryz.underlying99
  a46 := Tryz.isAgg99
  z46 := Tryz.sizeOf99
  v46 := Tryz.zeroValue99
  t50 := Tryz.underlying95
  a50 := Tryz.isAgg95
  z50 := Tryz.sizeOf95
  v50 := Tryz.zeroValue95
  t53 := Tryz.underlying105
  a53 := Tryz.isAgg105
  z53 := Tryz.sizeOf105
  v53 := Tryz.zeroValue105
  t55 := Tryz.underlying107
  a55 := Tryz.isAgg107
  z55 := Tryz.sizeOf107
  v55 := Tryz.zeroValue107
  t66 := Tryz.underlying129
  a66 := Tryz.isAgg129
  z66 := Tryz.sizeOf129
  v66 := Tryz.zeroValue129
  t70 := Tryz.underlying133
  a70 := Tryz.isAgg133
  z70 := Tryz.sizeOf133
  v70 := Tryz.zeroValue133
  t76 := Tryz.underlying147
  a76 := Tryz.isAgg147
  z76 := Tryz.sizeOf147
  v76 := Tryz.zeroValue147
  t77 := Tryz.underlying148
  a77 := Tryz.isAgg148
  z77 := Tryz.sizeOf148
  v77 := Tryz.zeroValue148 }
end Go.Proofs.YthcjcdchmdgnjaaGreatDoor
