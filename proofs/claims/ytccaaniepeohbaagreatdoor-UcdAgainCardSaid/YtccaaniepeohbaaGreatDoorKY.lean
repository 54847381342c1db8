/-
  Where slices.SortFunc stands in the program.
-/
import Derived.Test.YtccaaniepeohbaaGreatDoorProg
import Derived.Shelf.SlSortCmp.WholeK
import Derived.KernelRfl
namespace Go.Proofs.YtccaaniepeohbaaGreatDoor
open Go.Shelf
def lays31_ren : Go.Shelf.Ren := ⟨fun | 6 => 31 | 15 => 48 | 14 => 47 | 28 => 69 | 29 => 70 | 20 => 61 | 21 => 62 | 22 => 63 | 23 => 64 | 24 => 65 | 25 => 66 | 26 => 67 | 27 => 68 | 46 => 90 | 47 => 91 | 48 => 92 | 49 => 93 | 50 => 94 | 57 => 109 | n => n, fun | 22 => 22 | 24 => 36 | 25 => 60 | 3 => 3 | 39 => 78 | 0 => 0 | 53 => 96 | 55 => 98 | 4 => 4 | 46 => 90 | 45 => 89 | 50 => 75 | 5 => 5 | 9 => 9 | 66 => 117 | 70 => 121 | 76 => 135 | 77 => 136 | n => n, fun | n => n⟩
theorem lays31 : Go.Proofs.SlLaysF0.n6 Tryz.prog lays31_ren := {
  mixed := by kernel_rfl
  f6 := ⟨"slices.SortFunc[[]dovetail/api.Mark,dovetail/api.Mark]", by decide, Tryz.func31.trans (congrArg some (by kernel_rfl))⟩
  f14 := ⟨"slices.pdqsortCmpFunc[dovetail/api.Mark]", by decide, Tryz.func47.trans (congrArg some (by kernel_rfl))⟩
  f15 := Tryz.func48.trans (congrArg some (by kernel_rfl))
  f20 := ⟨"slices.insertionSortCmpFunc[dovetail/api.Mark]", by decide, Tryz.func61.trans (congrArg some (by kernel_rfl))⟩
  f21 := ⟨"slices.heapSortCmpFunc[dovetail/api.Mark]", by decide, Tryz.func62.trans (congrArg some (by kernel_rfl))⟩
  f22 := ⟨"slices.breakPatternsCmpFunc[dovetail/api.Mark]", by decide, Tryz.func63.trans (congrArg some (by kernel_rfl))⟩
  f23 := ⟨"slices.choosePivotCmpFunc[dovetail/api.Mark]", by decide, Tryz.func64.trans (congrArg some (by kernel_rfl))⟩
  f24 := ⟨"slices.reverseRangeCmpFunc[dovetail/api.Mark]", by decide, Tryz.func65.trans (congrArg some (by kernel_rfl))⟩
  f25 := ⟨"slices.partialInsertionSortCmpFunc[dovetail/api.Mark]", by decide, Tryz.func66.trans (congrArg some (by kernel_rfl))⟩
  f26 := ⟨"slices.partitionEqualCmpFunc[dovetail/api.Mark]", by decide, Tryz.func67.trans (congrArg some (by kernel_rfl))⟩
  f27 := ⟨"slices.partitionCmpFunc[dovetail/api.Mark]", by decide, Tryz.func68.trans (congrArg some (by kernel_rfl))⟩
  f28 := Tryz.func69.trans (congrArg some (by kernel_rfl))
  f29 := Tryz.func70.trans (congrArg some (by kernel_rfl))
  f46 := ⟨"slices.siftDownCmpFunc[dovetail/api.Mark]", by decide, Tryz.func90.trans (congrArg some (by kernel_rfl))⟩
  f47 := Tryz.func91.trans (congrArg some (by kernel_rfl))
  f48 := Tryz.func92.trans (congrArg some (by kernel_rfl))
  f49 := ⟨"slices.medianAdjacentCmpFunc[dovetail/api.Mark]", by decide, Tryz.func93.trans (congrArg some (by kernel_rfl))⟩
  f50 := ⟨"slices.medianCmpFunc[dovetail/api.Mark]", by decide, Tryz.func94.trans (congrArg some (by kernel_rfl))⟩
  f57 := ⟨"slices.order2CmpFunc[dovetail/api.Mark]", by decide, Tryz.func109.trans (congrArg some (by kernel_rfl))⟩
  t0 := Tryz.underlying0
  a0 := Tryz.isAgg0
  z0 := Tryz.sizeOf0
  v0 := Tryz.zeroValue0
  t3 := Tryz.underlying3
  a3 := Tryz.isAgg3
  z3 := Tryz.sizeOf3
  v3 := Tryz.zeroValue3
  t4 := Tryz.underlying4
  a4 := Tryz.isAgg4
  z4 := Tryz.sizeOf4
  v4 := Tryz.zeroValue4
  t5 := Tryz.underlying5
  a5 := Tryz.isAgg5
  z5 := Tryz.sizeOf5
  v5 := Tryz.zeroValue5
  t9 := Tryz.underlying9
  a9 := Tryz.isAgg9
  z9 := Tryz.sizeOf9
  v9 := Tryz.zeroValue9
  t22 := Tryz.underlying22
  a22 := Tryz.isAgg22
  z22 := Tryz.sizeOf22
  v22 := Tryz.zeroValue22
  t25 := Tryz.underlying60
  a25 := Tryz.isAgg60
  z25 := Tryz.sizeOf60
  v25 := Tryz.zeroValue60
  t39 := Tryz.underlying78
  a39 := Tryz.isAgg78
  z39 := Tryz.sizeOf78
  v39 := Tryz.zeroValue78
  t45 := Tryz.underlying89
  a45 := Tryz.isAgg89
  z45 := Tryz.sizeOf89
  v45 := Tryz.zeroValue89
  t46 := Tryz.underlying90
  a46 := Tryz.isAgg90
  z46 := Tryz.sizeOf90
  v46 := Tryz.zeroValue90
  t50 := Tryz.underlying75
  a50 := Tryz.isAgg75
  z50 := Tryz.sizeOf75
  v50 := Tryz.zeroValue75
  t53 := Tryz.underlying96
  a53 := Tryz.isAgg96
  z53 := Tryz.sizeOf96
  v53 := Tryz.zeroValue96
  t55 := Tryz.underlying98
  a55 := Tryz.isAgg98
  z55 := Tryz.sizeOf98
  v55 := Tryz.zeroValue98
  t66 := Tryz.underlying117
  a66 := Tryz.isAgg117
  z66 := Tryz.sizeOf117
  v66 := Tryz.zeroValue117
  t70 := Tryz.underlying121
  a70 := Tryz.isAgg121
  z70 := Tryz.sizeOf121
  v70 := Tryz.zeroValue121
  t76 := Tryz.underlying135
  a76 := Tryz.isAgg135
  z76 := Tryz.sizeOf135
  v76 := Tryz.zeroValue135
  t77 := Tryz.underlying136
  a77 := Tryz.isAgg136
  z77 := Tryz.sizeOf136
  v77 := Tryz.zeroValue136 }
end Go.Proofs.YtccaaniepeohbaaGreatDoor
