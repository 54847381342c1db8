/-
  Where strings.Split stands in the program.
-/
import Derived.Test.YtccaaniepeohbaaGreatDoorProg
import Derived.Shelf.Strings.Split
import Derived.KernelRfl
namespace Go.Proofs.YtccaaniepeohbaaGreatDoor
open Go.Shelf
def lays146_ren : Go.Shelf.Ren := ⟨fun | 146 => 26 | 221 => 44 | 268 => 55 | 138 => 56 | 143 => 57 | 195 => 82 | 197 => 71 | 218 => 83 | 219 => 84 | 260 => 95 | 217 => 102 | 225 => 103 | 224 => 104 | 267 => 105 | 266 => 115 | 314 => 116 | n => n, fun | 9 => 9 | 31 => 38 | 3 => 3 | 4 => 4 | 0 => 0 | 105 => 99 | 21 => 21 | 5 => 5 | 46 => 78 | 119 => 138 | 139 => 141 | 138 => 140 | 146 => 145 | 51 => 96 | n => n, fun | 1 => 2 | 3 => 5 | 4 => 6 | n => n⟩
theorem lays146 : Go.Proofs.Lays.n146 Tryz.prog lays146_ren := {
  mixed := by kernel_rfl
  f138 := Tryz.func56.trans (congrArg some (by kernel_rfl))
  f143 := Tryz.func57.trans (congrArg some (by kernel_rfl))
  f146 := Tryz.func26.trans (congrArg some (by kernel_rfl))
  f195 := Tryz.func82.trans (congrArg some (by kernel_rfl))
  f197 := Tryz.func71.trans (congrArg some (by kernel_rfl))
  f217 := Tryz.func102.trans (congrArg some (by kernel_rfl))
  f218 := Tryz.func83.trans (congrArg some (by kernel_rfl))
  f219 := Tryz.func84.trans (congrArg some (by kernel_rfl))
  f221 := Tryz.func44.trans (congrArg some (by kernel_rfl))
  f224 := Tryz.func104.trans (congrArg some (by kernel_rfl))
  f225 := Tryz.func103.trans (congrArg some (by kernel_rfl))
  f260 := Tryz.func95.trans (congrArg some (by kernel_rfl))
  f266 := Tryz.func115.trans (congrArg some (by kernel_rfl))
  f267 := Tryz.func105.trans (congrArg some (by kernel_rfl))
  f268 := Tryz.func55.trans (congrArg some (by kernel_rfl))
  f314 := Tryz.func116.trans (congrArg some (by kernel_rfl))
  t0 := Tryz.underlying0
  a0 := Tryz.isAgg0
  z0 := Tryz.sizeOf0
  v0 := Tryz.zeroValue0
  t3 := Tryz.underlying3
  a3 := Tryz.isAgg3
  z3 := Tryz.sizeOf3
  v3 := Tryz.zeroValue3
  t4 := Tryz.underlying4
  a4 := Tryz.isAgg4
  z4 := Tryz.sizeOf4
  v4 := Tryz.zeroValue4
  t5 := Tryz.underlying5
  a5 := Tryz.isAgg5
  z5 := Tryz.sizeOf5
  v5 := Tryz.zeroValue5
  t9 := Tryz.underlying9
  a9 := Tryz.isAgg9
  z9 := Tryz.sizeOf9
  v9 := Tryz.zeroValue9
  t21 := Tryz.underlying21
  a21 := Tryz.isAgg21
  z21 := Tryz.sizeOf21
  v21 := Tryz.zeroValue21
  t31 := Tryz.underlying38
  a31 := Tryz.isAgg38
  z31 := Tryz.sizeOf38
  v31 := Tryz.zeroValue38
  t46 := Tryz.underlying78
  a46 := Tryz.isAgg78
  z46 := Tryz.sizeOf78
  v46 := Tryz.zeroValue78
  t51 := Tryz.underlying96
  a51 := Tryz.isAgg96
  z51 := Tryz.sizeOf96
  v51 := Tryz.zeroValue96
  t105 := Tryz.underlying99
  a105 := Tryz.isAgg99
  z105 := Tryz.sizeOf99
  v105 := Tryz.zeroValue99
  t119 := Tryz.underlying138
  a119 := Tryz.isAgg138
  z119 := Tryz.sizeOf138
  t138 := Tryz.underlying140
  a138 := Tryz.isAgg140
  z138 := Tryz.sizeOf140
  v138 := Tryz.zeroValue140
  t139 := Tryz.underlying141
  a139 := Tryz.isAgg141
  z139 := Tryz.sizeOf141
  v139 := Tryz.zeroValue141
  t146 := Tryz.underlying145
  a146 := Tryz.isAgg145
  z146 := Tryz.sizeOf145
  v146 := Tryz.zeroValue145
  g1 := by kernel_rfl
  g3 := by kernel_rfl
  g4 := by kernel_rfl }
end Go.Proofs.YtccaaniepeohbaaGreatDoor
