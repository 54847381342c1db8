/-
  Where the text of strings.TrimLeft stands in the program: the numbers of what it names.
-/
import Derived.Test.YtcjllhdbepchnaaGreatDoorProg
import Derived.Shelf.Strings.Trim
import Derived.KernelRfl
namespace Go.Proofs.YtcjllhdbepchnaaGreatDoor
open Go.Shelf
def lays161_ren : Go.Shelf.Ren := ⟨fun | 161 => 197 | 231 => 127 | 227 => 129 | 233 => 130 | 235 => 132 | 228 => 157 | 197 => 158 | 151 => 159 | 260 => 178 | 152 => 179 | 137 => 194 | 119 => 195 | 224 => 169 | 225 => 168 | 217 => 167 | 266 => 189 | n => n, fun | 9 => 9 | 4 => 4 | 3 => 3 | 5 => 5 | 117 => 231 | 116 => 230 | 0 => 0 | 124 => 234 | 105 => 242 | 21 => 21 | 119 => 277 | 46 => 224 | 139 => 280 | 138 => 279 | n => n, fun | 3 => 5 | 4 => 6 | n => n⟩
theorem lays161 : Go.Proofs.Lays.n161 Tryz.prog lays161_ren := {
  mixed := by kernel_rfl
  f119 := Tryz.func195.trans (congrArg some (by kernel_rfl))
  f137 := Tryz.func194.trans (congrArg some (by kernel_rfl))
  f151 := Tryz.func159.trans (congrArg some (by kernel_rfl))
  f152 := Tryz.func179.trans (congrArg some (by kernel_rfl))
  f161 := Tryz.func197.trans (congrArg some (by kernel_rfl))
  f197 := Tryz.func158.trans (congrArg some (by kernel_rfl))
  f217 := Tryz.func167.trans (congrArg some (by kernel_rfl))
  f224 := Tryz.func169.trans (congrArg some (by kernel_rfl))
  f225 := Tryz.func168.trans (congrArg some (by kernel_rfl))
  f227 := Tryz.func129.trans (congrArg some (by kernel_rfl))
  f228 := Tryz.func157.trans (congrArg some (by kernel_rfl))
  f231 := Tryz.func127.trans (congrArg some (by kernel_rfl))
  f233 := Tryz.func130.trans (congrArg some (by kernel_rfl))
  f235 := Tryz.func132.trans (congrArg some (by kernel_rfl))
  f260 := Tryz.func178.trans (congrArg some (by kernel_rfl))
  f266 := Tryz.func189.trans (congrArg some (by kernel_rfl))
  t0 := Tryz.underlying0
  a0 := Tryz.isAgg0
  z0 := Tryz.sizeOf0
  v0 := Tryz.zeroValue0
  t3 := Tryz.underlying3
  a3 := Tryz.isAgg3
  z3 := Tryz.sizeOf3
  v3 := Tryz.zeroValue3
  t4 := Tryz.underlying4
  a4 := Tryz.isAgg4
  z4 := Tryz.sizeOf4
  v4 := Tryz.zeroValue4
  t5 := Tryz.underlying5
  a5 := Tryz.isAgg5
  z5 := Tryz.sizeOf5
  v5 := Tryz.zeroValue5
  t9 := Tryz.underlying9
  a9 := Tryz.isAgg9
  z9 := Tryz.sizeOf9
  v9 := Tryz.zeroValue9
  t21 := Tryz.underlying21
  a21 := Tryz.isAgg21
  z21 := Tryz.sizeOf21
  v21 := Tryz.zeroValue21
  t46 := Tryz.underlying224
  a46 := Tryz.isAgg224
  z46 := Tryz.sizeOf224
  v46 := Tryz.zeroValue224
  t105 := Tryz.underlying242
  a105 := Tryz.isAgg242
  z105 := Tryz.sizeOf242
  v105 := Tryz.zeroValue242
  t116 := Tryz.underlying230
  a116 := Tryz.isAgg230
  z116 := Tryz.sizeOf230
  t117 := Tryz.underlying231
  a117 := Tryz.isAgg231
  z117 := Tryz.sizeOf231
  v117 := Tryz.zeroValue231
  t119 := Tryz.underlying277
  a119 := Tryz.isAgg277
  z119 := Tryz.sizeOf277
  t124 := Tryz.underlying234
  a124 := Tryz.isAgg234
  z124 := Tryz.sizeOf234
  v124 := Tryz.zeroValue234
  t138 := Tryz.underlying279
  a138 := Tryz.isAgg279
  z138 := Tryz.sizeOf279
  v138 := Tryz.zeroValue279
  t139 := Tryz.underlying280
  a139 := Tryz.isAgg280
  z139 := Tryz.sizeOf280
  v139 := Tryz.zeroValue280
  g3 := by kernel_rfl
  g4 := by kernel_rfl }

end Go.Proofs.YtcjllhdbepchnaaGreatDoor
