/-
  Where the text of strings.Builder's methods stands in the program: the numbers of what it names.
-/
import Derived.Test.YtcjllhdbepchnaaGreatDoorProg
import Derived.Shelf.Strings.BuilderK
import Derived.KernelRfl
namespace Go.Proofs.YtcjllhdbepchnaaGreatDoor
open Go.Shelf
def lays166_ren : Go.Shelf.Ren := ⟨fun | 166 => 96 | 240 => 115 | 276 => 146 | n => n, fun | 0 => 0 | 3 => 3 | 4 => 4 | 9 => 9 | 5 => 5 | 20 => 20 | 37 => 153 | 70 => 175 | 72 => 177 | 75 => 42 | 164 => 141 | 80 => 138 | n => n, fun n => n⟩
theorem lays166 : Go.Proofs.Lays.n166 Tryz.prog lays166_ren := {
  mixed := by kernel_rfl
  f166 := Tryz.func96.trans (congrArg some (by kernel_rfl))
  f240 := Tryz.func115.trans (congrArg some (by kernel_rfl))
  f276 := Tryz.func146.trans (congrArg some (by kernel_rfl))
  t0 := Tryz.underlying0
  a0 := Tryz.isAgg0
  z0 := Tryz.sizeOf0
  v0 := Tryz.zeroValue0
  t3 := Tryz.underlying3
  a3 := Tryz.isAgg3
  z3 := Tryz.sizeOf3
  v3 := Tryz.zeroValue3
  t4 := Tryz.underlying4
  a4 := Tryz.isAgg4
  z4 := Tryz.sizeOf4
  v4 := Tryz.zeroValue4
  t9 := Tryz.underlying9
  a9 := Tryz.isAgg9
  z9 := Tryz.sizeOf9
  v9 := Tryz.zeroValue9
  t20 := Tryz.underlying20
  a20 := Tryz.isAgg20
  z20 := Tryz.sizeOf20
  v20 := Tryz.zeroValue20
  t37 := Tryz.underlying153
  a37 := Tryz.isAgg153
  z37 := Tryz.sizeOf153
  v37 := Tryz.zeroValue153
  t70 := Tryz.underlying175
  a70 := Tryz.isAgg175
  z70 := Tryz.sizeOf175
  v70 := Tryz.zeroValue175
  t72 := Tryz.underlying177
  a72 := Tryz.isAgg177
  z72 := Tryz.sizeOf177
  v72 := Tryz.zeroValue177
  t75 := Tryz.underlying42
  a75 := Tryz.isAgg42
  z75 := Tryz.sizeOf42
  v75 := Tryz.zeroValue42
  t164 := Tryz.underlying141
  a164 := Tryz.isAgg141
  z164 := Tryz.sizeOf141
  v164 := Tryz.zeroValue141 }
def lays169_ren : Go.Shelf.Ren := ⟨fun | 169 => 99 | n => n, fun | 70 => 175 | 9 => 9 | 0 => 0 | 72 => 177 | 37 => 153 | 127 => 220 | 3 => 3 | 5 => 5 | n => n, fun | n => n⟩
theorem lays169 : Go.Proofs.Lays.n169 Tryz.prog lays169_ren := {
  mixed := by kernel_rfl
  f169 := Tryz.func99.trans (congrArg some (by kernel_rfl))
  t0 := Tryz.underlying0
  a0 := Tryz.isAgg0
  z0 := Tryz.sizeOf0
  v0 := Tryz.zeroValue0
  t3 := Tryz.underlying3
  a3 := Tryz.isAgg3
  z3 := Tryz.sizeOf3
  v3 := Tryz.zeroValue3
  t9 := Tryz.underlying9
  a9 := Tryz.isAgg9
  z9 := Tryz.sizeOf9
  v9 := Tryz.zeroValue9
  t37 := Tryz.underlying153
  a37 := Tryz.isAgg153
  z37 := Tryz.sizeOf153
  v37 := Tryz.zeroValue153
  t70 := Tryz.underlying175
  a70 := Tryz.isAgg175
  z70 := Tryz.sizeOf175
  v70 := Tryz.zeroValue175
  t72 := Tryz.underlying177
  a72 := Tryz.isAgg177
  z72 := Tryz.sizeOf177
  v72 := Tryz.zeroValue177
  t127 := Tryz.underlying220
  a127 := Tryz.isAgg220
  z127 := Tryz.sizeOf220
  v127 := Tryz.zeroValue220 }
theorem extra166 : Go.Proofs.Builder.Extra Tryz.prog lays166_ren := {
  sizeBuilder := by kernel_rfl
  liesBuilder := by kernel_rfl
  t5 := Tryz.underlying5
  a5 := Tryz.isAgg5
  z5 := Tryz.sizeOf5
  v5 := Tryz.zeroValue5
  infoByte := by kernel_rfl
  cellsByte := by kernel_rfl
  sizeByte := by kernel_rfl
  neB5 := by decide }
theorem extra169 : Go.Proofs.Builder.Extra Tryz.prog lays169_ren := {
  sizeBuilder := by kernel_rfl
  liesBuilder := by kernel_rfl
  t5 := Tryz.underlying5
  a5 := Tryz.isAgg5
  z5 := Tryz.sizeOf5
  v5 := Tryz.zeroValue5
  infoByte := by kernel_rfl
  cellsByte := by kernel_rfl
  sizeByte := by kernel_rfl
  neB5 := by decide }

end Go.Proofs.YtcjllhdbepchnaaGreatDoor
