/-
  value.same: a value is the same as itself, wherever it lies.
-/
import Derived.Test.YtjgicjgpahnmaaaDoorKH
namespace Go.Proofs.YtjgicjgpahnmaaaDoor
open Go.RowKit Go.WideShapes
set_option linter.unusedVariables false
theorem tupleNoTruth (v : Value) (xT : TypeId) (w : World) : (Instr.typeAssert (.iface 88 v) xT 84 true).run Tryd.prog w = .ok (.tuple #[.agg #[.bool false], .bool false]) w := by kernel_rfl
theorem wholeNoTruth (v : Value) (xT : TypeId) (w : World) : (Instr.typeAssert (.iface 86 v) xT 84 true).run Tryd.prog w = .ok (.tuple #[.agg #[.bool false], .bool false]) w := by kernel_rfl
theorem rowNoTruth (v : Value) (xT : TypeId) (w : World) : (Instr.typeAssert (.iface 90 v) xT 84 true).run Tryd.prog w = .ok (.tuple #[.agg #[.bool false], .bool false]) w := by kernel_rfl
theorem partYes (k : Int) (y b : Bool) (m r : ByteArray) (a : Option Addr) (n c : Nat) (w : World) : (Instr.field 30 (.agg #[.int .u8 k, .bool y, .bool b, .string m, .string r, .slice a n c]) 1).run Tryd.prog w = .ok (.bool y) w := by kernel_rfl
theorem truthIsTruth (v : Value) (xT : TypeId) (w : World) : (Instr.typeAssert (.iface 84 v) xT 84 true).run Tryd.prog w = .ok (.tuple #[v, .bool true]) w := by kernel_rfl
set_option maxRecDepth 100000 in
set_option maxHeartbeats 2000000 in
theorem same_truth (y : Bool) (w : World) : Calls Tryd.prog 31 #[.iface 84 (.agg #[.bool y]), .iface 84 (.agg #[.bool y])] w (Ret (.bool true) w) := by
  have HB0 := Lib.hid (Below.refl w.heap.size w)
  have h1 := truthIsTruth
  have HK := Lib.hid (fun y w => truthKind_any y w)
  have HP := Lib.hid (fun y w => truthPart_any y w)
  go_enter Tryd.func31, Tryd.ntmps31
  go_wp2_with fail
  refine (HK.out _ _).mono ?_
  rintro e w1 ⟨rfl, hb1⟩
  have HB1 := Lib.hid (HB0.out.trans hb1)
  have hz1 := hb1.size
  clear hb1 HB0
  go_wp2_with fail
  refine (HK.out _ _).mono ?_
  rintro e w2 ⟨rfl, hb2⟩
  have HB2 := Lib.hid (HB1.out.trans (hb2.mono hz1))
  have hz2 := hb2.size
  clear hb2 HB1 HK
  go_wp2_with fail
  have hc0 : (w2.alloc (Obj.cells #[Value.bool y] 84)).cell? ⟨w2.heap.size, 0, none⟩ = some (.bool y) := (BoxAt.new w2 w2.heap.size (.bool y) 84 rfl).cell
  have HB3 := Lib.hid ((HB2.out.alloc (by omega) (Obj.cells #[Value.bool y] 84)).drew)
  have HP' := Lib.hid (HP.out y (w2.alloc (Obj.cells #[Value.bool y] 84)).drew)
  clear HP
  have hpy := partYes
  go_region_law (go_simp; go_invoke; go_simp; go_at_call 77; refine HP'.out.mono ?_; rintro e w4 ⟨rfl, hb4⟩; have HB4 := Lib.hid (HB3.out.trans (hb4.mono (by simp [World.drew]; omega))); have hc4 := (hb4.cell (p := ⟨w2.heap.size, 0, none⟩) (by simp [World.drew])).trans hc0)
  all_goals (go_wp2_with fail; go_ret; exact ⟨rfl, HB4.out⟩)
end Go.Proofs.YtjgicjgpahnmaaaDoor
