/-
  value.Of of one value; value.AsList.
-/
import Derived.Test.YtcjllhdbepchnaaGreatDoorLAJ
import Derived.Test.YtcjllhdbepchnaaGreatDoorLAI
namespace Go.Proofs.YtcjllhdbepchnaaGreatDoor
open Go.RowKit Go.WideShapes
set_option linter.unusedVariables false
set_option maxRecDepth 100000 in
set_option maxHeartbeats 1000000 in
theorem of_deep (t : PT) (b : Nat) (u : Value) (w : World) (hd : ¬ t.depth < 16) (hd2 : t.depth ≤ 1000) (hb : b < w.heap.size) (hc : w.cell? ⟨b, 0, none⟩ = some u) (hv : ValueAt w (· < w.heap.size) t u) :
    Calls Tryz.prog 26 #[.slice (some ⟨b, 0, none⟩) 1 1] w (Ret (.tuple #[.nilIface, .int .i64 91]) w) := by
  have HR := Lib.hid (Depth_any t u w hd2 hv)
  clear hv
  go_enter Tryz.func26, Tryz.ntmps26
  go_wp2_with fail
  go_loopw [11] (fun i wr => i = .int .i64 ((0 : Nat) : Int) ∧ wr = w) (fun _ _ => 0)
  case atStart => exact ⟨rfl, rfl⟩
  case round =>
    obtain ⟨rfl, hwr⟩ := hrel
    subst hwr
    go_wp2_with fail
    refine HR.out.mono ?_
    rintro e w2 ⟨rfl, hb2⟩
    have HB2 := Lib.hid hb2
    clear hb2 HR hc
    go_wp2_with fail
    go_ret2
    exact ⟨rfl, HB2.out⟩
set_option maxRecDepth 100000 in
set_option maxHeartbeats 1000000 in
theorem asL_tup (a : Option Addr) (n c : Nat) (w : World) : Calls Tryz.prog 55 #[.iface 109 (.agg #[.slice a n c])] w (Ret (.tuple #[.iface 109 (.agg #[.slice a n c]), .bool true]) w) := by
  have HB := Lib.hid (Below.refl w.heap.size w)
  have h1 := tupleIsList
  go_enter Tryz.func55, Tryz.ntmps55
  go_wp2_with fail
  go_ret2
  exact ⟨rfl, HB.out⟩
set_option maxRecDepth 100000 in
set_option maxHeartbeats 1000000 in
theorem asL_not (v : Value) (w : World) (h1 : ∀ xT w, (Instr.typeAssert v xT 68 true).run Tryz.prog w = .ok (.tuple #[.nilIface, .bool false]) w) : Calls Tryz.prog 55 #[v] w (Ret (.tuple #[.nilIface, .bool false]) w) := by
  have HB := Lib.hid (Below.refl w.heap.size w)
  go_enter Tryz.func55, Tryz.ntmps55
  go_wp2_with fail
  go_ret2
  exact ⟨rfl, HB.out⟩
set_option maxRecDepth 100000 in
set_option maxHeartbeats 1000000 in
theorem asList_tup (a : Option Addr) (n c : Nat) (w : World) : Calls Tryz.prog 27 #[.iface 109 (.agg #[.slice a n c])] w (Ret (.tuple #[.iface 109 (.agg #[.slice a n c]), .bool true]) w) := by
  have HR := Lib.hid (asL_tup a n c w)
  go_enter Tryz.func27, Tryz.ntmps27
  go_wp2_with fail
  refine HR.out.mono ?_
  rintro e w2 ⟨rfl, hb2⟩
  have HB2 := Lib.hid hb2
  clear hb2 HR
  go_wp2_with fail
  go_ret2
  exact ⟨rfl, HB2.out⟩
theorem noList {t : PT} {v : Value} {w : World} {S : Nat → Prop} (hv : ValueAt w S t v) (h7 : t.kind ≠ 7) (xT : TypeId) (W : World) : (Instr.typeAssert v xT 68 true).run Tryz.prog W = .ok (.tuple #[.nilIface, .bool false]) W := by
  by_cases k0 : t.kind = 0
  · rw [(ValueAt.null k0).1 hv]; exact nilNoList xT W
  by_cases k1 : t.kind = 1
  · rw [(ValueAt.truth k1).1 hv]; exact truthNoList _ xT W
  by_cases k2 : t.kind = 2
  · rw [((ValueAt.whole k2).1 hv).1]; exact wholeNoList _ xT W
  · rw [((ValueAt.row k0 k1 k2 h7).1 hv).1]; exact rowNoList _ xT W
set_option maxRecDepth 100000 in
set_option maxHeartbeats 1000000 in
theorem asList_not (t : PT) (v : Value) (w : World) (h7 : t.kind ≠ 7) (hv : ValueAt w (· < w.heap.size) t v) : Calls Tryz.prog 27 #[v] w (Ret (.tuple #[.nilIface, .bool false]) w) := by
  have HR := Lib.hid (asL_not v w (fun xT W => noList hv h7 xT W))
  have hone := hv.one
  clear hv
  go_enter Tryz.func27, Tryz.ntmps27
  go_wp2_with fail
  refine HR.out.mono ?_
  rintro e w2 ⟨rfl, hb2⟩
  have HB2 := Lib.hid hb2
  clear hb2 HR
  go_wp2_with fail
  go_ret2
  exact ⟨rfl, HB2.out⟩
/-- A value is nil just where its part is null. -/
theorem value_nil {t : PT} {v : Value} {w : World} {S : Nat → Prop} (hv : ValueAt w S t v) : (t.kind = 0 ∧ v = .nilIface) ∨ (t.kind ≠ 0 ∧ ∃ Ty u, v = .iface Ty u) := by
  by_cases k0 : t.kind = 0
  · exact .inl ⟨k0, (ValueAt.null k0).1 hv⟩
  refine .inr ⟨k0, ?_⟩
  by_cases k1 : t.kind = 1
  · exact ⟨_, _, (ValueAt.truth k1).1 hv⟩
  by_cases k2 : t.kind = 2
  · exact ⟨_, _, ((ValueAt.whole k2).1 hv).1⟩
  by_cases k7 : t.kind = 7
  · obtain ⟨a, c, e, _⟩ := (ValueAt.tuple k7).1 hv
    exact ⟨_, _, e⟩
  · exact ⟨_, _, ((ValueAt.row k0 k1 k2 k7).1 hv).1⟩
theorem turn_pos (n : Int) (h : ¬ n < 0) : ∃ m : Nat, n.tmod 3 % 256 = (m : Int) ∧ m ≤ 2 :=
  ⟨(n % 3).toNat, by rw [Int.tmod_eq_emod_of_nonneg (by omega)]; omega, by omega⟩
theorem turn_neg (n : Int) (h : n < 0) : ∃ m : Nat, -(n + 1).tmod 3 % 256 = (m : Int) ∧ m ≤ 2 := by
  have e : (n + 1).tmod 3 = -((-(n + 1)) % 3) := by
    rw [← Int.tmod_eq_emod_of_nonneg (by omega), Int.neg_tmod, Int.neg_neg]
  exact ⟨((-(n + 1)) % 3).toNat, by rw [e]; omega, by omega⟩
end Go.Proofs.YtcjllhdbepchnaaGreatDoor
