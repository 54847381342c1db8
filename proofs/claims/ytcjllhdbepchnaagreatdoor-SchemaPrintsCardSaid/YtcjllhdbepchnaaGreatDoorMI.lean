/-
  schema.kinds: the table of kinds; what each of its rows says of a field.
-/
import Derived.Test.YtcjllhdbepchnaaGreatDoorMH
import Derived.Deep.RegionLaw
import Derived.RangeFuncNested
/-! schema.kinds: the table of kinds; what each of its rows says of a field. -/
namespace Go.Proofs.YtcjllhdbepchnaaGreatDoor
open Go.RowKit Go.WideShapes
set_option linter.unusedVariables false
def kindCells : Array Value := #[.string ⟨#[98, 111, 111, 108]⟩, .func (.func 134) #[] #[], .func (.func 135) #[] #[], .func (.func 136) #[] #[], .string ⟨#[105, 110, 116]⟩, .func (.func 137) #[] #[], .func (.func 138) #[] #[], .func (.func 139) #[] #[], .string ⟨#[98, 121, 116, 101, 115]⟩, .func (.func 140) #[] #[], .func (.func 141) #[] #[], .func (.func 142) #[] #[], .string ⟨#[105, 100]⟩, .func (.func 134) #[] #[], .func (.func 135) #[] #[], .func (.func 136) #[] #[], .string ⟨#[110, 97, 109, 101]⟩, .func (.func 140) #[] #[], .func (.func 141) #[] #[], .func (.func 142) #[] #[], .string ⟨#[116, 101, 120, 116]⟩, .func (.func 143) #[] #[], .func (.func 144) #[] #[], .func (.func 145) #[] #[], .string ⟨#[116, 117, 112, 108, 101]⟩, .func (.func 134) #[] #[], .func (.func 135) #[] #[], .func (.func 136) #[] #[]]
set_option maxRecDepth 100000 in
set_option maxHeartbeats 1000000 in
theorem kinds_any (w : World) : Calls Tryz.prog 112 #[] w (fun e w' => e = .returned (.slice (some ⟨w.heap.size, 0, none⟩) 7 7) ∧ w' = w.alloc (.cells kindCells 211)) := by
  have hmf : ∀ (fn : Fn) (first cap : Array Value) (w : World), (Instr.makeFunc fn first cap).run Tryz.prog w = .ok (.func fn first cap) w := fun _ _ _ _ => rfl
  go_enter Tryz.func112, Tryz.ntmps112
  go_wp2_with fail
  go_ret
  exact ⟨rfl, rfl⟩
set_option maxRecDepth 100000 in
set_option maxHeartbeats 1000000 in
theorem never_any (nm : ByteArray) (k : Nat) (dn : Bool) (nl : Nat) (bd lb : Bool) (lm : ByteArray) (hb : Bool) (hm : ByteArray) (ms st : Int) (sh ba : Bool) (n : Nat) (a : Option Addr) (c : Nat) (w : World) : Calls Tryz.prog 134 #[.agg #[.string nm, .int .u8 k, .bool dn, .int .u8 nl, .bool bd, .bool lb, .string lm, .bool hb, .string hm, .int .i64 ms, .int .i64 st, .bool sh, .bool ba, .slice a n c]] w (Ret (.bool false) w) := by
  go_enter Tryz.func134, Tryz.ntmps134
  go_wp2_with fail
  go_ret
  exact ⟨rfl, below_a1 _ _⟩
set_option maxRecDepth 100000 in
set_option maxHeartbeats 1000000 in
theorem oddMost_any (nm : ByteArray) (k : Nat) (dn : Bool) (nl : Nat) (bd lb : Bool) (lm : ByteArray) (hb : Bool) (hm : ByteArray) (ms st : Int) (sh ba : Bool) (n : Nat) (a : Option Addr) (c : Nat) (w : World) : Calls Tryz.prog 140 #[.agg #[.string nm, .int .u8 k, .bool dn, .int .u8 nl, .bool bd, .bool lb, .string lm, .bool hb, .string hm, .int .i64 ms, .int .i64 st, .bool sh, .bool ba, .slice a n c]] w (Ret (.bool (decide (ms < 0) || decide (65536 < ms))) w) := by
  go_enter Tryz.func140, Tryz.ntmps140
  go_wp2_with fail
  all_goals (
    go_ret
    refine ⟨ret_bool ?_, below_a1 _ _⟩
    simp_all)
set_option maxRecDepth 100000 in
set_option maxHeartbeats 1000000 in
theorem oddText_any (nm : ByteArray) (k : Nat) (dn : Bool) (nl : Nat) (bd lb : Bool) (lm : ByteArray) (hb : Bool) (hm : ByteArray) (ms st : Int) (sh ba : Bool) (n : Nat) (a : Option Addr) (c : Nat) (w : World) : Calls Tryz.prog 143 #[.agg #[.string nm, .int .u8 k, .bool dn, .int .u8 nl, .bool bd, .bool lb, .string lm, .bool hb, .string hm, .int .i64 ms, .int .i64 st, .bool sh, .bool ba, .slice a n c]] w (Ret (.bool (decide (st < 1) || decide (4 < st) || (st == 4 && !sh))) w) := by
  go_enter Tryz.func143, Tryz.ntmps143
  go_wp2_with fail
  all_goals (
    go_ret
    refine ⟨ret_bool ?_, below_a2 _ _ _⟩
    simp_all)
set_option maxRecDepth 100000 in
set_option maxHeartbeats 1000000 in
theorem oddInt_any (nm : ByteArray) (k : Nat) (dn : Bool) (nl : Nat) (bd lb : Bool) (lm : ByteArray) (hb : Bool) (hm : ByteArray) (ms st : Int) (sh ba : Bool) (n : Nat) (a : Option Addr) (c : Nat) (w : World) (hl : lm.size ≤ 140737488351232) (hh : hm.size ≤ 140737488351232) : Calls Tryz.prog 137 #[.agg #[.string nm, .int .u8 k, .bool dn, .int .u8 nl, .bool bd, .bool lb, .string lm, .bool hb, .string hm, .int .i64 ms, .int .i64 st, .bool sh, .bool ba, .slice a n c]] w (Ret (.bool (if bd then decide (numWhy2 lb lm hb hm ≠ 0) || decide (0 < numCmp lb lm hb hm) else lb || lm.size != 0 || hb || hm.size != 0)) w) := by
  have HC := Lib.hid (fun w => natCmp_any lb lm hb hm w (by omega) (by omega))
  unfold CmpPost at HC
  obtain ⟨m, hme⟩ : ∃ m, m = numWhy2 lb lm hb hm := ⟨_, rfl⟩
  obtain ⟨q, hne⟩ : ∃ q, q = numCmp lb lm hb hm := ⟨_, rfl⟩
  rw [← hme, ← hne] at HC ⊢
  clear hme hne hl hh
  simp only [size_nil']
  cases bd with
  | false =>
    simp only [Bool.false_eq_true, if_false]
    go_enter Tryz.func137, Tryz.ntmps137
    go_wp2_with fail
    all_goals (
      go_ret
      refine ⟨ret_bool ?_, below_a1 _ _⟩
      simp_all)
  | true =>
    simp only [if_true]
    go_enter Tryz.func137, Tryz.ntmps137
    go_wp2_with (go_at_call 69; refine (HC.out _).mono ?_; rintro e w2 ⟨rfl, hb2⟩; have HB2 := Lib.hid ((below_a1 _ _).trans (hb2.mono (below_a1 _ _).size)); clear hb2)
    all_goals (
      go_ret
      refine ⟨ret_bool ?_, HB2.out⟩
      simp_all)
end Go.Proofs.YtcjllhdbepchnaaGreatDoor

/-! Does a field say what may not be: the program's answer. -/
namespace Go.Proofs.YtcjllhdbepchnaaGreatDoor
open Go.RowKit Go.WideShapes
set_option linter.unusedVariables false
/-- A box that holds a field's cells. -/
def FBox (w : World) (T : Nat) (cs : Array Value) : Prop := w.heap[T]? = some (.cells cs 57 (0, 0))
theorem FBox.new (w : World) (cs : Array Value) : FBox (w.alloc (.cells cs 57)) w.heap.size cs := World.alloc_heap_new w _
theorem FBox.below {w w' : World} {B T : Nat} {cs : Array Value} (h : FBox w T cs) (hb : Below B w w') (hT : T < B) : FBox w' T cs := (hb.block T hT).trans h
theorem FBox.at_ {w : World} {T i : Nat} {cs : Array Value} (h : FBox w T cs) : w.cell? ⟨T, i, none⟩ = cs[i]? := by simp [World.cell?, show w.heap[T]? = _ from h]
theorem FBox.cells {w : World} {T : Nat} {x0 x1 x2 x3 x4 x5 x6 x7 x8 x9 x10 x11 x12 x13 : Value} (h : FBox w T #[x0, x1, x2, x3, x4, x5, x6, x7, x8, x9, x10, x11, x12, x13]) :
    w.cell? ⟨T, 0, none⟩ = some x0 ∧ w.cell? ⟨T, 1, none⟩ = some x1 ∧ w.cell? ⟨T, 2, none⟩ = some x2 ∧ w.cell? ⟨T, 3, none⟩ = some x3 ∧ w.cell? ⟨T, 4, none⟩ = some x4 ∧ w.cell? ⟨T, 5, none⟩ = some x5 ∧ w.cell? ⟨T, 6, none⟩ = some x6 ∧ w.cell? ⟨T, 7, none⟩ = some x7 ∧ w.cell? ⟨T, 8, none⟩ = some x8 ∧ w.cell? ⟨T, 9, none⟩ = some x9 ∧ w.cell? ⟨T, 10, none⟩ = some x10 ∧ w.cell? ⟨T, 11, none⟩ = some x11 ∧ w.cell? ⟨T, 12, none⟩ = some x12 ∧ w.cell? ⟨T, 13, none⟩ = some x13 :=
  ⟨h.at_, h.at_, h.at_, h.at_, h.at_, h.at_, h.at_, h.at_, h.at_, h.at_, h.at_, h.at_, h.at_, h.at_⟩
theorem kind_at (w : World) (i : Nat) : (w.alloc (.cells kindCells 211)).cell? ⟨w.heap.size, i, none⟩ = kindCells[i]? := by
  rw [World.cell?_alloc_new] <;> rfl
/-- What the call of kinds leaves. -/
theorem kinds_left {w W w2 : World} {cs : Array Value} (hw : W = (w.alloc (.cells cs 57)).drew) (h : w2 = W.alloc (.cells kindCells 211)) : Hid (Below w.heap.size w w2) ∧ FBox w2 w.heap.size cs ∧ w2.heap.size = w.heap.size + 2 ∧ ∀ i, w2.cell? ⟨w.heap.size + 1, i, none⟩ = kindCells[i]? := by
  subst hw h
  refine ⟨Lib.hid (((below_a1 _ _).drew).alloc (by simp) _), ?_, by simp, fun i => ?_⟩
  · exact ((FBox.new w cs).below (w' := (w.alloc (.cells cs 57)).drew) ((Below.refl (w.alloc (.cells cs 57)).heap.size _).drew) (by simp)).below (below_a1 _ _) (by simp)
  · have e : w.heap.size + 1 = (w.alloc (.cells cs 57)).drew.heap.size := by simp
    rw [e]; exact kind_at _ i
end Go.Proofs.YtcjllhdbepchnaaGreatDoor
