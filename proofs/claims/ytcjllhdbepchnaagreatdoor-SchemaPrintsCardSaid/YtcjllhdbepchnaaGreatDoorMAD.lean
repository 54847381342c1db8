/-
  schema.check: what is wrong, caught.
-/
import Derived.Test.YtcjllhdbepchnaaGreatDoorMAC
import Derived.Defers
import Derived.Recover
import Derived.Laws.Pointers
import Derived.Test.YtcjllhdbepchnaaGreatDoorMG
/-! schema.check: what is wrong, caught. -/
namespace Go.Proofs.YtcjllhdbepchnaaGreatDoor
open Go.RowKit Go.WideShapes
set_option linter.unusedVariables false
/-- The block of what is wrong. -/
def RBx (w : World) (T : Nat) (x y : Value) : Prop := w.heap[T]? = some (.cells #[x, y] 115 (0, 0))
section
variable {w w' : World} {T : Nat} {x y : Value}
theorem RBx.cells (h : RBx w T x y) : w.cell? ⟨T, 0, none⟩ = some x ∧ w.cell? ⟨T, 1, none⟩ = some y := by simp [World.cell?, show w.heap[T]? = _ from h]
theorem RBx.free (h : RBx w T x y) (i : Nat) : w.frozen? ⟨T, i, none⟩ = false := by simp [World.frozen?, show w.heap[T]? = _ from h]
theorem RBx.filled (h : RBx w T x y) (x' y' : Value) : ((w.setCell ⟨T, 0, none⟩ x').setCell ⟨T, 1, none⟩ y').cell? ⟨T, 0, none⟩ = some x' ∧ ((w.setCell ⟨T, 0, none⟩ x').setCell ⟨T, 1, none⟩ y').cell? ⟨T, 1, none⟩ = some y' := by
  unfold RBx at h
  simp [World.cell?, World.setCell, Array.getElem?_modify, h]
end
theorem assert_wrong (c : Int) (A : Option Addr) (n m : Nat) (xT : TypeId) (w : World) : (Instr.typeAssert (.iface 115 (.agg #[.int .i64 c, .slice A n m])) xT 115 true).run Tryz.prog w = .ok (.tuple #[.agg #[.int .i64 c, .slice A n m], .bool true]) w := by
  simp [Instr.typeAssert, run_underlying Tryz.underlying115, go_sem, Result.andThen]
set_option maxRecDepth 100000 in
set_option maxHeartbeats 1000000 in
theorem catch_wrong (T : Nat) (x0 y0 : Value) (c : Int) (A : Option Addr) (n m : Nat) (older : List PanicEntry) (w : World) (h : RBx w T x0 y0) :
    CallsD Tryz.prog 89 #[.pointer (some ⟨T, 0, none⟩)] (.panicking ({ v := .iface 115 (.agg #[.int .i64 c, .slice A n m]), recovered := false } :: older)) w fun e u' w' =>
      e = .returned (.tuple #[]) ∧ u' = .panicking ({ v := .iface 115 (.agg #[.int .i64 c, .slice A n m]), recovered := true } :: older) ∧ w' = (w.setCell ⟨T, 0, none⟩ (.int .i64 c)).setCell ⟨T, 1, none⟩ (.slice A n m) := by
  obtain ⟨c0, c1⟩ := h.cells
  have f0 := h.free 0
  have f1 := h.free 1
  refine callsD_of_wpS Tryz.func89 rfl fun c₀ cs hu => ?_
  apply wpS_seq
  apply wpS_region
  simp [wpOpsS, go_sem, recoverD, hu, Tryz.ntmps89, Exit.thenS]
  refine wpS_of_wp ?_
  change Code.wp _ _ _ { tmps := #[.pointer (some ⟨T, 0, none⟩), .iface 115 (.agg #[.int .i64 c, .slice A n m]), undef, .iface 115 (.agg #[.int .i64 c, .slice A n m]), undef, undef, undef, undef, undef, undef, undef, undef, undef, undef], defers := [] } w
  have hta := assert_wrong c A n m
  go_wp2_with fail
  exact ⟨rfl, _, rfl, _, results_none rfl _ _ _, rfl, rfl, rfl⟩
set_option maxRecDepth 100000 in
set_option maxHeartbeats 1000000 in
theorem catch_idle (T : Nat) (w : World) :
    CallsD Tryz.prog 89 #[.pointer (some ⟨T, 0, none⟩)] .returning w fun e u' w' => e = .returned (.tuple #[]) ∧ u' = .returning ∧ w' = w := by
  refine callsD_of_wpS Tryz.func89 rfl fun c₀ cs hu => ?_
  apply wpS_seq
  apply wpS_region
  simp [wpOpsS, go_sem, recoverD, hu, Tryz.ntmps89, Exit.thenS]
  refine wpS_of_wp ?_
  change Code.wp _ _ _ { tmps := #[.pointer (some ⟨T, 0, none⟩), .nilIface, undef, .nilIface, undef, undef, undef, undef, undef, undef, undef, undef, undef, undef], defers := [] } w
  go_wp2_with fail
  exact ⟨rfl, _, (by cases c₀; simp only at hu; subst hu; rfl), _, results_none rfl _ _ _, rfl, rfl, rfl⟩
theorem _root_.Go.World.ownsRow.setOut {w : World} {b size n : Nat} {e : TypeId} {v : Value} {xs : List Value} (h : w.ownsRow b e size v n xs) {p : Addr} (hp : p.block < b) (u : Value) : (w.setCell p u).ownsRow b e size v n xs := by
  refine ⟨h.1, h.2.imp id fun ⟨g, cap, cur, h1, h2, h3, h4⟩ => ⟨g, cap, cur, h1, h2, ?_, h4⟩⟩
  rw [Below.heap_setCell _ _ _ _ (by omega)]
  exact h3
/-- What it tells. -/
def CheckPost (r : Int × List Nat) (w : World) (e : Ending) (w' : World) : Prop := ∃ v, e = .returned (.agg #[.int .i64 r.1, v]) ∧ Below w.heap.size w w' ∧ w'.ownsRow w.heap.size 3 1 v r.2.length (pathVals r.2)
set_option maxRecDepth 100000 in
set_option maxHeartbeats 2000000 in
theorem schCheck_any (limit : Int) (l : List FT) (a : Option Addr) (c : Nat) (w : World) (hf : FieldsAt w (· < w.heap.size) l a) (hlc : l.length ≤ c) (hc : c ≤ 140737488351232) :
    Calls Tryz.prog 60 #[.agg #[.int .i64 limit, .slice a l.length c]] w (CheckPost (schemaWhy limit l) w) := by
  have hmf : ∀ (fn : Fn) (first cap : Array Value) (w : World), (Instr.makeFunc fn first cap).run Tryz.prog w = .ok (.func fn first cap) w := fun _ _ _ _ => rfl
  have HF := Lib.hid hf
  have HR0 := Lib.hid (show RBx ((w.alloc (.cells #[.int .i64 limit, .slice a l.length c] 24)).alloc (.cells #[.int .i64 0, .slice none 0 0] 115)) (w.heap.size + 1) (.int .i64 0) (.slice none 0 0) by have h9 := World.alloc_heap_new (w.alloc (.cells #[.int .i64 limit, .slice a l.length c] 24)) (.cells #[.int .i64 0, .slice none 0 0] 115); rw [World.size_alloc] at h9; exact h9)
  clear hf
  by_cases h1 : limit < 1 ∨ 65536 < limit
  · have hs : schemaWhy limit l = (113, []) := by unfold schemaWhy; rw [if_pos h1]
    rw [hs]
    go_enter_defers Tryz.func60, Tryz.ntmps60
    go_wp2_with fail
    all_goals (
      refine leaves_cons (f := 89) (args := #[.pointer (some ⟨w.heap.size + 1, 0, none⟩)]) (by simp) (by simp [go_sem]) ?_
      refine (catch_wrong (w.heap.size + 1) (.int .i64 0) (.slice none 0 0) 113 none 0 0 [] _ HR0.out).mono ?_
      rintro e u' w'' ⟨rfl, rfl, rfl⟩
      simp [Leaves, settle, results, Tryz.results60, go_sem]
      exact ⟨_, rfl, (((Below.refl _ _).alloc (Nat.le_refl _) _).alloc (by simp) _), World.ownsRow_nil _ _ _ _⟩)
  by_cases h2 : l.length = 0
  · have hs : schemaWhy limit l = (115, []) := by unfold schemaWhy; rw [if_neg h1, if_pos h2]
    have e2 : ((l.length : Int) == 0) = true := by rw [h2]; rfl
    rw [hs]
    clear h2 hs
    have h3 : ¬ limit < 1 := fun h => h1 (.inl h)
    have h4 : ¬ 65536 < limit := fun h => h1 (.inr h)
    go_enter_defers Tryz.func60, Tryz.ntmps60
    go_wp2_with fail
    all_goals (
      refine leaves_cons (f := 89) (args := #[.pointer (some ⟨w.heap.size + 1, 0, none⟩)]) (by simp) (by simp [go_sem]) ?_
      refine (catch_wrong (w.heap.size + 1) (.int .i64 0) (.slice none 0 0) 115 none 0 0 [] _ HR0.out).mono ?_
      rintro e u' w'' ⟨rfl, rfl, rfl⟩
      simp [Leaves, settle, results, Tryz.results60, go_sem]
      exact ⟨_, rfl, (((Below.refl _ _).alloc (Nat.le_refl _) _).alloc (by simp) _), World.ownsRow_nil _ _ _ _⟩)
  · have e2 : ((l.length : Int) == 0) = false := by rw [beq_eq_false_iff_ne]; omega
    have h3 : ¬ limit < 1 := fun h => h1 (.inl h)
    have h4 : ¬ 65536 < limit := fun h => h1 (.inr h)
    obtain ⟨W3, hW3⟩ : ∃ W3, W3 = (((w.alloc (.cells #[.int .i64 limit, .slice a l.length c] 24)).alloc (.cells #[.int .i64 0, .slice none 0 0] 115)).alloc (.cells #[.int .i64 0] 3)) := ⟨_, rfl⟩
    have hb3 : Below w.heap.size w W3 := by rw [hW3]; exact ((((Below.refl _ _).alloc (Nat.le_refl _) _).alloc (by simp) _).alloc (by simp; omega) _)
    have hz3 : W3.heap.size = w.heap.size + 3 := by rw [hW3]; simp
    have hr3 : RBx W3 (w.heap.size + 1) (.int .i64 0) (.slice none 0 0) := by rw [hW3]; exact (Below.heap_alloc _ _ _ (by simp)).trans HR0.out
    have ht3 : IntCell W3 (w.heap.size + 2) ((0 : Nat) : Int) := by
      rw [hW3]
      have h9 := World.alloc_heap_new ((w.alloc (.cells #[.int .i64 limit, .slice a l.length c] 24)).alloc (.cells #[.int .i64 0, .slice none 0 0] 115)) (.cells #[.int .i64 0] 3)
      simp only [World.size_alloc] at h9
      exact h9
    have HW := Lib.hid (schWalk_any l a c [] (.slice none 0 0) 0 (w.heap.size + 2) w.heap.size W3 (HF.out.below hb3) (by omega) ht3 hlc hc (by simp) (by omega) (World.ownsRow_nil _ _ _ _))
    have htold := FT.walkL_told [] [] 0 0 (by simp) (by omega) l
    obtain ⟨r, hr⟩ : ∃ r, r = FT.walkL [] [] 0 0 l := ⟨_, rfl⟩
    rw [← hr] at HW
    obtain ⟨m', ro⟩ := r
    have hbw : ∀ w4, W3.grownBy w4 (some (w.heap.size + 2)) → Below w.heap.size w w4 := fun w4 h4 => hb3.trans (((Below.refl w.heap.size W3).grown h4 (by omega) (fun k e => by injection e with e; omega)))
    have hrw : ∀ w4, W3.grownBy w4 (some (w.heap.size + 2)) → RBx w4 (w.heap.size + 1) (.int .i64 0) (.slice none 0 0) := fun w4 h4 => (h4.block _ (by omega) (by simp)).trans hr3
    have HBw := Lib.hid hbw
    have HRw := Lib.hid hrw
    have HW3 := Lib.hid hW3
    clear hbw hrw hb3 ht3 hW3 HR0
    cases ro with
    | none =>
      have hs : schemaWhy limit l = (0, []) := by unfold schemaWhy; rw [if_neg h1, if_neg h2, ← hr]
      rw [hs]
      go_enter_defers Tryz.func60, Tryz.ntmps60
      go_wp2_with fail
      rw [← HW3.out]
      refine HW.out.mono ?_
      rintro e w4 ⟨hg4, rfl, ht4⟩
      have HR4 := Lib.hid (HRw.out w4 hg4)
      have HB4 := Lib.hid (HBw.out w4 hg4)
      obtain ⟨c0, c1⟩ := HR4.out.cells
      have f0 := HR4.out.free 0
      have f1 := HR4.out.free 1
      go_wp2_with fail
      refine leaves_cons (f := 89) (args := #[.pointer (some ⟨w.heap.size + 1, 0, none⟩)]) (by simp) (by simp [go_sem]) ?_
      refine (catch_idle (w.heap.size + 1) _).mono ?_
      rintro e u' w'' ⟨rfl, rfl, rfl⟩
      obtain ⟨q0, q1⟩ := HR4.out.filled (.int .i64 0) (.slice none 0 0)
      simp [Leaves, settle, results, Tryz.results60, go_sem, q0, q1]
      exact ⟨_, rfl, (HB4.out.setCell (by simp only; omega) _).setCell (by simp only; omega) _, World.ownsRow_nil _ _ _ _⟩
    | some ce =>
      obtain ⟨code, p⟩ := ce
      have hs : schemaWhy limit l = (code, p) := by unfold schemaWhy; rw [if_neg h1, if_neg h2, ← hr]
      rw [hs]
      go_enter_defers Tryz.func60, Tryz.ntmps60
      go_wp2_with fail
      rw [← HW3.out]
      refine HW.out.mono ?_
      rintro e w4 ⟨hg4, v, rfl, ho4⟩
      have HR4 := Lib.hid (HRw.out w4 hg4)
      have HB4 := Lib.hid (HBw.out w4 hg4)
      obtain ⟨A, n, cp, rfl⟩ : ∃ A n cp, v = .slice A n cp := by
        rcases ho4.2 with ⟨rfl, _⟩ | ⟨g, cap, cur, rfl, _⟩
        · exact ⟨_, _, _, rfl⟩
        · exact ⟨_, _, _, rfl⟩
      have HO4 := Lib.hid ho4
      clear ho4
      go_wp2_with fail
      refine leaves_cons (f := 89) (args := #[.pointer (some ⟨w.heap.size + 1, 0, none⟩)]) (by simp) (by simp [go_sem]) ?_
      refine (catch_wrong (w.heap.size + 1) (.int .i64 0) (.slice none 0 0) code A n cp [] _ HR4.out).mono ?_
      rintro e u' w'' ⟨rfl, rfl, rfl⟩
      obtain ⟨q0, q1⟩ := HR4.out.filled (.int .i64 code) (.slice A n cp)
      simp [Leaves, settle, results, Tryz.results60, go_sem, q0, q1]
      exact ⟨_, rfl, (HB4.out.setCell (by simp only; omega) _).setCell (by simp only; omega) _, ownsRow_low ((HO4.out.setOut (by simp only; omega) _).setOut (by simp only; omega) _) (by omega)⟩
end Go.Proofs.YtcjllhdbepchnaaGreatDoor

/-! schema.Check: a fault, or none. -/
namespace Go.Proofs.YtcjllhdbepchnaaGreatDoor
open Go.RowKit Go.WideShapes
set_option linter.unusedVariables false
/-- A fault in memory. -/
def FltAt (w : World) (b : Nat) (code at_ : Int) (v : Value) : Prop := w.heap[b]? = some (.cells #[.int .i64 code, .int .i64 at_, v, .nilIface] 93 (0, 0))
section
variable {w w' : World} {b : Nat} {code at_ : Int} {v : Value}
theorem FltAt.cells (h : FltAt w b code at_ v) : w.cell? ⟨b, 0, none⟩ = some (.int .i64 code) ∧ w.cell? ⟨b, 1, none⟩ = some (.int .i64 at_) ∧ w.cell? ⟨b, 2, none⟩ = some v ∧ w.cell? ⟨b, 3, none⟩ = some .nilIface := by simp [World.cell?, show w.heap[b]? = _ from h]
theorem FltAt.free (h : FltAt w b code at_ v) (i : Nat) : w.frozen? ⟨b, i, none⟩ = false := by simp [World.frozen?, show w.heap[b]? = _ from h]
theorem FltAt.lt (h : FltAt w b code at_ v) : b < w.heap.size := (Array.getElem?_eq_some_iff.1 h).1
theorem FltAt.below {B : Nat} (h : FltAt w b code at_ v) (hb : Below B w w') (hB : b < B) : FltAt w' b code at_ v := (hb.block b hB).trans h
end
theorem schemaWhy_told (limit : Int) (l : List FT) : ((schemaWhy limit l).1 = 0 ∧ (schemaWhy limit l).2 = []) ∨ (111 ≤ (schemaWhy limit l).1 ∧ (schemaWhy limit l).1 ≤ 116 ∧ (schemaWhy limit l).2.length ≤ 17) := by
  unfold schemaWhy
  by_cases h1 : limit < 1 ∨ 65536 < limit
  · rw [if_pos h1]; exact .inr (by simp)
  rw [if_neg h1]
  by_cases h2 : l.length = 0
  · rw [if_pos h2]; exact .inr (by simp)
  rw [if_neg h2]
  have h := FT.walkL_told [] [] 0 0 (by simp) (by omega) l
  unfold Told at h
  split
  · rename_i e he; rw [he] at h; exact .inr ⟨h.1, h.2.1, h.2.2.1⟩
  · exact .inl ⟨rfl, rfl⟩
/-- What is told of what is wrong. -/
def ErrAt (r : Int × List Nat) (B : Nat) (w : World) (v : Value) : Prop := if r.1 = 0 then v = .nilIface else ∃ b p, v = .iface 91 (.pointer (some ⟨b, 0, none⟩)) ∧ B ≤ b ∧ FltAt w b r.1 0 p ∧ w.ownsRow B 3 1 p r.2.length (pathVals r.2)
def ChkPost (r : Int × List Nat) (w : World) (e : Ending) (w' : World) : Prop := ∃ v, e = .returned v ∧ Below w.heap.size w w' ∧ ErrAt r w.heap.size w' v
set_option maxRecDepth 100000 in
set_option maxHeartbeats 2000000 in
theorem schChk_any (limit : Int) (l : List FT) (a : Option Addr) (c : Nat) (w : World) (hf : FieldsAt w (· < w.heap.size) l a) (hlc : l.length ≤ c) (hc : c ≤ 140737488351232) :
    Calls Tryz.prog 31 #[.agg #[.int .i64 limit, .slice a l.length c]] w (ChkPost (schemaWhy limit l) w) := by
  have hb1 := below_a1 w (.cells #[.int .i64 limit, .slice a l.length c] 24)
  have HC := Lib.hid (schCheck_any limit l a c _ ((hf.below hb1).wide hb1.size) hlc hc)
  have HB1 := Lib.hid hb1
  have htold := schemaWhy_told limit l
  obtain ⟨r, hr⟩ : ∃ r, r = schemaWhy limit l := ⟨_, rfl⟩
  rw [← hr] at HC htold ⊢
  clear hr hf hb1
  obtain ⟨code, p⟩ := r
  go_enter Tryz.func31, Tryz.ntmps31
  go_wp2_with fail
  refine HC.out.mono ?_
  rintro e w2 ⟨v, rfl, hb2, ho2⟩
  have hz2 := hb2.size
  rw [World.size_alloc] at hz2 ho2
  obtain ⟨A, n, cp, rfl⟩ : ∃ A n cp, v = .slice A n cp := by
    rcases ho2.2 with ⟨rfl, _⟩ | ⟨g, cap, cur, rfl, _⟩
    · exact ⟨_, _, _, rfl⟩
    · exact ⟨_, _, _, rfl⟩
  have HO2 := Lib.hid ho2
  have HB2 := Lib.hid (HB1.out.trans (hb2.mono (by simp)))
  clear ho2 hb2 HC HB1
  by_cases h0 : code = 0
  · subst h0
    go_wp2_with fail
    go_ret
    exact ⟨_, rfl, HB2.out.alloc (by omega) _, by unfold ErrAt; rw [if_pos rfl]; rfl⟩
  · have e0 : (code == 0) = false := by rw [beq_eq_false_iff_ne]; exact h0
    go_wp2_with fail
    go_ret
    refine ⟨_, rfl, (HB2.out.alloc (by omega) _).alloc (by simp; omega) _, ?_⟩
    unfold ErrAt
    rw [if_neg h0]
    refine ⟨_, .slice A n cp, rfl, ?_, ?_, ?_⟩
    · omega
    · have h9 := World.alloc_heap_new (w2.alloc (.cells #[.int .i64 code, .slice A n cp] 115)) (.cells #[.int .i64 code, .int .i64 0, .slice A n cp, .nilIface] 93)
      rw [World.size_alloc] at h9
      exact h9
    · exact ownsRow_low ((HO2.out.alloc _).alloc _) (by omega)
end Go.Proofs.YtcjllhdbepchnaaGreatDoor

/-! A block of one cell. -/
namespace Go.Proofs.YtcjllhdbepchnaaGreatDoor
open Go.RowKit Go.WideShapes
set_option linter.unusedVariables false
/-- A box of one cell. -/
def BoxAt (w : World) (T : Nat) (v : Value) (ty : TypeId) : Prop := w.heap[T]? = some (.cells #[v] ty (0, 0))
theorem BoxAt.cell {w : World} {T : Nat} {v : Value} {ty : TypeId} (h : BoxAt w T v ty) : w.cell? ⟨T, 0, none⟩ = some v := by simp [World.cell?, show w.heap[T]? = _ from h]
theorem BoxAt.free {w : World} {T : Nat} {v : Value} {ty : TypeId} (h : BoxAt w T v ty) : w.frozen? ⟨T, 0, none⟩ = false := by simp [World.frozen?, show w.heap[T]? = _ from h]
theorem BoxAt.lt {w : World} {T : Nat} {v : Value} {ty : TypeId} (h : BoxAt w T v ty) : T < w.heap.size := (Array.getElem?_eq_some_iff.1 h).1
theorem BoxAt.set {w : World} {T : Nat} {v u : Value} {ty : TypeId} (h : BoxAt w T v ty) : BoxAt (w.setCell ⟨T, 0, none⟩ u) T u ty := by
  unfold BoxAt at *; simp [World.setCell, Array.getElem?_modify, h]
theorem BoxAt.of {w w' : World} {T : Nat} {v : Value} {ty : TypeId} (h : BoxAt w T v ty) (hh : w'.heap[T]? = w.heap[T]?) : BoxAt w' T v ty := hh.trans h
theorem BoxAt.below {w w' : World} {T B : Nat} {v : Value} {ty : TypeId} (h : BoxAt w T v ty) (hb : Below B w w') (hT : T < B) : BoxAt w' T v ty := h.of (hb.block T hT)
theorem BoxAt.new (w : World) (T : Nat) (v : Value) (ty : TypeId) (hT : T = w.heap.size) : BoxAt (w.alloc (.cells #[v] ty)) T v ty := by subst hT; exact World.alloc_heap_new w _
end Go.Proofs.YtcjllhdbepchnaaGreatDoor
