/-
  A text of marks by lines; what ucd.Load holds while it reads them; how it ends by a fault.
-/
import Derived.Test.YtlkdjdcnbcegeaaGreatDoorKP
import Derived.Test.YtlkdjdcnbcegeaaGreatDoorKR
import Derived.Defers
import Derived.Recover
import Derived.Laws.Pointers
/-! A text of marks by lines; what ucd.Load holds while it reads them; how it ends by a fault. -/
namespace Go.Proofs.YtlkdjdcnbcegeaaGreatDoor
open Go.RowKit Go.WideShapes
set_option linter.unusedVariables false
set_option linter.unusedSimpArgs false
/-- The lines of a text of marks. -/
def mkLs (l : List MK) : List (Option MK) := if l = [] then [none] else l.map some
def mText : Option MK → List UInt8
  | none => []
  | some x => x.text
theorem mkLs_id (l : List MK) : (mkLs l).filterMap id = l := by
  unfold mkLs
  split
  · next h => subst h; rfl
  · rw [List.filterMap_map]; simp
theorem mkLs_text (l : List MK) : Lib.join ((mkLs l).map mText) [10] = ucdText l := by
  unfold mkLs ucdText
  split
  · next h => subst h; rfl
  · rw [List.map_map]; rfl
theorem mkLs_mem {l : List MK} {x : MK} (h : some x ∈ mkLs l) : x ∈ l := by
  unfold mkLs at h
  split at h
  · simp at h
  · simpa using h
theorem mkLs_ne (l : List MK) : mkLs l ≠ [] := by
  unfold mkLs
  split
  · simp
  · next h => simpa using h
theorem mkLs_at {l : List MK} {k : Nat} {x : MK} (hk : k < (mkLs l).length) (ho : (mkLs l)[k] = some x) : ((mkLs l).take k).filterMap id = l.take k ∧ k < l.length ∧ l[k]? = some x ∧ ((mkLs l).take (k + 1)).filterMap id = l.take (k + 1) := by
  have hne : l ≠ [] := by
    intro e
    subst e
    have h1 : (mkLs ([] : List MK)) = [none] := rfl
    simp only [h1] at hk ho
    have : k = 0 := by simpa using hk
    subst this
    simp at ho
  have hm : mkLs l = l.map some := by unfold mkLs; rw [if_neg hne]
  simp only [hm] at hk ho ⊢
  have hk2 : k < l.length := by simpa using hk
  have hx : l[k] = x := by simpa using ho
  refine ⟨?_, hk2, by rw [List.getElem?_eq_getElem hk2, hx], ?_⟩
  · rw [← List.map_take, List.filterMap_map]; simp
  · rw [← List.map_take, List.filterMap_map]; simp
theorem hexU_ne10 : ∀ d, d < 16 → hexU d ≠ 10 := by decide
theorem hexU_ne35 : ∀ d, d < 16 → hexU d ≠ 35 := by decide
theorem dec_no10 {n : Nat} (hn : n ≤ 254) : (10 : UInt8) ∉ Lib.decDigits n := by
  have h : (List.range 255).all (fun n => decide ((10 : UInt8) ∉ Lib.decDigits n)) = true := by kernel_rfl
  exact of_decide_eq_true (List.all_eq_true.1 h n (List.mem_range.2 (by omega)))
theorem pts_no10 : ∀ l : List Int, (10 : UInt8) ∉ ptsText l
  | [] => by simp [ptsText, Lib.join, List.intercalate]
  | [p] => by simpa [ptsText, Lib.join, List.intercalate, List.intersperse] using hexW_no hexU_ne10 p.toNat
  | p :: q :: r => by
    have ih := pts_no10 (q :: r)
    unfold ptsText at ih ⊢
    rw [List.map_cons, List.map_cons, join_more]
    simp only [List.mem_append, List.mem_cons, not_or]
    exact ⟨hexW_no hexU_ne10 _, by decide, by simpa using ih⟩
theorem mk_no10 {m : MK} (h : m.may = true) : (10 : UInt8) ∉ m.text := by
  obtain ⟨_, hc, _⟩ := may_of h
  unfold MK.text MK.head
  simp only [List.mem_append, List.mem_cons, List.not_mem_nil, or_false, not_or]
  exact ⟨⟨⟨⟨hexW_no hexU_ne10 _, by decide⟩, dec_no10 (by omega)⟩, by decide⟩, pts_no10 _⟩
theorem mk_head (m : MK) : ∃ c r, m.text = c :: r ∧ c ≠ 35 := by
  have h4 : 4 ≤ (hexW m.pt.toNat).length := by rw [hexW_len]; omega
  have hno : (35 : UInt8) ∉ hexW m.pt.toNat := hexW_no hexU_ne35 _
  match hw : hexW m.pt.toNat, h4 with
  | c :: r, _ =>
    refine ⟨c, r ++ [59] ++ Lib.decDigits m.cls.toNat ++ [59] ++ ptsText m.parts, ?_, ?_⟩
    · simp only [MK.text, MK.head, hw, List.cons_append, List.append_assoc]
    · rw [hw] at hno
      intro e
      exact hno (by simp [e])
/-- The lines at which points stand. -/
def LinesM (w : World) (b : Nat) (l : List MK) : Prop := ∃ lm : List (Value × Value), MapAt w b IntKey lm ∧ lm.length = l.length ∧ ∀ (i : Nat) x p, l[i]? = some x → lm[i]? = some p → p.1 = Value.int .i64 x.pt ∧ p.2 = Value.int .i64 ((i : Int) + 1)
theorem LinesM.keep {w w' : World} {b : Nat} {l : List MK} (h : LinesM w b l) (hb : w'.heap[b]? = w.heap[b]?) : LinesM w' b l := by
  obtain ⟨lm, h1, h2⟩ := h
  exact ⟨lm, h1.keep hb, h2⟩
theorem LinesM.lt {w : World} {b : Nat} {l : List MK} (h : LinesM w b l) : b < w.heap.size := by obtain ⟨lm, h1, _⟩ := h; exact h1.lt
theorem LinesM.look {w : World} {b : Nat} {l : List MK} (h : LinesM w b l) {p : Int} (hp : p ∈ l.map MK.pt) : ∃ n : Int, (Instr.lookup 99 (.map (some b)) (.int .i64 p) false).run Tryz.prog w = .ok (.int .i64 n) w ∧ 1 ≤ n ∧ n ≤ l.length := by
  obtain ⟨lm, h1, h2, h3⟩ := h
  rcases h1.run_look (P := Tryz.prog) (keyOk_int Tryz.underlying3) Tryz.underlying99 (Tryz.zeroValue3 w) (key := .int .i64 p) ⟨p, rfl⟩ false with ⟨hr, hno⟩ | ⟨u, hr, hu⟩
  · exfalso
    obtain ⟨x, hx, e⟩ := List.mem_map.1 hp
    obtain ⟨i, hi, rfl⟩ := List.getElem_of_mem hx
    have h9 := h3 i l[i] (lm[i]'(by omega)) (List.getElem?_eq_getElem hi) (List.getElem?_eq_getElem (by omega))
    refine hno (lm[i]'(by omega)).2 ?_
    have e1 : (lm[i]'(by omega)) = (Value.int .i64 p, (lm[i]'(by omega)).2) := by rw [← e, ← h9.1]
    rw [← e1]
    exact List.getElem_mem _
  · obtain ⟨i, hi, e⟩ := List.getElem_of_mem hu
    have hil : i < l.length := by omega
    have h9 := h3 i l[i] lm[i] (List.getElem?_eq_getElem hil) (List.getElem?_eq_getElem hi)
    rw [e] at h9
    have e2 : u = .int .i64 ((i : Int) + 1) := h9.2
    subst e2
    exact ⟨_, hr, by omega, by omega⟩
theorem LinesM.put {w : World} {b : Nat} {l : List MK} (h : LinesM w b l) (x : MK) (hx : x.pt ∉ l.map MK.pt) (n : Int) (hn : n = (l.length : Int) + 1) : ∃ w', (Instr.mapUpdate 99 (.map (some b)) (.int .i64 x.pt) (.int .i64 n)).run Tryz.prog w = .ok () w' ∧ LinesM w' b (l ++ [x]) ∧ (∃ K m m', MapAt w b K m ∧ MapAt w' b K m') ∧ w.grownBy w' (some b) ∧ w'.heap.size = w.heap.size := by
  obtain ⟨lm, h1, h2, h3⟩ := h
  obtain ⟨w', l', r1, r2, r3, r4, _, r6, _⟩ := h1.run_put (P := Tryz.prog) (keyOk_int Tryz.underlying3) Tryz.underlying99 (key := .int .i64 x.pt) (val := .int .i64 n) ⟨x.pt, rfl⟩
  have e := r6 (fun v hv => by
    obtain ⟨i, hi, e⟩ := List.getElem_of_mem hv
    have h9 := h3 i l[i] lm[i] (List.getElem?_eq_getElem (by omega)) (List.getElem?_eq_getElem hi)
    rw [e] at h9
    have : x.pt = l[i].pt := by simpa using h9.1
    exact hx (List.mem_map.2 ⟨l[i], List.getElem_mem _, this.symm⟩))
  subst e
  refine ⟨w', r1, ⟨_, r2, by simp [h2], fun i y p hy hp => ?_⟩, ⟨_, _, _, h1, r2⟩, r3, r4⟩
  by_cases hil : i < lm.length
  · rw [List.getElem?_append_left (by omega)] at hy
    rw [List.getElem?_append_left hil] at hp
    exact h3 i y p hy hp
  · have hi2 : i = lm.length := by
      have := (List.getElem?_eq_some_iff.1 hp).1
      simp at this
      omega
    subst hi2
    rw [List.getElem?_append_right (by omega)] at hy hp
    simp [h2] at hy hp
    subst hy hp
    exact ⟨rfl, by rw [hn, h2]⟩
theorem DataM.fresh {w : World} {Q : Nat → Prop} {D b : Nat} {l : List MK} (h : DataM w Q D b l) {p : Int} (hp : p ∉ l.map MK.pt) : ∃ m : List (Value × Value), MapAt w b IntKey m ∧ m.length = l.length ∧ (∀ (i : Nat) x p, l[i]? = some x → m[i]? = some p → MarkM w Q x p) ∧ ∀ v, (Value.int .i64 p, v) ∉ m := by
  obtain ⟨m, a1, a2, a3⟩ := h.m
  refine ⟨m, a1, a2, a3, fun v hv => ?_⟩
  obtain ⟨i, hi, e⟩ := List.getElem_of_mem hv
  have h9 := a3 i l[i] m[i] (List.getElem?_eq_getElem (by omega)) (List.getElem?_eq_getElem hi)
  rw [e] at h9
  have : p = l[i].pt := by simpa using h9.1
  exact hp (List.mem_map.2 ⟨l[i], List.getElem_mem _, this.symm⟩)
end Go.Proofs.YtlkdjdcnbcegeaaGreatDoor

/-! ucd.Load's deferred function: a fault is caught; nothing to catch. -/
namespace Go.Proofs.YtlkdjdcnbcegeaaGreatDoor
open Go.RowKit Go.WideShapes
set_option linter.unusedVariables false
set_option linter.unusedSimpArgs false
theorem assert_fault (c : Int) (xT : TypeId) (w : World) : (Instr.typeAssert (.iface 109 (.agg #[.int .i64 c])) xT 109 true).run Tryz.prog w = .ok (.tuple #[.agg #[.int .i64 c], .bool true]) w := by
  simp [Instr.typeAssert, run_underlying Tryz.underlying109, go_sem, Result.andThen]
/-- The three results' boxes, and the line's. -/
structure Boxes (w : World) (P0 P1 P2 A : Nat) (x y z n : Value) : Prop where
  a : w.heap[P0]? = some (.cells #[x] 25 (0, 0))
  b : w.heap[P1]? = some (.cells #[y] 32 (0, 0))
  c : w.heap[P2]? = some (.cells #[z] 3 (0, 0))
  d : w.heap[A]? = some (.cells #[n] 3 (0, 0))
theorem Boxes.keep {w w' : World} {P0 P1 P2 A : Nat} {x y z n : Value} (h : Boxes w P0 P1 P2 A x y z n) (h0 : w'.heap[P0]? = w.heap[P0]?) (h1 : w'.heap[P1]? = w.heap[P1]?) (h2 : w'.heap[P2]? = w.heap[P2]?) (h3 : w'.heap[A]? = w.heap[A]?) : Boxes w' P0 P1 P2 A x y z n :=
  ⟨h0.trans h.a, h1.trans h.b, h2.trans h.c, h3.trans h.d⟩
theorem Boxes.lt {w : World} {P0 P1 P2 A : Nat} {x y z n : Value} (h : Boxes w P0 P1 P2 A x y z n) : P0 < w.heap.size ∧ P1 < w.heap.size ∧ P2 < w.heap.size ∧ A < w.heap.size :=
  ⟨(Array.getElem?_eq_some_iff.1 h.a).1, (Array.getElem?_eq_some_iff.1 h.b).1, (Array.getElem?_eq_some_iff.1 h.c).1, (Array.getElem?_eq_some_iff.1 h.d).1⟩
set_option maxRecDepth 100000 in
set_option maxHeartbeats 2000000 in
theorem catch_idle (P0 P1 P2 A : Nat) (w : World) :
    CallsD Tryz.prog 52 #[.pointer (some ⟨A, 0, none⟩), .pointer (some ⟨P0, 0, none⟩), .pointer (some ⟨P1, 0, none⟩), .pointer (some ⟨P2, 0, none⟩)] .returning w fun e u' w' => e = .returned (.tuple #[]) ∧ u' = .returning ∧ w' = w := by
  refine callsD_of_wpS Tryz.func52 rfl fun c₀ cs hu => ?_
  apply wpS_seq
  apply wpS_region
  simp [wpOpsS, go_sem, recoverD, hu, Tryz.ntmps52, Exit.thenS]
  refine wpS_of_wp ?_
  change Code.wp _ _ _ { tmps := #[.pointer (some ⟨A, 0, none⟩), .pointer (some ⟨P0, 0, none⟩), .pointer (some ⟨P1, 0, none⟩), .pointer (some ⟨P2, 0, none⟩), .nilIface, undef, undef, .nilIface, undef, undef, undef, undef, undef, undef, undef, undef, undef, undef, undef, undef, undef], defers := [] } w
  go_wp2_with fail
  exact ⟨rfl, _, (by cases c₀; simp only at hu; subst hu; rfl), _, results_none rfl _ _ _, rfl, rfl, rfl⟩
set_option maxRecDepth 100000 in
set_option maxHeartbeats 2000000 in
theorem catch_fault (P0 P1 P2 A : Nat) (x y z : Value) (code line : Int) (older : List PanicEntry) (w : World) (h : Boxes w P0 P1 P2 A x y z (.int .i64 line)) (hd : P0 ≠ P1 ∧ P0 ≠ P2 ∧ P1 ≠ P2 ∧ A ≠ P0 ∧ A ≠ P1 ∧ A ≠ P2) (B : Nat) (hB : B ≤ P0 ∧ B ≤ P1 ∧ B ≤ P2) :
    CallsD Tryz.prog 52 #[.pointer (some ⟨A, 0, none⟩), .pointer (some ⟨P0, 0, none⟩), .pointer (some ⟨P1, 0, none⟩), .pointer (some ⟨P2, 0, none⟩)] (.panicking ({ v := .iface 109 (.agg #[.int .i64 code]), recovered := false } :: older)) w fun e u' w' =>
      e = .returned (.tuple #[]) ∧ u' = .panicking ({ v := .iface 109 (.agg #[.int .i64 code]), recovered := true } :: older) ∧ Below B w w' ∧ w'.cell? ⟨P0, 0, none⟩ = some (.pointer none) ∧ w'.cell? ⟨P1, 0, none⟩ = some (.int .i64 code) ∧ w'.cell? ⟨P2, 0, none⟩ = some (.int .i64 line) := by
  refine callsD_of_wpS Tryz.func52 rfl fun c₀ cs hu => ?_
  apply wpS_seq
  apply wpS_region
  simp [wpOpsS, go_sem, recoverD, hu, Tryz.ntmps52, Exit.thenS]
  refine wpS_of_wp ?_
  change Code.wp _ _ _ { tmps := #[.pointer (some ⟨A, 0, none⟩), .pointer (some ⟨P0, 0, none⟩), .pointer (some ⟨P1, 0, none⟩), .pointer (some ⟨P2, 0, none⟩), .iface 109 (.agg #[.int .i64 code]), undef, undef, .iface 109 (.agg #[.int .i64 code]), undef, undef, undef, undef, undef, undef, undef, undef, undef, undef, undef, undef, undef], defers := [] } w
  have hta := assert_fault code
  obtain ⟨l0, l1, l2, l3⟩ := h.lt
  obtain ⟨d1, d2, d3, d4, d5, d6⟩ := hd
  have HBo := Lib.hid h
  clear h
  go_upto_region 5 with fail
  have hX_0 := World.alloc_heap_new w (.cells #[.int .i64 code] 109)
  have hP0_0 := (Below.heap_alloc w (.cells #[.int .i64 code] 109) P0 l0).trans HBo.out.a
  have hP1_0 := (Below.heap_alloc w (.cells #[.int .i64 code] 109) P1 l1).trans HBo.out.b
  have hP2_0 := (Below.heap_alloc w (.cells #[.int .i64 code] 109) P2 l2).trans HBo.out.c
  have hA_0 := (Below.heap_alloc w (.cells #[.int .i64 code] 109) A l3).trans HBo.out.d
  have hb1 : Below B w (w.alloc (.cells #[.int .i64 code] 109)) := (Below.refl B w).alloc (by omega) _
  generalize w.alloc (.cells #[.int .i64 code] 109) = w1 at hX_0 hP0_0 hP1_0 hP2_0 hA_0 hb1 ⊢
  have hP0_1 : (w1.setCell ⟨P0, 0, none⟩ (.pointer none)).heap[P0]? = some (.cells #[(.pointer none)] 25 (0, 0)) := by have h9 := heap_setCell_same w1 P0 0 _ _ (.pointer none) hP0_0; simpa using h9
  have hP1_1 := (Below.heap_setCell w1 ⟨P0, 0, none⟩ (.pointer none) P1 (by show P1 ≠ P0; omega)).trans hP1_0
  have hP2_1 := (Below.heap_setCell w1 ⟨P0, 0, none⟩ (.pointer none) P2 (by show P2 ≠ P0; omega)).trans hP2_0
  have hA_1 := (Below.heap_setCell w1 ⟨P0, 0, none⟩ (.pointer none) A (by show A ≠ P0; omega)).trans hA_0
  have hX_1 := (Below.heap_setCell w1 ⟨P0, 0, none⟩ (.pointer none) w.heap.size (by show w.heap.size ≠ P0; omega)).trans hX_0
  have hP0_2 := (Below.heap_setCell (w1.setCell ⟨P0, 0, none⟩ (.pointer none)) ⟨P1, 0, none⟩ (.int .i64 code) P0 (by show P0 ≠ P1; omega)).trans hP0_1
  have hP1_2 : ((w1.setCell ⟨P0, 0, none⟩ (.pointer none)).setCell ⟨P1, 0, none⟩ (.int .i64 code)).heap[P1]? = some (.cells #[(.int .i64 code)] 32 (0, 0)) := by have h9 := heap_setCell_same (w1.setCell ⟨P0, 0, none⟩ (.pointer none)) P1 0 _ _ (.int .i64 code) hP1_1; simpa using h9
  have hP2_2 := (Below.heap_setCell (w1.setCell ⟨P0, 0, none⟩ (.pointer none)) ⟨P1, 0, none⟩ (.int .i64 code) P2 (by show P2 ≠ P1; omega)).trans hP2_1
  have hA_2 := (Below.heap_setCell (w1.setCell ⟨P0, 0, none⟩ (.pointer none)) ⟨P1, 0, none⟩ (.int .i64 code) A (by show A ≠ P1; omega)).trans hA_1
  have hX_2 := (Below.heap_setCell (w1.setCell ⟨P0, 0, none⟩ (.pointer none)) ⟨P1, 0, none⟩ (.int .i64 code) w.heap.size (by show w.heap.size ≠ P1; omega)).trans hX_1
  have hP0_3 := (Below.heap_setCell ((w1.setCell ⟨P0, 0, none⟩ (.pointer none)).setCell ⟨P1, 0, none⟩ (.int .i64 code)) ⟨P2, 0, none⟩ (.int .i64 line) P0 (by show P0 ≠ P2; omega)).trans hP0_2
  have hP1_3 := (Below.heap_setCell ((w1.setCell ⟨P0, 0, none⟩ (.pointer none)).setCell ⟨P1, 0, none⟩ (.int .i64 code)) ⟨P2, 0, none⟩ (.int .i64 line) P1 (by show P1 ≠ P2; omega)).trans hP1_2
  have hP2_3 : (((w1.setCell ⟨P0, 0, none⟩ (.pointer none)).setCell ⟨P1, 0, none⟩ (.int .i64 code)).setCell ⟨P2, 0, none⟩ (.int .i64 line)).heap[P2]? = some (.cells #[(.int .i64 line)] 3 (0, 0)) := by have h9 := heap_setCell_same ((w1.setCell ⟨P0, 0, none⟩ (.pointer none)).setCell ⟨P1, 0, none⟩ (.int .i64 code)) P2 0 _ _ (.int .i64 line) hP2_2; simpa using h9
  have hA_3 := (Below.heap_setCell ((w1.setCell ⟨P0, 0, none⟩ (.pointer none)).setCell ⟨P1, 0, none⟩ (.int .i64 code)) ⟨P2, 0, none⟩ (.int .i64 line) A (by show A ≠ P2; omega)).trans hA_2
  have hX_3 := (Below.heap_setCell ((w1.setCell ⟨P0, 0, none⟩ (.pointer none)).setCell ⟨P1, 0, none⟩ (.int .i64 code)) ⟨P2, 0, none⟩ (.int .i64 line) w.heap.size (by show w.heap.size ≠ P2; omega)).trans hX_2
  have hk0 : w1.cell? ⟨w.heap.size, 0, none⟩ = some (.int .i64 code) ∧ w1.cell? ⟨A, 0, none⟩ = some (.int .i64 line) ∧ w1.frozen? ⟨P0, 0, none⟩ = false ∧ w1.frozen? ⟨P1, 0, none⟩ = false ∧ w1.frozen? ⟨P2, 0, none⟩ = false := ⟨by simp [World.cell?, hX_0], by simp [World.cell?, hA_0], by simp [World.frozen?, hP0_0], by simp [World.frozen?, hP1_0], by simp [World.frozen?, hP2_0]⟩
  have hk1 : (w1.setCell ⟨P0, 0, none⟩ (.pointer none)).cell? ⟨w.heap.size, 0, none⟩ = some (.int .i64 code) ∧ (w1.setCell ⟨P0, 0, none⟩ (.pointer none)).cell? ⟨A, 0, none⟩ = some (.int .i64 line) ∧ (w1.setCell ⟨P0, 0, none⟩ (.pointer none)).frozen? ⟨P0, 0, none⟩ = false ∧ (w1.setCell ⟨P0, 0, none⟩ (.pointer none)).frozen? ⟨P1, 0, none⟩ = false ∧ (w1.setCell ⟨P0, 0, none⟩ (.pointer none)).frozen? ⟨P2, 0, none⟩ = false := ⟨by simp [World.cell?, hX_1], by simp [World.cell?, hA_1], by simp [World.frozen?, hP0_1], by simp [World.frozen?, hP1_1], by simp [World.frozen?, hP2_1]⟩
  have hk2 : ((w1.setCell ⟨P0, 0, none⟩ (.pointer none)).setCell ⟨P1, 0, none⟩ (.int .i64 code)).cell? ⟨w.heap.size, 0, none⟩ = some (.int .i64 code) ∧ ((w1.setCell ⟨P0, 0, none⟩ (.pointer none)).setCell ⟨P1, 0, none⟩ (.int .i64 code)).cell? ⟨A, 0, none⟩ = some (.int .i64 line) ∧ ((w1.setCell ⟨P0, 0, none⟩ (.pointer none)).setCell ⟨P1, 0, none⟩ (.int .i64 code)).frozen? ⟨P0, 0, none⟩ = false ∧ ((w1.setCell ⟨P0, 0, none⟩ (.pointer none)).setCell ⟨P1, 0, none⟩ (.int .i64 code)).frozen? ⟨P1, 0, none⟩ = false ∧ ((w1.setCell ⟨P0, 0, none⟩ (.pointer none)).setCell ⟨P1, 0, none⟩ (.int .i64 code)).frozen? ⟨P2, 0, none⟩ = false := ⟨by simp [World.cell?, hX_2], by simp [World.cell?, hA_2], by simp [World.frozen?, hP0_2], by simp [World.frozen?, hP1_2], by simp [World.frozen?, hP2_2]⟩
  have hk3 : (((w1.setCell ⟨P0, 0, none⟩ (.pointer none)).setCell ⟨P1, 0, none⟩ (.int .i64 code)).setCell ⟨P2, 0, none⟩ (.int .i64 line)).cell? ⟨w.heap.size, 0, none⟩ = some (.int .i64 code) ∧ (((w1.setCell ⟨P0, 0, none⟩ (.pointer none)).setCell ⟨P1, 0, none⟩ (.int .i64 code)).setCell ⟨P2, 0, none⟩ (.int .i64 line)).cell? ⟨A, 0, none⟩ = some (.int .i64 line) ∧ (((w1.setCell ⟨P0, 0, none⟩ (.pointer none)).setCell ⟨P1, 0, none⟩ (.int .i64 code)).setCell ⟨P2, 0, none⟩ (.int .i64 line)).frozen? ⟨P0, 0, none⟩ = false ∧ (((w1.setCell ⟨P0, 0, none⟩ (.pointer none)).setCell ⟨P1, 0, none⟩ (.int .i64 code)).setCell ⟨P2, 0, none⟩ (.int .i64 line)).frozen? ⟨P1, 0, none⟩ = false ∧ (((w1.setCell ⟨P0, 0, none⟩ (.pointer none)).setCell ⟨P1, 0, none⟩ (.int .i64 code)).setCell ⟨P2, 0, none⟩ (.int .i64 line)).frozen? ⟨P2, 0, none⟩ = false := ⟨by simp [World.cell?, hX_3], by simp [World.cell?, hA_3], by simp [World.frozen?, hP0_3], by simp [World.frozen?, hP1_3], by simp [World.frozen?, hP2_3]⟩
  have hc0 : w1.cell? ⟨P0, 0, none⟩ = some x := by simp [World.cell?, hP0_0]
  have hc1 : (w1.setCell ⟨P0, 0, none⟩ (.pointer none)).cell? ⟨P1, 0, none⟩ = some y := by simp [World.cell?, hP1_1]
  have hc2 : ((w1.setCell ⟨P0, 0, none⟩ (.pointer none)).setCell ⟨P1, 0, none⟩ (.int .i64 code)).cell? ⟨P2, 0, none⟩ = some z := by simp [World.cell?, hP2_2]
  have HZP0 := Lib.hid (show (((w1.setCell ⟨P0, 0, none⟩ (.pointer none)).setCell ⟨P1, 0, none⟩ (.int .i64 code)).setCell ⟨P2, 0, none⟩ (.int .i64 line)).cell? ⟨P0, 0, none⟩ = some (.pointer none) by simp [World.cell?, hP0_3])
  have HZP1 := Lib.hid (show (((w1.setCell ⟨P0, 0, none⟩ (.pointer none)).setCell ⟨P1, 0, none⟩ (.int .i64 code)).setCell ⟨P2, 0, none⟩ (.int .i64 line)).cell? ⟨P1, 0, none⟩ = some (.int .i64 code) by simp [World.cell?, hP1_3])
  have HZP2 := Lib.hid (show (((w1.setCell ⟨P0, 0, none⟩ (.pointer none)).setCell ⟨P1, 0, none⟩ (.int .i64 code)).setCell ⟨P2, 0, none⟩ (.int .i64 line)).cell? ⟨P2, 0, none⟩ = some (.int .i64 line) by simp [World.cell?, hP2_3])
  have HB1 := Lib.hid hb1
  clear hP0_0 hP1_0 hP2_0 hA_0 hX_0 hP0_1 hP1_1 hP2_1 hA_1 hX_1 hP0_2 hP1_2 hP2_2 hA_2 hX_2 hP0_3 hP1_3 hP2_3 hA_3 hX_3 hb1
  go_region_held3 (fun W => W.cell? ⟨w.heap.size, 0, none⟩ = some (.int .i64 code) ∧ W.cell? ⟨A, 0, none⟩ = some (.int .i64 line) ∧ W.frozen? ⟨P0, 0, none⟩ = false ∧ W.frozen? ⟨P1, 0, none⟩ = false ∧ W.frozen? ⟨P2, 0, none⟩ = false)
    (first | exact hk0 | exact hk1 | exact hk2 | exact hk3)
    (first | fail)
  go_wp2_with fail
  exact ⟨rfl, _, rfl, _, results_none rfl _ _ _, rfl, rfl, (((HB1.out.setCell (p := ⟨P0, 0, none⟩) hB.1 _).setCell (p := ⟨P1, 0, none⟩) hB.2.1 _).setCell (p := ⟨P2, 0, none⟩) hB.2.2 _).drew, HZP0.out, HZP1.out, HZP2.out⟩
end Go.Proofs.YtlkdjdcnbcegeaaGreatDoor
