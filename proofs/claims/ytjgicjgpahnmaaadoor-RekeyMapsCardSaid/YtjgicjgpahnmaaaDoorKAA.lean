/-
  Sources and integers that are handed in, opened.
-/
import Derived.Test.YtjgicjgpahnmaaaDoorKW
import Derived.Lay
import Derived.LaidMore
import Derived.LaidHandle
import Derived.Stop.Joined
import Derived.Test.YtjgicjgpahnmaaaDoorKE
import Derived.Carry
/-! Sources and integers that are handed in, opened. -/
namespace Go.Proofs.YtjgicjgpahnmaaaDoor
open Go.RowKit Go.ChangeShapes Go.WideShapes Go.ChangeAt
set_option linter.unusedVariables false
theorem cellsSource : Tryd.prog.cellsOf 39 = 7 := by kernel_rfl
theorem cellsInt : Tryd.prog.cellsOf 3 = 1 := by kernel_rfl
theorem len7 {α : Type} {l : List α} (h : l.length = 7) : ∃ a b c d e f g, l = [a, b, c, d, e, f, g] := by
  match l, h with | [a, b, c, d, e, f, g], _ => exact ⟨a, b, c, d, e, f, g, rfl⟩
theorem slice_one {P : Program} {t e : TypeId} {v : Value} {w : World} {r : Reach} {b : Nat} (hu : P.underlying t = some (.slice e)) (h : Value.okWide P w r b t v) : v.cells.toList = [v] := by
  unfold Value.okWide at h
  rw [hu] at h
  simp only at h
  unfold Cell.okWide at h
  rw [hu] at h
  cases v <;> first | rfl | (exfalso; simp [Cell.ok, hu] at h)
section
variable {H : Type} {enc : TypeId × Value → H} {W : World}
theorem source_of (n : Nat) (cs : List Value) (y : DataW H × List MemPlace) (h : DataW.trod enc Tryd.prog W 0 (fun _ => true) true n 39 cs = some y) : ∃ (x : Int) (p : PT) (a : Option Addr) (c : Nat), cs = .int .i64 x :: partCells p a c ∧ PartAt W (· < W.heap.size) p (partCells p a c) := by
  obtain ⟨x0, x1, k, rfl, hl, f0, f1⟩ := trod_struct2n Tryd.underlying39 h
  rw [cellsSource] at hl
  obtain ⟨c0, c1, c2, c3, c4, c5, c6, rfl⟩ := len7 hl
  simp only [cellsInt, cellsPart, List.drop, List.take] at f0 f1
  obtain ⟨x, h0, _, _⟩ := DataW.trod_int Tryd.underlying3 f0
  simp only [List.cons.injEq, and_true] at h0
  subst h0
  obtain ⟨p, hp⟩ := part_of _ _ _ f1
  obtain ⟨a, c, e, _⟩ := hp.open
  rw [e] at hp
  exact ⟨x, p, a, c, by rw [e], hp⟩
theorem srcs_of (n : Nat) (v : Value) (y : DataW H × List MemPlace) (h : DataW.trod enc Tryd.prog W 0 (fun _ => true) true n 23 [v] = some y) : ∃ (L : List (Int × PT)) (A : Option Addr) (C : Nat), v = .slice A L.length C ∧ L.length ≤ maxLen ∧ SrcsAt W (· < W.heap.size) L A := by
  rcases DataW.trod_slice Tryd.underlying23 h with ⟨h4, _⟩ | ⟨x, len, cap, elems, rest, m, hmk, h4, _, _, hlc, hcm, helen, hall, _⟩
  · simp only [List.cons.injEq, and_true] at h4
    subst h4
    exact ⟨[], none, 0, rfl, Nat.zero_le _, fun i hi => absurd hi (Nat.not_lt_zero i)⟩
  · simp only [List.cons.injEq, and_true] at h4
    subst h4
    have hex : ∀ i, i < len → ∃ t : Int × PT, ∃ (a : Option Addr) (c : Nat), W.cells? 0 (x.add (i * 7)) 7 = some (.int .i64 t.1 :: partCells t.2 a c) ∧ PartAt W (· < W.heap.size) t.2 (partCells t.2 a c) := by
      intro i hi
      have h5 := hall i hi
      rw [cellsSource, List.getElem?_eq_getElem (by omega)] at h5
      obtain ⟨cs', h6, h7⟩ := Option.bind_eq_some_iff.1 h5
      obtain ⟨z, p, a, c, rfl, hp⟩ := source_of m cs' _ h7
      exact ⟨(z, p), a, c, h6, hp⟩
    obtain ⟨f, hfs⟩ := Deep.choose_lt hex
    have hlen' : ((List.range len).map f).length = len := by simp
    refine ⟨(List.range len).map f, some x, cap, by rw [hlen'], by rw [hlen']; omega, fun i hi => ?_⟩
    rw [hlen'] at hi
    obtain ⟨a', c', h6, h7⟩ := hfs i hi
    obtain ⟨_, _, hget⟩ := World.cells?_some h6
    have hx : x = ⟨x.block, x.off, none⟩ ∧ x.block < W.heap.size := by
      obtain ⟨a0, c0, h60, h70⟩ := hfs 0 (by omega)
      obtain ⟨_, _, hget0⟩ := World.cells?_some h60
      have g0 := hget0 0 (by omega)
      have e0 : (x.add (0 * 7)).add 0 = x := by simp [Addr.add]
      rw [e0] at g0
      exact ⟨cell_plainP g0, block_ltP g0⟩
    obtain ⟨b, o, hxb⟩ : ∃ b o, x = ⟨b, o, none⟩ := ⟨_, _, hx.1⟩
    subst hxb
    refine ⟨b, o, a', c', rfl, hx.2, fun j u hu => ?_, by simpa using h7⟩
    have hu' : (Value.int .i64 (f i).1 :: partCells (f i).2 a' c')[j]? = some u := by simpa using hu
    have hj : j < 7 := by have := (List.getElem?_eq_some_iff.1 hu').1; simpa [partCells] using this
    have g := hget j hj
    rw [add_plain, add_plain] at g
    rw [g, hu']
theorem ints_of (n : Nat) (v : Value) (y : DataW H × List MemPlace) (h : DataW.trod enc Tryd.prog W 0 (fun _ => true) true n 24 [v] = some y) : ∃ (M : List Int) (A : Option Addr) (C : Nat), v = .slice A M.length C ∧ M.length ≤ maxLen ∧ IntsAt W W.heap.size M A := by
  rcases DataW.trod_slice Tryd.underlying24 h with ⟨h4, _⟩ | ⟨x, len, cap, elems, rest, m, hmk, h4, _, _, hlc, hcm, helen, hall, _⟩
  · simp only [List.cons.injEq, and_true] at h4
    subst h4
    exact ⟨[], none, 0, rfl, Nat.zero_le _, fun i hi => absurd hi (Nat.not_lt_zero i)⟩
  · simp only [List.cons.injEq, and_true] at h4
    subst h4
    have hex : ∀ i, i < len → ∃ t : Int, W.cell? (x.add i) = some (.int .i64 t) ∧ -9223372036854775808 ≤ t ∧ t ≤ 9223372036854775807 := by
      intro i hi
      have h5 := hall i hi
      rw [cellsInt, List.getElem?_eq_getElem (by omega)] at h5
      obtain ⟨cs', h6, h7⟩ := Option.bind_eq_some_iff.1 h5
      obtain ⟨k, h8, _, hwf⟩ := DataW.trod_int Tryd.underlying3 h7
      subst h8
      obtain ⟨_, _, hget⟩ := World.cells?_some h6
      have g0 := hget 0 (by omega)
      have e0 : (x.add (i * 1)).add 0 = x.add i := by simp [Addr.add]
      rw [e0] at g0
      have h9 : IntKind.i64.min ≤ k ∧ k ≤ IntKind.i64.max := by simpa [Lit.wf] using hwf
      rw [show IntKind.i64.min = -9223372036854775808 from rfl, show IntKind.i64.max = 9223372036854775807 from rfl] at h9
      exact ⟨k, by simpa using g0, h9.1, h9.2⟩
    obtain ⟨f, hfs⟩ := Deep.choose_lt hex
    have hlen' : ((List.range len).map f).length = len := by simp
    refine ⟨(List.range len).map f, some x, cap, by rw [hlen'], by rw [hlen']; omega, fun i hi => ?_⟩
    rw [hlen'] at hi
    have hx : x = ⟨x.block, x.off, none⟩ ∧ x.block < W.heap.size := by
      have g0 := (hfs 0 (by omega)).1
      have e0 : x.add 0 = x := by simp [Addr.add]
      rw [e0] at g0
      exact ⟨cell_plainP g0, block_ltP g0⟩
    obtain ⟨b, o, hxb⟩ : ∃ b o, x = ⟨b, o, none⟩ := ⟨_, _, hx.1⟩
    subst hxb
    have g := hfs i hi
    rw [add_plain] at g
    exact ⟨b, o, rfl, hx.2, by simpa using g.1, by simpa using g.2⟩
end
end Go.Proofs.YtjgicjgpahnmaaaDoor

/-! A world whose variables hold what a row lists: a handle beside data. -/
namespace Go.Proofs.YtjgicjgpahnmaaaDoor.Ev
open Go.RowKit
set_option linter.unusedSimpArgs false

noncomputable def handled (P : Program) (os : Os) : World :=
  match P.globalNamed "errors.errorType", (P.cutTypes.find? (·.1 == "internal/reflectlite.rtype")).map (·.2), (List.range P.types.size).find? fun t => P.rowNamed t [101, 114, 114, 111, 114] with
  | some g, some u, some ty => { World.holding P os ⟨#[], #[], []⟩ with heap := (World.holding P os ⟨#[], #[], []⟩).heap.modify g fun
      | .cells _ t fz => .cells #[.iface u (.agg #[typeHandle P ty])] t fz
      | o => o }
  | _, _, _ => World.holding P os ⟨#[], #[], []⟩
theorem handled_os (P : Program) (os : Os) : (handled P os).os = os := by
  unfold handled
  split <;> rfl
noncomputable def handWorld (P : Program) (os : Os) (laid : List (String × DataW Unit)) : World := (handled P os).layVars P (laid.filter fun x => x.2.handleName?.isNone)
theorem handWorld_os (P : Program) (os : Os) (laid : List (String × DataW Unit)) : (handWorld P os laid).os = os := (World.layVars_os _ _ _).trans (handled_os P os)
theorem hand_met {P : Program} {os : Os} {laid : List (String × DataW Unit)} (args : Array Value)
    (hf : (handled P os).layFits P (laid.filter fun x => x.2.handleName?.isNone) [] = true)
    (hi : (handled P os).layIfaces P (laid.filter fun x => x.2.handleName?.isNone) (handWorld P os laid) = true)
    (hh : (laid.filter fun x => x.2.handleName?.isSome).all (handleAtB P (handWorld P os laid)) = true) :
    laidMetH P laid ((handWorld P os laid).forCall (fun _ _ => 0) ⟨#[], args, []⟩).memory := by
  have key : laidMetH P laid (handWorld P os laid) := by
    refine laidMetH_of_parts ?_ hh
    generalize hl : (laid.filter fun x => x.2.handleName?.isNone) = l at hf hi ⊢
    have e1 : (l.filter fun x => (l.map (·.1)).contains x.1) = l := List.filter_eq_self.2 fun x hx => List.contains_iff_mem.2 (List.mem_map.2 ⟨x, hx, rfl⟩)
    have e2 : (l.filter fun x => !(l.map (·.1)).contains x.1) = [] := List.filter_eq_nil_iff.2 fun x hx => by rw [List.contains_iff_mem.2 (List.mem_map.2 ⟨x, hx, rfl⟩)]; simp
    refine laidMet_layVars (w0 := handled P os) (l.map (·.1)) [] (by rw [e1, handWorld, hl]) (by rw [e1]; exact hf) (by rw [e1]; exact hi) (by rw [e2]; exact LaidIn.none)
  exact laidMetH.of_heap (by simp [World.memory, World.forCall, Input.heap]) key
end Go.Proofs.YtjgicjgpahnmaaaDoor.Ev

/-! Arguments that nothing is known of, and what they read as afterwards. -/
namespace Go.Proofs.YtjgicjgpahnmaaaDoor.Ev
open Go.RowKit
set_option linter.unusedSimpArgs false

variable {P : Program}

def opqT (P : Program) (t : TypeId) : Bool :=
  match P.underlying t with
  | some (.slice _) | some (.int _) => true
  | _ => false
theorem opq_ok {t : TypeId} {v : Value} {w : World} {r : Reach} {b : Nat} (ht : opqT P t = true) (h : Value.okWide P w r b t v) : opqOK v = true := by
  unfold opqT at ht
  unfold Value.okWide at h
  split at ht
  · rename_i e hu
    rw [hu] at h
    simp only at h
    unfold Cell.okWide at h
    rw [hu] at h
    cases v <;> first | rfl | (exfalso; simp [Cell.ok, hu] at h)
  · rename_i k hu
    rw [hu] at h
    simp only at h
    unfold Cell.okWide at h
    rw [hu] at h
    cases v <;> first | rfl | (exfalso; simp [Cell.ok, hu] at h)
  · cases ht
def rowed (P : Program) (ts : List TypeId) : Bool := ts.all fun t => P.readableRec t && decide (t < P.types.size)
/-- Arguments read as they did, where the world has at most new blocks. -/
theorem trodAll_below {H : Type} {enc : TypeId × Value → H} (hl : laidOutB P = true) {W W' : World} (hb : Below W.heap.size W W') : ∀ (ts : List TypeId) (vs : List Value) (ds : List (DataW H)) (ps : List MemPlace), rowed P ts = true →
    DataW.TrodAll enc P W 0 (fun _ => true) true ts vs ds ps → (∀ x ∈ ps, x.block < W.heap.size) → DataW.TrodAll enc P W' 0 (fun b => decide (b < W.heap.size)) true ts vs ds ps := by
  intro ts
  induction ts with
  | nil => intro vs ds ps _ h _; cases vs <;> cases ds <;> first | exact h | exact h.elim
  | cons t ts ih =>
    intro vs ds ps hr h hlt
    simp only [rowed, List.all_cons, Bool.and_eq_true, decide_eq_true_eq] at hr
    cases vs with
    | nil => cases ds <;> exact h.elim
    | cons v vs =>
      cases ds with
      | nil => exact h.elim
      | cons d ds =>
        obtain ⟨p, q, h1, h2, rfl⟩ := h
        exact ⟨p, q, Below.trod hl hr.1.1 hr.1.2 h1 hb fun x hx => hlt x (List.mem_append_left _ hx), ih vs ds q (by simpa [rowed] using hr.2) h2 fun x hx => hlt x (List.mem_append_right _ hx), rfl⟩
end Go.Proofs.YtjgicjgpahnmaaaDoor.Ev
