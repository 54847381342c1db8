/-
  Fields that are handed in, opened.
-/
import Derived.Test.YtcjllhdbepchnaaGreatDoorMG
import Derived.Lay
import Derived.LaidMore
import Derived.LaidHandle
import Derived.Stop.Joined
import Derived.Test.YtcjllhdbepchnaaGreatDoorMF
import Derived.Carry
/-! Fields that are handed in, opened. -/
namespace Go.Proofs.YtcjllhdbepchnaaGreatDoor
open Go.RowKit Go.ChangeShapes Go.WideShapes Go.ChangeAt
set_option linter.unusedVariables false
theorem cellsField : Tryz.prog.cellsOf 57 = 14 := by kernel_rfl
theorem cellsNulls : Tryz.prog.cellsOf 53 = 1 := by kernel_rfl
theorem cellsIntF : Tryz.prog.cellsOf 3 = 1 := by kernel_rfl
theorem cellsCollate : Tryz.prog.cellsOf 55 = 3 := by kernel_rfl
theorem cellsFields : Tryz.prog.cellsOf 22 = 1 := by kernel_rfl
theorem lenN14 {α : Type} {l : List α} (h : l.length = 14) : ∃ a0 a1 a2 a3 a4 a5 a6 a7 a8 a9 a10 a11 a12 a13, l = [a0, a1, a2, a3, a4, a5, a6, a7, a8, a9, a10, a11, a12, a13] := by
  match l, h with | [a0, a1, a2, a3, a4, a5, a6, a7, a8, a9, a10, a11, a12, a13], _ => exact ⟨a0, a1, a2, a3, a4, a5, a6, a7, a8, a9, a10, a11, a12, a13, rfl⟩
theorem u8_nat {k : Int} (h : (Lit.int .u8 k).wf = true) : ∃ n : Nat, k = n ∧ n < 256 := by
  have h9 : IntKind.u8.min ≤ k ∧ k ≤ IntKind.u8.max := by simpa [Lit.wf] using h
  have h1 : 0 ≤ k := h9.1
  obtain ⟨n, rfl⟩ := Int.eq_ofNat_of_zero_le h1
  exact ⟨n, rfl, by have := h9.2; rw [show IntKind.u8.max = 255 from rfl] at this; omega⟩
theorem i64_bounds {k : Int} (h : (Lit.int .i64 k).wf = true) : -9223372036854775808 ≤ k ∧ k ≤ 9223372036854775807 := by
  have h9 : IntKind.i64.min ≤ k ∧ k ≤ IntKind.i64.max := by simpa [Lit.wf] using h
  rwa [show IntKind.i64.min = -9223372036854775808 from rfl, show IntKind.i64.max = 9223372036854775807 from rfl] at h9
theorem bytesField : 1 ≤ Tryz.prog.bytesOf 57 := of_decide_eq_true (by kernel_rfl)
theorem cap_of {len cap n a b : Nat} (h1 : b = cap - len) (h2 : a = len) (h3 : len ≤ cap) (hn : 1 ≤ n) (h : (a + b) * n ≤ 140737488351232) : cap ≤ 140737488351232 := by
  have e : a + b = cap := by omega
  rw [e] at h
  exact Nat.le_trans (by simpa using Nat.mul_le_mul_left cap hn) h
section
variable {H : Type} {enc : TypeId × Value → H} {W : World}
theorem ba_size (m : ByteArray) : m.size = m.data.toList.length := by cases m; simp [ByteArray.size]
theorem trod_num' {n : Nat} {cs : List Value} {y : DataW H × List MemPlace} (h : DataW.trod enc Tryz.prog W 0 (fun _ => true) true n 27 cs = some y) (hw : ∀ q ∈ DataW.weights Tryz.prog 27 y.1, q ≤ 140737488351232) : ∃ (b : Bool) (m : ByteArray), cs = [.bool b, .string m] ∧ m.size ≤ 140737488351232 := by
  obtain ⟨x0, x1, k, rfl, rfl, hl, f0, f1⟩ := structN2 Tryz.underlying27 h
  rw [cellsNum] at hl
  obtain ⟨c0, c1, rfl⟩ := len2 hl
  simp only [cellsBool, cellsStr, List.drop, List.take] at f0 f1
  obtain ⟨b, hb, _⟩ := DataW.trod_bool Tryz.underlying4 f0
  obtain ⟨m, hm, e1, _⟩ := DataW.trod_string Tryz.underlying9 f1
  simp only [List.cons.injEq, and_true] at hb hm
  subst hb hm
  refine ⟨b, m, rfl, ?_⟩
  rw [ba_size]
  exact hw _ (by simp only [DataW.weights, Tryz.underlying27, List.map, DataW.weightsEach, e1, List.append_nil]; exact List.mem_append_right _ (List.mem_singleton.2 rfl))
theorem trod_collate {n : Nat} {cs : List Value} {y : DataW H × List MemPlace} (h : DataW.trod enc Tryz.prog W 0 (fun _ => true) true n 55 cs = some y) : ∃ (k : Int) (a b : Bool), cs = [.int .i64 k, .bool a, .bool b] ∧ -9223372036854775808 ≤ k ∧ k ≤ 9223372036854775807 := by
  obtain ⟨x0, x1, x2, k, rfl, _, hl, f0, f1, f2⟩ := structN3 Tryz.underlying55 h
  rw [cellsCollate] at hl
  obtain ⟨c0, c1, c2, rfl⟩ := lenN3 hl
  simp only [cellsBool, cellsIntF, List.drop, List.take] at f0 f1 f2
  obtain ⟨z, h0, _, hwf⟩ := DataW.trod_int Tryz.underlying3 f0
  obtain ⟨a, h1, _⟩ := DataW.trod_bool Tryz.underlying4 f1
  obtain ⟨b, h2, _⟩ := DataW.trod_bool Tryz.underlying4 f2
  simp only [List.cons.injEq, and_true] at h0 h1 h2
  subst h0 h1 h2
  exact ⟨z, a, b, rfl, i64_bounds hwf⟩
theorem weightsAll_mem {P : Program} {e : TypeId} : ∀ {l : List (DataW H)} {d : DataW H} {q : Nat}, d ∈ l → q ∈ DataW.weights P e d → q ∈ DataW.weightsAll P e l
  | a :: l, d, q, hd, hq => by
    rw [DataW.weightsAll]
    rcases List.mem_cons.1 hd with rfl | hd
    · exact List.mem_append_left _ hq
    · exact List.mem_append_right _ (weightsAll_mem hd hq)
theorem fields_of_all {m : Nat} (ih : ∀ (cs : List Value) (y : DataW H × List MemPlace), DataW.trod enc Tryz.prog W 0 (fun _ => true) true m 57 cs = some y → (∀ q ∈ DataW.weights Tryz.prog 57 y.1, q ≤ 140737488351232) → ∃ t, FieldAt W (· < W.heap.size) t cs) {x : Addr} {len : Nat}
    {elems : List (DataW H × List MemPlace)} (helen : len ≤ elems.length) (hws : ∀ q ∈ DataW.weightsAll Tryz.prog 57 (elems.map (·.1)), q ≤ 140737488351232) (hall : ∀ (i : Nat), i < len → ((W.cells? 0 (x.add (i * Tryz.prog.cellsOf 57)) (Tryz.prog.cellsOf 57)).bind fun cs => DataW.trod enc Tryz.prog W 0 (fun _ => true) true m 57 cs) = elems[i]?) :
    ∃ l : List FT, l.length = len ∧ FieldsAt W (· < W.heap.size) l (some x) := by
  have hex : ∀ i, i < len → ∃ t : FT, ∃ cs', W.cells? 0 (x.add (i * 14)) 14 = some cs' ∧ FieldAt W (· < W.heap.size) t cs' := by
    intro i hi
    have h5 := hall i hi
    rw [cellsField, List.getElem?_eq_getElem (by omega)] at h5
    obtain ⟨cs', h6, h7⟩ := Option.bind_eq_some_iff.1 h5
    obtain ⟨t, ht⟩ := ih cs' _ h7 (fun q hq => hws q (weightsAll_mem (List.mem_map.2 ⟨elems[i], List.getElem_mem _, rfl⟩) hq))
    exact ⟨t, cs', h6, ht⟩
  obtain ⟨f, hfs⟩ := Deep.choose_lt hex
  have hlen' : ((List.range len).map f).length = len := by simp
  refine ⟨(List.range len).map f, hlen', ?_⟩
  by_cases h0 : len = 0
  · subst h0; trivial
  · have hx : x = ⟨x.block, x.off, none⟩ ∧ x.block < W.heap.size := by
      obtain ⟨cs', h6, h7⟩ := hfs 0 (by omega)
      obtain ⟨a', c', rfl, _⟩ := h7.open
      obtain ⟨_, _, hget⟩ := World.cells?_some h6
      have g0 := hget 0 (by omega)
      have e0 : (x.add (0 * 14)).add 0 = x := by simp [Addr.add]
      rw [e0] at g0
      exact ⟨cell_plainP g0, block_ltP g0⟩
    obtain ⟨b, o, hxb⟩ : ∃ b o, x = ⟨b, o, none⟩ := ⟨_, _, hx.1⟩
    subst hxb
    refine FieldsAt.of_get (.inr hx.2) fun i hi => ?_
    rw [hlen'] at hi
    obtain ⟨cs', h6, h7⟩ := hfs i hi
    refine ⟨cs', fun j u hu => ?_, by simpa using h7⟩
    obtain ⟨_, hlen6, hget⟩ := World.cells?_some h6
    have hj : j < 14 := by have := (List.getElem?_eq_some_iff.1 hu).1; omega
    have g := hget j hj
    rw [add_plain, add_plain] at g
    rw [g, hu]
theorem field_of : ∀ (n : Nat) (cs : List Value) (y : DataW H × List MemPlace), DataW.trod enc Tryz.prog W 0 (fun _ => true) true n 57 cs = some y → (∀ q ∈ DataW.weights Tryz.prog 57 y.1, q ≤ 140737488351232) → ∃ t, FieldAt W (· < W.heap.size) t cs := by
  intro n
  induction n using Nat.strongRecOn with
  | _ n ih =>
    intro cs y h hw
    obtain ⟨x0, x1, x2, x3, x4, x5, x6, x7, x8, x9, k, rfl, rfl, hl, f0, f1, f2, f3, f4, f5, f6, f7, f8, f9⟩ := structN10 Tryz.underlying57 h
    rw [cellsField] at hl
    obtain ⟨c0, c1, c2, c3, c4, c5, c6, c7, c8, c9, c10, c11, c12, c13, rfl⟩ := lenN14 hl
    simp only [cellsKind, cellsNulls, cellsBool, cellsNum, cellsStr, cellsIntF, cellsCollate, cellsFields, List.drop, List.take] at f0 f1 f2 f3 f4 f5 f6 f7 f8 f9
    simp only [DataW.weights, Tryz.underlying57, List.map, DataW.weightsEach, List.append_nil, List.mem_append] at hw
    obtain ⟨nm, h0, e0, w0⟩ := DataW.trod_string Tryz.underlying9 f0
    obtain ⟨kd, h1, _, w1⟩ := DataW.trod_int Tryz.underlying25 f1
    obtain ⟨dn, h2, _⟩ := DataW.trod_bool Tryz.underlying4 f2
    obtain ⟨nl, h3, _, w3⟩ := DataW.trod_int Tryz.underlying53 f3
    obtain ⟨bd, h4, _⟩ := DataW.trod_bool Tryz.underlying4 f4
    obtain ⟨lb, lm, h5, w5⟩ := trod_num' f5 (fun q hq => hw q (by simp [hq]))
    obtain ⟨hb, hm, h6, w6⟩ := trod_num' f6 (fun q hq => hw q (by simp [hq]))
    obtain ⟨ms, h7, _, w7⟩ := DataW.trod_int Tryz.underlying3 f7
    obtain ⟨st, sh, ba, h8, w8⟩ := trod_collate f8
    simp only [List.cons.injEq, and_true] at h0 h1 h2 h3 h4 h5 h6 h7 h8
    obtain ⟨rfl, rfl⟩ := h5
    obtain ⟨rfl, rfl⟩ := h6
    obtain ⟨rfl, rfl, rfl⟩ := h8
    subst h0 h1 h2 h3 h4 h7
    obtain ⟨k1, rfl, v1⟩ := u8_nat w1
    obtain ⟨k3, rfl, v3⟩ := u8_nat w3
    have w7 := i64_bounds w7
    have w0 : nm.size ≤ 140737488351232 := by
      rw [ba_size]
      exact hw _ (.inl (by rw [e0]; simp only [DataW.weights]; exact List.mem_singleton.2 rfl))
    have hok : (⟨nm, k1, dn, k3, bd, lb, lm, hb, hm, ms, st, sh, ba⟩ : FS).ok := ⟨w0, v1, v3, w5, w6, w7.1, w7.2, w8.1, w8.2⟩
    rcases DataW.trod_slice Tryz.underlying22 f9 with ⟨h4, _⟩ | ⟨x, len, cap, elems, rest, m, hmk, h4, e9, _, hlc, hcm, helen, hall, hrest, _⟩
    · simp only [List.cons.injEq, and_true] at h4
      subst h4
      exact ⟨.mk ⟨nm, k1, dn, k3, bd, lb, lm, hb, hm, ms, st, sh, ba⟩ [], none, 0, rfl, hok, Nat.le_refl _, Nat.zero_le _, trivial⟩
    · simp only [List.cons.injEq, and_true] at h4
      subst h4
      have hw : ∀ q ∈ DataW.weights Tryz.prog 22 x9.1, q ≤ 140737488351232 := fun q hq => hw q (by simp [hq])
      subst e9
      simp only [DataW.weights, Tryz.underlying22, List.mem_cons, List.mem_append, List.length_map] at hw
      have hcap := hw _ (.inl rfl)
      obtain ⟨l, hl, hrow⟩ := fields_of_all (fun cs y h => ih m (by omega) cs y h) (by omega) (fun q hq => hw q (by simp [hq])) hall
      subst hl
      have hcm : cap ≤ 140737488351232 := cap_of (hrest rfl).1 helen hlc bytesField hcap
      exact ⟨.mk ⟨nm, k1, dn, k3, bd, lb, lm, hb, hm, ms, st, sh, ba⟩ l, some x, cap, rfl, hok, hlc, hcm, hrow⟩
theorem fields_of (n : Nat) (v : Value) (y : DataW H × List MemPlace) (h : DataW.trod enc Tryz.prog W 0 (fun _ => true) true n 22 [v] = some y) (hw : ∀ q ∈ DataW.weights Tryz.prog 22 y.1, q ≤ 140737488351232) : ∃ (l : List FT) (A : Option Addr) (C : Nat), v = .slice A l.length C ∧ l.length ≤ C ∧ C ≤ 140737488351232 ∧ FieldsAt W (· < W.heap.size) l A := by
  rcases DataW.trod_slice Tryz.underlying22 h with ⟨h4, _⟩ | ⟨x, len, cap, elems, rest, m, hmk, h4, e9, _, hlc, hcm, helen, hall, hrest, _⟩
  · simp only [List.cons.injEq, and_true] at h4
    subst h4
    exact ⟨[], none, 0, rfl, Nat.le_refl _, Nat.zero_le _, trivial⟩
  · simp only [List.cons.injEq, and_true] at h4
    subst h4
    subst e9
    simp only [DataW.weights, Tryz.underlying22, List.mem_cons, List.mem_append, List.length_map] at hw
    have hcap := hw _ (.inl rfl)
    obtain ⟨l, hl, hrow⟩ := fields_of_all (fun cs y h => field_of m cs y h) (by omega) (fun q hq => hw q (by simp [hq])) hall
    subst hl
    have hcm : cap ≤ 140737488351232 := cap_of (hrest rfl).1 helen hlc bytesField hcap
    exact ⟨l, some x, cap, rfl, hlc, hcm, hrow⟩
end
end Go.Proofs.YtcjllhdbepchnaaGreatDoor

/-! A world whose variables hold what a row lists: a handle beside data. -/
namespace Go.Proofs.YtcjllhdbepchnaaGreatDoor.Ev
open Go.RowKit
set_option linter.unusedSimpArgs false

noncomputable def handled (P : Program) (os : Os) : World :=
  match P.globalNamed "errors.errorType", (P.cutTypes.find? (·.1 == "internal/reflectlite.rtype")).map (·.2), (List.range P.types.size).find? fun t => P.rowNamed t [101, 114, 114, 111, 114] with
  | some g, some u, some ty => { World.holding P os ⟨#[], #[], []⟩ with heap := (World.holding P os ⟨#[], #[], []⟩).heap.modify g fun
      | .cells _ t fz => .cells #[.iface u (.agg #[typeHandle P ty])] t fz
      | o => o }
  | _, _, _ => World.holding P os ⟨#[], #[], []⟩
theorem handled_os (P : Program) (os : Os) : (handled P os).os = os := by
  unfold handled
  split <;> rfl
noncomputable def handWorld (P : Program) (os : Os) (laid : List (String × DataW Unit)) : World := (handled P os).layVars P (laid.filter fun x => x.2.handleName?.isNone)
theorem handWorld_os (P : Program) (os : Os) (laid : List (String × DataW Unit)) : (handWorld P os laid).os = os := (World.layVars_os _ _ _).trans (handled_os P os)
theorem hand_met {P : Program} {os : Os} {laid : List (String × DataW Unit)} (args : Array Value)
    (hf : (handled P os).layFits P (laid.filter fun x => x.2.handleName?.isNone) [] = true)
    (hi : (handled P os).layIfaces P (laid.filter fun x => x.2.handleName?.isNone) (handWorld P os laid) = true)
    (hh : (laid.filter fun x => x.2.handleName?.isSome).all (handleAtB P (handWorld P os laid)) = true) :
    laidMetH P laid ((handWorld P os laid).forCall (fun _ _ => 0) ⟨#[], args, []⟩).memory := by
  have key : laidMetH P laid (handWorld P os laid) := by
    refine laidMetH_of_parts ?_ hh
    generalize hl : (laid.filter fun x => x.2.handleName?.isNone) = l at hf hi ⊢
    have e1 : (l.filter fun x => (l.map (·.1)).contains x.1) = l := List.filter_eq_self.2 fun x hx => List.contains_iff_mem.2 (List.mem_map.2 ⟨x, hx, rfl⟩)
    have e2 : (l.filter fun x => !(l.map (·.1)).contains x.1) = [] := List.filter_eq_nil_iff.2 fun x hx => by rw [List.contains_iff_mem.2 (List.mem_map.2 ⟨x, hx, rfl⟩)]; simp
    refine laidMet_layVars (w0 := handled P os) (l.map (·.1)) [] (by rw [e1, handWorld, hl]) (by rw [e1]; exact hf) (by rw [e1]; exact hi) (by rw [e2]; exact LaidIn.none)
  exact laidMetH.of_heap (by simp [World.memory, World.forCall, Input.heap]) key
end Go.Proofs.YtcjllhdbepchnaaGreatDoor.Ev

/-! Arguments that nothing is known of, and what they read as afterwards. -/
namespace Go.Proofs.YtcjllhdbepchnaaGreatDoor.Ev
open Go.RowKit
set_option linter.unusedSimpArgs false

variable {P : Program}

def opqT (P : Program) (t : TypeId) : Bool :=
  match P.underlying t with
  | some (.slice _) | some (.int _) => true
  | _ => false
theorem opq_ok {t : TypeId} {v : Value} {w : World} {r : Reach} {b : Nat} (ht : opqT P t = true) (h : Value.okWide P w r b t v) : opqOK v = true := by
  unfold opqT at ht
  unfold Value.okWide at h
  split at ht
  · rename_i e hu
    rw [hu] at h
    simp only at h
    unfold Cell.okWide at h
    rw [hu] at h
    cases v <;> first | rfl | (exfalso; simp [Cell.ok, hu] at h)
  · rename_i k hu
    rw [hu] at h
    simp only at h
    unfold Cell.okWide at h
    rw [hu] at h
    cases v <;> first | rfl | (exfalso; simp [Cell.ok, hu] at h)
  · cases ht
def rowed (P : Program) (ts : List TypeId) : Bool := ts.all fun t => P.readableRec t && decide (t < P.types.size)
/-- Arguments read as they did, where the world has at most new blocks. -/
theorem trodAll_below {H : Type} {enc : TypeId × Value → H} (hl : laidOutB P = true) {W W' : World} (hb : Below W.heap.size W W') : ∀ (ts : List TypeId) (vs : List Value) (ds : List (DataW H)) (ps : List MemPlace), rowed P ts = true →
    DataW.TrodAll enc P W 0 (fun _ => true) true ts vs ds ps → (∀ x ∈ ps, x.block < W.heap.size) → DataW.TrodAll enc P W' 0 (fun b => decide (b < W.heap.size)) true ts vs ds ps := by
  intro ts
  induction ts with
  | nil => intro vs ds ps _ h _; cases vs <;> cases ds <;> first | exact h | exact h.elim
  | cons t ts ih =>
    intro vs ds ps hr h hlt
    simp only [rowed, List.all_cons, Bool.and_eq_true, decide_eq_true_eq] at hr
    cases vs with
    | nil => cases ds <;> exact h.elim
    | cons v vs =>
      cases ds with
      | nil => exact h.elim
      | cons d ds =>
        obtain ⟨p, q, h1, h2, rfl⟩ := h
        exact ⟨p, q, Below.trod hl hr.1.1 hr.1.2 h1 hb fun x hx => hlt x (List.mem_append_left _ hx), ih vs ds q (by simpa [rowed] using hr.2) h2 fun x hx => hlt x (List.mem_append_right _ hx), rfl⟩
end Go.Proofs.YtcjllhdbepchnaaGreatDoor.Ev
