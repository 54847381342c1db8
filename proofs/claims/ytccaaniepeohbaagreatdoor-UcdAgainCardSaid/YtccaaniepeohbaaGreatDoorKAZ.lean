/-
  Marks that are handed in, opened.
-/
import Derived.Test.YtccaaniepeohbaaGreatDoorKAA
import Derived.Test.YtccaaniepeohbaaGreatDoorKAY
namespace Go.Proofs.YtccaaniepeohbaaGreatDoor
open Go.RowKit Go.ChangeShapes Go.WideShapes Go.ChangeAt
set_option linter.unusedVariables false
theorem slice_one {P : Program} {t e : TypeId} {v : Value} {w : World} {r : Reach} {b : Nat} (hu : P.underlying t = some (.slice e)) (h : Value.okWide P w r b t v) : v.cells.toList = [v] := by
  unfold Value.okWide at h
  rw [hu] at h
  simp only at h
  unfold Cell.okWide at h
  rw [hu] at h
  cases v <;> first | rfl | (exfalso; simp [Cell.ok, hu] at h)
theorem cellsIntT : Tryz.prog.cellsOf 3 = 1 := by kernel_rfl
theorem cellsBoolT : Tryz.prog.cellsOf 4 = 1 := by kernel_rfl
theorem cellsMk : Tryz.prog.cellsOf 36 = 3 := by kernel_rfl
theorem cellsInts : Tryz.prog.cellsOf 34 = 1 := by kernel_rfl
theorem bytesIntT : 1 ≤ Tryz.prog.bytesOf 3 := of_decide_eq_true (by kernel_rfl)
theorem bytesMk : 1 ≤ Tryz.prog.bytesOf 36 := of_decide_eq_true (by kernel_rfl)
theorem cap_of {len cap n a b : Nat} (h1 : b = cap - len) (h2 : a = len) (h3 : len ≤ cap) (hn : 1 ≤ n) (h : (a + b) * n ≤ 140737488351232) : cap ≤ 140737488351232 := by
  have e : a + b = cap := by omega
  rw [e] at h
  exact Nat.le_trans (by simpa using Nat.mul_le_mul_left cap hn) h
theorem cell_plainT {w : World} {p : Addr} {v : Value} (h : w.cell? p = some v) : p = ⟨p.block, p.off, none⟩ := by
  have := World.cell?_spot h
  cases p with | mk b o s => simp only at this; subst this; rfl
theorem block_ltT {w : World} {p : Addr} {u : Value} (h : w.cell? p = some u) : p.block < w.heap.size := by
  unfold World.cell? at h
  split at h
  · rename_i hh; exact (Array.getElem?_eq_some_iff.1 hh).1
  · cases h
theorem flat_at {α : Type} {m : Nat} (cells : α → List Value) (hc : ∀ a, (cells a).length = m) : ∀ {l : List α} {i j : Nat} (hi : i < l.length), j < m → (l.flatMap cells)[m * i + j]? = (cells l[i])[j]?
  | e :: r, 0, j, _, hj => by
    rw [List.flatMap_cons, List.getElem?_append_left (by rw [hc]; omega)]
    simp
  | e :: r, i + 1, j, hi, hj => by
    have hi' : i < r.length := by simpa using hi
    rw [List.flatMap_cons, List.getElem?_append_right (by rw [hc, Nat.mul_succ]; omega), hc, show m * (i + 1) + j - m = m * i + j by rw [Nat.mul_succ]; omega]
    exact flat_at cells hc (l := r) hi' hj
theorem flat_length {α : Type} {m : Nat} (cells : α → List Value) (hc : ∀ a, (cells a).length = m) : ∀ l : List α, (l.flatMap cells).length = m * l.length
  | [] => by simp
  | e :: r => by rw [List.flatMap_cons, List.length_append, hc, flat_length cells hc r, List.length_cons, Nat.mul_succ]; omega
theorem intCells_flat : ∀ ps : List Int, intCells ps = ps.flatMap (fun z => [Value.int .i64 z])
  | [] => rfl
  | z :: r => by rw [List.flatMap_cons, ← intCells_flat r]; rfl
theorem list_of {α : Type} {P : Nat → α → Prop} : ∀ {len : Nat}, (∀ i, i < len → ∃ a, P i a) → ∃ l : List α, l.length = len ∧ ∀ i (h : i < l.length), P i l[i]
  | 0, _ => ⟨[], rfl, fun i h => absurd h (by simp)⟩
  | n + 1, hex => by
    obtain ⟨l, hl, hget⟩ := list_of (len := n) (fun i hi => hex i (by omega))
    obtain ⟨a, ha⟩ := hex n (by omega)
    refine ⟨l ++ [a], by simp [hl], fun i h => ?_⟩
    by_cases e : i < l.length
    · rw [List.getElem_append_left e]; exact hget i e
    · have e2 : i = n := by simp at h; omega
      subst e2
      rw [List.getElem_append_right (by omega)]
      simpa [hl] using ha
section
variable {H : Type} {enc : TypeId × Value → H} {W : World}
theorem weightsAll_mem {P : Program} {e : TypeId} : ∀ {l : List (DataW H)} {d : DataW H} {q : Nat}, d ∈ l → q ∈ DataW.weights P e d → q ∈ DataW.weightsAll P e l
  | a :: l, d, q, hd, hq => by
    rw [DataW.weightsAll]
    rcases List.mem_cons.1 hd with rfl | hd
    · exact List.mem_append_left _ hq
    · exact List.mem_append_right _ (weightsAll_mem hd hq)
/-- A row of things of m cells each. -/
theorem rows_of {α : Type} {T : TypeId} {m fuel : Nat} (hm : 0 < m) (hcell : Tryz.prog.cellsOf T = m) (cells : α → List Value) (hc : ∀ a, (cells a).length = m) (ih : ∀ (cs : List Value) (y : DataW H × List MemPlace), DataW.trod enc Tryz.prog W 0 (fun _ => true) true fuel T cs = some y → ∃ a, cs = cells a) {x : Addr} {len : Nat}
    {elems : List (DataW H × List MemPlace)} (helen : elems.length = len) (hall : ∀ (i : Nat), i < len → ((W.cells? 0 (x.add (i * Tryz.prog.cellsOf T)) (Tryz.prog.cellsOf T)).bind fun cs => DataW.trod enc Tryz.prog W 0 (fun _ => true) true fuel T cs) = elems[i]?) :
    ∃ l : List α, l.length = len ∧ (0 < len → ∃ b o, x = ⟨b, o, none⟩ ∧ b < W.heap.size ∧ CellsAt W b o (l.flatMap cells)) := by
  have hex : ∀ i, i < len → ∃ a : α, W.cells? 0 (x.add (i * m)) m = some (cells a) := by
    intro i hi
    have h5 := hall i hi
    rw [hcell, List.getElem?_eq_getElem (by omega)] at h5
    obtain ⟨cs', h6, h7⟩ := Option.bind_eq_some_iff.1 h5
    obtain ⟨a, rfl⟩ := ih cs' _ h7
    exact ⟨a, h6⟩
  obtain ⟨f, hlen, hget⟩ := list_of hex
  refine ⟨f, hlen, fun h0 => ?_⟩
  have hx : x = ⟨x.block, x.off, none⟩ ∧ x.block < W.heap.size := by
    obtain ⟨_, hl0, hg⟩ := World.cells?_some (hget 0 (by omega))
    have g0 := hg 0 hm
    have e0 : (x.add (0 * m)).add 0 = x := by simp [Addr.add]
    rw [e0, List.getElem?_eq_getElem (by rw [hc]; exact hm)] at g0
    exact ⟨cell_plainT g0, block_ltT g0⟩
  obtain ⟨b, o, hxb⟩ : ∃ b o, x = ⟨b, o, none⟩ := ⟨_, _, hx.1⟩
  subst hxb
  refine ⟨b, o, rfl, hx.2, fun q u hu => ?_⟩
  have hq : q < m * f.length := by
    have := (List.getElem?_eq_some_iff.1 hu).1
    rwa [flat_length cells hc] at this
  have hi : q / m < f.length := Nat.div_lt_of_lt_mul hq
  have hj : q % m < m := Nat.mod_lt _ hm
  have e := Nat.div_add_mod q m
  obtain ⟨_, _, hg⟩ := World.cells?_some (hget _ hi)
  have g := hg (q % m) hj
  rw [add_plain, add_plain] at g
  have hu2 : (f.flatMap cells)[m * (q / m) + q % m]? = some u := by rw [e]; exact hu
  rw [flat_at cells hc hi hj] at hu2
  rw [hu2] at g
  have ea : o + q / m * m + q % m = o + q := by rw [Nat.mul_comm] at e; omega
  rw [ea] at g
  exact g
theorem ints_of {n : Nat} {v : Value} {y : DataW H × List MemPlace} (h : DataW.trod enc Tryz.prog W 0 (fun _ => true) true n 34 [v] = some y) (hw : ∀ q ∈ DataW.weights Tryz.prog 34 y.1, q ≤ 140737488351232) : ∃ ps : List Int, RowM W W.heap.size v ps.length (intCells ps) := by
  rcases DataW.trod_slice Tryz.underlying34 h with ⟨h4, _⟩ | ⟨x, len, cap, elems, rest, m, hmk, h4, e9, _, hlc, hcm, helen, hall, hrest, _⟩
  · simp only [List.cons.injEq, and_true] at h4
    subst h4
    exact ⟨[], none, 0, rfl, Nat.le_refl _, Nat.zero_le _, fun h => absurd h (by simp)⟩
  · simp only [List.cons.injEq, and_true] at h4
    subst h4
    subst e9
    simp only [DataW.weights, Tryz.underlying34, List.mem_cons, List.mem_append, List.length_map] at hw
    have hcap := cap_of (hrest rfl).1 helen hlc bytesIntT (hw _ (.inl rfl))
    obtain ⟨ps, hps, hrow⟩ := rows_of (α := Int) (by omega) cellsIntT (fun z => [.int .i64 z]) (fun _ => rfl) (fun cs y h => by
      obtain ⟨z, h0, _⟩ := DataW.trod_int Tryz.underlying3 h
      exact ⟨z, h0⟩) helen hall
    subst hps
    refine ⟨ps, some x, cap, rfl, hlc, by omega, fun h0 => ?_⟩
    obtain ⟨b, o, e, hb, hc⟩ := hrow h0
    refine ⟨b, o, by rw [e], hb, ?_⟩
    rw [intCells_flat]
    exact hc
theorem mark_of {n : Nat} {cs : List Value} {y : DataW H × List MemPlace} (h : DataW.trod enc Tryz.prog W 0 (fun _ => true) true n 36 cs = some y) (hw : ∀ q ∈ DataW.weights Tryz.prog 36 y.1, q ≤ 140737488351232) : ∃ (x : MK) (v : Value), cs = [.int .i64 x.pt, .int .i64 x.cls, v] ∧ RowM W W.heap.size v x.parts.length (intCells x.parts) := by
  obtain ⟨x0, x1, x2, k, rfl, rfl, hl, f0, f1, f2⟩ := structN3 Tryz.underlying36 h
  rw [cellsMk] at hl
  obtain ⟨c0, c1, c2, rfl⟩ := lenN3 hl
  simp only [cellsInts, cellsIntT, List.drop, List.take] at f0 f1 f2
  obtain ⟨p, h0, _⟩ := DataW.trod_int Tryz.underlying3 f0
  obtain ⟨q, h1, _⟩ := DataW.trod_int Tryz.underlying3 f1
  simp only [List.cons.injEq, and_true] at h0 h1
  subst h0 h1
  simp only [DataW.weights, Tryz.underlying36, List.map, DataW.weightsEach, List.append_nil, List.mem_append] at hw
  obtain ⟨ps, hps⟩ := ints_of f2 (fun q hq => hw q (.inr (.inr hq)))
  exact ⟨⟨p, q, ps⟩, c2, rfl, hps⟩
theorem marks_of {n : Nat} {v : Value} {y : DataW H × List MemPlace} (h : DataW.trod enc Tryz.prog W 0 (fun _ => true) true n 22 [v] = some y) (hw : ∀ q ∈ DataW.weights Tryz.prog 22 y.1, q ≤ 140737488351232) : ∃ (l : List MK) (A : Option Addr) (C : Nat), v = .slice A l.length C ∧ l.length ≤ C ∧ l.length ≤ 140737488351232 ∧ MarksAt W W.heap.size l A := by
  rcases DataW.trod_slice Tryz.underlying22 h with ⟨h4, _⟩ | ⟨x, len, cap, elems, rest, m, hmk, h4, e9, _, hlc, hcm, helen, hall, hrest, _⟩
  · simp only [List.cons.injEq, and_true] at h4
    subst h4
    exact ⟨[], none, 0, rfl, Nat.le_refl _, Nat.zero_le _, fun h => absurd h (by simp)⟩
  · simp only [List.cons.injEq, and_true] at h4
    subst h4
    subst e9
    simp only [DataW.weights, Tryz.underlying22, List.mem_cons, List.mem_append, List.length_map] at hw
    have hcap := cap_of (hrest rfl).1 helen hlc bytesMk (hw _ (.inl rfl))
    have hex : ∀ i, i < len → ∃ (x' : MK) (v1 : Value), W.cells? 0 (x.add (i * 3)) 3 = some [.int .i64 x'.pt, .int .i64 x'.cls, v1] ∧ RowM W W.heap.size v1 x'.parts.length (intCells x'.parts) := by
      intro i hi
      have h5 := hall i hi
      rw [cellsMk, List.getElem?_eq_getElem (by omega)] at h5
      obtain ⟨cs', h6, h7⟩ := Option.bind_eq_some_iff.1 h5
      obtain ⟨x', v1, rfl, he⟩ := mark_of h7 (fun q hq => hw q (.inr (.inl (weightsAll_mem (List.mem_map.2 ⟨elems[i], List.getElem_mem _, rfl⟩) hq))))
      exact ⟨x', v1, h6, he⟩
    obtain ⟨l, hlen, hget⟩ := list_of hex
    subst hlen
    refine ⟨l, some x, cap, rfl, hlc, by omega, fun h0 => ?_⟩
    have hx : x = ⟨x.block, x.off, none⟩ ∧ x.block < W.heap.size := by
      obtain ⟨v1, h6, _⟩ := hget 0 h0
      obtain ⟨_, _, hg⟩ := World.cells?_some h6
      have g0 := hg 0 (by omega)
      have e0 : (x.add (0 * 3)).add 0 = x := by simp [Addr.add]
      rw [e0] at g0
      exact ⟨cell_plainT g0, block_ltT g0⟩
    obtain ⟨b, o, hxb⟩ : ∃ b o, x = ⟨b, o, none⟩ := ⟨_, _, hx.1⟩
    subst hxb
    refine ⟨b, o, rfl, hx.2, fun i hi => ?_⟩
    obtain ⟨v1, h6, he⟩ := hget i hi
    obtain ⟨_, _, hg⟩ := World.cells?_some h6
    have q0 := hg 0 (by omega)
    have q1 := hg 1 (by omega)
    have q2 := hg 2 (by omega)
    rw [add_plain, add_plain] at q0 q1 q2
    exact ⟨v1, q0, q1, q2, he⟩
end
end Go.Proofs.YtccaaniepeohbaaGreatDoor
