/-
  Maps as they stand in memory: the list of their entries, what a look-up, a store and a range do with it.
-/
import Derived.Maps.RangeWalk
import Derived.Maps.OwnOps
import Derived.DeepKeys3
import Derived.ChangeKeysEq
import Derived.RowKit
namespace Go.Proofs.YtlkdjdcnbcegeaaGreatDoor
open Go Go.RowKit Go.WideShapes
set_option linter.unusedVariables false
set_option linter.unusedSimpArgs false
/-- What is asked of a key type: its good values are looked for by equality. -/
structure KeyOk (P : Program) (kt : TypeId) (K : Value → Prop) : Prop where
  check : ∀ {v : Value} (w : World) (em : Bool), K v → (Instr.checkKey em 10000 kt v).run P w = .ok () w
  find : ∀ {v : Value} (w : World) (l : List MapEntry), K v → (∀ x ∈ l, K x.key) →
    ((Instr.findKey kt v l).run P w = .ok none w ∧ ∀ x ∈ l, x.key ≠ v) ∨ ∃ j e, (Instr.findKey kt v l).run P w = .ok (some (j, e.val)) w ∧ l[j]? = some e ∧ e.key = v
  stay : ∀ {v : Value} (w : World), K v → (Instr.keyThatStays v v).run P w = .ok v w

def MapAt (w : World) (b : Nat) (K : Value → Prop) (l : List (Value × Value)) : Prop :=
  ∃ es clock, w.heap[b]? = some (.map es clock) ∧ MapKept.Stamped es clock ∧ (∀ x ∈ es.toList, K x.key) ∧ es.toList.map (fun x => (x.key, x.val)) = l

section
variable {P : Program} {w w' : World} {b : Nat} {K : Value → Prop} {l : List (Value × Value)}

theorem MapAt.lt (h : MapAt w b K l) : b < w.heap.size := by
  obtain ⟨es, clock, hb, _⟩ := h
  exact (Array.getElem?_eq_some_iff.1 hb).1
theorem MapAt.keep (h : MapAt w b K l) (hb : w'.heap[b]? = w.heap[b]?) : MapAt w' b K l := by
  obtain ⟨es, clock, h1, h2, h3, h4⟩ := h
  exact ⟨es, clock, hb.trans h1, h2, h3, h4⟩
theorem MapAt.made (w : World) (K : Value → Prop) : MapAt (w.alloc (.map #[] 0)) w.heap.size K [] :=
  ⟨#[], 0, (MapKept.heap_alloc w _).1, MapKept.stamped_empty 0, by simp, rfl⟩
/-- No key stands twice. -/
theorem MapAt.nodup (h : MapAt w b K l) : (l.map Prod.fst).Nodup := by
  obtain ⟨es, clock, h1, h2, h3, rfl⟩ := h
  rw [List.map_map]
  exact h2.2.2
theorem MapAt.run_len {t k e ty : TypeId} (h : MapAt w b K l) (ht : P.underlying t = some (.map k e)) : (Builtin.len_ #[t] ty #[.map (some b)]).run P w = .ok (.int .i64 l.length) w := by
  obtain ⟨es, clock, h1, h2, h3, rfl⟩ := h
  simp [Builtin.len_, run_underlying ht, MapKept.run_getObj_map h1, Result.andThen, goInt]

theorem MapAt.run_look {t k e : TypeId} (h : MapAt w b K l) (hK : KeyOk P k K) (ht : P.underlying t = some (.map k e)) {z : Value} (hz : (zeroValue e).run P w = .ok z w) {key : Value} (hkey : K key) (c : Bool) :
    ((Instr.lookup t (.map (some b)) key c).run P w = .ok (if c then .tuple #[z, .bool false] else z) w ∧ ∀ v, (key, v) ∉ l) ∨
    ∃ v, (Instr.lookup t (.map (some b)) key c).run P w = .ok (if c then .tuple #[v, .bool true] else v) w ∧ (key, v) ∈ l := by
  obtain ⟨es, clock, h1, h2, h3, rfl⟩ := h
  rcases hK.find w es.toList hkey h3 with ⟨hf, hn⟩ | ⟨j, x, hf, hj, hx⟩
  · refine Or.inl ⟨?_, ?_⟩
    · simp only [Instr.lookup, Sem.run_bind, run_underlying ht, MapKept.run_getObj_map h1, hK.check w _ hkey, hf, hz, Result.andThen, Sem.run_pure]
    · intro v hv
      obtain ⟨x, hx, e⟩ := List.mem_map.1 hv
      exact hn x hx (congrArg Prod.fst e)
  · refine Or.inr ⟨x.val, ?_, ?_⟩
    · simp only [Instr.lookup, Sem.run_bind, run_underlying ht, MapKept.run_getObj_map h1, hK.check w _ hkey, hf, Result.andThen, Sem.run_pure]
    · exact List.mem_map.2 ⟨x, List.mem_of_getElem? hj, by rw [hx]⟩

/-- A store: what stands there afterwards. -/
theorem MapAt.run_put {t k e : TypeId} (h : MapAt w b K l) (hK : KeyOk P k K) (ht : P.underlying t = some (.map k e)) {key val : Value} (hkey : K key) :
    ∃ w' l', (Instr.mapUpdate t (.map (some b)) key val).run P w = .ok () w' ∧ MapAt w' b K l' ∧ w.grownBy w' (some b) ∧ w'.heap.size = w.heap.size ∧ (∀ p ∈ l', p ∈ l ∨ p = (key, val)) ∧ ((∀ v, (key, v) ∉ l) → l' = l ++ [(key, val)]) ∧ l'.length ≤ l.length + 1 := by
  obtain ⟨es, clock, h1, h2, h3, rfl⟩ := h
  rcases hK.find w es.toList hkey h3 with ⟨hf, hn⟩ | ⟨j, x, hf, hj, hx⟩
  · refine ⟨{ w with heap := w.heap.setIfInBounds b (.map (es.push { key, val, born := clock }) (clock + 1)) }, _, by simp only [Instr.mapUpdate, Sem.run_bind, run_underlying ht, MapKept.run_getObj_map h1, hK.check w _ hkey, hf, Result.andThen, MapKept.run_setObj_map _ h1], ⟨_, _, (MapKept.heap_set h1).1, MapKept.stamped_push h2 hn, ?_, rfl⟩, ⟨rfl, rfl, rfl, by simp, fun i _ hi => (MapKept.heap_set h1).2 i (fun e => hi (by rw [e]))⟩, by simp, ?_, ?_, ?_⟩
    · intro y hy
      simp only [Array.toList_push, List.mem_append, List.mem_singleton] at hy
      rcases hy with hy | rfl
      · exact h3 y hy
      · exact hkey
    · intro p hp
      simp only [Array.toList_push, List.map_append, List.map_cons, List.map_nil, List.mem_append, List.mem_singleton] at hp
      exact hp
    · intro _
      simp
    · simp
  · have hj' : es[j]? = some x := by simpa using hj
    have hlj : j < es.size := (Array.getElem?_eq_some_iff.1 hj').1
    refine ⟨{ w with heap := w.heap.setIfInBounds b (.map (es.modify j fun e => { e with key := key, val := val }) clock) }, _, by simp only [Instr.mapUpdate, Sem.run_bind, run_underlying ht, MapKept.run_getObj_map h1, hK.check w _ hkey, hf, hj', Option.map_some, Option.getD_some, hx, hK.stay w hkey, Result.andThen, MapKept.run_setObj_map _ h1], ⟨_, _, (MapKept.heap_set h1).1, MapKept.stamped_modify h2 _ _ (fun _ _ => rfl) (fun e' _ he' => by rw [hj'] at he'; cases he'; exact hx.symm), ?_, rfl⟩, ⟨rfl, rfl, rfl, by simp, fun i _ hi => (MapKept.heap_set h1).2 i (fun e => hi (by rw [e]))⟩, by simp, ?_, ?_, ?_⟩
    · intro y hy
      obtain ⟨i, hi, rfl⟩ := List.getElem_of_mem hy
      simp only [Array.getElem_toList, Array.getElem_modify]
      split
      · exact hkey
      · exact h3 _ (by rw [← Array.getElem_toList]; exact List.getElem_mem _)
    · intro p hp
      obtain ⟨y, hy, rfl⟩ := List.mem_map.1 hp
      obtain ⟨i, hi, rfl⟩ := List.getElem_of_mem hy
      simp only [Array.getElem_toList, Array.getElem_modify]
      split
      · exact Or.inr rfl
      · refine Or.inl (List.mem_map.2 ⟨_, ?_, rfl⟩)
        rw [← Array.getElem_toList]; exact List.getElem_mem _
    · intro hno
      exact absurd (List.mem_map.2 ⟨x, List.mem_of_getElem? hj, by rw [hx]⟩) (hno x.val)
    · simp
end

/-- A map that is gone through: which entries are still to come. -/
def RangeAt (w : World) (b r : Nat) (K : Value → Prop) (l left : List (Value × Value)) : Prop :=
  ∃ es clock since seen c0, w.heap[b]? = some (.map es clock) ∧ MapKept.Stamped es clock ∧ (∀ x ∈ es.toList, K x.key) ∧ es.toList.map (fun x => (x.key, x.val)) = l ∧
    w.heap[r]? = some (.mapIter (some b) since seen c0) ∧ (∀ x ∈ es.toList, x.born < since) ∧ since ≤ c0 ∧ since ≤ clock ∧ (leftOf es seen).toList.map (fun x => (x.key, x.val)) = left

section
variable {P : Program} {w w' : World} {b r : Nat} {K : Value → Prop} {l left : List (Value × Value)}
theorem RangeAt.keep (h : RangeAt w b r K l left) (hb : w'.heap[b]? = w.heap[b]?) (hr : w'.heap[r]? = w.heap[r]?) : RangeAt w' b r K l left := by
  obtain ⟨es, clock, since, seen, c0, h1, h2, h3, h4, h5, h6⟩ := h
  exact ⟨es, clock, since, seen, c0, hb.trans h1, h2, h3, h4, hr.trans h5, h6⟩
theorem RangeAt.ne (h : RangeAt w b r K l left) : r ≠ b := by
  obtain ⟨es, clock, since, seen, c0, h1, h2, h3, h4, h5, h6⟩ := h
  rintro rfl
  rw [h1] at h5
  cases h5
theorem RangeAt.map (h : RangeAt w b r K l left) : MapAt w b K l := by
  obtain ⟨es, clock, since, seen, c0, h1, h2, h3, h4, h5, h6⟩ := h
  exact ⟨es, clock, h1, h2, h3, h4⟩
theorem MapAt.run_range {t k e : TypeId} (h : MapAt w b K l) (ht : P.underlying t = some (.map k e)) :
    ∃ w', (Instr.range t (.map (some b))).run P w = .ok (.pointer (some ⟨w.heap.size, 0, none⟩)) w' ∧ RangeAt w' b w.heap.size K l l ∧ Below w.heap.size w w' ∧ w'.heap.size = w.heap.size + 1 := by
  have hlt := h.lt
  obtain ⟨es, clock, h1, h2, h3, rfl⟩ := h
  refine ⟨_, run_range_map w t k e b es clock ht h1, ⟨es, clock, clock, #[], clock, ((MapKept.heap_alloc w _).2 b hlt).trans h1, h2, h3, rfl, (MapKept.heap_alloc w _).1, h2.1, Nat.le_refl _, Nat.le_refl _, by unfold leftOf; rw [Array.toList_filter, List.filter_eq_self.2 (by simp)]⟩, (Below.refl _ w).alloc (Nat.le_refl _) _, by simp⟩

theorem RangeAt.run_next (h : RangeAt w b r K l left) (ty : TypeId) :
    (left = [] ∧ (Instr.next (.pointer (some ⟨r, 0, none⟩)) false ty).run P w = .ok (.tuple #[.bool false]) w) ∨
    ∃ l1 l2 key v w', left = l1 ++ (key, v) :: l2 ∧ K key ∧ (Instr.next (.pointer (some ⟨r, 0, none⟩)) false ty).run P w = .ok (.tuple #[.bool true, key, v]) w' ∧
      RangeAt w' b r K l (l1 ++ l2) ∧ w.grownBy w' (some r) ∧ w'.heap.size = w.heap.size ∧ (Instr.entry (.pointer (some ⟨r, 0, none⟩))).run P w' = .ok (.tuple #[key, v]) w' := by
  have hne := h.ne
  obtain ⟨es, clock, since, seen, c0, hb, hst, hk, rfl, hr, hold, hsc, hsk, rfl⟩ := h
  rcases run_next_at (P := P) w ty r b since c0 seen es clock hr hb hold hsc with ⟨h0, hrun⟩ | ⟨e, he, w1, hal, hrun⟩
  · refine Or.inl ⟨?_, hrun⟩
    rw [Array.eq_empty_of_size_eq_zero h0]; rfl
  · have hem : e ∈ es.toList := by
      have := he
      unfold leftOf at this
      simp at this
      simpa using this.1
    obtain ⟨l1, l2, hl⟩ := List.append_of_mem he
    have hr1 : w1.heap[r]? = some (.mapIter (some b) since seen c0) := by rcases hal with rfl | rfl <;> exact hr
    have hb1 : w1.heap[b]? = some (.map es clock) := by rcases hal with rfl | rfl <;> exact hb
    have hset := MapKept.heap_set (o' := .mapIter (some b) since (seen.push e.born) clock) hr1
    have hb' : (ChangeMaps.setBlock w1 r (.mapIter (some b) since (seen.push e.born) clock)).heap[b]? = some (.map es clock) := (hset.2 b (fun e1 => hne e1.symm)).trans hb1
    have hnd : ((leftOf es seen).toList.map (·.born)).Nodup := by
      unfold leftOf
      rw [Array.toList_filter]
      exact (List.Sublist.map _ List.filter_sublist).nodup hst.2.1
    have hfil : (leftOf es (seen.push e.born)).toList = l1 ++ l2 := by
      have e1 : (leftOf es (seen.push e.born)).toList = (leftOf es seen).toList.filter (fun x => !(x.born == e.born)) := by
        unfold leftOf
        simp only [Array.toList_filter, List.filter_filter]
        refine List.filter_congr fun x _ => ?_
        rw [contains_push]
        cases seen.contains x.born <;> cases (x.born == e.born) <;> rfl
      rw [e1, hl]
      rw [hl, List.map_append, List.map_cons] at hnd
      have hnd' := List.nodup_append.1 hnd
      have hn2 := List.nodup_cons.1 hnd'.2.1
      rw [List.filter_append, List.filter_cons, if_neg (by simp)]
      congr 1
      · rw [List.filter_eq_self]
        intro x hx
        have := hnd'.2.2 x.born (List.mem_map.2 ⟨x, hx, rfl⟩) e.born (by simp)
        simp [this]
      · rw [List.filter_eq_self]
        intro x hx
        have : x.born ≠ e.born := fun h => hn2.1 (h ▸ List.mem_map.2 ⟨x, hx, rfl⟩)
        simp [this]
    refine Or.inr ⟨l1.map (fun x => (x.key, x.val)), l2.map (fun x => (x.key, x.val)), e.key, e.val, _, by rw [hl]; simp, hk e hem, hrun,
      ⟨es, clock, since, seen.push e.born, clock, hb', hst, hk, rfl, hset.1, hold, hsk, hsk, by rw [hfil]; simp⟩, ?_, ?_,
      run_entry_at _ r b since seen es clock e hset.1 hb' hem hst.2.1⟩
    · rcases hal with rfl | rfl <;> exact ⟨rfl, rfl, rfl, by simp [ChangeMaps.setBlock], fun i _ hi => hset.2 i (fun e1 => hi (by rw [e1]))⟩
    · rcases hal with rfl | rfl <;> simp [ChangeMaps.setBlock]
end

/-- Integers as keys. -/
theorem keyOk_int {P : Program} {k : TypeId} {q : IntKind} (hk : P.underlying k = some (.int q)) : KeyOk P k (fun v => ∃ a, v = .int q a) where
  check := by
    rintro v w em ⟨a, rfl⟩
    exact MapKept.run_checkKey hk (by simp [MapKept.IsKey]) em 9999
  find := by
    rintro v w l ⟨a, rfl⟩ hl
    rcases MapKept.findNow_spec (d := .int q) (k := .int q a) (by simp [MapKept.IsKey]) l 0 (fun x hx => by obtain ⟨c, e⟩ := hl x hx; rw [e]; simp [MapKept.IsKey]) with ⟨h1, h2⟩ | ⟨j, e, h1, h2, h3⟩
    · exact Or.inl ⟨MapKept.run_findKey hk h1, h2⟩
    · exact Or.inr ⟨j, e, MapKept.run_findKey hk (by rw [h1, Nat.zero_add]), h2, h3⟩
  stay := by
    rintro v w ⟨a, rfl⟩
    exact MapKept.run_keyThatStays (d := .int q) (by simp [MapKept.IsKey])

end Go.Proofs.YtlkdjdcnbcegeaaGreatDoor
