/-
  A table's text by lines, in plain words; a table in memory.
-/
import Derived.Test.YtlkdjdcnbcegeaaGreatDoorKAC
import Derived.Test.YtlkdjdcnbcegeaaGreatDoorKAB
import Derived.Test.YtlkdjdcnbcegeaaGreatDoorKE
import Derived.Test.YtlkdjdcnbcegeaaGreatDoorKD
/-! A table's text by lines, in plain words; a table in memory. -/
namespace Go.Proofs.YtlkdjdcnbcegeaaGreatDoor
open Go.RowKit Go.WideShapes
set_option linter.unusedVariables false
set_option linter.unusedSimpArgs false
/-- A row that a call owns reads as its cells. -/
theorem own_rowM {w : World} {base n size : Nat} {e : TypeId} {v : Value} {xs : List Value} (h : w.ownsRow base e size v n xs) (hn : n ≤ 140737488351232) : RowM w w.heap.size v n xs := by
  rcases h.2 with ⟨e, h0⟩ | ⟨g, cap, cur, rfl, hb, hg, h1, _, h3, h4⟩
  · subst h0
    exact ⟨_, _, e, Nat.le_refl _, by omega, fun h => absurd h (by omega)⟩
  · refine ⟨_, _, rfl, h1, hn, fun _ => ⟨g, 0, rfl, (Array.getElem?_eq_some_iff.1 hg).1, fun i u hu => ?_⟩⟩
    have hi : i < xs.length := (List.getElem?_eq_some_iff.1 hu).1
    simp only [World.cell?, hg, Nat.zero_add]
    rw [← h4, List.getElem?_take] at hu
    split at hu
    · simpa using hu
    · cases hu
/-- The lines of a table's text. -/
def tabLs (l : List EN) : List (Option EN) := if l = [] then [none] else l.map some
def oText : Option EN → List UInt8
  | none => []
  | some x => x.text
theorem tabLs_id (l : List EN) : (tabLs l).filterMap id = l := by
  unfold tabLs
  split
  · next h => subst h; rfl
  · rw [List.filterMap_map]; simp
theorem tabLs_text (l : List EN) : Lib.join ((tabLs l).map oText) [10] = tabText l := by
  unfold tabLs tabText
  split
  · next h => subst h; rfl
  · rw [List.map_map]; rfl
theorem tabLs_mem {l : List EN} {x : EN} (h : some x ∈ tabLs l) : x ∈ l := by
  unfold tabLs at h
  split at h
  · simp at h
  · simpa using h
theorem hexU_ne10T : ∀ d, d < 16 → hexU d ≠ 10 := by
  intro d hd
  have hc : d = 0 ∨ d = 1 ∨ d = 2 ∨ d = 3 ∨ d = 4 ∨ d = 5 ∨ d = 6 ∨ d = 7 ∨ d = 8 ∨ d = 9 ∨ d = 10 ∨ d = 11 ∨ d = 12 ∨ d = 13 ∨ d = 14 ∨ d = 15 := by omega
  rcases hc with rfl | rfl | rfl | rfl | rfl | rfl | rfl | rfl | rfl | rfl | rfl | rfl | rfl | rfl | rfl | rfl <;> decide
theorem hexU_ne35T : ∀ d, d < 16 → hexU d ≠ 35 := by
  intro d hd
  have hc : d = 0 ∨ d = 1 ∨ d = 2 ∨ d = 3 ∨ d = 4 ∨ d = 5 ∨ d = 6 ∨ d = 7 ∨ d = 8 ∨ d = 9 ∨ d = 10 ∨ d = 11 ∨ d = 12 ∨ d = 13 ∨ d = 14 ∨ d = 15 := by omega
  rcases hc with rfl | rfl | rfl | rfl | rfl | rfl | rfl | rfl | rfl | rfl | rfl | rfl | rfl | rfl | rfl | rfl <;> decide
theorem elText_no10 (e : EL) : (10 : UInt8) ∉ e.text := by
  have h1 : (10 : UInt8) ∉ hexW e.p.toNat := hexW_noT hexU_ne10T _
  have h2 : (10 : UInt8) ∉ hexW e.s.toNat := hexW_noT hexU_ne10T _
  have h3 : (10 : UInt8) ∉ hexW e.t.toNat := hexW_noT hexU_ne10T _
  unfold EL.text
  simp only [List.mem_append, List.mem_cons, List.not_mem_nil, or_false, h1, h2, h3, false_or, not_or]
  cases e.v <;> decide
theorem join_no (c s : UInt8) (hs : c ≠ s) : ∀ l : List (List UInt8), (∀ x ∈ l, c ∉ x) → c ∉ Lib.join l [s]
  | [], _ => by simp [Lib.join_nil]
  | x :: r, h => by
    rw [Lib.join_cons, List.mem_append, not_or]
    refine ⟨h x (by simp), ?_⟩
    have : ∀ r : List (List UInt8), (∀ x ∈ r, c ∉ x) → c ∉ Lib.joinTail [s] r := by
      intro r
      induction r with
      | nil => intro _; simp [Lib.joinTail]
      | cons y r ih =>
        intro hr
        have h1 := ih (fun z hz => hr z (by simp [hz]))
        have h2 := hr y (by simp)
        simp only [Lib.joinTail, List.map_cons, List.flatten_cons, List.mem_append, List.mem_cons, List.not_mem_nil, or_false, not_or] at h1 ⊢
        exact ⟨⟨hs, h2⟩, h1⟩
    exact this r (fun z hz => h z (by simp [hz]))
theorem enText_no10 (x : EN) : (10 : UInt8) ∉ x.text := by
  unfold EN.text
  simp only [List.mem_append, List.mem_cons, List.not_mem_nil, or_false, not_or]
  refine ⟨⟨?_, by decide⟩, ?_⟩
  · refine join_no 10 32 (by decide) _ fun y hy => ?_
    obtain ⟨p, _, rfl⟩ := List.mem_map.1 hy
    exact hexW_noT hexU_ne10T _
  · intro h
    obtain ⟨y, hy, h2⟩ := List.mem_flatten.1 h
    obtain ⟨e, _, rfl⟩ := List.mem_map.1 hy
    exact elText_no10 e h2
theorem oText_no10 (x : Option EN) : (10 : UInt8) ∉ oText x := by
  cases x with
  | none => simp [oText]
  | some x => exact enText_no10 x
/-- An entry's text begins with a digit. -/
theorem enText_head {x : EN} (h : 1 ≤ x.pts.length) : ∃ c r, x.text = c :: r ∧ c ≠ 35 := by
  obtain ⟨pts, els⟩ := x
  match pts, h with
  | p :: ps, _ =>
    have h4 : 4 ≤ (hexW p.toNat).length := by rw [hexW_len]; omega
    have hno : (35 : UInt8) ∉ hexW p.toNat := hexW_noT hexU_ne35T _
    match hw : hexW p.toNat, h4 with
    | c :: r, _ =>
      refine ⟨c, r ++ Lib.joinTail [32] (ps.map fun p => hexW p.toNat) ++ [59] ++ (els.map EL.text).flatten, ?_, ?_⟩
      · simp only [EN.text, List.map_cons, Lib.join_cons, hw, List.cons_append, List.append_assoc]
      · rw [hw] at hno
        intro e
        exact hno (by simp [e])

/-- An entry of a table's map. -/
def EntM (w : World) (B : Nat) (x : EN) (p : Value × Value) : Prop := p.1 = rowVal x.pts ∧ RowM w B p.2 x.els.length (elsCells x.els)
def IntKeyT (v : Value) : Prop := ∃ a, v = Value.int .i64 a
/-- A table's two maps. -/
def TabM (w : World) (B b1 b2 : Nat) (l : List EN) : Prop :=
  ∃ m m2 : List (Value × Value), MapAt w b1 RowKey m ∧ m.length = l.length ∧ (∀ (i : Nat) x p, l[i]? = some x → m[i]? = some p → EntM w B x p) ∧ MapAt w b2 IntKeyT m2 ∧ ∀ p ∈ m2, ∃ a, p.2 = Value.int .i64 a
theorem RowM.cells {w w' : World} {B B' n : Nat} {v : Value} {vs : List Value} (h : RowM w B v n vs) (hk : ∀ p : Addr, p.block < B → w'.cell? p = w.cell? p) (hB : B ≤ B') : RowM w' B' v n vs := (h.keep hk).more hB
theorem TabM.keep {w w' : World} {B B' b1 b2 : Nat} {l : List EN} (h : TabM w B b1 b2 l) (h1 : w'.heap[b1]? = w.heap[b1]?) (h2 : w'.heap[b2]? = w.heap[b2]?) (hk : ∀ p : Addr, p.block < B → w'.cell? p = w.cell? p) (hB : B ≤ B') : TabM w' B' b1 b2 l := by
  obtain ⟨m, m2, a1, a2, a3, a4, a5⟩ := h
  exact ⟨m, m2, a1.keep h1, a2, fun i x p hx hp => ⟨(a3 i x p hx hp).1, (a3 i x p hx hp).2.cells hk hB⟩, a4.keep h2, a5⟩
theorem TabM.below {w w' : World} {b1 b2 : Nat} {l : List EN} (h : TabM w w.heap.size b1 b2 l) (hb : Below w.heap.size w w') : TabM w' w'.heap.size b1 b2 l := by
  have h1 : b1 < w.heap.size := by obtain ⟨m, m2, a1, _⟩ := h; exact a1.lt
  have h2 : b2 < w.heap.size := by obtain ⟨m, m2, _, _, _, a4, _⟩ := h; exact a4.lt
  exact h.keep (hb.block _ h1) (hb.block _ h2) (fun p hp => hb.cell hp) hb.size
/-- Where only a map has turned, no cell has. -/
theorem cell_mapT {w w' : World} {b : Nat} {K K' : Value → Prop} {m m' : List (Value × Value)} (hg : w.grownBy w' (some b)) (h : MapAt w b K m) (h' : MapAt w' b K' m') (p : Addr) (hp : p.block < w.heap.size) : w'.cell? p = w.cell? p := by
  by_cases e : p.block = b
  · obtain ⟨es, c, h1, _⟩ := h
    obtain ⟨es', c', h1', _⟩ := h'
    unfold World.cell?
    rw [e, h1, h1']
  · exact World.cell?_of_block (hg.block p.block hp (by simp [e]))
theorem TabM.fresh {w : World} {B b1 b2 : Nat} {l : List EN} (h : TabM w B b1 b2 l) (x : EN) (hl : ∀ y ∈ l, y.pts.length ≤ 8) (hx8 : x.pts.length ≤ 8) (hx : ∀ y ∈ l, y.pts ≠ x.pts) :
    ∃ m : List (Value × Value), MapAt w b1 RowKey m ∧ m.length = l.length ∧ (∀ (i : Nat) x p, l[i]? = some x → m[i]? = some p → EntM w B x p) ∧ ∀ v, (rowVal x.pts, v) ∉ m := by
  obtain ⟨m, m2, a1, a2, a3, a4, a5⟩ := h
  refine ⟨m, a1, a2, a3, fun v hv => ?_⟩
  obtain ⟨i, hi, e⟩ := List.getElem_of_mem hv
  have h1 := a3 i l[i] m[i] (List.getElem?_eq_getElem (by omega)) (List.getElem?_eq_getElem hi)
  have h2 : l[i] ∈ l := List.getElem_mem _
  have h3 : (rowVal x.pts) = rowVal l[i].pts := by rw [← h1.1, e]
  exact hx _ h2 (rowVal_inj hx8 (hl _ h2) h3).symm
end Go.Proofs.YtlkdjdcnbcegeaaGreatDoor

/-! ref04.IsPoint, ref06.Right and element, table.isPoint and right. -/
namespace Go.Proofs.YtlkdjdcnbcegeaaGreatDoor
open Go.RowKit Go.WideShapes
set_option linter.unusedVariables false
set_option maxHeartbeats 1000000 in
theorem refPoint_anyT (p : Int) (w : World) : Calls Tryz.prog 65 #[.int .i64 p] w (Ret (.bool (pointB p)) w) := by
  have HB := Lib.hid (Below.refl w.heap.size w)
  go_enter Tryz.func65, Tryz.ntmps65
  go_wp2_with fail
  all_goals (go_ret; refine ret_b ?_ HB.out; unfold pointB; first | exact (decide_eq_true (by omega)).symm | exact (decide_eq_false (by omega)).symm | (rw [Bool.eq_iff_iff]; simp only [Bool.or_eq_true, decide_eq_true_eq]; omega))
set_option maxHeartbeats 1000000 in
theorem tabPoint_any (p : Int) (w : World) : Calls Tryz.prog 48 #[.int .i64 p] w (Ret (.bool (pointB p)) w) := by
  have HB := Lib.hid (Below.refl w.heap.size w)
  go_enter Tryz.func48, Tryz.ntmps48
  go_wp2_with fail
  all_goals (go_ret; refine ret_b ?_ HB.out; unfold pointB; first | exact (decide_eq_true (by omega)).symm | exact (decide_eq_false (by omega)).symm | (rw [Bool.eq_iff_iff]; simp only [Bool.or_eq_true, decide_eq_true_eq]; omega))
set_option maxHeartbeats 1000000 in
theorem refRight_any (e : EL) (w : World) : Calls Tryz.prog 36 #[.agg #[.bool e.v, .int .i64 e.p, .int .i64 e.s, .int .i64 e.t]] w (Ret (.bool (rightB e)) w) := by
  obtain ⟨v, p, s, t⟩ := e
  have HB := Lib.hid (below_a1 w)
  simp only
  cases v
  all_goals (
    go_enter Tryz.func36, Tryz.ntmps36
    go_wp2_with fail)
  all_goals (go_ret; refine ret_b ?_ (HB.out _); (clear HB; unfold rightB; (try simp only [bne_eq_false_iff_eq, beq_eq_false_iff_ne, ne_eq, bne_iff_ne, beq_iff_eq] at *); simp only [reduceCtorEq, false_or, true_or, and_true]; first | exact (decide_eq_true (by omega)).symm | exact (decide_eq_false (by omega)).symm | (rw [Bool.eq_iff_iff]; simp only [decide_eq_true_eq, bne_iff_ne]; omega)))
set_option maxRecDepth 100000 in
set_option maxHeartbeats 2000000 in
theorem tabRight_any (e : EL) (w : World) : Calls Tryz.prog 58 #[.agg #[.bool e.v, .int .i64 e.p, .int .i64 e.s, .int .i64 e.t]] w (Ret (.bool (rightB e)) w) := by
  obtain ⟨v, p, s, t⟩ := e
  have HB := Lib.hid (below_a2 w)
  simp only
  cases v
  all_goals (
    go_enter Tryz.func58, Tryz.ntmps58
    go_wp2_with fail
    go_loop [4, 13] (fun x i => ∃ (k : Nat), i = .int .i64 k ∧ k ≤ 3 ∧ Hid ((0 < k → 0 ≤ p ∧ p ≤ 65535) ∧ (1 < k → 0 ≤ s ∧ s ≤ 65535) ∧ (2 < k → 0 ≤ t ∧ t ≤ 65535))) (fun _ i => 3 - (intOf i).toNat)
    case atStart => exact ⟨0, rfl, by omega, Lib.hid ⟨fun h => by omega, fun h => by omega, fun h => by omega⟩⟩
    case round =>
      obtain ⟨k, rfl, hk, HK⟩ := hrel
      have hc : k = 0 ∨ k = 1 ∨ k = 2 ∨ k = 3 := by omega
      rcases hc with rfl | rfl | rfl | rfl
      · go_wp2_with fail
        all_goals (first
          | (go_round
             case rel => exact ⟨1, rfl, by omega, Lib.hid ⟨fun h => by omega, fun h => by omega, fun h => by omega⟩⟩
             case measure => simp [intOf])
          | (go_ret; refine ret_b ?_ (HB.out _ _); (clear HB; unfold rightB; simp only; first | exact (decide_eq_true (by omega)).symm | exact (decide_eq_false (by omega)).symm | (simp; done) | (rw [Bool.eq_iff_iff]; simp; omega) | (simp at *; omega) | trace_state)))
      · have hk := HK.out.1 (by omega)
        go_wp2_with fail
        all_goals (first
          | (go_round
             case rel => exact ⟨2, rfl, by omega, Lib.hid ⟨fun h => by omega, fun h => by omega, fun h => by omega⟩⟩
             case measure => simp [intOf])
          | (go_ret; refine ret_b ?_ (HB.out _ _); (clear HB; unfold rightB; simp only; first | exact (decide_eq_true (by omega)).symm | exact (decide_eq_false (by omega)).symm | (simp; done) | (rw [Bool.eq_iff_iff]; simp; omega) | (simp at *; omega) | trace_state)))
      · have hk1 := HK.out.1 (by omega)
        have hk2 := HK.out.2.1 (by omega)
        go_wp2_with fail
        all_goals (first
          | (go_round
             case rel => exact ⟨3, rfl, by omega, Lib.hid ⟨fun h => by omega, fun h => by omega, fun h => by omega⟩⟩
             case measure => simp [intOf])
          | (go_ret; refine ret_b ?_ (HB.out _ _); (clear HB; unfold rightB; simp only; first | exact (decide_eq_true (by omega)).symm | exact (decide_eq_false (by omega)).symm | (simp; done) | (rw [Bool.eq_iff_iff]; simp; omega) | (simp at *; omega) | trace_state)))
      · have hk1 := HK.out.1 (by omega)
        have hk2 := HK.out.2.1 (by omega)
        have hk3 := HK.out.2.2 (by omega)
        go_wp2_with fail
        all_goals (go_ret; refine ret_b ?_ (HB.out _ _); (clear HB; unfold rightB; simp only; first | exact (decide_eq_true (by omega)).symm | exact (decide_eq_false (by omega)).symm | (simp; done) | (rw [Bool.eq_iff_iff]; simp; omega) | (simp at *; omega) | trace_state)))
end Go.Proofs.YtlkdjdcnbcegeaaGreatDoor

/-! How long the longest entry is that begins with a point, as the map holds it. -/
namespace Go.Proofs.YtlkdjdcnbcegeaaGreatDoor
open Go.RowKit Go.WideShapes
set_option linter.unusedVariables false
set_option linter.unusedSimpArgs false
theorem MapAt.one' {w : World} {b : Nat} {K : Value → Prop} {l : List (Value × Value)} (h : MapAt w b K l) {k u u' : Value} (hu : (k, u) ∈ l) (hu' : (k, u') ∈ l) : u = u' := by
  have hn := h.nodup
  obtain ⟨i, hi, e⟩ := List.getElem_of_mem hu
  obtain ⟨j, hj, e'⟩ := List.getElem_of_mem hu'
  have hij : i = j := (List.getElem_inj (h₀ := by simpa using hi) (h₁ := by simpa using hj) hn).1 (by simp [e, e'])
  subst hij
  rw [e] at e'
  exact (Prod.mk.inj e').2
/-- A store: what stands there afterwards, and what stays. -/
theorem MapAt.run_put2 {P : Program} {w : World} {b : Nat} {K : Value → Prop} {l : List (Value × Value)} {t k e : TypeId} (h : MapAt w b K l) (hK : KeyOk P k K) (ht : P.underlying t = some (.map k e)) {key val : Value} (hkey : K key) :
    ∃ w' l', (Instr.mapUpdate t (.map (some b)) key val).run P w = .ok () w' ∧ MapAt w' b K l' ∧ w.grownBy w' (some b) ∧ w'.heap.size = w.heap.size ∧ (key, val) ∈ l' ∧ (∀ p ∈ l', p ∈ l ∨ p = (key, val)) ∧ (∀ p ∈ l, p.1 ≠ key → p ∈ l') := by
  obtain ⟨es, clock, h1, h2, h3, rfl⟩ := h
  rcases hK.find w es.toList hkey h3 with ⟨hf, hn⟩ | ⟨j, x, hf, hj, hx⟩
  · refine ⟨{ w with heap := w.heap.setIfInBounds b (.map (es.push { key, val, born := clock }) (clock + 1)) }, _, by simp only [Instr.mapUpdate, Sem.run_bind, run_underlying ht, MapKept.run_getObj_map h1, hK.check w _ hkey, hf, Result.andThen, MapKept.run_setObj_map _ h1], ⟨_, _, (MapKept.heap_set h1).1, MapKept.stamped_push h2 hn, ?_, rfl⟩, ⟨rfl, rfl, rfl, by simp, fun i _ hi => (MapKept.heap_set h1).2 i (fun e => hi (by rw [e]))⟩, by simp, ?_, ?_, ?_⟩
    · intro y hy
      simp only [Array.toList_push, List.mem_append, List.mem_singleton] at hy
      rcases hy with hy | rfl
      · exact h3 y hy
      · exact hkey
    · simp
    · intro p hp
      simp only [Array.toList_push, List.map_append, List.map_cons, List.map_nil, List.mem_append, List.mem_singleton] at hp
      exact hp
    · intro p hp _
      simp only [Array.toList_push, List.map_append, List.map_cons, List.map_nil, List.mem_append, List.mem_singleton]
      exact Or.inl hp
  · have hj' : es[j]? = some x := by simpa using hj
    have hlj : j < es.size := (Array.getElem?_eq_some_iff.1 hj').1
    refine ⟨{ w with heap := w.heap.setIfInBounds b (.map (es.modify j fun e => { e with key := key, val := val }) clock) }, _, by simp only [Instr.mapUpdate, Sem.run_bind, run_underlying ht, MapKept.run_getObj_map h1, hK.check w _ hkey, hf, hj', Option.map_some, Option.getD_some, hx, hK.stay w hkey, Result.andThen, MapKept.run_setObj_map _ h1], ⟨_, _, (MapKept.heap_set h1).1, MapKept.stamped_modify h2 _ _ (fun _ _ => rfl) (fun e' _ he' => by rw [hj'] at he'; cases he'; exact hx.symm), ?_, rfl⟩, ⟨rfl, rfl, rfl, by simp, fun i _ hi => (MapKept.heap_set h1).2 i (fun e => hi (by rw [e]))⟩, by simp, ?_, ?_, ?_⟩
    · intro y hy
      obtain ⟨i, hi, rfl⟩ := List.getElem_of_mem hy
      simp only [Array.getElem_toList, Array.getElem_modify]
      split
      · exact hkey
      · exact h3 _ (by rw [← Array.getElem_toList]; exact List.getElem_mem _)
    · refine List.mem_map.2 ⟨(es.modify j fun e => { e with key := key, val := val })[j]'(by simpa using hlj), ?_, ?_⟩
      · rw [← Array.getElem_toList]; exact List.getElem_mem _
      · simp [Array.getElem_modify]
    · intro p hp
      obtain ⟨y, hy, rfl⟩ := List.mem_map.1 hp
      obtain ⟨i, hi, rfl⟩ := List.getElem_of_mem hy
      simp only [Array.getElem_toList, Array.getElem_modify]
      split
      · exact Or.inr rfl
      · refine Or.inl (List.mem_map.2 ⟨_, ?_, rfl⟩)
        rw [← Array.getElem_toList]; exact List.getElem_mem _
    · intro p hp hne
      obtain ⟨y, hy, rfl⟩ := List.mem_map.1 hp
      obtain ⟨i, hi, rfl⟩ := List.getElem_of_mem hy
      have hij : j ≠ i := fun e => by
        subst e
        have h9 := (Array.getElem?_eq_some_iff.1 hj').2
        simp only [Array.getElem_toList] at hne
        rw [h9] at hne
        exact hne hx
      refine List.mem_map.2 ⟨(es.modify j fun e => { e with key := key, val := val })[i]'(by simpa using hi), ?_, ?_⟩
      · rw [← Array.getElem_toList]; exact List.getElem_mem _
      · simp [Array.getElem_modify, hij]
/-- How long the longest entry is that begins with p. -/
def longP (l : List EN) (p : Int) : Nat := l.foldl (fun a x => if x.pts.head? = some p then max a x.pts.length else a) 0
theorem longP_snoc (l : List EN) (x : EN) (p : Int) : longP (l ++ [x]) p = if x.pts.head? = some p then max (longP l p) x.pts.length else longP l p := by simp [longP]
def LongM (w : World) (b : Nat) (l : List EN) : Prop := ∃ m2 : List (Value × Value), MapAt w b IntKeyT m2 ∧ (∀ q ∈ m2, ∃ p : Int, q = (.int .i64 p, .int .i64 (longP l p))) ∧ ∀ p, longP l p ≠ 0 → (Value.int .i64 p, Value.int .i64 (longP l p)) ∈ m2
theorem LongM.keep {w w' : World} {b : Nat} {l : List EN} (h : LongM w b l) (hb : w'.heap[b]? = w.heap[b]?) : LongM w' b l := by
  obtain ⟨m2, h1, h2⟩ := h
  exact ⟨m2, h1.keep hb, h2⟩
theorem LongM.lt {w : World} {b : Nat} {l : List EN} (h : LongM w b l) : b < w.heap.size := by obtain ⟨m2, h1, h2⟩ := h; exact h1.lt
set_option maxRecDepth 100000 in
theorem LongM.look {w : World} {b : Nat} {l : List EN} (h : LongM w b l) (p : Int) : (Instr.lookup 99 (.map (some b)) (.int .i64 p) false).run Tryz.prog w = .ok (.int .i64 (longP l p)) w := by
  obtain ⟨m2, h1, h2, h3⟩ := h
  rcases h1.run_look (P := Tryz.prog) (keyOk_int Tryz.underlying3) Tryz.underlying99 (Tryz.zeroValue3 w) (key := .int .i64 p) ⟨p, rfl⟩ false with ⟨hr, hno⟩ | ⟨u, hr, hu⟩
  · have h0 : longP l p = 0 := Classical.byContradiction fun h => hno _ (h3 p h)
    rw [hr, h0]; rfl
  · obtain ⟨p', e⟩ := h2 _ hu
    injection e with e1 e2
    have e3 : p = p' := by simpa using e1
    subst e3
    rw [hr, e2]; rfl
theorem LongM.put {w : World} {b : Nat} {l : List EN} (h : LongM w b l) (x : EN) (p0 : Int) (hx : x.pts.head? = some p0) (c : Int) (hc : c = max (longP l p0 : Int) x.pts.length) : ∃ w' : World, (Instr.mapUpdate 99 (.map (some b)) (.int .i64 p0) (.int .i64 c)).run Tryz.prog w = .ok () w' ∧ LongM w' b (l ++ [x]) ∧ w.grownBy w' (some b) ∧ w'.heap.size = w.heap.size ∧ ∃ m m', MapAt w b IntKeyT m ∧ MapAt w' b IntKeyT m' := by
  obtain ⟨m2, h1, h2, h3⟩ := h
  obtain ⟨w', l', r1, r2, r3, r4, r5, r6, r7⟩ := h1.run_put2 (P := Tryz.prog) (keyOk_int Tryz.underlying3) Tryz.underlying99 (key := .int .i64 p0) (val := .int .i64 c) ⟨p0, rfl⟩
  have hl0 : (longP (l ++ [x]) p0 : Int) = c := by rw [longP_snoc, if_pos hx, hc]; omega
  have hl : ∀ p, p ≠ p0 → longP (l ++ [x]) p = longP l p := fun p hp => by rw [longP_snoc, if_neg]; rw [hx]; intro e; injection e with e; exact hp e.symm
  refine ⟨w', r1, ⟨l', r2, fun q hq => ?_, fun p hp => ?_⟩, r3, r4, _, _, h1, r2⟩
  · rcases r6 q hq with hq2 | rfl
    · obtain ⟨p, rfl⟩ := h2 q hq2
      by_cases hp : p = p0
      · subst hp
        have := r2.one' r5 hq
        exact ⟨p, by rw [← this, hl0]⟩
      · exact ⟨p, by rw [hl p hp]⟩
    · exact ⟨p0, by rw [hl0]⟩
  · by_cases hp0 : p = p0
    · subst hp0
      rw [hl0]; exact r5
    · rw [hl p hp0] at hp ⊢
      exact r7 _ (h3 p hp) (by simpa using hp0)
/-- A table's two maps, and what the second one tells. -/
structure TabX (w : World) (B b1 b2 : Nat) (l : List EN) : Prop where
  m : ∃ m : List (Value × Value), MapAt w b1 RowKey m ∧ m.length = l.length ∧ ∀ (i : Nat) x p, l[i]? = some x → m[i]? = some p → EntM w B x p
  lo : LongM w b2 l
theorem TabX.keep {w w' : World} {B B' b1 b2 : Nat} {l : List EN} (h : TabX w B b1 b2 l) (h1 : w'.heap[b1]? = w.heap[b1]?) (h2 : w'.heap[b2]? = w.heap[b2]?) (hk : ∀ p : Addr, p.block < B → w'.cell? p = w.cell? p) (hB : B ≤ B') : TabX w' B' b1 b2 l := by
  obtain ⟨m, a1, a2, a3⟩ := h.m
  exact ⟨⟨m, a1.keep h1, a2, fun i x p hx hp => ⟨(a3 i x p hx hp).1, (a3 i x p hx hp).2.cells hk hB⟩⟩, h.lo.keep h2⟩
theorem TabX.b1_lt {w : World} {B b1 b2 : Nat} {l : List EN} (h : TabX w B b1 b2 l) : b1 < w.heap.size := by obtain ⟨m, a1, _⟩ := h.m; exact a1.lt
theorem TabX.below {w w' : World} {b1 b2 : Nat} {l : List EN} (h : TabX w w.heap.size b1 b2 l) (hb : Below w.heap.size w w') : TabX w' w'.heap.size b1 b2 l :=
  h.keep (hb.block _ h.b1_lt) (hb.block _ h.lo.lt) (fun p hp => hb.cell hp) hb.size
theorem TabX.fresh {w : World} {B b1 b2 : Nat} {l : List EN} (h : TabX w B b1 b2 l) (x : EN) (hl : ∀ y ∈ l, y.pts.length ≤ 8) (hx8 : x.pts.length ≤ 8) (hx : ∀ y ∈ l, y.pts ≠ x.pts) :
    ∃ m : List (Value × Value), MapAt w b1 RowKey m ∧ m.length = l.length ∧ (∀ (i : Nat) x p, l[i]? = some x → m[i]? = some p → EntM w B x p) ∧ ∀ v, (rowVal x.pts, v) ∉ m := by
  obtain ⟨m, a1, a2, a3⟩ := h.m
  refine ⟨m, a1, a2, a3, fun v hv => ?_⟩
  obtain ⟨i, hi, e⟩ := List.getElem_of_mem hv
  have h1 := a3 i l[i] m[i] (List.getElem?_eq_getElem (by omega)) (List.getElem?_eq_getElem hi)
  have h2 : l[i] ∈ l := List.getElem_mem _
  have h3 : (rowVal x.pts) = rowVal l[i].pts := by rw [← h1.1, e]
  exact hx _ h2 (rowVal_inj hx8 (hl _ h2) h3).symm
/-- .. and what stands there already. -/
theorem TabX.twice {w : World} {B b1 b2 : Nat} {l : List EN} (h : TabX w B b1 b2 l) (x : EN) {y : EN} (hy : y ∈ l) (hxy : y.pts = x.pts) :
    ∃ m : List (Value × Value), MapAt w b1 RowKey m ∧ ∃ v, (rowVal x.pts, v) ∈ m ∧ ∃ A n c, v = .slice A n c := by
  obtain ⟨m, a1, a2, a3⟩ := h.m
  obtain ⟨i, hi, rfl⟩ := List.getElem_of_mem hy
  have h1 := a3 i l[i] (m[i]'(by omega)) (List.getElem?_eq_getElem hi) (List.getElem?_eq_getElem (by omega))
  refine ⟨m, a1, (m[i]'(by omega)).2, ?_, ?_⟩
  · have e1 : (m[i]'(by omega)) = (rowVal x.pts, (m[i]'(by omega)).2) := by rw [← hxy, ← h1.1]
    rw [← e1]
    exact List.getElem_mem _
  · obtain ⟨A, c, e, _⟩ := h1.2
    exact ⟨_, _, _, e⟩
end Go.Proofs.YtlkdjdcnbcegeaaGreatDoor
