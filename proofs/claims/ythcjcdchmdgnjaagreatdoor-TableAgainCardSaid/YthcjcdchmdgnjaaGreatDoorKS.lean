/-
  A table's text by lines, in plain words; a table in memory.
-/
import Derived.Test.YthcjcdchmdgnjaaGreatDoorKR
import Derived.Test.YthcjcdchmdgnjaaGreatDoorKQ
namespace Go.Proofs.YthcjcdchmdgnjaaGreatDoor
open Go.RowKit Go.WideShapes
set_option linter.unusedVariables false
set_option linter.unusedSimpArgs false
/-- A row that a call owns reads as its cells. -/
theorem own_rowM {w : World} {base n size : Nat} {e : TypeId} {v : Value} {xs : List Value} (h : w.ownsRow base e size v n xs) (hn : n ≤ 140737488351232) : RowM w w.heap.size v n xs := by
  rcases h.2 with ⟨e, h0⟩ | ⟨g, cap, cur, rfl, hb, hg, h1, _, h3, h4⟩
  · subst h0
    exact ⟨_, _, e, Nat.le_refl _, by omega, fun h => absurd h (by omega)⟩
  · refine ⟨_, _, rfl, h1, hn, fun _ => ⟨g, 0, rfl, (Array.getElem?_eq_some_iff.1 hg).1, fun i u hu => ?_⟩⟩
    have hi : i < xs.length := (List.getElem?_eq_some_iff.1 hu).1
    simp only [World.cell?, hg, Nat.zero_add]
    rw [← h4, List.getElem?_take] at hu
    split at hu
    · simpa using hu
    · cases hu
/-- The lines of a table's text. -/
def tabLs (l : List EN) : List (Option EN) := if l = [] then [none] else l.map some
def oText : Option EN → List UInt8
  | none => []
  | some x => x.text
theorem tabLs_id (l : List EN) : (tabLs l).filterMap id = l := by
  unfold tabLs
  split
  · next h => subst h; rfl
  · rw [List.filterMap_map]; simp
theorem tabLs_text (l : List EN) : Lib.join ((tabLs l).map oText) [10] = tabText l := by
  unfold tabLs tabText
  split
  · next h => subst h; rfl
  · rw [List.map_map]; rfl
theorem tabLs_mem {l : List EN} {x : EN} (h : some x ∈ tabLs l) : x ∈ l := by
  unfold tabLs at h
  split at h
  · simp at h
  · simpa using h
theorem hexU_ne10 : ∀ d, d < 16 → hexU d ≠ 10 := by
  intro d hd
  have hc : d = 0 ∨ d = 1 ∨ d = 2 ∨ d = 3 ∨ d = 4 ∨ d = 5 ∨ d = 6 ∨ d = 7 ∨ d = 8 ∨ d = 9 ∨ d = 10 ∨ d = 11 ∨ d = 12 ∨ d = 13 ∨ d = 14 ∨ d = 15 := by omega
  rcases hc with rfl | rfl | rfl | rfl | rfl | rfl | rfl | rfl | rfl | rfl | rfl | rfl | rfl | rfl | rfl | rfl <;> decide
theorem hexU_ne35 : ∀ d, d < 16 → hexU d ≠ 35 := by
  intro d hd
  have hc : d = 0 ∨ d = 1 ∨ d = 2 ∨ d = 3 ∨ d = 4 ∨ d = 5 ∨ d = 6 ∨ d = 7 ∨ d = 8 ∨ d = 9 ∨ d = 10 ∨ d = 11 ∨ d = 12 ∨ d = 13 ∨ d = 14 ∨ d = 15 := by omega
  rcases hc with rfl | rfl | rfl | rfl | rfl | rfl | rfl | rfl | rfl | rfl | rfl | rfl | rfl | rfl | rfl | rfl <;> decide
theorem elText_no10 (e : EL) : (10 : UInt8) ∉ e.text := by
  have h1 : (10 : UInt8) ∉ hexW e.p.toNat := hexW_no hexU_ne10 _
  have h2 : (10 : UInt8) ∉ hexW e.s.toNat := hexW_no hexU_ne10 _
  have h3 : (10 : UInt8) ∉ hexW e.t.toNat := hexW_no hexU_ne10 _
  unfold EL.text
  simp only [List.mem_append, List.mem_cons, List.not_mem_nil, or_false, h1, h2, h3, false_or, not_or]
  cases e.v <;> decide
theorem join_no (c s : UInt8) (hs : c ≠ s) : ∀ l : List (List UInt8), (∀ x ∈ l, c ∉ x) → c ∉ Lib.join l [s]
  | [], _ => by simp [Lib.join_nil]
  | x :: r, h => by
    rw [Lib.join_cons, List.mem_append, not_or]
    refine ⟨h x (by simp), ?_⟩
    have : ∀ r : List (List UInt8), (∀ x ∈ r, c ∉ x) → c ∉ Lib.joinTail [s] r := by
      intro r
      induction r with
      | nil => intro _; simp [Lib.joinTail]
      | cons y r ih =>
        intro hr
        have h1 := ih (fun z hz => hr z (by simp [hz]))
        have h2 := hr y (by simp)
        simp only [Lib.joinTail, List.map_cons, List.flatten_cons, List.mem_append, List.mem_cons, List.not_mem_nil, or_false, not_or] at h1 ⊢
        exact ⟨⟨hs, h2⟩, h1⟩
    exact this r (fun z hz => h z (by simp [hz]))
theorem enText_no10 (x : EN) : (10 : UInt8) ∉ x.text := by
  unfold EN.text
  simp only [List.mem_append, List.mem_cons, List.not_mem_nil, or_false, not_or]
  refine ⟨⟨?_, by decide⟩, ?_⟩
  · refine join_no 10 32 (by decide) _ fun y hy => ?_
    obtain ⟨p, _, rfl⟩ := List.mem_map.1 hy
    exact hexW_no hexU_ne10 _
  · intro h
    obtain ⟨y, hy, h2⟩ := List.mem_flatten.1 h
    obtain ⟨e, _, rfl⟩ := List.mem_map.1 hy
    exact elText_no10 e h2
theorem oText_no10 (x : Option EN) : (10 : UInt8) ∉ oText x := by
  cases x with
  | none => simp [oText]
  | some x => exact enText_no10 x
/-- An entry's text begins with a digit. -/
theorem enText_head {x : EN} (h : 1 ≤ x.pts.length) : ∃ c r, x.text = c :: r ∧ c ≠ 35 := by
  obtain ⟨pts, els⟩ := x
  match pts, h with
  | p :: ps, _ =>
    have h4 : 4 ≤ (hexW p.toNat).length := by rw [hexW_len]; omega
    have hno : (35 : UInt8) ∉ hexW p.toNat := hexW_no hexU_ne35 _
    match hw : hexW p.toNat, h4 with
    | c :: r, _ =>
      refine ⟨c, r ++ Lib.joinTail [32] (ps.map fun p => hexW p.toNat) ++ [59] ++ (els.map EL.text).flatten, ?_, ?_⟩
      · simp only [EN.text, List.map_cons, Lib.join_cons, hw, List.cons_append, List.append_assoc]
      · rw [hw] at hno
        intro e
        exact hno (by simp [e])

/-- An entry of a table's map. -/
def EntM (w : World) (B : Nat) (x : EN) (p : Value × Value) : Prop := p.1 = rowVal x.pts ∧ RowM w B p.2 x.els.length (elsCells x.els)
def IntKey (v : Value) : Prop := ∃ a, v = Value.int .i64 a
/-- A table's two maps. -/
def TabM (w : World) (B b1 b2 : Nat) (l : List EN) : Prop :=
  ∃ m m2 : List (Value × Value), MapAt w b1 RowKey m ∧ m.length = l.length ∧ (∀ (i : Nat) x p, l[i]? = some x → m[i]? = some p → EntM w B x p) ∧ MapAt w b2 IntKey m2 ∧ ∀ p ∈ m2, ∃ a, p.2 = Value.int .i64 a
theorem RowM.cells {w w' : World} {B B' n : Nat} {v : Value} {vs : List Value} (h : RowM w B v n vs) (hk : ∀ p : Addr, p.block < B → w'.cell? p = w.cell? p) (hB : B ≤ B') : RowM w' B' v n vs := (h.keep hk).more hB
theorem TabM.keep {w w' : World} {B B' b1 b2 : Nat} {l : List EN} (h : TabM w B b1 b2 l) (h1 : w'.heap[b1]? = w.heap[b1]?) (h2 : w'.heap[b2]? = w.heap[b2]?) (hk : ∀ p : Addr, p.block < B → w'.cell? p = w.cell? p) (hB : B ≤ B') : TabM w' B' b1 b2 l := by
  obtain ⟨m, m2, a1, a2, a3, a4, a5⟩ := h
  exact ⟨m, m2, a1.keep h1, a2, fun i x p hx hp => ⟨(a3 i x p hx hp).1, (a3 i x p hx hp).2.cells hk hB⟩, a4.keep h2, a5⟩
theorem TabM.below {w w' : World} {b1 b2 : Nat} {l : List EN} (h : TabM w w.heap.size b1 b2 l) (hb : Below w.heap.size w w') : TabM w' w'.heap.size b1 b2 l := by
  have h1 : b1 < w.heap.size := by obtain ⟨m, m2, a1, _⟩ := h; exact a1.lt
  have h2 : b2 < w.heap.size := by obtain ⟨m, m2, _, _, _, a4, _⟩ := h; exact a4.lt
  exact h.keep (hb.block _ h1) (hb.block _ h2) (fun p hp => hb.cell hp) hb.size
/-- Where only a map has turned, no cell has. -/
theorem cell_map {w w' : World} {b : Nat} {K K' : Value → Prop} {m m' : List (Value × Value)} (hg : w.grownBy w' (some b)) (h : MapAt w b K m) (h' : MapAt w' b K' m') (p : Addr) (hp : p.block < w.heap.size) : w'.cell? p = w.cell? p := by
  by_cases e : p.block = b
  · obtain ⟨es, c, h1, _⟩ := h
    obtain ⟨es', c', h1', _⟩ := h'
    unfold World.cell?
    rw [e, h1, h1']
  · exact World.cell?_of_block (hg.block p.block hp (by simp [e]))
theorem TabM.fresh {w : World} {B b1 b2 : Nat} {l : List EN} (h : TabM w B b1 b2 l) (x : EN) (hl : ∀ y ∈ l, y.pts.length ≤ 8) (hx8 : x.pts.length ≤ 8) (hx : ∀ y ∈ l, y.pts ≠ x.pts) :
    ∃ m : List (Value × Value), MapAt w b1 RowKey m ∧ m.length = l.length ∧ (∀ (i : Nat) x p, l[i]? = some x → m[i]? = some p → EntM w B x p) ∧ ∀ v, (rowVal x.pts, v) ∉ m := by
  obtain ⟨m, m2, a1, a2, a3, a4, a5⟩ := h
  refine ⟨m, a1, a2, a3, fun v hv => ?_⟩
  obtain ⟨i, hi, e⟩ := List.getElem_of_mem hv
  have h1 := a3 i l[i] m[i] (List.getElem?_eq_getElem (by omega)) (List.getElem?_eq_getElem hi)
  have h2 : l[i] ∈ l := List.getElem_mem _
  have h3 : (rowVal x.pts) = rowVal l[i].pts := by rw [← h1.1, e]
  exact hx _ h2 (rowVal_inj hx8 (hl _ h2) h3).symm
end Go.Proofs.YthcjcdchmdgnjaaGreatDoor
