/-
  Marks in a map, as ucd.Load lays them; what stands at a point.
-/
import Derived.Test.YtccaaniepeohbaaGreatDoorKK
import Derived.Test.YtccaaniepeohbaaGreatDoorKO
import Derived.Test.YtccaaniepeohbaaGreatDoorKP
namespace Go.Proofs.YtccaaniepeohbaaGreatDoor
open Go.RowKit Go.WideShapes
set_option linter.unusedVariables false
set_option linter.unusedSimpArgs false
def IntKey (v : Value) : Prop := ∃ a, v = Value.int .i64 a
/-- A slice of numbers that the program made; its block is one of Q's. -/
def PartsM (w : World) (Q : Nat → Prop) (v : Value) (l : List Int) : Prop :=
  (v = .slice none 0 0 ∧ l = []) ∨ ∃ g c, v = .slice (some ⟨g, 0, none⟩) l.length c ∧ l.length ≤ c ∧ Q g ∧ CellsAt w g 0 (intCells l)
theorem PartsM.cells {w w' : World} {Q Q' : Nat → Prop} {v : Value} {l : List Int} (h : PartsM w Q v l) (hk : ∀ p : Addr, Q p.block → w'.cell? p = w.cell? p) (hQ : ∀ g, Q g → Q' g) : PartsM w' Q' v l := by
  rcases h with h | ⟨g, c, h1, h2, h3, h4⟩
  · exact Or.inl h
  · exact Or.inr ⟨g, c, h1, h2, hQ g h3, h4.keep fun p hp => hk p (by rw [hp]; exact h3)⟩
theorem PartsM.row {w : World} {Q : Nat → Prop} {B : Nat} {v : Value} {l : List Int} (h : PartsM w Q v l) (hQ : ∀ g, Q g → g < B) (hl : l.length ≤ 140737488351232) : RowM w B v l.length (intCells l) := by
  rcases h with ⟨rfl, rfl⟩ | ⟨g, c, h1, h2, h3, h4⟩
  · exact ⟨none, 0, rfl, Nat.le_refl _, by simp, fun h => absurd h (by simp)⟩
  · exact ⟨_, c, h1, h2, hl, fun _ => ⟨g, 0, rfl, hQ g h3, h4⟩⟩
theorem own_parts {w : World} {base : Nat} {v : Value} {l : List Int} (h : w.ownsRow base 3 1 v l.length (intCells l)) : PartsM w (fun g => base ≤ g ∧ g < w.heap.size ∧ v.ownBlock = some g) v l := by
  rcases h.2 with ⟨e, h0⟩ | ⟨g, cap, cur, rfl, hb, hg, h1, _, h3, h4⟩
  · exact Or.inl ⟨e, List.eq_nil_of_length_eq_zero h0⟩
  · refine Or.inr ⟨g, cap, rfl, h1, ⟨hb, (Array.getElem?_eq_some_iff.1 hg).1, rfl⟩, fun i u hu => ?_⟩
    have hi : i < (intCells l).length := (List.getElem?_eq_some_iff.1 hu).1
    simp only [World.cell?, hg, Nat.zero_add]
    rw [← h4, List.getElem?_take] at hu
    split at hu
    · simpa using hu
    · cases hu
/-- A mark in the map. -/
def MarkM (w : World) (Q : Nat → Prop) (x : MK) (p : Value × Value) : Prop := p.1 = .int .i64 x.pt ∧ ∃ v, p.2 = .agg #[.int .i64 x.pt, .int .i64 x.cls, v] ∧ PartsM w Q v x.parts
/-- Data, as the program holds them. -/
structure DataM (w : World) (Q : Nat → Prop) (D b : Nat) (l : List MK) : Prop where
  d : w.heap[D]? = some (.cells #[.map (some b)] 52 (0, 0))
  m : ∃ m : List (Value × Value), MapAt w b IntKey m ∧ m.length = l.length ∧ ∀ (i : Nat) x p, l[i]? = some x → m[i]? = some p → MarkM w Q x p
theorem DataM.keep {w w' : World} {Q Q' : Nat → Prop} {D b : Nat} {l : List MK} (h : DataM w Q D b l) (h1 : w'.heap[D]? = w.heap[D]?) (h2 : w'.heap[b]? = w.heap[b]?) (hk : ∀ p : Addr, Q p.block → w'.cell? p = w.cell? p) (hQ : ∀ g, Q g → Q' g) : DataM w' Q' D b l := by
  obtain ⟨m, a1, a2, a3⟩ := h.m
  exact ⟨h1.trans h.d, m, a1.keep h2, a2, fun i x p hx hp => by
    obtain ⟨e1, v, e2, e3⟩ := a3 i x p hx hp
    exact ⟨e1, v, e2, e3.cells hk hQ⟩⟩
theorem DataM.D_lt {w : World} {Q : Nat → Prop} {D b : Nat} {l : List MK} (h : DataM w Q D b l) : D < w.heap.size := (Array.getElem?_eq_some_iff.1 h.d).1
theorem DataM.b_lt {w : World} {Q : Nat → Prop} {D b : Nat} {l : List MK} (h : DataM w Q D b l) : b < w.heap.size := by obtain ⟨m, a1, _⟩ := h.m; exact a1.lt
theorem DataM.below {w w' : World} {Q : Nat → Prop} {D b N : Nat} {l : List MK} (h : DataM w Q D b l) (hb : Below N w w') (h1 : D < N) (h2 : b < N) (h3 : ∀ g, Q g → g < N) : DataM w' Q D b l :=
  h.keep (hb.block _ h1) (hb.block _ h2) (fun p hp => hb.cell (h3 _ hp)) (fun _ h => h)
/-- What stands at a point. -/
def partsOf (l : List MK) (p : Int) : List Int := match l.find? (fun x => decide (x.pt = p)) with
  | some x => x.parts
  | none => []
theorem partsOf_at {l : List MK} (hn : (l.map MK.pt).Nodup) {i : Nat} {x : MK} (hx : l[i]? = some x) : partsOf l x.pt = x.parts := by
  unfold partsOf
  have hxl : x ∈ l := List.mem_of_getElem? hx
  cases h : l.find? (fun y => decide (y.pt = x.pt)) with
  | none =>
    have := List.find?_eq_none.1 h x hxl
    simp at this
  | some y =>
    have hy := List.mem_of_find?_eq_some h
    have he : y.pt = x.pt := by have h9 := List.find?_some h; simpa using h9
    have : y = x := by
      obtain ⟨j, hj, rfl⟩ := List.getElem_of_mem hy
      obtain ⟨i', hi', rfl⟩ := List.getElem_of_mem hxl
      have hij : j = i' := by
        have h1 := (List.getElem_inj (h₀ := by simpa using hj) (h₁ := by simpa using hi') hn).1 (by simpa using he)
        exact h1
      subst hij
      rfl
    rw [this]
theorem partsOf_none {l : List MK} {p : Int} (h : p ∉ l.map MK.pt) : partsOf l p = [] := by
  unfold partsOf
  cases h2 : l.find? (fun y => decide (y.pt = p)) with
  | none => rfl
  | some y => exact absurd (List.mem_map.2 ⟨y, List.mem_of_find?_eq_some h2, by have h9 := List.find?_some h2; simpa using h9⟩) h
theorem DataM.nodup {w : World} {Q : Nat → Prop} {D b : Nat} {l : List MK} (h : DataM w Q D b l) : (l.map MK.pt).Nodup := by
  obtain ⟨m, a1, a2, a3⟩ := h.m
  have hn := a1.nodup
  have e : m.map Prod.fst = (l.map MK.pt).map (Value.int .i64) := by
    apply List.ext_getElem (by simp [a2])
    intro i h1 h2
    simp only [List.getElem_map]
    simp at h1 h2
    exact (a3 i l[i] m[i] (List.getElem?_eq_getElem h2) (List.getElem?_eq_getElem h1)).1
  rw [e] at hn
  exact List.Pairwise.of_map _ (fun a b hab => by simpa using hab) hn
/-- The look-up. -/
theorem DataM.look {w : World} {Q : Nat → Prop} {D b : Nat} {l : List MK} (h : DataM w Q D b l) (p : Int) (W : World) (hW : W.heap = w.heap) : ∃ a c v, (Instr.lookup 50 (.map (some b)) (.int .i64 p) false).run Tryz.prog W = .ok (.agg #[.int .i64 a, .int .i64 c, v]) W ∧ PartsM w Q v (partsOf l p) := by
  have hnd := h.nodup
  obtain ⟨m, a1, a2, a3⟩ := h.m
  rcases (a1.keep (w' := W) (by rw [hW])).run_look (P := Tryz.prog) (keyOk_int Tryz.underlying3) Tryz.underlying50 (Tryz.zeroValue36 W) (key := .int .i64 p) ⟨p, rfl⟩ false with ⟨hr, hno⟩ | ⟨u, hr, hu⟩
  · refine ⟨0, 0, .slice none 0 0, hr, Or.inl ⟨rfl, partsOf_none fun hp => ?_⟩⟩
    obtain ⟨x, hx, e⟩ := List.mem_map.1 hp
    obtain ⟨i, hi, rfl⟩ := List.getElem_of_mem hx
    have := a3 i l[i] (m[i]'(by omega)) (List.getElem?_eq_getElem hi) (List.getElem?_eq_getElem (by omega))
    refine hno (m[i]'(by omega)).2 ?_
    have e1 : (m[i]'(by omega)) = (Value.int .i64 p, (m[i]'(by omega)).2) := by rw [← e, ← this.1]
    rw [← e1]
    exact List.getElem_mem _
  · obtain ⟨i, hi, e⟩ := List.getElem_of_mem hu
    have hil : i < l.length := by omega
    obtain ⟨e1, v, e2, e3⟩ := a3 i l[i] m[i] (List.getElem?_eq_getElem hil) (List.getElem?_eq_getElem hi)
    rw [e] at e1 e2
    have hp : p = l[i].pt := by simpa using e1
    subst hp
    simp only at e2
    subst e2
    exact ⟨_, _, v, hr, by rw [partsOf_at hnd (List.getElem?_eq_getElem hil)]; exact e3⟩
end Go.Proofs.YtccaaniepeohbaaGreatDoor
