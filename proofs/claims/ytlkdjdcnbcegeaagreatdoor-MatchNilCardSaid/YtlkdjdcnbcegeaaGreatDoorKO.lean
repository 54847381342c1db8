/-
  What leads to what, in plain words: a search that ends; a graph without a ring is gone through from its ends.
-/
import Derived.Test.YtlkdjdcnbcegeaaGreatDoorKJ
import Derived.Test.YtlkdjdcnbcegeaaGreatDoorKN
/-! What leads to what, in plain words: a search that ends; a graph without a ring is gone through from its ends. -/
namespace Go.Proofs.YtlkdjdcnbcegeaaGreatDoor
set_option linter.unusedVariables false
/-- One point leads to another one. -/
inductive Leads (parts : Int → List Int) : Int → Int → Prop
  | one {p q : Int} : q ∈ parts p → Leads parts p q
  | more {p q r : Int} : q ∈ parts p → Leads parts q r → Leads parts p r
theorem Leads.trans {parts : Int → List Int} {p q r : Int} (h : Leads parts p q) (k : Leads parts q r) : Leads parts p r := by
  induction h with
  | one h => exact .more h k
  | more h _ ih => exact .more h (ih k)
/-- A search under way. -/
structure Dfs (parts : Int → List Int) (p0 : Int) (left met : List Int) : Prop where
  start : ∀ x ∈ parts p0, x ∈ left ∨ x ∈ met
  closed : ∀ m ∈ met, ∀ x ∈ parts m, x ∈ left ∨ x ∈ met
  no : p0 ∉ met
theorem dfs_start (parts : Int → List Int) (p0 : Int) : Dfs parts p0 (parts p0) [] := ⟨fun x hx => .inl hx, by simp, by simp⟩
theorem dfs_done {parts : Int → List Int} {p0 : Int} {met : List Int} (h : Dfs parts p0 [] met) : ¬ Leads parts p0 p0 := by
  have hs : ∀ x ∈ parts p0, x ∈ met := fun x hx => (h.start x hx).resolve_left (by simp)
  have hc : ∀ m ∈ met, ∀ x ∈ parts m, x ∈ met := fun m hm x hx => (h.closed m hm x hx).resolve_left (by simp)
  have key : ∀ a b, Leads parts a b → a ∈ met → b ∈ met := by
    intro a b hab
    induction hab with
    | one h1 => intro ha; exact hc _ ha _ h1
    | more h1 _ ih => intro ha; exact ih (hc _ ha _ h1)
  intro hl
  cases hl with
  | one h1 => exact h.no (hs _ h1)
  | more h1 h2 => exact h.no (key _ _ h2 (hs _ h1))
theorem dfs_old {parts : Int → List Int} {p0 p : Int} {left met : List Int} (h : Dfs parts p0 (left ++ [p]) met) (hm : p ∈ met) : Dfs parts p0 left met := by
  have f : ∀ x, (x ∈ left ++ [p] ∨ x ∈ met) → x ∈ left ∨ x ∈ met := by
    intro x hx
    rcases hx with hx | hx
    · rcases List.mem_append.1 hx with hx | hx
      · exact .inl hx
      · rw [List.mem_singleton] at hx; subst hx; exact .inr hm
    · exact .inr hx
  exact ⟨fun x hx => f x (h.start x hx), fun m hm x hx => f x (h.closed m hm x hx), h.no⟩
theorem dfs_new {parts : Int → List Int} {p0 p : Int} {left met met' : List Int} (h : Dfs parts p0 (left ++ [p]) met) (hne : p ≠ p0) (hmet : ∀ x, x ∈ met' ↔ x ∈ met ∨ x = p) : Dfs parts p0 (left ++ parts p) met' := by
  have f : ∀ x, (x ∈ left ++ [p] ∨ x ∈ met) → x ∈ left ++ parts p ∨ x ∈ met' := by
    intro x hx
    rcases hx with hx | hx
    · rcases List.mem_append.1 hx with hx | hx
      · exact .inl (List.mem_append.2 (.inl hx))
      · rw [List.mem_singleton] at hx; exact .inr ((hmet x).2 (.inr hx))
    · exact .inr ((hmet x).2 (.inl hx))
  refine ⟨fun x hx => f x (h.start x hx), fun m hm x hx => ?_, fun hp => ?_⟩
  · rcases (hmet m).1 hm with hm | hm
    · exact f x (h.closed m hm x hx)
    · subst hm; exact .inl (List.mem_append.2 (.inr hx))
  · rcases (hmet p0).1 hp with hp | hp
    · exact h.no hp
    · exact hne hp.symm
/-- How much is still to be looked at. -/
def unmet (parts : Int → List Int) (met : List Int) : List Int → Nat
  | [] => 0
  | u :: U => (if u ∈ met then 0 else (parts u).length) + unmet parts met U
theorem unmet_same {parts : Int → List Int} {met met' : List Int} {p : Int} (hmet : ∀ x, x ∈ met' ↔ x ∈ met ∨ x = p) : ∀ U : List Int, p ∉ U → unmet parts met' U = unmet parts met U
  | [], _ => rfl
  | u :: U, h => by
    simp only [List.mem_cons, not_or] at h
    have hu : u ∈ met' ↔ u ∈ met := ⟨fun k => ((hmet u).1 k).resolve_right (fun e => h.1 e.symm), fun k => (hmet u).2 (.inl k)⟩
    simp only [unmet, hu, unmet_same hmet U h.2]
theorem unmet_new {parts : Int → List Int} {met met' : List Int} {p : Int} (hmet : ∀ x, x ∈ met' ↔ x ∈ met ∨ x = p) (hp : p ∉ met) : ∀ U : List Int, U.Nodup → (p ∉ U → parts p = []) → unmet parts met' U + (parts p).length = unmet parts met U
  | [], _, h0 => by simp [unmet, h0]
  | u :: U, hn, h0 => by
    rw [List.nodup_cons] at hn
    by_cases e : u = p
    · subst e
      have h1 : u ∈ met' := (hmet u).2 (.inr rfl)
      simp only [unmet, h1, if_true, hp, if_false, unmet_same hmet U hn.1]
      omega
    · have hu : u ∈ met' ↔ u ∈ met := ⟨fun k => ((hmet u).1 k).resolve_right e, fun k => (hmet u).2 (.inl k)⟩
      have ih := unmet_new hmet hp U hn.2 (fun h => h0 (by simp only [List.mem_cons, not_or]; exact ⟨fun k => e k.symm, h⟩))
      simp only [unmet, hu]
      omega
theorem length_le_of_sub : ∀ (P U : List Int), P.Nodup → (∀ x ∈ P, x ∈ U) → P.length ≤ U.length
  | [], U, _, _ => Nat.zero_le _
  | p :: P, U, hn, hs => by
    rw [List.nodup_cons] at hn
    have hp : p ∈ U := hs p (by simp)
    have ih := length_le_of_sub P (U.erase p) hn.2 (fun x hx => (List.mem_erase_of_ne (fun e => hn.1 (by rw [← e]; exact hx))).2 (hs x (by simp [hx])))
    have hl := List.length_erase_of_mem hp
    have : 0 < U.length := List.length_pos_of_mem hp
    simp only [List.length_cons]
    omega
/-- Without a ring, what holds of a point as soon as it holds of its parts holds of all. -/
theorem ring_ind {parts : Int → List Int} (U : List Int) (hU : ∀ p, p ∉ U → parts p = []) (hac : ∀ p ∈ U, ¬ Leads parts p p) (C : Int → Prop) (step : ∀ p, (∀ q ∈ parts p, C q) → C p) (p : Int) : C p := by
  have key : ∀ (n : Nat) (P : List Int), P.Nodup → (∀ x ∈ P, x ∈ U) → U.length - P.length ≤ n → ∀ p, (∀ x ∈ P, Leads parts x p) → C p := by
    intro n
    induction n with
    | zero =>
      intro P hn hs hl p hp
      refine step p fun q hq => ?_
      exfalso
      have hpU : p ∈ U := Classical.byContradiction fun h => by rw [hU p h] at hq; simp at hq
      have hpP : p ∉ P := fun h => hac p hpU (hp p h)
      have := length_le_of_sub (p :: P) U (List.nodup_cons.2 ⟨hpP, hn⟩) (fun x hx => by
        rcases List.mem_cons.1 hx with rfl | hx
        · exact hpU
        · exact hs x hx)
      simp at this
      omega
    | succ n ih =>
      intro P hn hs hl p hp
      refine step p fun q hq => ?_
      have hpU : p ∈ U := Classical.byContradiction fun h => by rw [hU p h] at hq; simp at hq
      have hpP : p ∉ P := fun h => hac p hpU (hp p h)
      refine ih (p :: P) (List.nodup_cons.2 ⟨hpP, hn⟩) (fun x hx => ?_) (by simp; omega) q (fun x hx => ?_)
      · rcases List.mem_cons.1 hx with rfl | hx
        · exact hpU
        · exact hs x hx
      · rcases List.mem_cons.1 hx with rfl | hx
        · exact .one hq
        · exact (hp x hx).trans (.one hq)
  exact key U.length [] (by simp) (by simp) (by simp) p (by simp)
end Go.Proofs.YtlkdjdcnbcegeaaGreatDoor

/-! Marks in a map, as ucd.Load lays them; what stands at a point. -/
namespace Go.Proofs.YtlkdjdcnbcegeaaGreatDoor
open Go.RowKit Go.WideShapes
set_option linter.unusedVariables false
set_option linter.unusedSimpArgs false
def IntKey (v : Value) : Prop := ∃ a, v = Value.int .i64 a
/-- A slice of numbers that the program made; its block is one of Q's. -/
def PartsM (w : World) (Q : Nat → Prop) (v : Value) (l : List Int) : Prop :=
  (v = .slice none 0 0 ∧ l = []) ∨ ∃ g c, v = .slice (some ⟨g, 0, none⟩) l.length c ∧ l.length ≤ c ∧ Q g ∧ CellsAt w g 0 (intCells l)
theorem PartsM.cells {w w' : World} {Q Q' : Nat → Prop} {v : Value} {l : List Int} (h : PartsM w Q v l) (hk : ∀ p : Addr, Q p.block → w'.cell? p = w.cell? p) (hQ : ∀ g, Q g → Q' g) : PartsM w' Q' v l := by
  rcases h with h | ⟨g, c, h1, h2, h3, h4⟩
  · exact Or.inl h
  · exact Or.inr ⟨g, c, h1, h2, hQ g h3, h4.keep fun p hp => hk p (by rw [hp]; exact h3)⟩
theorem PartsM.row {w : World} {Q : Nat → Prop} {B : Nat} {v : Value} {l : List Int} (h : PartsM w Q v l) (hQ : ∀ g, Q g → g < B) (hl : l.length ≤ 140737488351232) : RowM w B v l.length (intCells l) := by
  rcases h with ⟨rfl, rfl⟩ | ⟨g, c, h1, h2, h3, h4⟩
  · exact ⟨none, 0, rfl, Nat.le_refl _, by simp, fun h => absurd h (by simp)⟩
  · exact ⟨_, c, h1, h2, hl, fun _ => ⟨g, 0, rfl, hQ g h3, h4⟩⟩
theorem own_parts {w : World} {base : Nat} {v : Value} {l : List Int} (h : w.ownsRow base 3 1 v l.length (intCells l)) : PartsM w (fun g => base ≤ g ∧ g < w.heap.size ∧ v.ownBlock = some g) v l := by
  rcases h.2 with ⟨e, h0⟩ | ⟨g, cap, cur, rfl, hb, hg, h1, _, h3, h4⟩
  · exact Or.inl ⟨e, List.eq_nil_of_length_eq_zero h0⟩
  · refine Or.inr ⟨g, cap, rfl, h1, ⟨hb, (Array.getElem?_eq_some_iff.1 hg).1, rfl⟩, fun i u hu => ?_⟩
    have hi : i < (intCells l).length := (List.getElem?_eq_some_iff.1 hu).1
    simp only [World.cell?, hg, Nat.zero_add]
    rw [← h4, List.getElem?_take] at hu
    split at hu
    · simpa using hu
    · cases hu
/-- A mark in the map. -/
def MarkM (w : World) (Q : Nat → Prop) (x : MK) (p : Value × Value) : Prop := p.1 = .int .i64 x.pt ∧ ∃ v, p.2 = .agg #[.int .i64 x.pt, .int .i64 x.cls, v] ∧ PartsM w Q v x.parts
/-- Data, as the program holds them. -/
structure DataM (w : World) (Q : Nat → Prop) (D b : Nat) (l : List MK) : Prop where
  d : w.heap[D]? = some (.cells #[.map (some b)] 107 (0, 0))
  m : ∃ m : List (Value × Value), MapAt w b IntKey m ∧ m.length = l.length ∧ ∀ (i : Nat) x p, l[i]? = some x → m[i]? = some p → MarkM w Q x p
theorem DataM.keep {w w' : World} {Q Q' : Nat → Prop} {D b : Nat} {l : List MK} (h : DataM w Q D b l) (h1 : w'.heap[D]? = w.heap[D]?) (h2 : w'.heap[b]? = w.heap[b]?) (hk : ∀ p : Addr, Q p.block → w'.cell? p = w.cell? p) (hQ : ∀ g, Q g → Q' g) : DataM w' Q' D b l := by
  obtain ⟨m, a1, a2, a3⟩ := h.m
  exact ⟨h1.trans h.d, m, a1.keep h2, a2, fun i x p hx hp => by
    obtain ⟨e1, v, e2, e3⟩ := a3 i x p hx hp
    exact ⟨e1, v, e2, e3.cells hk hQ⟩⟩
theorem DataM.D_lt {w : World} {Q : Nat → Prop} {D b : Nat} {l : List MK} (h : DataM w Q D b l) : D < w.heap.size := (Array.getElem?_eq_some_iff.1 h.d).1
theorem DataM.b_lt {w : World} {Q : Nat → Prop} {D b : Nat} {l : List MK} (h : DataM w Q D b l) : b < w.heap.size := by obtain ⟨m, a1, _⟩ := h.m; exact a1.lt
theorem DataM.below {w w' : World} {Q : Nat → Prop} {D b N : Nat} {l : List MK} (h : DataM w Q D b l) (hb : Below N w w') (h1 : D < N) (h2 : b < N) (h3 : ∀ g, Q g → g < N) : DataM w' Q D b l :=
  h.keep (hb.block _ h1) (hb.block _ h2) (fun p hp => hb.cell (h3 _ hp)) (fun _ h => h)
/-- What stands at a point. -/
def partsOf (l : List MK) (p : Int) : List Int := match l.find? (fun x => decide (x.pt = p)) with
  | some x => x.parts
  | none => []
theorem partsOf_at {l : List MK} (hn : (l.map MK.pt).Nodup) {i : Nat} {x : MK} (hx : l[i]? = some x) : partsOf l x.pt = x.parts := by
  unfold partsOf
  have hxl : x ∈ l := List.mem_of_getElem? hx
  cases h : l.find? (fun y => decide (y.pt = x.pt)) with
  | none =>
    have := List.find?_eq_none.1 h x hxl
    simp at this
  | some y =>
    have hy := List.mem_of_find?_eq_some h
    have he : y.pt = x.pt := by have h9 := List.find?_some h; simpa using h9
    have : y = x := by
      obtain ⟨j, hj, rfl⟩ := List.getElem_of_mem hy
      obtain ⟨i', hi', rfl⟩ := List.getElem_of_mem hxl
      have hij : j = i' := by
        have h1 := (List.getElem_inj (h₀ := by simpa using hj) (h₁ := by simpa using hi') hn).1 (by simpa using he)
        exact h1
      subst hij
      rfl
    rw [this]
theorem partsOf_none {l : List MK} {p : Int} (h : p ∉ l.map MK.pt) : partsOf l p = [] := by
  unfold partsOf
  cases h2 : l.find? (fun y => decide (y.pt = p)) with
  | none => rfl
  | some y => exact absurd (List.mem_map.2 ⟨y, List.mem_of_find?_eq_some h2, by have h9 := List.find?_some h2; simpa using h9⟩) h
theorem DataM.nodup {w : World} {Q : Nat → Prop} {D b : Nat} {l : List MK} (h : DataM w Q D b l) : (l.map MK.pt).Nodup := by
  obtain ⟨m, a1, a2, a3⟩ := h.m
  have hn := a1.nodup
  have e : m.map Prod.fst = (l.map MK.pt).map (Value.int .i64) := by
    apply List.ext_getElem (by simp [a2])
    intro i h1 h2
    simp only [List.getElem_map]
    simp at h1 h2
    exact (a3 i l[i] m[i] (List.getElem?_eq_getElem h2) (List.getElem?_eq_getElem h1)).1
  rw [e] at hn
  exact List.Pairwise.of_map _ (fun a b hab => by simpa using hab) hn
/-- The look-up. -/
theorem DataM.look {w : World} {Q : Nat → Prop} {D b : Nat} {l : List MK} (h : DataM w Q D b l) (p : Int) (W : World) (hW : W.heap = w.heap) : ∃ a c v, (Instr.lookup 105 (.map (some b)) (.int .i64 p) false).run Tryz.prog W = .ok (.agg #[.int .i64 a, .int .i64 c, v]) W ∧ PartsM w Q v (partsOf l p) := by
  have hnd := h.nodup
  obtain ⟨m, a1, a2, a3⟩ := h.m
  rcases (a1.keep (w' := W) (by rw [hW])).run_look (P := Tryz.prog) (keyOk_int Tryz.underlying3) Tryz.underlying105 (Tryz.zeroValue75 W) (key := .int .i64 p) ⟨p, rfl⟩ false with ⟨hr, hno⟩ | ⟨u, hr, hu⟩
  · refine ⟨0, 0, .slice none 0 0, hr, Or.inl ⟨rfl, partsOf_none fun hp => ?_⟩⟩
    obtain ⟨x, hx, e⟩ := List.mem_map.1 hp
    obtain ⟨i, hi, rfl⟩ := List.getElem_of_mem hx
    have := a3 i l[i] (m[i]'(by omega)) (List.getElem?_eq_getElem hi) (List.getElem?_eq_getElem (by omega))
    refine hno (m[i]'(by omega)).2 ?_
    have e1 : (m[i]'(by omega)) = (Value.int .i64 p, (m[i]'(by omega)).2) := by rw [← e, ← this.1]
    rw [← e1]
    exact List.getElem_mem _
  · obtain ⟨i, hi, e⟩ := List.getElem_of_mem hu
    have hil : i < l.length := by omega
    obtain ⟨e1, v, e2, e3⟩ := a3 i l[i] m[i] (List.getElem?_eq_getElem hil) (List.getElem?_eq_getElem hi)
    rw [e] at e1 e2
    have hp : p = l[i].pt := by simpa using e1
    subst hp
    simp only at e2
    subst e2
    exact ⟨_, _, v, hr, by rw [partsOf_at hnd (List.getElem?_eq_getElem hil)]; exact e3⟩
end Go.Proofs.YtlkdjdcnbcegeaaGreatDoor
