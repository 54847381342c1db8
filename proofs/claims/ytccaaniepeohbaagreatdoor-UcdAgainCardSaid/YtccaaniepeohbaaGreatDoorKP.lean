/-
  What leads to what, in plain words: a search that ends; a graph without a ring is gone through from its ends.
-/
namespace Go.Proofs.YtccaaniepeohbaaGreatDoor
set_option linter.unusedVariables false
/-- One point leads to another one. -/
inductive Leads (parts : Int → List Int) : Int → Int → Prop
  | one {p q : Int} : q ∈ parts p → Leads parts p q
  | more {p q r : Int} : q ∈ parts p → Leads parts q r → Leads parts p r
theorem Leads.trans {parts : Int → List Int} {p q r : Int} (h : Leads parts p q) (k : Leads parts q r) : Leads parts p r := by
  induction h with
  | one h => exact .more h k
  | more h _ ih => exact .more h (ih k)
/-- A search under way. -/
structure Dfs (parts : Int → List Int) (p0 : Int) (left met : List Int) : Prop where
  start : ∀ x ∈ parts p0, x ∈ left ∨ x ∈ met
  closed : ∀ m ∈ met, ∀ x ∈ parts m, x ∈ left ∨ x ∈ met
  no : p0 ∉ met
theorem dfs_start (parts : Int → List Int) (p0 : Int) : Dfs parts p0 (parts p0) [] := ⟨fun x hx => .inl hx, by simp, by simp⟩
theorem dfs_done {parts : Int → List Int} {p0 : Int} {met : List Int} (h : Dfs parts p0 [] met) : ¬ Leads parts p0 p0 := by
  have hs : ∀ x ∈ parts p0, x ∈ met := fun x hx => (h.start x hx).resolve_left (by simp)
  have hc : ∀ m ∈ met, ∀ x ∈ parts m, x ∈ met := fun m hm x hx => (h.closed m hm x hx).resolve_left (by simp)
  have key : ∀ a b, Leads parts a b → a ∈ met → b ∈ met := by
    intro a b hab
    induction hab with
    | one h1 => intro ha; exact hc _ ha _ h1
    | more h1 _ ih => intro ha; exact ih (hc _ ha _ h1)
  intro hl
  cases hl with
  | one h1 => exact h.no (hs _ h1)
  | more h1 h2 => exact h.no (key _ _ h2 (hs _ h1))
theorem dfs_old {parts : Int → List Int} {p0 p : Int} {left met : List Int} (h : Dfs parts p0 (left ++ [p]) met) (hm : p ∈ met) : Dfs parts p0 left met := by
  have f : ∀ x, (x ∈ left ++ [p] ∨ x ∈ met) → x ∈ left ∨ x ∈ met := by
    intro x hx
    rcases hx with hx | hx
    · rcases List.mem_append.1 hx with hx | hx
      · exact .inl hx
      · rw [List.mem_singleton] at hx; subst hx; exact .inr hm
    · exact .inr hx
  exact ⟨fun x hx => f x (h.start x hx), fun m hm x hx => f x (h.closed m hm x hx), h.no⟩
theorem dfs_new {parts : Int → List Int} {p0 p : Int} {left met met' : List Int} (h : Dfs parts p0 (left ++ [p]) met) (hne : p ≠ p0) (hmet : ∀ x, x ∈ met' ↔ x ∈ met ∨ x = p) : Dfs parts p0 (left ++ parts p) met' := by
  have f : ∀ x, (x ∈ left ++ [p] ∨ x ∈ met) → x ∈ left ++ parts p ∨ x ∈ met' := by
    intro x hx
    rcases hx with hx | hx
    · rcases List.mem_append.1 hx with hx | hx
      · exact .inl (List.mem_append.2 (.inl hx))
      · rw [List.mem_singleton] at hx; exact .inr ((hmet x).2 (.inr hx))
    · exact .inr ((hmet x).2 (.inl hx))
  refine ⟨fun x hx => f x (h.start x hx), fun m hm x hx => ?_, fun hp => ?_⟩
  · rcases (hmet m).1 hm with hm | hm
    · exact f x (h.closed m hm x hx)
    · subst hm; exact .inl (List.mem_append.2 (.inr hx))
  · rcases (hmet p0).1 hp with hp | hp
    · exact h.no hp
    · exact hne hp.symm
/-- How much is still to be looked at. -/
def unmet (parts : Int → List Int) (met : List Int) : List Int → Nat
  | [] => 0
  | u :: U => (if u ∈ met then 0 else (parts u).length) + unmet parts met U
theorem unmet_same {parts : Int → List Int} {met met' : List Int} {p : Int} (hmet : ∀ x, x ∈ met' ↔ x ∈ met ∨ x = p) : ∀ U : List Int, p ∉ U → unmet parts met' U = unmet parts met U
  | [], _ => rfl
  | u :: U, h => by
    simp only [List.mem_cons, not_or] at h
    have hu : u ∈ met' ↔ u ∈ met := ⟨fun k => ((hmet u).1 k).resolve_right (fun e => h.1 e.symm), fun k => (hmet u).2 (.inl k)⟩
    simp only [unmet, hu, unmet_same hmet U h.2]
theorem unmet_new {parts : Int → List Int} {met met' : List Int} {p : Int} (hmet : ∀ x, x ∈ met' ↔ x ∈ met ∨ x = p) (hp : p ∉ met) : ∀ U : List Int, U.Nodup → (p ∉ U → parts p = []) → unmet parts met' U + (parts p).length = unmet parts met U
  | [], _, h0 => by simp [unmet, h0]
  | u :: U, hn, h0 => by
    rw [List.nodup_cons] at hn
    by_cases e : u = p
    · subst e
      have h1 : u ∈ met' := (hmet u).2 (.inr rfl)
      simp only [unmet, h1, if_true, hp, if_false, unmet_same hmet U hn.1]
      omega
    · have hu : u ∈ met' ↔ u ∈ met := ⟨fun k => ((hmet u).1 k).resolve_right e, fun k => (hmet u).2 (.inl k)⟩
      have ih := unmet_new hmet hp U hn.2 (fun h => h0 (by simp only [List.mem_cons, not_or]; exact ⟨fun k => e k.symm, h⟩))
      simp only [unmet, hu]
      omega
theorem length_le_of_sub : ∀ (P U : List Int), P.Nodup → (∀ x ∈ P, x ∈ U) → P.length ≤ U.length
  | [], U, _, _ => Nat.zero_le _
  | p :: P, U, hn, hs => by
    rw [List.nodup_cons] at hn
    have hp : p ∈ U := hs p (by simp)
    have ih := length_le_of_sub P (U.erase p) hn.2 (fun x hx => (List.mem_erase_of_ne (fun e => hn.1 (by rw [← e]; exact hx))).2 (hs x (by simp [hx])))
    have hl := List.length_erase_of_mem hp
    have : 0 < U.length := List.length_pos_of_mem hp
    simp only [List.length_cons]
    omega
/-- Without a ring, what holds of a point as soon as it holds of its parts holds of all. -/
theorem ring_ind {parts : Int → List Int} (U : List Int) (hU : ∀ p, p ∉ U → parts p = []) (hac : ∀ p ∈ U, ¬ Leads parts p p) (C : Int → Prop) (step : ∀ p, (∀ q ∈ parts p, C q) → C p) (p : Int) : C p := by
  have key : ∀ (n : Nat) (P : List Int), P.Nodup → (∀ x ∈ P, x ∈ U) → U.length - P.length ≤ n → ∀ p, (∀ x ∈ P, Leads parts x p) → C p := by
    intro n
    induction n with
    | zero =>
      intro P hn hs hl p hp
      refine step p fun q hq => ?_
      exfalso
      have hpU : p ∈ U := Classical.byContradiction fun h => by rw [hU p h] at hq; simp at hq
      have hpP : p ∉ P := fun h => hac p hpU (hp p h)
      have := length_le_of_sub (p :: P) U (List.nodup_cons.2 ⟨hpP, hn⟩) (fun x hx => by
        rcases List.mem_cons.1 hx with rfl | hx
        · exact hpU
        · exact hs x hx)
      simp at this
      omega
    | succ n ih =>
      intro P hn hs hl p hp
      refine step p fun q hq => ?_
      have hpU : p ∈ U := Classical.byContradiction fun h => by rw [hU p h] at hq; simp at hq
      have hpP : p ∉ P := fun h => hac p hpU (hp p h)
      refine ih (p :: P) (List.nodup_cons.2 ⟨hpP, hn⟩) (fun x hx => ?_) (by simp; omega) q (fun x hx => ?_)
      · rcases List.mem_cons.1 hx with rfl | hx
        · exact hpU
        · exact hs x hx
      · rcases List.mem_cons.1 hx with rfl | hx
        · exact .one hq
        · exact (hp x hx).trans (.one hq)
  exact key U.length [] (by simp) (by simp) (by simp) p (by simp)
end Go.Proofs.YtccaaniepeohbaaGreatDoor
