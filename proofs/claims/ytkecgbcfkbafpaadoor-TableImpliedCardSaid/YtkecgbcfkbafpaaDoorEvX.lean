/-
  Regions whose order is drawn: the plan, and what a run in the text's order says.
-/
import Derived.Test.YtkecgbcfkbafpaaDoorEvWA
namespace Go.Proofs.YtkecgbcfkbafpaaDoor.Ev
set_option linter.unusedSectionVars false
variable [Sig]
open Go.RowKit
set_option linter.unusedSimpArgs false

variable {P : Program} {w0 w : World} {E : Env} {m : Mem} {ops : Array Oper}

def shape (x : Nat × Oper × Plan) : Nat × Oper := (x.1, x.2.1)
theorem fwd_shape : ∀ (l : List Oper) (i k : Nat) (acc : PL), (fwd P i k l acc).map shape = ((l.zipIdx i).map fun q => (q.2, q.1)).reverse ++ acc.map shape := by
  intro l
  induction l with
  | nil => intro i k acc; simp [fwd]
  | cons o r ih => intro i k acc; simp [fwd, ih, shape]
theorem bwd_shape (n : Nat) : ∀ (F acc : PL), (bwd n F acc).map shape = (F.map shape).reverse ++ acc.map shape := by
  intro F
  induction F with
  | nil => intro acc; simp [bwd]
  | cons x r ih => obtain ⟨i, o, p⟩ := x; intro acc; simp [bwd, ih, shape]
structure PlanOK (P : Program) (nt : Nat) (ops : Array Oper) (n : Nat) (L : PL) : Prop where
  here : ∀ (i : Nat) (o : Oper), ops[i]? = some o → ∃ p, L[i]? = some (i, o, p)
  back : ∀ (i : Nat) (x : Nat × Oper × Plan), L[i]? = some x → x.1 = i ∧ ops[i]? = some x.2.1
  one : ∀ x ∈ L, oneOk P nt n L x = true
  pair : ∀ x ∈ L, ∀ y ∈ L, pairOk ops x y = true
theorem drPlan_ok {nt n : Nat} {L : PL} (h : drPlan P nt ops = some (n, L)) : PlanOK P nt ops n L := by
  unfold drPlan at h
  simp only at h
  split at h
  · rename_i hc
    injection h with h
    injection h with h1 h2
    subst h1 h2
    have hs : (bwd (actives (fwd P 0 0 ops.toList [])) (fwd P 0 0 ops.toList []) []).map shape = (ops.toList.zipIdx 0).map fun q => (q.2, q.1) := by
      rw [bwd_shape, fwd_shape]; simp
    generalize bwd (actives (fwd P 0 0 ops.toList [])) (fwd P 0 0 ops.toList []) [] = L at hs hc
    have hi : ∀ i, (L[i]?).map shape = (ops[i]?).map fun o => (i, o) := fun i => by
      rw [← List.getElem?_map, hs]
      simp only [List.getElem?_map, List.getElem?_zipIdx, Array.getElem?_toList]
      cases ops[i]? <;> simp
    refine ⟨fun i o ho => ?_, fun i x hx => ?_, fun x hx => ?_, fun x hx y hy => ?_⟩
    · have := hi i
      rw [ho] at this
      cases hL : L[i]? with
      | none => rw [hL] at this; simp at this
      | some x =>
        obtain ⟨j, o', p⟩ := x
        rw [hL] at this
        simp [shape] at this
        exact ⟨p, by rw [this.1, this.2]⟩
    · have := hi i
      rw [hx] at this
      cases ho : ops[i]? with
      | none => rw [ho] at this; simp at this
      | some o =>
        rw [ho] at this
        simp [shape] at this
        exact ⟨this.1, by rw [this.2]⟩
    · have := List.all_eq_true.1 hc x hx
      simp only [Bool.and_eq_true] at this
      exact this.1
    · have := List.all_eq_true.1 hc x hx
      simp only [Bool.and_eq_true] at this
      exact List.all_eq_true.1 this.2 y hy
  · cases h
theorem waits_iff {o : Oper} {j : Nat} : waits o j = true ↔ ∃ e ∈ o.after, Region.binds .any e = true ∧ e.on = j := by
  unfold waits
  rw [List.any_eq_true]
  constructor
  · rintro ⟨e, he, h⟩
    simp only [Bool.and_eq_true] at h
    exact ⟨e, Array.mem_toList_iff.1 he, h.1, Nat.eq_of_beq_eq_true h.2⟩
  · rintro ⟨e, he, h1, h2⟩
    refine ⟨e, Array.mem_toList_iff.2 he, ?_⟩
    rw [h1, h2]; simp
theorem PlanOK.apart {nt n : Nat} {L : PL} (h : PlanOK P nt ops n L) : L.Pairwise fun x y => x.1 ≠ y.1 := by
  rw [List.pairwise_iff_getElem]
  intro i j hi hj hij e
  have h1 := (h.back i _ (List.getElem?_eq_getElem hi)).1
  have h2 := (h.back j _ (List.getElem?_eq_getElem hj)).1
  omega
namespace PlanOK
variable {nt n : Nat} {L : PL} (h : PlanOK P nt ops n L) {x y : Nat × Oper × Plan}
include h
theorem mem_at (hx : x ∈ L) : L[x.1]? = some x := by
  obtain ⟨i, hi⟩ := List.mem_iff_getElem?.1 hx
  have := (h.back i x hi).1
  rw [this]; exact hi
theorem op_at (hx : x ∈ L) : ops[x.1]? = some x.2.1 := (h.back _ _ (h.mem_at hx)).2
theorem eq_of (hx : x ∈ L) (hy : y ∈ L) (e : x.1 = y.1) : x = y := by
  have h1 := h.mem_at hx
  have h2 := h.mem_at hy
  rw [e, h2] at h1
  injection h1 with h1
  exact h1.symm
theorem dst (hx : x ∈ L) {d : Nat} (hd : x.2.1.dst = some d) : d < nt := by
  have := h.one x hx
  unfold oneOk at this
  rw [hd] at this
  simp only [Bool.and_eq_true] at this
  exact of_decide_eq_true (by simpa [Nat.blt_eq] using this.1.1.1)
theorem edge (hx : x ∈ L) {j : Nat} (hw : waits x.2.1 j = true) : j < x.1 := by
  obtain ⟨e, he, h1, h2⟩ := waits_iff.1 hw
  have := h.one x hx
  unfold oneOk at this
  simp only [Bool.and_eq_true] at this
  have := List.all_eq_true.1 this.1.1.2 e (Array.mem_toList_iff.2 he)
  rw [h1] at this
  simp only [Bool.not_true, Bool.false_or, Nat.blt_eq] at this
  omega
theorem act (hx : x ∈ L) : x.2.2.act = !calm P x.2.1 := by
  have := h.one x hx
  unfold oneOk at this
  simp only [Bool.and_eq_true, beq_iff_eq] at this
  exact this.1.2
theorem free (hx : x ∈ L) (hf : isFree x.2.1 = true) : x.2.2.act = false := by
  rw [h.act hx]
  simp [calm, hf]
theorem uniq (hx : x ∈ L) (hy : y ∈ L) (hne : x.1 ≠ y.1) {d : Nat} (hd : y.2.1.dst = some d) : x.2.1.dst ≠ some d := by
  intro hd'
  have := h.pair x hx y hy
  unfold pairOk at this
  rw [hd, hd'] at this
  simp only [Bool.and_eq_true, Bool.or_eq_true] at this
  rcases this.2 with k | k
  · exact hne (Nat.eq_of_beq_eq_true k)
  · simp at k
theorem look (hx : x ∈ L) (hy : y ∈ L) {d : Nat} (hd : y.2.1.dst = some d) (hl : d ∈ x.2.1.looksAt ops) : waits x.2.1 y.1 = true ∨ waits y.2.1 x.1 = true := by
  have := h.pair x hx y hy
  unfold pairOk at this
  rw [hd] at this
  simp only [Bool.and_eq_true, Bool.or_eq_true] at this
  rcases this.1 with (k | k) | k
  · have hb : looksE ops x.2.1 d = true := List.any_eq_true.2 ⟨d, hl, by simp⟩
    rw [hb] at k; cases k
  · exact .inl k
  · exact .inr k
omit h in
theorem behind_iff {o : Oper} {k : Nat} (hb : behind L o k = true) : k = 0 ∨ ∃ y ∈ L, waits o y.1 = true ∧ ((y.2.2.act = true ∧ k ≤ y.2.2.rank + 1) ∨ (y.2.2.act = false ∧ k ≤ y.2.2.lo)) := by
  unfold behind at hb
  simp only [Bool.or_eq_true] at hb
  rcases hb with q | q
  · exact .inl (Nat.eq_of_beq_eq_true q)
  · obtain ⟨y, hy, q⟩ := List.any_eq_true.1 q
    simp only [Bool.and_eq_true] at q
    refine .inr ⟨y, hy, q.1, ?_⟩
    cases ha : y.2.2.act with
    | true => rw [ha] at q; exact .inl ⟨rfl, by simpa using q.2⟩
    | false => rw [ha] at q; exact .inr ⟨rfl, by simpa using q.2⟩
theorem chain (hx : x ∈ L) (ax : x.2.2.act = true) : x.2.2.rank = 0 ∨ ∃ y ∈ L, waits x.2.1 y.1 = true ∧ ((y.2.2.act = true ∧ x.2.2.rank ≤ y.2.2.rank + 1) ∨ (y.2.2.act = false ∧ x.2.2.rank ≤ y.2.2.lo)) := by
  have := h.one x hx
  unfold oneOk at this
  simp only [Bool.and_eq_true, ax, if_true] at this
  exact behind_iff this.2
theorem lo (hx : x ∈ L) (ax : x.2.2.act = false) : x.2.2.lo = 0 ∨ ∃ y ∈ L, waits x.2.1 y.1 = true ∧ ((y.2.2.act = true ∧ x.2.2.lo ≤ y.2.2.rank + 1) ∨ (y.2.2.act = false ∧ x.2.2.lo ≤ y.2.2.lo)) := by
  have := h.one x hx
  unfold oneOk at this
  simp only [Bool.and_eq_true, ax, Bool.false_eq_true, if_false] at this
  exact behind_iff this.2.1
theorem hi (hx : x ∈ L) (ax : x.2.2.act = false) : n ≤ x.2.2.hi ∨ ∃ y ∈ L, waits y.2.1 x.1 = true ∧ ((y.2.2.act = true ∧ y.2.2.rank ≤ x.2.2.hi) ∨ (y.2.2.act = false ∧ y.2.2.hi ≤ x.2.2.hi)) := by
  have := h.one x hx
  unfold oneOk at this
  simp only [Bool.and_eq_true, ax, Bool.false_eq_true, if_false] at this
  have := this.2.2
  simp only [Bool.or_eq_true] at this
  rcases this with k | k
  · exact .inl (by simpa using k)
  · obtain ⟨y, hy, k⟩ := List.any_eq_true.1 k
    simp only [Bool.and_eq_true] at k
    refine .inr ⟨y, hy, k.1, ?_⟩
    cases ha : y.2.2.act with
    | true => rw [ha] at k; exact .inl ⟨rfl, by simpa using k.2⟩
    | false => rw [ha] at k; exact .inr ⟨rfl, by simpa using k.2⟩
end PlanOK
end Go.Proofs.YtkecgbcfkbafpaaDoor.Ev
