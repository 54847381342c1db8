/-
  What stands for a field, in plain words; fields that are turned.
-/
import Derived.Test.YtcjllhdbepchnaaGreatDoorLX
import Derived.Test.YtcjllhdbepchnaaGreatDoorLF
namespace Go.Proofs.YtcjllhdbepchnaaGreatDoor
set_option linter.unusedVariables false
/-- Sixteen bytes. -/
def zero16 : ByteArray := ⟨#[0, 0, 0, 0, 0, 0, 0, 0, 0, 0, 0, 0, 0, 0, 0, 0]⟩
mutual
/-- What stands for a field. -/
def FT.least : FT → PT
  | .mk s l => .mk s.kind false (s.kind == 2 && s.lb) (if s.kind = 2 then s.lm else ⟨#[]⟩) (if s.kind = 4 then zero16 else ⟨#[]⟩) (if s.kind = 7 then FT.leastL l else [])
def FT.leastL : List FT → List PT
  | [] => []
  | t :: r => FT.least t :: FT.leastL r
end
theorem FT.leastL_map : ∀ l : List FT, FT.leastL l = l.map FT.least
  | [] => by rw [FT.leastL]; rfl
  | t :: r => by rw [FT.leastL, FT.leastL_map r]; rfl
theorem FT.leastL_len (l : List FT) : (FT.leastL l).length = l.length := by rw [FT.leastL_map, List.length_map]
theorem FT.least_eq (t : FT) : t.least = .mk t.s.kind false (t.s.kind == 2 && t.s.lb) (if t.s.kind = 2 then t.s.lm else ⟨#[]⟩) (if t.s.kind = 4 then zero16 else ⟨#[]⟩) (if t.s.kind = 7 then FT.leastL t.fields else []) := by
  obtain ⟨s, l⟩ := t
  rw [FT.least]; rfl
theorem FT.least_kind (t : FT) : t.least.kind = t.s.kind := by rw [FT.least_eq]; rfl
theorem FT.least_bel (t : FT) : t.least.bel = (t.s.kind == 2 && t.s.lb) := by rw [FT.least_eq]; rfl
theorem FT.least_mag (t : FT) : t.least.mag = if t.s.kind = 2 then t.s.lm else ⟨#[]⟩ := by rw [FT.least_eq]; rfl
theorem FT.least_raw (t : FT) : t.least.raw = if t.s.kind = 4 then zero16 else ⟨#[]⟩ := by rw [FT.least_eq]; rfl
theorem FT.least_items (t : FT) : t.least.items = if t.s.kind = 7 then FT.leastL t.fields else [] := by rw [FT.least_eq]; rfl
theorem FT.deepL_le : ∀ {l : List FT} {n : Nat}, FT.deepL l ≤ n → ∀ x ∈ l, x.deep ≤ n
  | l, n, h, x, hx => Nat.le_trans (FT.deep_mem hx) h
theorem FT.least_depth : ∀ t : FT, t.least.depth ≤ t.deep := by
  refine FT.all fun t ih => ?_
  rw [FT.least_eq, PT.depth, FT.deep_eq]
  split
  · rename_i h7
    have : ∀ l : List FT, (∀ x ∈ l, x.least.depth ≤ x.deep) → PT.depthL (FT.leastL l) ≤ FT.deepL l := by
      intro l
      induction l with
      | nil => intro _; rw [FT.leastL, PT.depthL]; omega
      | cons t r ihr =>
        intro h
        rw [FT.leastL, PT.depthL, FT.deepL]
        have h1 := h t List.mem_cons_self
        have h2 := ihr fun x hx => h x (List.mem_cons_of_mem _ hx)
        omega
    have := this t.fields ih
    omega
  · omega
theorem cmpL_self : ∀ l : List UInt8, cmpL l l = 0
  | [] => rfl
  | a :: l => by unfold cmpL; rw [if_neg (by omega), if_neg (by omega)]; exact cmpL_self l
theorem magCmp_self (a : ByteArray) : magCmp a a = 0 := by unfold magCmp; rw [if_neg (by omega), if_neg (by omega)]; exact cmpL_self _
theorem numCmp_self (x : Bool) (a : ByteArray) : numCmp x a x a = 0 := by
  unfold numCmp
  split
  · rfl
  · unfold numLess
    cases x <;> simp [magCmp_self]
/-- It may be. -/
theorem FT.least_may : ∀ (t : FT) (d : Nat) (ahead : List FT), FT.good d ahead t = true → t.count ≤ 64 → t.least.may = true := by
  refine FT.all fun t ih => ?_
  intro d ahead hg hc
  have ho := FT.good_odd hg
  obtain ⟨k1, k7, _⟩ := odd_kind ho
  rw [FT.least_eq, PT.may]
  have hcases : t.s.kind = 1 ∨ t.s.kind = 2 ∨ t.s.kind = 3 ∨ t.s.kind = 4 ∨ t.s.kind = 5 ∨ t.s.kind = 6 ∨ t.s.kind = 7 := by omega
  have ee : ByteArray.mk #[] = ByteArray.empty := rfl
  rcases hcases with h | h | h | h | h | h | h
  · simp [h, ee]
  · have h2 := odd_two ho h
    have hn : numOk t.s.lb t.s.lm = true := by
      split at h2
      · have h3 := h2.1
        have h4 : numWhy t.s.lb t.s.lm = 0 := by
          unfold numWhy2 at h3
          by_cases h9 : numWhy t.s.lb t.s.lm = 0
          · exact h9
          · rw [if_pos h9] at h3; exact h3
        rw [← numWhy_ok, h4]; rfl
      · obtain ⟨h3, h4, _⟩ := h2
        unfold numOk
        simp [h3, h4]
    simp [h, hn, ee]
  · simp [h, ee]
  · simp [h, ee]; rfl
  · simp [h, ee]
  · simp [h, ee]
  · have hl := FT.count_len t.fields
    have hce := FT.count_eq t
    have hall : PT.mayL (FT.leastL t.fields) = true := by
      rw [FT.leastL_map, PT.mayL_iff]
      intro x hx
      obtain ⟨y, hy, rfl⟩ := List.mem_map.1 hx
      have h1 := FT.count_mem hy
      exact ih y hy _ _ (FT.good_sub hg hy) (by omega)
    simp [h, hall, FT.leastL_len, ee]
    omega
theorem FT.least_why {t : FT} (h : (fieldWhy t).1 = 0) : t.least.deeper 16 = false ∧ t.least.may = true := by
  have h1 := fieldWhy_ok.1 h
  refine ⟨?_, FT.least_may t 0 [] h1.1 h1.2⟩
  rw [PT.deeper_depth]
  have h2 := FT.least_depth t
  have h3 := fieldWhy_deep h
  exact decide_eq_false (by omega)
theorem checkV_nil : checkV ⟨#[]⟩ = -1 := by decide +kernel
theorem FT.fitL_none : ∀ (l : List FT) (ps : List PT) (i : Nat), ps.length = l.length → (∀ k (h : k < l.length) (h' : k < ps.length), FT.fit l[k] ps[k] = none) → FT.fitL l ps i = none
  | [], _, _, _, _ => by rw [FT.fitL]
  | t :: r, p :: ps, i, hl, h => by
    have h0 := h 0 (by simp) (by simp)
    rw [FT.fitL]
    simp only [List.headD_cons, List.tail_cons, List.getElem_cons_zero] at h0 ⊢
    rw [h0]
    exact FT.fitL_none r ps (i + 1) (by simpa using hl) fun k h1 h2 => h (k + 1) (by simpa using h1) (by simpa using h2)
theorem FT.fitL_all : ∀ (l : List FT) (ps : List PT) (i : Nat), ps.length = l.length → FT.fitL l ps i = none → ∀ k (h : k < l.length) (h' : k < ps.length), FT.fit l[k] ps[k] = none
  | [], _, _, _, _, k, h, _ => absurd h (Nat.not_lt_zero k)
  | t :: r, p :: ps, i, hl, h, k, h1, h2 => by
    rw [FT.fitL] at h
    simp only [List.headD_cons, List.tail_cons] at h
    split at h
    · cases h
    · rename_i h0
      cases k with
      | zero => exact h0
      | succ k => exact FT.fitL_all r ps (i + 1) (by simpa using hl) h k (by simpa using h1) (by simpa using h2)
/-- It is one of the field's values. -/
theorem FT.least_fit : ∀ (t : FT) (d : Nat) (ahead : List FT), FT.good d ahead t = true → FT.fit t t.least = none := by
  refine FT.all fun t ih => ?_
  intro d ahead hg
  have ho := FT.good_odd hg
  obtain ⟨k1, k7, _⟩ := odd_kind ho
  have e0 : (ByteArray.mk #[]).size = 0 := rfl
  rw [FT.fit_eq, if_neg (by rw [FT.least_kind]; omega), if_neg (by rw [FT.least_kind]; simp)]
  rw [if_neg (by
    rintro ⟨h2, hb, h⟩
    have h3 := odd_two ho h2
    rw [if_pos hb] at h3
    rw [FT.least_bel, FT.least_mag, if_pos h2] at h
    simp only [h2, beq_self_eq_true, Bool.true_and] at h
    rw [numCmp_self] at h
    omega)]
  rw [if_neg (by
    rintro ⟨hk, h⟩
    have := odd_most ho
    rw [FT.least_raw, if_neg (by omega), e0] at h
    omega)]
  rw [if_neg (by
    rintro ⟨hk, h⟩
    rw [FT.least_raw, if_neg (by omega), checkV_nil] at h
    omega)]
  by_cases h7 : t.s.kind = 7
  · rw [if_neg (fun h => h h7), FT.least_items, if_pos h7, if_neg (by simp [FT.leastL_len])]
    refine FT.fitL_none _ _ _ (FT.leastL_len _) fun k h h' => ?_
    have e : (FT.leastL t.fields)[k] = t.fields[k].least := by simp [FT.leastL_map]
    rw [e]
    exact ih _ (List.getElem_mem h) _ _ (FT.good_sub hg (List.getElem_mem h))
  · rw [if_pos h7]
/-- A field that is turned: it falls, is called otherwise, stands otherwise with nulls. -/
def FT.turned (t : FT) (name : ByteArray) (down : Bool) (nulls : Nat) : FT := .mk { t.s with name := name, down := down, nulls := nulls } t.fields
theorem FT.turned_why {t : FT} {name : ByteArray} {down : Bool} {nulls : Nat} (h : (fieldWhy t).1 = 0) (hn : nameOk name = true) (hu : nulls ≤ 2) : (fieldWhy (t.turned name down nulls)).1 = 0 := by
  rw [fieldWhy_ok] at h ⊢
  obtain ⟨s, l⟩ := t
  obtain ⟨h1, h2⟩ := h
  rw [FT.good] at h1
  refine ⟨?_, by simpa [FT.turned, FT.count, FT.fields] using h2⟩
  unfold FT.turned
  rw [FT.good]
  simp only [FT.s, FT.fields]
  have ho : (FT.mk { s with name := name, down := down, nulls := nulls } l).odd = false := by
    have h3 := FT.good_odd (d := 0) (ahead := []) (t := FT.mk s l) (by rw [FT.good]; exact h1)
    obtain ⟨k1, k2, k3⟩ := odd_kind h3
    simp only [FT.s] at k1 k2 k3
    unfold FT.odd at h3 ⊢
    simp only [FT.s, FT.fields] at h3 ⊢
    have n1 : ¬ 2 < s.nulls := by omega
    have n2 : ¬ 2 < nulls := by omega
    simp only [n1, decide_false, Bool.or_false] at h3
    simp only [n2, decide_false, Bool.or_false]
    exact h3
  rw [hn, ho]
  simp only [Bool.and_eq_true] at h1 ⊢
  exact ⟨⟨⟨⟨⟨h1.1.1.1.1.1, trivial⟩, rfl⟩, rfl⟩, h1.1.2⟩, h1.2⟩
theorem FT.turned_fit {t : FT} {name : ByteArray} {down : Bool} {nulls : Nat} (p : PT) (hp : p.kind ≠ 0) : FT.fit (t.turned name down nulls) p = FT.fit t p := by
  rw [FT.fit_eq, FT.fit_eq, if_neg hp, if_neg hp]
  rfl
theorem FT.turned_null {t : FT} {name : ByteArray} {down : Bool} {nulls : Nat} (p : PT) (hp : p.kind = 0) : FT.fit (t.turned name down nulls) p = none ↔ nulls ≠ 0 := by
  rw [FT.fit_eq, if_pos hp]
  show (if nulls = 0 then _ else _) = none ↔ _
  split <;> simp_all
/-- A schema's tuple of one. -/
theorem FT.fit_one (t : FT) (p : PT) (s : FS) (k7 : s.kind = 7) (q : PT) (hq : q.kind = 7) (hi : q.items = [p]) : FT.fit (.mk s [t]) q = none ↔ FT.fit t p = none := by
  rw [FT.fit, if_neg (by omega), if_neg (by omega), if_neg (by omega), if_neg (by omega), if_neg (by omega), if_neg (by omega), if_neg (by rw [hi]; simp), hi, FT.fitL, FT.fitL]
  simp only [List.headD_cons]
  split
  · rename_i h; rw [h]; simp
  · rename_i h; rw [h]
/-- A tuple of a field's: its items are the fields' values. -/
theorem FT.fit_tuple {t : FT} {p : PT} (hp : p.kind = 7) (h : FT.fit t p = none) : p.items.length = t.fields.length ∧ ∀ k (h : k < t.fields.length) (h' : k < p.items.length), FT.fit t.fields[k] p.items[k] = none := by
  rw [FT.fit_eq, if_neg (by omega)] at h
  split at h
  · cases h
  rename_i hk
  have hk7 : t.s.kind = 7 := by omega
  rw [if_neg (by omega), if_neg (by omega), if_neg (by omega), if_neg (by omega)] at h
  split at h
  · cases h
  rename_i hl
  have hl' : p.items.length = t.fields.length := by omega
  exact ⟨hl', FT.fitL_all _ _ _ hl' h⟩
end Go.Proofs.YtcjllhdbepchnaaGreatDoor
