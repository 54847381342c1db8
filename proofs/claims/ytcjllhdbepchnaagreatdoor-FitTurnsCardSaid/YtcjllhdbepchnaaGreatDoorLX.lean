/-
  Whether a value is one of a field, in plain words.
-/
import Derived.Test.YtcjllhdbepchnaaGreatDoorLF
import Derived.Test.YtcjllhdbepchnaaGreatDoorLW
import Derived.Test.YtcjllhdbepchnaaGreatDoorLM
import Derived.Test.YtcjllhdbepchnaaGreatDoorLS
import Derived.Test.YtcjllhdbepchnaaGreatDoorLV
/-! Whether a value is one of a field, in plain words. -/
namespace Go.Proofs.YtcjllhdbepchnaaGreatDoor
set_option linter.unusedVariables false
/-- What is wrong: its number, a place, the path, the number that it comes of; or nothing. -/
abbrev FR := Option (Int × Int × List Nat × Int)
mutual
def FT.fit : FT → PT → FR
  | .mk s l, p =>
    if p.kind = 0 then (if s.nulls = 0 then some (121, 0, [], 0) else none)
    else if p.kind ≠ s.kind then some (120, 0, [], 4)
    else if s.kind = 2 ∧ s.bnd = true ∧ (numCmp p.bel p.mag s.lb s.lm < 0 ∨ 0 < numCmp p.bel p.mag s.hb s.hm) then some (123, 0, [], 0)
    else if (s.kind = 3 ∨ s.kind = 5) ∧ s.most < p.raw.size then some (124, 0, [], 0)
    else if (s.kind = 5 ∨ s.kind = 6) ∧ 0 ≤ checkV p.raw then some (125, checkV p.raw, [], 30)
    else if s.kind ≠ 7 then none
    else if p.items.length ≠ l.length then some (122, 0, [], 0)
    else FT.fitL l p.items 0
def FT.fitL : List FT → List PT → Nat → FR
  | [], _, _ => none
  | t :: r, ps, i => match FT.fit t (ps.headD default) with
    | some (c, a, p, y) => some (c, a, i :: p, y)
    | none => FT.fitL r ps.tail (i + 1)
end
/-- A field and a part, as they say it. -/
theorem FT.fit_eq (t : FT) (p : PT) : FT.fit t p =
    if p.kind = 0 then (if t.s.nulls = 0 then some (121, 0, [], 0) else none)
    else if p.kind ≠ t.s.kind then some (120, 0, [], 4)
    else if t.s.kind = 2 ∧ t.s.bnd = true ∧ (numCmp p.bel p.mag t.s.lb t.s.lm < 0 ∨ 0 < numCmp p.bel p.mag t.s.hb t.s.hm) then some (123, 0, [], 0)
    else if (t.s.kind = 3 ∨ t.s.kind = 5) ∧ t.s.most < p.raw.size then some (124, 0, [], 0)
    else if (t.s.kind = 5 ∨ t.s.kind = 6) ∧ 0 ≤ checkV p.raw then some (125, checkV p.raw, [], 30)
    else if t.s.kind ≠ 7 then none
    else if p.items.length ≠ t.fields.length then some (122, 0, [], 0)
    else FT.fitL t.fields p.items 0 := by
  obtain ⟨s, l⟩ := t
  rw [FT.fit]; rfl
/-- One field more. -/
theorem FT.fitL_at {l : List FT} {ps : List PT} {k : Nat} (hk : k < l.length) (hp : k < ps.length) : FT.fitL (l.drop k) (ps.drop k) k = match FT.fit l[k] ps[k] with
    | some (c, a, p, y) => some (c, a, k :: p, y)
    | none => FT.fitL (l.drop (k + 1)) (ps.drop (k + 1)) (k + 1) := by
  rw [List.drop_eq_getElem_cons hk, List.drop_eq_getElem_cons hp, FT.fitL]; rfl
theorem FT.fitL_end {l : List FT} {ps : List PT} {k : Nat} (hk : l.length ≤ k) : FT.fitL (l.drop k) (ps.drop k) k = none := by
  rw [List.drop_eq_nil_of_le hk, FT.fitL]
/-- What is told lies within bounds. -/
def FTold : FR → Prop
  | none => True
  | some (c, a, p, y) => 120 ≤ c ∧ c ≤ 125 ∧ (c = 120 ∧ y = 4 ∨ c = 125 ∧ y = 30 ∨ c ≠ 120 ∧ c ≠ 125 ∧ y = 0)
mutual
theorem FT.fit_told : ∀ (t : FT) (p : PT), FTold (FT.fit t p)
  | .mk s l, p => by
    rw [FT.fit]
    split
    · split
      · exact ⟨by omega, by omega, .inr (.inr ⟨by omega, by omega, rfl⟩)⟩
      · trivial
    split
    · exact ⟨by omega, by omega, .inl ⟨rfl, rfl⟩⟩
    split
    · exact ⟨by omega, by omega, .inr (.inr ⟨by omega, by omega, rfl⟩)⟩
    split
    · exact ⟨by omega, by omega, .inr (.inr ⟨by omega, by omega, rfl⟩)⟩
    split
    · exact ⟨by omega, by omega, .inr (.inl ⟨rfl, rfl⟩)⟩
    split
    · trivial
    split
    · exact ⟨by omega, by omega, .inr (.inr ⟨by omega, by omega, rfl⟩)⟩
    exact FT.fitL_told l p.items 0
theorem FT.fitL_told : ∀ (l : List FT) (ps : List PT) (i : Nat), FTold (FT.fitL l ps i)
  | [], _, _ => by rw [FT.fitL]; trivial
  | t :: r, ps, i => by
    have h := FT.fit_told t (ps.headD default)
    rw [FT.fitL]
    split
    · rename_i c a p y he; rw [he] at h; exact h
    · exact FT.fitL_told r ps.tail (i + 1)
end
/-- No text of a part is too long. -/
inductive RawOk : PT → Prop
  | mk {p : PT} (h : p.raw.size ≤ 1099511627776) (sub : ∀ x ∈ p.items, RawOk x) : RawOk p
theorem RawOk.raw {p : PT} (h : RawOk p) : p.raw.size ≤ 1099511627776 := by cases h; assumption
theorem RawOk.sub {p : PT} (h : RawOk p) {x : PT} (hx : x ∈ p.items) : RawOk x := by cases h with | mk _ hs => exact hs x hx
mutual
/-- How deep a field is. -/
def FT.deep : FT → Nat
  | .mk s l => FT.deepL l + 1
def FT.deepL : List FT → Nat
  | [] => 0
  | t :: r => max (FT.deep t) (FT.deepL r)
end
theorem FT.deep_eq (t : FT) : t.deep = FT.deepL t.fields + 1 := by obtain ⟨s, l⟩ := t; rw [FT.deep]; rfl
theorem FT.deep_mem : ∀ {l : List FT} {x : FT}, x ∈ l → x.deep ≤ FT.deepL l
  | t :: r, x, h => by
    rw [FT.deepL]
    rcases List.mem_cons.1 h with rfl | h
    · exact Nat.le_max_left _ _
    · exact Nat.le_trans (FT.deep_mem h) (Nat.le_max_right _ _)
/-- No longer than that is a path. -/
def FLen (n : Nat) : FR → Prop
  | none => True
  | some (_, _, p, _) => p.length ≤ n
mutual
theorem FT.fit_len : ∀ (t : FT) (p : PT), FLen t.deep (FT.fit t p)
  | .mk s l, p => by
    rw [FT.fit]
    split
    · split
      · exact Nat.zero_le _
      · trivial
    split
    · exact Nat.zero_le _
    split
    · exact Nat.zero_le _
    split
    · exact Nat.zero_le _
    split
    · exact Nat.zero_le _
    split
    · trivial
    split
    · exact Nat.zero_le _
    rw [FT.deep]
    exact FT.fitL_len l p.items 0
theorem FT.fitL_len : ∀ (l : List FT) (ps : List PT) (i : Nat), FLen (FT.deepL l + 1) (FT.fitL l ps i)
  | [], _, _ => by rw [FT.fitL]; trivial
  | t :: r, ps, i => by
    have h := FT.fit_len t (ps.headD default)
    have h2 := FT.fitL_len r ps.tail (i + 1)
    rw [FT.fitL, FT.deepL]
    split
    · rename_i c a p y he
      rw [he] at h
      have h3 : p.length ≤ t.deep := h
      show (i :: p).length ≤ _
      simp only [List.length_cons]
      have := Nat.le_max_left t.deep (FT.deepL r)
      omega
    · revert h2
      generalize FT.fitL r ps.tail (i + 1) = z
      intro h2
      rcases z with _ | ⟨c, a, p, y⟩
      · trivial
      · have h3 : p.length ≤ FT.deepL r + 1 := h2
        show p.length ≤ _
        have := Nat.le_max_right t.deep (FT.deepL r)
        omega
end
end Go.Proofs.YtcjllhdbepchnaaGreatDoor

/-! Fields that may be, in plain words; a value that stands for a field. -/
namespace Go.Proofs.YtcjllhdbepchnaaGreatDoor
set_option linter.unusedVariables false
mutual
/-- How many fields there are. -/
def FT.count : FT → Nat
  | .mk s l => FT.countL l + 1
def FT.countL : List FT → Nat
  | [] => 0
  | t :: r => FT.count t + FT.countL r
end
mutual
/-- May a field be, so deep, behind others? -/
def FT.good (d : Nat) (ahead : List FT) : FT → Bool
  | .mk s l => decide (d < 16) && nameOk s.name && !(ahead.any fun x => x.s.name == s.name) && !(FT.mk s l).odd && !(decide (s.kind = 7 ∧ l.length = 0)) && FT.goodL (d + 1) [] l
def FT.goodL (d : Nat) (ahead : List FT) : List FT → Bool
  | [] => true
  | t :: r => FT.good d ahead t && FT.goodL d (ahead ++ [t]) r
end
theorem FT.good_eq (d : Nat) (ahead : List FT) (t : FT) : FT.good d ahead t = (decide (d < 16) && nameOk t.s.name && !(ahead.any fun x => x.s.name == t.s.name) && !t.odd && !(decide (t.s.kind = 7 ∧ t.fields.length = 0)) && FT.goodL (d + 1) [] t.fields) := by
  obtain ⟨s, l⟩ := t
  rw [FT.good]; rfl
theorem FT.count_eq (t : FT) : t.count = FT.countL t.fields + 1 := by obtain ⟨s, l⟩ := t; rw [FT.count]; rfl
mutual
theorem FT.walk_good : ∀ (t : FT) (ahead : List FT) (path : List Nat) (i n : Nat), ((FT.walk ahead path i n t).2 = none ↔ (FT.good path.length ahead t = true ∧ n + t.count ≤ 64)) ∧ ((FT.walk ahead path i n t).2 = none → (FT.walk ahead path i n t).1 = n + t.count)
  | .mk s l, ahead, path, i, n => by
    have ih := FT.walkL_good l [] (path ++ [i]) 0 (n + 1)
    have hl : (path ++ [i]).length = path.length + 1 := by simp
    rw [hl] at ih
    rw [FT.walk, FT.good, FT.count]
    have hc : FT.countL l + 1 = 1 + FT.countL l := by omega
    by_cases h1 : 64 < n + 1
    · rw [if_pos h1]
      refine ⟨⟨fun h => (by cases h), fun h => (by omega)⟩, fun h => (by cases h)⟩
    rw [if_neg h1]
    by_cases h2 : 16 < path.length + 1
    · rw [if_pos h2]
      refine ⟨⟨fun h => (by cases h), fun h => ?_⟩, fun h => (by cases h)⟩
      have h9 := h.1
      simp only [Bool.and_eq_true, decide_eq_true_eq] at h9
      omega
    rw [if_neg h2]
    have h2' : decide (path.length < 16) = true := decide_eq_true (by omega)
    rw [h2']
    cases h3 : nameOk s.name with
    | false => simp
    | true =>
      cases h4 : ahead.any (fun x => x.s.name == s.name) with
      | true => simp
      | false =>
        cases h5 : (FT.mk s l).odd with
        | true => simp
        | false =>
          by_cases h6 : s.kind = 7 ∧ l.length = 0
          · simp [h6]
          · simp only [h6, Bool.not_true, Bool.not_false, Bool.false_eq_true, if_false, decide_false, Bool.and_true, Bool.true_and]
            refine ⟨ih.1.trans ⟨fun h => ⟨h.1, ?_⟩, fun h => ⟨h.1, .inr (by omega)⟩⟩, fun h => (ih.2 h).trans (by omega)⟩
            rcases h.2 with rfl | h9
            · rw [FT.countL]; omega
            · omega
theorem FT.walkL_good : ∀ (l : List FT) (ahead : List FT) (path : List Nat) (i n : Nat), ((FT.walkL ahead path i n l).2 = none ↔ (FT.goodL path.length ahead l = true ∧ (l = [] ∨ n + FT.countL l ≤ 64))) ∧ ((FT.walkL ahead path i n l).2 = none → (FT.walkL ahead path i n l).1 = n + FT.countL l)
  | [], ahead, path, i, n => by
    rw [FT.walkL, FT.goodL, FT.countL]
    exact ⟨⟨fun _ => ⟨rfl, .inl rfl⟩, fun _ => rfl⟩, fun _ => rfl⟩
  | t :: r, ahead, path, i, n => by
    have h := FT.walk_good t ahead path i n
    rw [FT.walkL, FT.goodL, FT.countL]
    obtain ⟨m, e⟩ : ∃ x, x = FT.walk ahead path i n t := ⟨_, rfl⟩
    rcases hw : FT.walk ahead path i n t with ⟨m, _ | e⟩
    · rw [hw] at h
      have hm : m = n + t.count := h.2 rfl
      have hg := h.1.1 rfl
      have h2 := FT.walkL_good r (ahead ++ [t]) path (i + 1) m
      simp only
      refine ⟨h2.1.trans ⟨fun k => ⟨by rw [hg.1, k.1]; rfl, .inr ?_⟩, fun k => ⟨?_, ?_⟩⟩, fun k => (h2.2 k).trans (by omega)⟩
      · rcases k.2 with rfl | k2
        · rw [FT.countL]; omega
        · omega
      · have := k.1; simp only [Bool.and_eq_true] at this; exact this.2
      · rcases k.2 with k2 | k2
        · cases k2
        · exact .inr (by omega)
    · rw [hw] at h
      simp only
      refine ⟨⟨fun k => (by cases k), fun k => ?_⟩, fun k => (by cases k)⟩
      have k1 := k.1
      simp only [Bool.and_eq_true] at k1
      have := h.1.2 ⟨k1.1, by rcases k.2 with k2 | k2
                              · cases k2
                              · omega⟩
      cases this
end
/-- A schema that may be. -/
theorem schemaWhy_ok {limit : Int} {l : List FT} : (schemaWhy limit l).1 = 0 ↔ (1 ≤ limit ∧ limit ≤ 65536 ∧ l.length ≠ 0 ∧ FT.goodL 0 [] l = true ∧ FT.countL l ≤ 64) := by
  have h := (FT.walkL_good l [] [] 0 0).1
  have ht := FT.walkL_told [] [] 0 0 (by simp) (by omega) l
  unfold schemaWhy
  by_cases h1 : limit < 1 ∨ 65536 < limit
  · rw [if_pos h1]; exact ⟨fun h => by simp at h, fun h => by omega⟩
  rw [if_neg h1]
  by_cases h2 : l.length = 0
  · rw [if_pos h2]; exact ⟨fun h => by simp at h, fun h => by omega⟩
  rw [if_neg h2]
  rcases hw : FT.walkL [] [] 0 0 l with ⟨m, _ | e⟩
  · rw [hw] at h
    simp only
    have h3 := h.1 rfl
    refine ⟨fun _ => ⟨by omega, by omega, h2, h3.1, ?_⟩, fun _ => trivial⟩
    rcases h3.2 with rfl | h4
    · simp at h2
    · omega
  · rw [hw] at h ht
    simp only
    refine ⟨fun k => ?_, fun k => ?_⟩
    · have h9 : 111 ≤ e.1 := ht.1
      omega
    · have := h.2 ⟨k.2.2.2.1, .inr (by omega)⟩
      cases this
/-- What is wrong with a field. -/
def fieldWhy (t : FT) : Int × List Nat := schemaWhy 65536 [t]
/-- A field that may be. -/
theorem fieldWhy_ok {t : FT} : (fieldWhy t).1 = 0 ↔ (FT.good 0 [] t = true ∧ t.count ≤ 64) := by
  unfold fieldWhy
  rw [schemaWhy_ok, FT.goodL, FT.goodL, FT.countL, FT.countL]
  simp
theorem schemaWhy_one {limit : Int} {t : FT} (h1 : 1 ≤ limit) (h2 : limit ≤ 65536) : (schemaWhy limit [t]).1 = 0 ↔ (fieldWhy t).1 = 0 := by
  rw [fieldWhy_ok, schemaWhy_ok, FT.goodL, FT.goodL, FT.countL, FT.countL]
  simp [h1, h2]
mutual
theorem FT.good_mono : ∀ (t : FT) (d d' : Nat) (ahead : List FT), d' ≤ d → FT.good d ahead t = true → FT.good d' [] t = true
  | .mk s l, d, d', ahead, hd, h => by
    rw [FT.good] at h ⊢
    simp only [Bool.and_eq_true, decide_eq_true_eq] at h ⊢
    refine ⟨⟨⟨⟨⟨by omega, h.1.1.1.1.2⟩, rfl⟩, h.1.1.2⟩, h.1.2⟩, FT.goodL_mono l (d + 1) (d' + 1) [] (by omega) h.2⟩
theorem FT.goodL_mono : ∀ (l : List FT) (d d' : Nat) (ahead : List FT), d' ≤ d → FT.goodL d ahead l = true → FT.goodL d' ahead l = true
  | [], _, _, _, _, _ => by rw [FT.goodL]
  | .mk s m :: r, d, d', ahead, hd, h => by
    rw [FT.goodL, FT.good] at h ⊢
    simp only [Bool.and_eq_true, decide_eq_true_eq] at h ⊢
    exact ⟨⟨⟨⟨⟨⟨by omega, h.1.1.1.1.1.2⟩, h.1.1.1.1.2⟩, h.1.1.1.2⟩, h.1.1.2⟩, FT.goodL_mono m (d + 1) (d' + 1) [] (by omega) h.1.2⟩, FT.goodL_mono r d d' _ hd h.2⟩
end
theorem FT.goodL_mem : ∀ {l : List FT} {d : Nat} {ahead : List FT}, FT.goodL d ahead l = true → ∀ x ∈ l, FT.good d [] x = true
  | [], _, _, _, x, hx => by cases hx
  | t :: r, d, ahead, h, x, hx => by
    rw [FT.goodL, Bool.and_eq_true] at h
    rcases List.mem_cons.1 hx with rfl | hx
    · exact FT.good_mono _ d d ahead (Nat.le_refl _) h.1
    · exact FT.goodL_mem h.2 x hx
theorem FT.good_sub {t : FT} {d : Nat} {ahead : List FT} (h : FT.good d ahead t = true) {x : FT} (hx : x ∈ t.fields) : FT.good (d + 1) [] x = true := by
  rw [FT.good_eq] at h
  simp only [Bool.and_eq_true] at h
  exact FT.goodL_mem h.2 x hx
theorem FT.good_odd {t : FT} {d : Nat} {ahead : List FT} (h : FT.good d ahead t = true) : t.odd = false := by
  rw [FT.good_eq] at h
  simp only [Bool.and_eq_true, Bool.not_eq_true'] at h
  exact h.1.1.2
theorem FT.good_deep : ∀ (t : FT) (d : Nat) (ahead : List FT), FT.good d ahead t = true → d + t.deep ≤ 16 := by
  refine FT.all fun t ih => ?_
  intro d ahead h
  have hd : d < 16 := by rw [FT.good_eq] at h; simp only [Bool.and_eq_true, decide_eq_true_eq] at h; exact h.1.1.1.1.1
  rw [FT.deep_eq]
  have hall : ∀ x ∈ t.fields, d + 1 + x.deep ≤ 16 := fun x hx => ih x hx (d + 1) [] (FT.good_sub h hx)
  have : ∀ l : List FT, (∀ x ∈ l, d + 1 + x.deep ≤ 16) → d + 1 + FT.deepL l ≤ 16 := by
    intro l
    induction l with
    | nil => intro _; rw [FT.deepL]; omega
    | cons t r ihr =>
      intro h
      rw [FT.deepL]
      have h1 := h t List.mem_cons_self
      have h2 := ihr fun x hx => h x (List.mem_cons_of_mem _ hx)
      omega
  have := this t.fields hall
  omega
theorem FT.count_mem : ∀ {l : List FT} {x : FT}, x ∈ l → x.count ≤ FT.countL l
  | t :: r, x, h => by
    rw [FT.countL]
    rcases List.mem_cons.1 h with rfl | h
    · omega
    · have := FT.count_mem h; omega
theorem FT.count_len : ∀ (l : List FT), l.length ≤ FT.countL l
  | [] => by simp
  | t :: r => by
    have := FT.count_len r
    have h1 := FT.count_eq t
    rw [FT.countL, List.length_cons]
    omega
/-- A field within a field that may be. -/
theorem fieldWhy_sub {t : FT} (h : (fieldWhy t).1 = 0) {x : FT} (hx : x ∈ t.fields) : (fieldWhy x).1 = 0 := by
  rw [fieldWhy_ok] at h ⊢
  refine ⟨FT.good_mono _ _ _ [] (Nat.zero_le _) (FT.good_sub h.1 hx), ?_⟩
  have h1 := FT.count_mem hx
  have h2 := FT.count_eq t
  omega
theorem fieldWhy_deep {t : FT} (h : (fieldWhy t).1 = 0) : t.deep ≤ 16 := by
  have := FT.good_deep t 0 [] (fieldWhy_ok.1 h).1
  omega
theorem fieldWhy_odd {t : FT} (h : (fieldWhy t).1 = 0) : t.odd = false := FT.good_odd (fieldWhy_ok.1 h).1
theorem fieldWhy_len {t : FT} (h : (fieldWhy t).1 = 0) : t.fields.length ≤ 64 := by
  have h1 := FT.count_len t.fields
  have h2 := FT.count_eq t
  have h3 := (fieldWhy_ok.1 h).2
  omega
/-- What a field that may be says. -/
theorem odd_kind {t : FT} (h : t.odd = false) : 1 ≤ t.s.kind ∧ t.s.kind ≤ 7 ∧ t.s.nulls ≤ 2 := by
  unfold FT.odd at h
  split at h
  · cases h
  · rename_i h1
    simp at h1
    omega
theorem odd_two {t : FT} (h : t.odd = false) (hk : t.s.kind = 2) : if t.s.bnd = true then numWhy2 t.s.lb t.s.lm t.s.hb t.s.hm = 0 ∧ numCmp t.s.lb t.s.lm t.s.hb t.s.hm ≤ 0 else t.s.lb = false ∧ t.s.lm.size = 0 ∧ t.s.hb = false ∧ t.s.hm.size = 0 := by
  have hk7 := odd_kind h
  unfold FT.odd at h
  rw [if_neg (by simp; omega)] at h
  split at h
  · cases h
  · cases hb : t.s.bnd
    · rw [hb] at h
      simp at h
      simp
      exact ⟨h.1.1.1, h.1.1.2, h.1.2, h.2⟩
    · rw [hb] at h
      simp at h
      simp
      exact ⟨h.1, by omega⟩
theorem odd_most {t : FT} (h : t.odd = false) : 0 ≤ t.s.most := by
  have hk7 := odd_kind h
  unfold FT.odd at h
  rw [if_neg (by simp; omega)] at h
  split at h
  · cases h
  · rename_i h9
    simp only [Bool.or_eq_true, Bool.and_eq_true, bne_iff_ne, ne_eq, not_or, not_and] at h9
    by_cases k2 : t.s.kind = 2
    · have := h9.1.1.2 ⟨by omega, by omega⟩
      omega
    · rw [if_neg (by simpa using k2)] at h
      by_cases k6 : t.s.kind = 6
      · have := h9.1.1.2 ⟨by omega, by omega⟩
        omega
      · rw [if_neg (by simpa using k6)] at h
        simp at h
        omega
theorem odd_leaf {t : FT} (h : t.odd = false) (hk : t.s.kind ≠ 7) : t.fields = [] := by
  have hk7 := odd_kind h
  unfold FT.odd at h
  rw [if_neg (by simp; omega)] at h
  split at h
  · cases h
  · rename_i h9
    simp only [Bool.or_eq_true, Bool.and_eq_true, bne_iff_ne, ne_eq, not_or, not_and] at h9
    have := h9.2 hk
    simpa using this
end Go.Proofs.YtcjllhdbepchnaaGreatDoor

/-! fit.refused, fit.told, ref12.Refused, ref12.RefusedField: what is wrong with a field. -/
namespace Go.Proofs.YtcjllhdbepchnaaGreatDoor
open Go.RowKit Go.WideShapes
set_option linter.unusedVariables false
theorem new_field (w : World) (n : Nat) (t : FT) (a : Option Addr) (c : Nat) (T : TypeId) (hn : n = w.heap.size) : CellsAt (w.alloc (.cells (fieldCells t a c).toArray T)) n 0 (fieldCells t a c) := fun i u hu => by
  subst hn
  rw [World.cell?_alloc_at _ _ _ _ (by simp)]
  simpa using hu
theorem fields_one {w : World} {B : Nat} {t : FT} {a : Option Addr} {c : Nat} (hok : t.s.ok) (hlc : t.fields.length ≤ c) (hc : c ≤ 140737488351232) (hf : FieldsAt w (· < B) t.fields a) {b : Nat} (hb : b < B) (hcs : CellsAt w b 0 (fieldCells t a c)) : FieldsAt w (· < B) [t] (some ⟨b, 0, none⟩) :=
  ⟨b, 0, _, rfl, hb, hcs, FieldAt.shut hok hlc hc hf, trivial⟩
theorem ErrAt.low {r : Int × List Nat} {B B' : Nat} {w : World} {v : Value} (h : ErrAt r B w v) (hB : B' ≤ B) : ErrAt r B' w v := by
  unfold ErrAt at h ⊢
  split
  · rename_i h0; rw [if_pos h0] at h; exact h
  · rename_i h0
    rw [if_neg h0] at h
    obtain ⟨b, p, e, hb, hf, ho⟩ := h
    exact ⟨b, p, e, by omega, hf, ownsRow_low ho hB⟩
/-- The world in which a field lies boxed, and in a row of its own. -/
theorem refused_world (t : FT) (a : Option Addr) (c : Nat) (w : World) (hok : t.s.ok) (hlc : t.fields.length ≤ c) (hc : c ≤ 140737488351232) (hf : FieldsAt w (· < w.heap.size) t.fields a) (W2 : World) (hW2 : W2 = (w.alloc (.cells #[.string t.s.name, .int .u8 t.s.kind, .bool t.s.down, .int .u8 t.s.nulls, .bool t.s.bnd, .bool t.s.lb, .string t.s.lm, .bool t.s.hb, .string t.s.hm, .int .i64 t.s.most, .int .i64 t.s.st, .bool t.s.sh, .bool t.s.ba, .slice a t.fields.length c] 57)).alloc (.cells #[.string t.s.name, .int .u8 t.s.kind, .bool t.s.down, .int .u8 t.s.nulls, .bool t.s.bnd, .bool t.s.lb, .string t.s.lm, .bool t.s.hb, .string t.s.hm, .int .i64 t.s.most, .int .i64 t.s.st, .bool t.s.sh, .bool t.s.ba, .slice a t.fields.length c] 57)) :
    Below w.heap.size w W2 ∧ W2.heap.size = w.heap.size + 2 ∧ FieldsAt W2 (· < W2.heap.size) [t] (some ⟨w.heap.size + 1, 0, none⟩) := by
  have hz : W2.heap.size = w.heap.size + 2 := by rw [hW2]; simp
  have hb : Below w.heap.size w W2 := by rw [hW2]; exact below_a2 _ _ _
  refine ⟨hb, hz, fields_one hok hlc hc ((hf.below hb).wide hb.size) (by omega) ?_⟩
  rw [hW2]
  exact new_field (w.alloc _) (w.heap.size + 1) t a c _ (by simp)
set_option maxRecDepth 100000 in
set_option maxHeartbeats 2000000 in
theorem refused_any (t : FT) (a : Option Addr) (c : Nat) (w : World) (hok : t.s.ok) (hlc : t.fields.length ≤ c) (hc : c ≤ 140737488351232) (hf : FieldsAt w (· < w.heap.size) t.fields a) :
    Calls Tryz.prog 50 #[.agg #[.string t.s.name, .int .u8 t.s.kind, .bool t.s.down, .int .u8 t.s.nulls, .bool t.s.bnd, .bool t.s.lb, .string t.s.lm, .bool t.s.hb, .string t.s.hm, .int .i64 t.s.most, .int .i64 t.s.st, .bool t.s.sh, .bool t.s.ba, .slice a t.fields.length c]] w (ChkPost (fieldWhy t) w) := by
  obtain ⟨W2, hW2⟩ : ∃ W2, W2 = (w.alloc (.cells #[.string t.s.name, .int .u8 t.s.kind, .bool t.s.down, .int .u8 t.s.nulls, .bool t.s.bnd, .bool t.s.lb, .string t.s.lm, .bool t.s.hb, .string t.s.hm, .int .i64 t.s.most, .int .i64 t.s.st, .bool t.s.sh, .bool t.s.ba, .slice a t.fields.length c] 57)).alloc (.cells #[.string t.s.name, .int .u8 t.s.kind, .bool t.s.down, .int .u8 t.s.nulls, .bool t.s.bnd, .bool t.s.lb, .string t.s.lm, .bool t.s.hb, .string t.s.hm, .int .i64 t.s.most, .int .i64 t.s.st, .bool t.s.sh, .bool t.s.ba, .slice a t.fields.length c] 57) := ⟨_, rfl⟩
  obtain ⟨hb, hz, hF⟩ := refused_world t a c w hok hlc hc hf W2 hW2
  have HB := Lib.hid hb
  have HC := Lib.hid (show Calls Tryz.prog 31 #[.agg #[.int .i64 65536, .slice (some ⟨w.heap.size + 1, 0, none⟩) 1 1]] W2 (ChkPost (fieldWhy t) W2) from schChk_any 65536 [t] (some ⟨w.heap.size + 1, 0, none⟩) 1 W2 hF (by simp) (by omega))
  rw [hW2] at HC
  clear hF hf hok hb
  have HW := Lib.hid hW2
  clear hW2
  go_enter Tryz.func50, Tryz.ntmps50
  go_wp2_with fail
  refine HC.out.mono ?_
  rintro e w3 ⟨v, rfl, hb3, he3⟩
  rw [← HW.out] at hb3 he3
  have HB3 := Lib.hid (HB.out.trans (hb3.mono (by omega)))
  have HE3 := Lib.hid (he3.low (B' := w.heap.size) (by omega))
  clear hb3 he3
  go_wp2_with fail
  go_ret
  exact ⟨v, rfl, HB3.out, HE3.out⟩
set_option maxRecDepth 100000 in
set_option maxHeartbeats 2000000 in
theorem refWhy_any (limit : Int) (l : List FT) (a : Option Addr) (c : Nat) (w : World) (hf : FieldsAt w (· < w.heap.size) l a) (hlc : l.length ≤ c) (hc : c ≤ 140737488351232) :
    Calls Tryz.prog 46 #[.agg #[.int .i64 limit, .slice a l.length c]] w (Ret (.int .i64 (schemaWhy limit l).1) w) := by
  have hb1 := below_a1 w (.cells #[.int .i64 limit, .slice a l.length c] 24)
  have HC := Lib.hid (refCheck_any limit l a c _ ((hf.below hb1).wide hb1.size) hlc hc)
  have HB1 := Lib.hid hb1
  obtain ⟨r, hr⟩ : ∃ r, r = schemaWhy limit l := ⟨_, rfl⟩
  rw [← hr] at HC ⊢
  clear hr hf hb1
  go_enter Tryz.func46, Tryz.ntmps46
  go_wp2_with fail
  refine HC.out.mono ?_
  rintro e w2 ⟨v, rfl, hb2, hq2, _⟩
  have hz2 := hb2.size
  rw [World.size_alloc] at hz2
  obtain ⟨A, cp, rfl, _⟩ := hq2
  have HB2 := Lib.hid (HB1.out.trans (hb2.mono (by simp)))
  clear hb2 HC HB1
  go_wp2_with fail
  go_ret
  exact ⟨rfl, HB2.out.alloc (by omega) _⟩
set_option maxRecDepth 100000 in
set_option maxHeartbeats 2000000 in
theorem refField_any (t : FT) (a : Option Addr) (c : Nat) (w : World) (hok : t.s.ok) (hlc : t.fields.length ≤ c) (hc : c ≤ 140737488351232) (hf : FieldsAt w (· < w.heap.size) t.fields a) :
    Calls Tryz.prog 25 #[.agg #[.string t.s.name, .int .u8 t.s.kind, .bool t.s.down, .int .u8 t.s.nulls, .bool t.s.bnd, .bool t.s.lb, .string t.s.lm, .bool t.s.hb, .string t.s.hm, .int .i64 t.s.most, .int .i64 t.s.st, .bool t.s.sh, .bool t.s.ba, .slice a t.fields.length c]] w (Ret (.int .i64 (fieldWhy t).1) w) := by
  obtain ⟨W2, hW2⟩ : ∃ W2, W2 = (w.alloc (.cells #[.string t.s.name, .int .u8 t.s.kind, .bool t.s.down, .int .u8 t.s.nulls, .bool t.s.bnd, .bool t.s.lb, .string t.s.lm, .bool t.s.hb, .string t.s.hm, .int .i64 t.s.most, .int .i64 t.s.st, .bool t.s.sh, .bool t.s.ba, .slice a t.fields.length c] 57)).alloc (.cells #[.string t.s.name, .int .u8 t.s.kind, .bool t.s.down, .int .u8 t.s.nulls, .bool t.s.bnd, .bool t.s.lb, .string t.s.lm, .bool t.s.hb, .string t.s.hm, .int .i64 t.s.most, .int .i64 t.s.st, .bool t.s.sh, .bool t.s.ba, .slice a t.fields.length c] 57) := ⟨_, rfl⟩
  obtain ⟨hb, hz, hF⟩ := refused_world t a c w hok hlc hc hf W2 hW2
  have HB := Lib.hid hb
  have HC := Lib.hid (show Calls Tryz.prog 46 #[.agg #[.int .i64 65536, .slice (some ⟨w.heap.size + 1, 0, none⟩) 1 1]] W2 (Ret (.int .i64 (fieldWhy t).1) W2) from refWhy_any 65536 [t] (some ⟨w.heap.size + 1, 0, none⟩) 1 W2 hF (by simp) (by omega))
  rw [hW2] at HC
  clear hF hf hok hb
  have HW := Lib.hid hW2
  clear hW2
  go_enter Tryz.func25, Tryz.ntmps25
  go_wp2_with fail
  refine HC.out.mono ?_
  rintro e w3 ⟨rfl, hb3⟩
  rw [← HW.out] at hb3
  have HB3 := Lib.hid (HB.out.trans (hb3.mono (by omega)))
  clear hb3
  go_wp2_with fail
  go_ret
  exact ⟨rfl, HB3.out⟩
set_option maxRecDepth 100000 in
set_option maxHeartbeats 1000000 in
theorem told_none (w : World) : Calls Tryz.prog 43 #[.pointer none] w (Ret .nilIface w) := by
  have HB := Lib.hid (Below.refl w.heap.size w)
  go_enter Tryz.func43, Tryz.ntmps43
  go_wp2_with fail
  go_ret
  exact ⟨rfl, HB.out⟩
set_option maxRecDepth 100000 in
set_option maxHeartbeats 1000000 in
theorem told_some (b : Nat) (w : World) : Calls Tryz.prog 43 #[.pointer (some ⟨b, 0, none⟩)] w (Ret (.iface 91 (.pointer (some ⟨b, 0, none⟩))) w) := by
  have HB := Lib.hid (Below.refl w.heap.size w)
  go_enter Tryz.func43, Tryz.ntmps43
  go_wp2_with fail
  go_ret
  exact ⟨rfl, HB.out⟩
end Go.Proofs.YtcjllhdbepchnaaGreatDoor
