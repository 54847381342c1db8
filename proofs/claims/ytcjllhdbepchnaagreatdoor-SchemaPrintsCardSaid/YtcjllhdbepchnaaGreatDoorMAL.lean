/-
  Whether a value is one of a field, in plain words.
-/
import Derived.Test.YtcjllhdbepchnaaGreatDoorMG
import Derived.Test.YtcjllhdbepchnaaGreatDoorMAK
import Derived.Test.YtcjllhdbepchnaaGreatDoorMX
import Derived.Test.YtcjllhdbepchnaaGreatDoorMAJ
import Derived.Test.YtcjllhdbepchnaaGreatDoorMA
import Derived.Test.YtcjllhdbepchnaaGreatDoorMAE
import Derived.Lib.LaidTab
import Derived.Lib.AppendIntMem
import Derived.Test.YtcjllhdbepchnaaGreatDoorMAF
/-! Whether a value is one of a field, in plain words. -/
namespace Go.Proofs.YtcjllhdbepchnaaGreatDoor
set_option linter.unusedVariables false
/-- What is wrong: its number, a place, the path, the number that it comes of; or nothing. -/
abbrev FR := Option (Int × Int × List Nat × Int)
mutual
def FT.fit : FT → PT → FR
  | .mk s l, p =>
    if p.kind = 0 then (if s.nulls = 0 then some (121, 0, [], 0) else none)
    else if p.kind ≠ s.kind then some (120, 0, [], 4)
    else if s.kind = 2 ∧ s.bnd = true ∧ (numCmp p.bel p.mag s.lb s.lm < 0 ∨ 0 < numCmp p.bel p.mag s.hb s.hm) then some (123, 0, [], 0)
    else if (s.kind = 3 ∨ s.kind = 5) ∧ s.most < p.raw.size then some (124, 0, [], 0)
    else if (s.kind = 5 ∨ s.kind = 6) ∧ 0 ≤ checkV p.raw then some (125, checkV p.raw, [], 30)
    else if s.kind ≠ 7 then none
    else if p.items.length ≠ l.length then some (122, 0, [], 0)
    else FT.fitL l p.items 0
def FT.fitL : List FT → List PT → Nat → FR
  | [], _, _ => none
  | t :: r, ps, i => match FT.fit t (ps.headD default) with
    | some (c, a, p, y) => some (c, a, i :: p, y)
    | none => FT.fitL r ps.tail (i + 1)
end
/-- A field and a part, as they say it. -/
theorem FT.fit_eq (t : FT) (p : PT) : FT.fit t p =
    if p.kind = 0 then (if t.s.nulls = 0 then some (121, 0, [], 0) else none)
    else if p.kind ≠ t.s.kind then some (120, 0, [], 4)
    else if t.s.kind = 2 ∧ t.s.bnd = true ∧ (numCmp p.bel p.mag t.s.lb t.s.lm < 0 ∨ 0 < numCmp p.bel p.mag t.s.hb t.s.hm) then some (123, 0, [], 0)
    else if (t.s.kind = 3 ∨ t.s.kind = 5) ∧ t.s.most < p.raw.size then some (124, 0, [], 0)
    else if (t.s.kind = 5 ∨ t.s.kind = 6) ∧ 0 ≤ checkV p.raw then some (125, checkV p.raw, [], 30)
    else if t.s.kind ≠ 7 then none
    else if p.items.length ≠ t.fields.length then some (122, 0, [], 0)
    else FT.fitL t.fields p.items 0 := by
  obtain ⟨s, l⟩ := t
  rw [FT.fit]; rfl
/-- One field more. -/
theorem FT.fitL_at {l : List FT} {ps : List PT} {k : Nat} (hk : k < l.length) (hp : k < ps.length) : FT.fitL (l.drop k) (ps.drop k) k = match FT.fit l[k] ps[k] with
    | some (c, a, p, y) => some (c, a, k :: p, y)
    | none => FT.fitL (l.drop (k + 1)) (ps.drop (k + 1)) (k + 1) := by
  rw [List.drop_eq_getElem_cons hk, List.drop_eq_getElem_cons hp, FT.fitL]; rfl
theorem FT.fitL_end {l : List FT} {ps : List PT} {k : Nat} (hk : l.length ≤ k) : FT.fitL (l.drop k) (ps.drop k) k = none := by
  rw [List.drop_eq_nil_of_le hk, FT.fitL]
/-- What is told lies within bounds. -/
def FTold : FR → Prop
  | none => True
  | some (c, a, p, y) => 120 ≤ c ∧ c ≤ 125 ∧ (c = 120 ∧ y = 4 ∨ c = 125 ∧ y = 30 ∨ c ≠ 120 ∧ c ≠ 125 ∧ y = 0)
mutual
theorem FT.fit_told : ∀ (t : FT) (p : PT), FTold (FT.fit t p)
  | .mk s l, p => by
    rw [FT.fit]
    split
    · split
      · exact ⟨by omega, by omega, .inr (.inr ⟨by omega, by omega, rfl⟩)⟩
      · trivial
    split
    · exact ⟨by omega, by omega, .inl ⟨rfl, rfl⟩⟩
    split
    · exact ⟨by omega, by omega, .inr (.inr ⟨by omega, by omega, rfl⟩)⟩
    split
    · exact ⟨by omega, by omega, .inr (.inr ⟨by omega, by omega, rfl⟩)⟩
    split
    · exact ⟨by omega, by omega, .inr (.inl ⟨rfl, rfl⟩)⟩
    split
    · trivial
    split
    · exact ⟨by omega, by omega, .inr (.inr ⟨by omega, by omega, rfl⟩)⟩
    exact FT.fitL_told l p.items 0
theorem FT.fitL_told : ∀ (l : List FT) (ps : List PT) (i : Nat), FTold (FT.fitL l ps i)
  | [], _, _ => by rw [FT.fitL]; trivial
  | t :: r, ps, i => by
    have h := FT.fit_told t (ps.headD default)
    rw [FT.fitL]
    split
    · rename_i c a p y he; rw [he] at h; exact h
    · exact FT.fitL_told r ps.tail (i + 1)
end
/-- No text of a part is too long. -/
inductive RawOk : PT → Prop
  | mk {p : PT} (h : p.raw.size ≤ 1099511627776) (sub : ∀ x ∈ p.items, RawOk x) : RawOk p
theorem RawOk.raw {p : PT} (h : RawOk p) : p.raw.size ≤ 1099511627776 := by cases h; assumption
theorem RawOk.sub {p : PT} (h : RawOk p) {x : PT} (hx : x ∈ p.items) : RawOk x := by cases h with | mk _ hs => exact hs x hx
mutual
/-- How deep a field is. -/
def FT.deep : FT → Nat
  | .mk s l => FT.deepL l + 1
def FT.deepL : List FT → Nat
  | [] => 0
  | t :: r => max (FT.deep t) (FT.deepL r)
end
theorem FT.deep_eq (t : FT) : t.deep = FT.deepL t.fields + 1 := by obtain ⟨s, l⟩ := t; rw [FT.deep]; rfl
theorem FT.deep_mem : ∀ {l : List FT} {x : FT}, x ∈ l → x.deep ≤ FT.deepL l
  | t :: r, x, h => by
    rw [FT.deepL]
    rcases List.mem_cons.1 h with rfl | h
    · exact Nat.le_max_left _ _
    · exact Nat.le_trans (FT.deep_mem h) (Nat.le_max_right _ _)
/-- No longer than that is a path. -/
def FLen (n : Nat) : FR → Prop
  | none => True
  | some (_, _, p, _) => p.length ≤ n
mutual
theorem FT.fit_len : ∀ (t : FT) (p : PT), FLen t.deep (FT.fit t p)
  | .mk s l, p => by
    rw [FT.fit]
    split
    · split
      · exact Nat.zero_le _
      · trivial
    split
    · exact Nat.zero_le _
    split
    · exact Nat.zero_le _
    split
    · exact Nat.zero_le _
    split
    · exact Nat.zero_le _
    split
    · trivial
    split
    · exact Nat.zero_le _
    rw [FT.deep]
    exact FT.fitL_len l p.items 0
theorem FT.fitL_len : ∀ (l : List FT) (ps : List PT) (i : Nat), FLen (FT.deepL l + 1) (FT.fitL l ps i)
  | [], _, _ => by rw [FT.fitL]; trivial
  | t :: r, ps, i => by
    have h := FT.fit_len t (ps.headD default)
    have h2 := FT.fitL_len r ps.tail (i + 1)
    rw [FT.fitL, FT.deepL]
    split
    · rename_i c a p y he
      rw [he] at h
      have h3 : p.length ≤ t.deep := h
      show (i :: p).length ≤ _
      simp only [List.length_cons]
      have := Nat.le_max_left t.deep (FT.deepL r)
      omega
    · revert h2
      generalize FT.fitL r ps.tail (i + 1) = z
      intro h2
      rcases z with _ | ⟨c, a, p, y⟩
      · trivial
      · have h3 : p.length ≤ FT.deepL r + 1 := h2
        show p.length ≤ _
        have := Nat.le_max_right t.deep (FT.deepL r)
        omega
end
end Go.Proofs.YtcjllhdbepchnaaGreatDoor

/-! Fields that may be, in plain words; a value that stands for a field. -/
namespace Go.Proofs.YtcjllhdbepchnaaGreatDoor
set_option linter.unusedVariables false
mutual
/-- How many fields there are. -/
def FT.count : FT → Nat
  | .mk s l => FT.countL l + 1
def FT.countL : List FT → Nat
  | [] => 0
  | t :: r => FT.count t + FT.countL r
end
mutual
/-- May a field be, so deep, behind others? -/
def FT.good (d : Nat) (ahead : List FT) : FT → Bool
  | .mk s l => decide (d < 16) && nameOk s.name && !(ahead.any fun x => x.s.name == s.name) && !(FT.mk s l).odd && !(decide (s.kind = 7 ∧ l.length = 0)) && FT.goodL (d + 1) [] l
def FT.goodL (d : Nat) (ahead : List FT) : List FT → Bool
  | [] => true
  | t :: r => FT.good d ahead t && FT.goodL d (ahead ++ [t]) r
end
theorem FT.good_eq (d : Nat) (ahead : List FT) (t : FT) : FT.good d ahead t = (decide (d < 16) && nameOk t.s.name && !(ahead.any fun x => x.s.name == t.s.name) && !t.odd && !(decide (t.s.kind = 7 ∧ t.fields.length = 0)) && FT.goodL (d + 1) [] t.fields) := by
  obtain ⟨s, l⟩ := t
  rw [FT.good]; rfl
theorem FT.count_eq (t : FT) : t.count = FT.countL t.fields + 1 := by obtain ⟨s, l⟩ := t; rw [FT.count]; rfl
mutual
theorem FT.walk_good : ∀ (t : FT) (ahead : List FT) (path : List Nat) (i n : Nat), ((FT.walk ahead path i n t).2 = none ↔ (FT.good path.length ahead t = true ∧ n + t.count ≤ 64)) ∧ ((FT.walk ahead path i n t).2 = none → (FT.walk ahead path i n t).1 = n + t.count)
  | .mk s l, ahead, path, i, n => by
    have ih := FT.walkL_good l [] (path ++ [i]) 0 (n + 1)
    have hl : (path ++ [i]).length = path.length + 1 := by simp
    rw [hl] at ih
    rw [FT.walk, FT.good, FT.count]
    have hc : FT.countL l + 1 = 1 + FT.countL l := by omega
    by_cases h1 : 64 < n + 1
    · rw [if_pos h1]
      refine ⟨⟨fun h => (by cases h), fun h => (by omega)⟩, fun h => (by cases h)⟩
    rw [if_neg h1]
    by_cases h2 : 16 < path.length + 1
    · rw [if_pos h2]
      refine ⟨⟨fun h => (by cases h), fun h => ?_⟩, fun h => (by cases h)⟩
      have h9 := h.1
      simp only [Bool.and_eq_true, decide_eq_true_eq] at h9
      omega
    rw [if_neg h2]
    have h2' : decide (path.length < 16) = true := decide_eq_true (by omega)
    rw [h2']
    cases h3 : nameOk s.name with
    | false => simp
    | true =>
      cases h4 : ahead.any (fun x => x.s.name == s.name) with
      | true => simp
      | false =>
        cases h5 : (FT.mk s l).odd with
        | true => simp
        | false =>
          by_cases h6 : s.kind = 7 ∧ l.length = 0
          · simp [h6]
          · simp only [h6, Bool.not_true, Bool.not_false, Bool.false_eq_true, if_false, decide_false, Bool.and_true, Bool.true_and]
            refine ⟨ih.1.trans ⟨fun h => ⟨h.1, ?_⟩, fun h => ⟨h.1, .inr (by omega)⟩⟩, fun h => (ih.2 h).trans (by omega)⟩
            rcases h.2 with rfl | h9
            · rw [FT.countL]; omega
            · omega
theorem FT.walkL_good : ∀ (l : List FT) (ahead : List FT) (path : List Nat) (i n : Nat), ((FT.walkL ahead path i n l).2 = none ↔ (FT.goodL path.length ahead l = true ∧ (l = [] ∨ n + FT.countL l ≤ 64))) ∧ ((FT.walkL ahead path i n l).2 = none → (FT.walkL ahead path i n l).1 = n + FT.countL l)
  | [], ahead, path, i, n => by
    rw [FT.walkL, FT.goodL, FT.countL]
    exact ⟨⟨fun _ => ⟨rfl, .inl rfl⟩, fun _ => rfl⟩, fun _ => rfl⟩
  | t :: r, ahead, path, i, n => by
    have h := FT.walk_good t ahead path i n
    rw [FT.walkL, FT.goodL, FT.countL]
    obtain ⟨m, e⟩ : ∃ x, x = FT.walk ahead path i n t := ⟨_, rfl⟩
    rcases hw : FT.walk ahead path i n t with ⟨m, _ | e⟩
    · rw [hw] at h
      have hm : m = n + t.count := h.2 rfl
      have hg := h.1.1 rfl
      have h2 := FT.walkL_good r (ahead ++ [t]) path (i + 1) m
      simp only
      refine ⟨h2.1.trans ⟨fun k => ⟨by rw [hg.1, k.1]; rfl, .inr ?_⟩, fun k => ⟨?_, ?_⟩⟩, fun k => (h2.2 k).trans (by omega)⟩
      · rcases k.2 with rfl | k2
        · rw [FT.countL]; omega
        · omega
      · have := k.1; simp only [Bool.and_eq_true] at this; exact this.2
      · rcases k.2 with k2 | k2
        · cases k2
        · exact .inr (by omega)
    · rw [hw] at h
      simp only
      refine ⟨⟨fun k => (by cases k), fun k => ?_⟩, fun k => (by cases k)⟩
      have k1 := k.1
      simp only [Bool.and_eq_true] at k1
      have := h.1.2 ⟨k1.1, by rcases k.2 with k2 | k2
                              · cases k2
                              · omega⟩
      cases this
end
/-- A schema that may be. -/
theorem schemaWhy_ok {limit : Int} {l : List FT} : (schemaWhy limit l).1 = 0 ↔ (1 ≤ limit ∧ limit ≤ 65536 ∧ l.length ≠ 0 ∧ FT.goodL 0 [] l = true ∧ FT.countL l ≤ 64) := by
  have h := (FT.walkL_good l [] [] 0 0).1
  have ht := FT.walkL_told [] [] 0 0 (by simp) (by omega) l
  unfold schemaWhy
  by_cases h1 : limit < 1 ∨ 65536 < limit
  · rw [if_pos h1]; exact ⟨fun h => by simp at h, fun h => by omega⟩
  rw [if_neg h1]
  by_cases h2 : l.length = 0
  · rw [if_pos h2]; exact ⟨fun h => by simp at h, fun h => by omega⟩
  rw [if_neg h2]
  rcases hw : FT.walkL [] [] 0 0 l with ⟨m, _ | e⟩
  · rw [hw] at h
    simp only
    have h3 := h.1 rfl
    refine ⟨fun _ => ⟨by omega, by omega, h2, h3.1, ?_⟩, fun _ => trivial⟩
    rcases h3.2 with rfl | h4
    · simp at h2
    · omega
  · rw [hw] at h ht
    simp only
    refine ⟨fun k => ?_, fun k => ?_⟩
    · have h9 : 111 ≤ e.1 := ht.1
      omega
    · have := h.2 ⟨k.2.2.2.1, .inr (by omega)⟩
      cases this
/-- What is wrong with a field. -/
def fieldWhy (t : FT) : Int × List Nat := schemaWhy 65536 [t]
/-- A field that may be. -/
theorem fieldWhy_ok {t : FT} : (fieldWhy t).1 = 0 ↔ (FT.good 0 [] t = true ∧ t.count ≤ 64) := by
  unfold fieldWhy
  rw [schemaWhy_ok, FT.goodL, FT.goodL, FT.countL, FT.countL]
  simp
theorem schemaWhy_one {limit : Int} {t : FT} (h1 : 1 ≤ limit) (h2 : limit ≤ 65536) : (schemaWhy limit [t]).1 = 0 ↔ (fieldWhy t).1 = 0 := by
  rw [fieldWhy_ok, schemaWhy_ok, FT.goodL, FT.goodL, FT.countL, FT.countL]
  simp [h1, h2]
mutual
theorem FT.good_mono : ∀ (t : FT) (d d' : Nat) (ahead : List FT), d' ≤ d → FT.good d ahead t = true → FT.good d' [] t = true
  | .mk s l, d, d', ahead, hd, h => by
    rw [FT.good] at h ⊢
    simp only [Bool.and_eq_true, decide_eq_true_eq] at h ⊢
    refine ⟨⟨⟨⟨⟨by omega, h.1.1.1.1.2⟩, rfl⟩, h.1.1.2⟩, h.1.2⟩, FT.goodL_mono l (d + 1) (d' + 1) [] (by omega) h.2⟩
theorem FT.goodL_mono : ∀ (l : List FT) (d d' : Nat) (ahead : List FT), d' ≤ d → FT.goodL d ahead l = true → FT.goodL d' ahead l = true
  | [], _, _, _, _, _ => by rw [FT.goodL]
  | .mk s m :: r, d, d', ahead, hd, h => by
    rw [FT.goodL, FT.good] at h ⊢
    simp only [Bool.and_eq_true, decide_eq_true_eq] at h ⊢
    exact ⟨⟨⟨⟨⟨⟨by omega, h.1.1.1.1.1.2⟩, h.1.1.1.1.2⟩, h.1.1.1.2⟩, h.1.1.2⟩, FT.goodL_mono m (d + 1) (d' + 1) [] (by omega) h.1.2⟩, FT.goodL_mono r d d' _ hd h.2⟩
end
theorem FT.goodL_mem : ∀ {l : List FT} {d : Nat} {ahead : List FT}, FT.goodL d ahead l = true → ∀ x ∈ l, FT.good d [] x = true
  | [], _, _, _, x, hx => by cases hx
  | t :: r, d, ahead, h, x, hx => by
    rw [FT.goodL, Bool.and_eq_true] at h
    rcases List.mem_cons.1 hx with rfl | hx
    · exact FT.good_mono _ d d ahead (Nat.le_refl _) h.1
    · exact FT.goodL_mem h.2 x hx
theorem FT.good_sub {t : FT} {d : Nat} {ahead : List FT} (h : FT.good d ahead t = true) {x : FT} (hx : x ∈ t.fields) : FT.good (d + 1) [] x = true := by
  rw [FT.good_eq] at h
  simp only [Bool.and_eq_true] at h
  exact FT.goodL_mem h.2 x hx
theorem FT.good_odd {t : FT} {d : Nat} {ahead : List FT} (h : FT.good d ahead t = true) : t.odd = false := by
  rw [FT.good_eq] at h
  simp only [Bool.and_eq_true, Bool.not_eq_true'] at h
  exact h.1.1.2
theorem FT.good_deep : ∀ (t : FT) (d : Nat) (ahead : List FT), FT.good d ahead t = true → d + t.deep ≤ 16 := by
  refine FT.all fun t ih => ?_
  intro d ahead h
  have hd : d < 16 := by rw [FT.good_eq] at h; simp only [Bool.and_eq_true, decide_eq_true_eq] at h; exact h.1.1.1.1.1
  rw [FT.deep_eq]
  have hall : ∀ x ∈ t.fields, d + 1 + x.deep ≤ 16 := fun x hx => ih x hx (d + 1) [] (FT.good_sub h hx)
  have : ∀ l : List FT, (∀ x ∈ l, d + 1 + x.deep ≤ 16) → d + 1 + FT.deepL l ≤ 16 := by
    intro l
    induction l with
    | nil => intro _; rw [FT.deepL]; omega
    | cons t r ihr =>
      intro h
      rw [FT.deepL]
      have h1 := h t List.mem_cons_self
      have h2 := ihr fun x hx => h x (List.mem_cons_of_mem _ hx)
      omega
  have := this t.fields hall
  omega
theorem FT.count_mem : ∀ {l : List FT} {x : FT}, x ∈ l → x.count ≤ FT.countL l
  | t :: r, x, h => by
    rw [FT.countL]
    rcases List.mem_cons.1 h with rfl | h
    · omega
    · have := FT.count_mem h; omega
theorem FT.count_len : ∀ (l : List FT), l.length ≤ FT.countL l
  | [] => by simp
  | t :: r => by
    have := FT.count_len r
    have h1 := FT.count_eq t
    rw [FT.countL, List.length_cons]
    omega
/-- A field within a field that may be. -/
theorem fieldWhy_sub {t : FT} (h : (fieldWhy t).1 = 0) {x : FT} (hx : x ∈ t.fields) : (fieldWhy x).1 = 0 := by
  rw [fieldWhy_ok] at h ⊢
  refine ⟨FT.good_mono _ _ _ [] (Nat.zero_le _) (FT.good_sub h.1 hx), ?_⟩
  have h1 := FT.count_mem hx
  have h2 := FT.count_eq t
  omega
theorem fieldWhy_deep {t : FT} (h : (fieldWhy t).1 = 0) : t.deep ≤ 16 := by
  have := FT.good_deep t 0 [] (fieldWhy_ok.1 h).1
  omega
theorem fieldWhy_odd {t : FT} (h : (fieldWhy t).1 = 0) : t.odd = false := FT.good_odd (fieldWhy_ok.1 h).1
theorem fieldWhy_len {t : FT} (h : (fieldWhy t).1 = 0) : t.fields.length ≤ 64 := by
  have h1 := FT.count_len t.fields
  have h2 := FT.count_eq t
  have h3 := (fieldWhy_ok.1 h).2
  omega
/-- What a field that may be says. -/
theorem odd_kind {t : FT} (h : t.odd = false) : 1 ≤ t.s.kind ∧ t.s.kind ≤ 7 ∧ t.s.nulls ≤ 2 := by
  unfold FT.odd at h
  split at h
  · cases h
  · rename_i h1
    simp at h1
    omega
theorem odd_two {t : FT} (h : t.odd = false) (hk : t.s.kind = 2) : if t.s.bnd = true then numWhy2 t.s.lb t.s.lm t.s.hb t.s.hm = 0 ∧ numCmp t.s.lb t.s.lm t.s.hb t.s.hm ≤ 0 else t.s.lb = false ∧ t.s.lm.size = 0 ∧ t.s.hb = false ∧ t.s.hm.size = 0 := by
  have hk7 := odd_kind h
  unfold FT.odd at h
  rw [if_neg (by simp; omega)] at h
  split at h
  · cases h
  · cases hb : t.s.bnd
    · rw [hb] at h
      simp at h
      simp
      exact ⟨h.1.1.1, h.1.1.2, h.1.2, h.2⟩
    · rw [hb] at h
      simp at h
      simp
      exact ⟨h.1, by omega⟩
theorem odd_most {t : FT} (h : t.odd = false) : 0 ≤ t.s.most := by
  have hk7 := odd_kind h
  unfold FT.odd at h
  rw [if_neg (by simp; omega)] at h
  split at h
  · cases h
  · rename_i h9
    simp only [Bool.or_eq_true, Bool.and_eq_true, bne_iff_ne, ne_eq, not_or, not_and] at h9
    by_cases k2 : t.s.kind = 2
    · have := h9.1.1.2 ⟨by omega, by omega⟩
      omega
    · rw [if_neg (by simpa using k2)] at h
      by_cases k6 : t.s.kind = 6
      · have := h9.1.1.2 ⟨by omega, by omega⟩
        omega
      · rw [if_neg (by simpa using k6)] at h
        simp at h
        omega
theorem odd_leaf {t : FT} (h : t.odd = false) (hk : t.s.kind ≠ 7) : t.fields = [] := by
  have hk7 := odd_kind h
  unfold FT.odd at h
  rw [if_neg (by simp; omega)] at h
  split at h
  · cases h
  · rename_i h9
    simp only [Bool.or_eq_true, Bool.and_eq_true, bne_iff_ne, ne_eq, not_or, not_and] at h9
    have := h9.2 hk
    simpa using this
end Go.Proofs.YtcjllhdbepchnaaGreatDoor

/-! A schema's text, in plain words. -/
namespace Go.Proofs.YtcjllhdbepchnaaGreatDoor
set_option linter.unusedVariables false
def wField : List UInt8 := [102, 105, 101, 108, 100, 32]
def wDown : List UInt8 := [32, 100, 111, 119, 110]
def wFrom : List UInt8 := [32, 102, 114, 111, 109, 32]
def wTo : List UInt8 := [32, 116, 111, 32]
def wMost : List UInt8 := [32, 109, 111, 115, 116, 32]
def wStr : List UInt8 := [32, 115, 116, 114, 101, 110, 103, 116, 104, 32]
def wShift : List UInt8 := [32, 115, 104, 105, 102, 116, 101, 100]
def wBack : List UInt8 := [32, 98, 97, 99, 107]
def wEnd : List UInt8 := [101, 110, 100, 10]
def wLimit : List UInt8 := [108, 105, 109, 105, 116, 32]
/-- A kind's word. -/
def kindW : Nat → List UInt8
  | 1 => [98, 111, 111, 108]
  | 2 => [105, 110, 116]
  | 3 => [98, 121, 116, 101, 115]
  | 4 => [105, 100]
  | 5 => [110, 97, 109, 101]
  | 6 => [116, 101, 120, 116]
  | 7 => [116, 117, 112, 108, 101]
  | _ => []
def nullW : Nat → List UInt8
  | 1 => [32, 110, 117, 108, 108, 45, 102, 105, 114, 115, 116]
  | 2 => [32, 110, 117, 108, 108, 45, 108, 97, 115, 116]
  | _ => []
/-- What a kind says besides. -/
def tailW (s : FS) : List UInt8 :=
  if s.kind = 2 then (if s.bnd then wFrom ++ numText s.lb s.lm ++ wTo ++ numText s.hb s.hm else [])
  else if s.kind = 3 ∨ s.kind = 5 then wMost ++ Lib.decDigits s.most.toNat
  else if s.kind = 6 then wStr ++ Lib.decDigits s.st.toNat ++ (if s.sh then wShift else []) ++ (if s.ba then wBack else [])
  else []
/-- A line's head: up to the word. -/
def headW (s : FS) : List UInt8 := wField ++ s.name.data.toList ++ [32] ++ kindW s.kind
def lineW (s : FS) : List UInt8 := headW s ++ (if s.down then wDown else []) ++ nullW s.nulls ++ tailW s
mutual
/-- A field's lines. -/
def FT.lines (ind : List UInt8) : FT → List UInt8
  | .mk s l => ind ++ lineW s ++ [10] ++ (if s.kind = 7 then FT.linesL (ind ++ [32, 32]) l ++ ind ++ wEnd else [])
def FT.linesL (ind : List UInt8) : List FT → List UInt8
  | [] => []
  | t :: r => FT.lines ind t ++ FT.linesL ind r
end
theorem FT.lines_eq (ind : List UInt8) (t : FT) : t.lines ind = ind ++ lineW t.s ++ [10] ++ (if t.s.kind = 7 then FT.linesL (ind ++ [32, 32]) t.fields ++ ind ++ wEnd else []) := by
  obtain ⟨s, l⟩ := t
  rw [FT.lines]; rfl
theorem linesL_append (ind : List UInt8) : ∀ (a b : List FT), FT.linesL ind (a ++ b) = FT.linesL ind a ++ FT.linesL ind b
  | [], b => by rw [FT.linesL]; rfl
  | t :: a, b => by rw [List.cons_append, FT.linesL, FT.linesL, linesL_append ind a b, List.append_assoc]
theorem linesL_take (ind : List UInt8) {l : List FT} {k : Nat} (h : k < l.length) : FT.linesL ind (l.take (k + 1)) = FT.linesL ind (l.take k) ++ l[k].lines ind := by
  rw [List.take_add_one, List.getElem?_eq_getElem h, linesL_append]
  simp [FT.linesL]
def schText (limit : Int) (l : List FT) : List UInt8 := wLimit ++ Lib.decDigits limit.toNat ++ [10] ++ FT.linesL [] l
/-- Digits are few. -/
theorem dec_few {u : Nat} (h : u ≤ 9223372036854775807) : (Lib.decDigits u).length ≤ 20 := by
  rw [Lib.decDigits_length]
  exact nDigits_le 19 u (by have : (9223372036854775807 : Nat) < 10 ^ (19 + 1) := by decide
                            omega)
theorem numText_few {b : Bool} {m : ByteArray} (h : numWhy b m = 0) : (numText b m).length ≤ 800 := by
  obtain ⟨h1, _⟩ := num_cases h
  have h2 := digits_bound h1
  unfold numText
  split
  · simp
  · rw [List.length_append]
    cases b <;> simp <;> omega
theorem kindW_few (k : Nat) : (kindW k).length ≤ 5 := by unfold kindW; split <;> simp
theorem nullW_few (k : Nat) : (nullW k).length ≤ 11 := by unfold nullW; split <;> simp
/-- What is known of a field that is printed. -/
def FT.fine (t : FT) : Prop := t.s.ok ∧ t.odd = false ∧ t.s.name.size ≤ 16
theorem nameOk_size {s : ByteArray} (h : nameOk s = true) : s.size ≤ 16 := by
  unfold nameOk at h
  split at h
  · cases h
  · simp only [Bool.and_eq_true, decide_eq_true_eq] at h; exact h.1.1
theorem FT.fine_of {t : FT} {d : Nat} {ahead : List FT} (h : FT.good d ahead t = true) (ho : t.s.ok) : t.fine := by
  refine ⟨ho, FT.good_odd h, ?_⟩
  rw [FT.good_eq] at h
  simp only [Bool.and_eq_true] at h
  exact nameOk_size h.1.1.1.1.2
theorem fine_bnd {t : FT} (h : t.fine) (hk : t.s.kind = 2) (hb : t.s.bnd = true) : numWhy t.s.lb t.s.lm = 0 ∧ numWhy t.s.hb t.s.hm = 0 := by
  have h2 := odd_two h.2.1 hk
  rw [if_pos hb] at h2
  have h3 := h2.1
  unfold numWhy2 at h3
  split at h3
  · exact absurd h3 ‹_›
  · rename_i h4
    exact ⟨Classical.byContradiction h4, h3⟩
theorem ba_len (m : ByteArray) : m.size = m.data.toList.length := by cases m; simp [ByteArray.size]
theorem headW_few {t : FT} (h : t.fine) : (headW t.s).length ≤ 28 := by
  have h1 := kindW_few t.s.kind
  have h2 : t.s.name.data.toList.length ≤ 16 := by have := h.2.2; rw [← ba_len]; exact this
  unfold headW wField
  simp only [List.length_append, List.length_cons, List.length_nil]
  omega
theorem tailW_few {t : FT} (h : t.fine) : (tailW t.s).length ≤ 1700 := by
  obtain ⟨h1, h2, h3, h4, h5, h6, h7, h8, h9⟩ := h.1
  have d1 := dec_few (u := t.s.most.toNat) (by omega)
  have d2 := dec_few (u := t.s.st.toNat) (by omega)
  unfold tailW
  split
  · rename_i hk
    split
    · rename_i hb
      obtain ⟨n1, n2⟩ := fine_bnd h hk hb
      have e1 := numText_few n1
      have e2 := numText_few n2
      simp only [List.length_append, wFrom, wTo, List.length_cons, List.length_nil]
      omega
    · simp
  · split
    · simp only [List.length_append, wMost, List.length_cons, List.length_nil]; omega
    · split
      · simp only [List.length_append, wStr, wShift, wBack, List.length_cons, List.length_nil]
        cases t.s.sh <;> cases t.s.ba <;> simp <;> omega
      · simp
theorem lineW_few {t : FT} (h : t.fine) : (lineW t.s).length ≤ 1800 := by
  have h1 := headW_few h
  have h2 := tailW_few h
  have h3 := nullW_few t.s.nulls
  unfold lineW
  simp only [List.length_append]
  cases t.s.down <;> simp [wDown] <;> omega
mutual
/-- Fields that are printed, all of them. -/
def FT.allFine : FT → Prop
  | .mk s l => (FT.mk s l).fine ∧ FT.allFineL l
def FT.allFineL : List FT → Prop
  | [] => True
  | t :: r => FT.allFine t ∧ FT.allFineL r
end
theorem FT.allFine_eq (t : FT) : t.allFine ↔ t.fine ∧ FT.allFineL t.fields := by
  obtain ⟨s, l⟩ := t
  rw [FT.allFine]; rfl
theorem FT.allFineL_get : ∀ {l : List FT} {k : Nat} (h : k < l.length), FT.allFineL l → l[k].allFine
  | t :: r, 0, _, h => by rw [FT.allFineL] at h; exact h.1
  | t :: r, k + 1, hk, h => by
    rw [FT.allFineL] at h
    have hk' : k < r.length := by simpa using hk
    exact (show r[k].allFine from FT.allFineL_get hk' h.2)
mutual
theorem FT.lines_few : ∀ (t : FT) (ind : List UInt8), t.allFine → (t.lines ind).length ≤ (2000 + 2 * ind.length + 4 * t.count) * t.count
  | .mk s l, ind, h => by
    rw [FT.allFine] at h
    have h1 := lineW_few h.1
    have h2 := FT.linesL_few l (ind ++ [32, 32]) h.2
    rw [FT.lines, FT.count]
    have e1 : (ind ++ [32, 32] : List UInt8).length = ind.length + 2 := by simp
    rw [e1] at h2
    have h1' : (lineW s).length ≤ 1800 := h1
    simp only [List.length_append, List.length_cons, List.length_nil]
    have e2 : (2000 + 2 * ind.length + 4 * (FT.countL l + 1)) * (FT.countL l + 1) = (2000 + 2 * (ind.length + 2) + 4 * FT.countL l) * FT.countL l + (2000 + 2 * ind.length + 4 * (FT.countL l + 1)) := by
      have : 2000 + 2 * (ind.length + 2) + 4 * FT.countL l = 2000 + 2 * ind.length + 4 * (FT.countL l + 1) := by omega
      rw [this, Nat.mul_succ]
    rw [e2]
    split
    · simp only [List.length_append, wEnd, List.length_cons, List.length_nil]; omega
    · simp only [List.length_nil]; omega
theorem FT.linesL_few : ∀ (l : List FT) (ind : List UInt8), FT.allFineL l → (FT.linesL ind l).length ≤ (2000 + 2 * ind.length + 4 * FT.countL l) * FT.countL l
  | [], ind, _ => by rw [FT.linesL]; simp
  | t :: r, ind, h => by
    rw [FT.allFineL] at h
    have h1 := FT.lines_few t ind h.1
    have h2 := FT.linesL_few r ind h.2
    rw [FT.linesL, FT.countL, List.length_append]
    have e1 : (2000 + 2 * ind.length + 4 * (t.count + FT.countL r)) * (t.count + FT.countL r) = (2000 + 2 * ind.length + 4 * (t.count + FT.countL r)) * t.count + (2000 + 2 * ind.length + 4 * (t.count + FT.countL r)) * FT.countL r := Nat.mul_add _ _ _
    have e2 : (2000 + 2 * ind.length + 4 * t.count) * t.count ≤ (2000 + 2 * ind.length + 4 * (t.count + FT.countL r)) * t.count := Nat.mul_le_mul_right _ (by omega)
    have e3 : (2000 + 2 * ind.length + 4 * FT.countL r) * FT.countL r ≤ (2000 + 2 * ind.length + 4 * (t.count + FT.countL r)) * FT.countL r := Nat.mul_le_mul_right _ (by omega)
    omega
end
end Go.Proofs.YtcjllhdbepchnaaGreatDoor

/-! strconv.Itoa's table, out of what the row lists; strconv.Itoa. -/
namespace Go.Proofs.YtcjllhdbepchnaaGreatDoor
open Go.RowKit Go.WideShapes
set_option linter.unusedVariables false
theorem laidVars_mem {P : Program} {w : World} : ∀ {l : List (String × DataW Unit)} {ps : List MemPlace}, DataW.LaidVars P w l ps → ∀ x ∈ l, ∃ g t cs fuel p, P.globalNamed x.1 = some g ∧ (P.globals[g]?).map (·.type) = some t ∧ w.var? P x.1 = some cs ∧ DataW.trod (fun _ => ()) P w 0 (fun _ => true) false fuel t cs.toList = some (x.2, p)
  | [], _, _, x, hx => by cases hx
  | (n, d) :: r, ps, h, x, hx => by
    obtain ⟨g, t, cs, fuel, p, q, h1, h2, h3, h4, h5, rfl⟩ := h
    rcases List.mem_cons.1 hx with rfl | hx
    · exact ⟨g, t, cs, fuel, p, h1, h2, h3, h4⟩
    · exact laidVars_mem h5 x hx
theorem itoa_tab {w : World} (h : laidMetH Tryz.prog Rows.schemaChecksRow.laid w) : Lib.TabIs Tryz.prog w "internal/strconv.uint64pow10" .u64 Lib.pow10Tab := by
  obtain ⟨ps, h1, _⟩ := Ev.laid_none h
  obtain ⟨g, t, cs, fuel, p, g1, g2, g3, g4⟩ := laidVars_mem h1 ("internal/strconv.uint64pow10", Rows.laid_internal_strconv_uint64pow10) (List.mem_filter.2 ⟨List.mem_of_getElem? (i := 2) rfl, rfl⟩)
  have hg : Tryz.prog.globalNamed "internal/strconv.uint64pow10" = some 2 := by kernel_rfl
  have hty : (Tryz.prog.globals[2]?).map (·.type) = some 265 := by kernel_rfl
  obtain rfl := Option.some.inj (hg.symm.trans g1)
  obtain rfl := Option.some.inj (hty.symm.trans g2)
  unfold Lib.TabIs
  rw [g3, ← Lib.cells_of_tab (zs := Lib.pow10Tab) (k := .u64) Tryz.underlying265 Tryz.underlying247 (by kernel_rfl) (by kernel_rfl) g4]
theorem tab_below {w w' : World} (h : Lib.TabIs Tryz.prog w "internal/strconv.uint64pow10" .u64 Lib.pow10Tab) (hb : Below w.heap.size w w') : Lib.TabIs Tryz.prog w' "internal/strconv.uint64pow10" .u64 Lib.pow10Tab := by
  unfold Lib.TabIs at *
  unfold World.var? at *
  have hg : Tryz.prog.globalNamed "internal/strconv.uint64pow10" = some 2 := by kernel_rfl
  rw [hg] at h ⊢
  simp only [Option.bind_some] at h ⊢
  have hlt : 2 < w.heap.size := by
    rcases Nat.lt_or_ge 2 w.heap.size with h' | h'
    · exact h'
    · rw [Array.getElem?_eq_none h'] at h; cases h
  rw [hb.block 2 hlt]
  exact h
theorem itoa_any (n : Nat) (hn : n ≤ 9223372036854775807) {w0 w : World} (h : laidMetH Tryz.prog Rows.schemaChecksRow.laid w0) (hb : Below w0.heap.size w0 w) : Calls Tryz.prog 97 #[.int .i64 n] w (Ret (.string (txt (Lib.decDigits n))) w) := by
  refine (Any.strconv_Itoa lays171 n (by omega) (by omega) w (tab_below (itoa_tab h) hb)).mono ?_
  rintro e w' ⟨rfl, k, os, rfl⟩
  refine ⟨?_, ?_⟩
  · rw [Lib.itoa_nonneg]; rfl
  · exact Lib.below_grow _ _ (Nat.le_refl _) _ _
end Go.Proofs.YtcjllhdbepchnaaGreatDoor

/-! ref11.kinds: the kinds' words. -/
namespace Go.Proofs.YtcjllhdbepchnaaGreatDoor
open Go.RowKit Go.WideShapes
set_option linter.unusedVariables false
def refKinds : Array Value := #[.string ⟨#[]⟩, .string ⟨#[98, 111, 111, 108]⟩, .string ⟨#[105, 110, 116]⟩, .string ⟨#[98, 121, 116, 101, 115]⟩, .string ⟨#[105, 100]⟩, .string ⟨#[110, 97, 109, 101]⟩, .string ⟨#[116, 101, 120, 116]⟩, .string ⟨#[116, 117, 112, 108, 101]⟩]
set_option maxRecDepth 100000 in
set_option maxHeartbeats 1000000 in
theorem refKinds_any (w : World) : Calls Tryz.prog 113 #[] w (fun e w' => ∃ t, e = .returned (.slice (some ⟨w.heap.size, 0, none⟩) 8 8) ∧ w' = w.alloc (.cells refKinds t)) := by
  go_enter Tryz.func113, Tryz.ntmps113
  go_wp2_with fail
  go_ret
  exact ⟨_, rfl, rfl⟩
end Go.Proofs.YtcjllhdbepchnaaGreatDoor
