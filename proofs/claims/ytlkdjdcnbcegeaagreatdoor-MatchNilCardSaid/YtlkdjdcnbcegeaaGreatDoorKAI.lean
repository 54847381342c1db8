/-
  A machine of our own for runs that hang on no input: tries keyed by numbers; values that stand for values by a renaming of blocks.
-/
import Derived.Calls
import Derived.Below
import Derived.RangeFuncRecord
import Derived.Deep.Draws
import Derived.Laws.Cells
import Derived.ChangeKeysEq
import Derived.Laws.Entries
import Derived.Laws.Tables
import Derived.Laws.Append
import Derived.Laws.CopyRow
import Derived.Laws.OwnMore
import Derived.Laws.BytesString
/-! A machine of our own for runs that hang on no input: tries keyed by numbers; values that stand for values by a renaming of blocks. -/
namespace Go.Proofs.YtlkdjdcnbcegeaaGreatDoor.Ev

/-! ### tries keyed by numbers -/
inductive T (α : Type) where
  | leaf
  | node (l : T α) (v : Option α) (r : T α)

def T.get {α : Type} : T α → Nat → Option α
  | .leaf, _ => none
  | .node l v r, k => if k = 0 then v else if k % 2 = 1 then l.get (k / 2) else r.get (k / 2 - 1)

/-- The same, reckoned out first. -/
def T.first {α : Type} (c : T α) (f : T α → T α) : T α :=
  match c with
  | .leaf => f .leaf
  | .node a b d => f (.node a b d)
theorem T.first_eq {α : Type} (c : T α) (f : T α → T α) : T.first c f = f c := by cases c <;> rfl
def T.put {α : Type} : Nat → T α → Nat → Option α → T α
  | 0, t, _, _ => t
  | n + 1, .leaf, k, v => if k = 0 then .node .leaf v .leaf else if k % 2 = 1 then T.first (T.put n .leaf (k / 2) v) fun c => .node c none .leaf else T.first (T.put n .leaf (k / 2 - 1) v) fun c => .node .leaf none c
  | n + 1, .node l u r, k, v => if k = 0 then .node l v r else if k % 2 = 1 then T.first (T.put n l (k / 2) v) fun c => .node c u r else T.first (T.put n r (k / 2 - 1) v) fun c => .node l u c

theorem T.get_put {α : Type} : ∀ (n : Nat) (t : T α) (k j : Nat) (v : Option α), k + 1 < 2 ^ n → (T.put n t k v).get j = if j = k then v else t.get j := by
  intro n
  induction n with
  | zero => intro t k j v h; omega
  | succ n ih =>
    intro t k j v h
    have hp : 2 ^ (n + 1) = 2 * 2 ^ n := by rw [Nat.pow_succ]; omega
    rw [hp] at h
    have aux1 : k % 2 = 1 → k / 2 + 1 < 2 ^ n := fun _ => by omega
    have aux2 : ¬ k = 0 → ¬ k % 2 = 1 → (k / 2 - 1) + 1 < 2 ^ n := fun _ _ => by omega
    cases t with
    | leaf =>
      simp only [T.put, T.first_eq]
      by_cases hk : k = 0
      · subst hk
        simp only [if_true, T.get]
        by_cases hj : j = 0
        · simp [hj]
        · simp [hj]
      · rw [if_neg hk]
        by_cases h1 : k % 2 = 1
        · rw [if_pos h1]
          simp only [T.get]
          by_cases hj : j = 0
          · subst hj; rw [if_pos rfl, if_neg (by omega)]
          · rw [if_neg hj]
            by_cases hj1 : j % 2 = 1
            · rw [if_pos hj1, ih _ _ _ _ (aux1 h1)]
              simp only [T.get]
              by_cases he : j = k
              · rw [if_pos (by omega), if_pos he]
              · rw [if_neg (by omega), if_neg he]
            · rw [if_neg hj1, if_neg (by omega)]
        · rw [if_neg h1]
          simp only [T.get]
          by_cases hj : j = 0
          · subst hj; rw [if_pos rfl, if_neg (by omega)]
          · rw [if_neg hj]
            by_cases hj1 : j % 2 = 1
            · rw [if_pos hj1, if_neg (by omega)]
            · rw [if_neg hj1, ih _ _ _ _ (aux2 hk h1)]
              simp only [T.get]
              by_cases he : j = k
              · rw [if_pos (by omega), if_pos he]
              · rw [if_neg (by omega), if_neg he]
    | node l u r =>
      simp only [T.put, T.first_eq]
      by_cases hk : k = 0
      · subst hk
        simp only [if_true, T.get]
        by_cases hj : j = 0
        · simp [hj]
        · simp [hj]
      · rw [if_neg hk]
        by_cases h1 : k % 2 = 1
        · rw [if_pos h1]
          simp only [T.get]
          by_cases hj : j = 0
          · subst hj; rw [if_pos rfl, if_neg (by omega), if_pos rfl]
          · rw [if_neg hj, if_neg hj]
            by_cases hj1 : j % 2 = 1
            · rw [if_pos hj1, if_pos hj1, ih _ _ _ _ (aux1 h1)]
              by_cases he : j = k
              · rw [if_pos (by omega), if_pos he]
              · rw [if_neg (by omega), if_neg he]
            · rw [if_neg hj1, if_neg hj1, if_neg (by omega)]
        · rw [if_neg h1]
          simp only [T.get]
          by_cases hj : j = 0
          · subst hj; rw [if_pos rfl, if_neg (by omega), if_pos rfl]
          · rw [if_neg hj, if_neg hj]
            by_cases hj1 : j % 2 = 1
            · rw [if_pos hj1, if_pos hj1, if_neg (by omega)]
            · rw [if_neg hj1, if_neg hj1, ih _ _ _ _ (aux2 hk h1)]
              by_cases he : j = k
              · rw [if_pos (by omega), if_pos he]
              · rw [if_neg (by omega), if_neg he]

/-- A trie as it is used: keys below 2^30. -/
def T.set {α : Type} (t : T α) (k : Nat) (v : α) : T α := T.put 31 t k (some v)
theorem T.get_set {α : Type} (t : T α) {k : Nat} (j : Nat) (v : α) (h : k < 1073741824) : (t.set k v).get j = if j = k then some v else t.get j :=
  T.get_put 31 t k j (some v) (by omega)
def T.del {α : Type} (t : T α) (k : Nat) : T α := T.put 31 t k none
theorem T.get_del {α : Type} (t : T α) {k : Nat} (j : Nat) (h : k < 1073741824) : (t.del k).get j = if j = k then none else t.get j :=
  T.get_put 31 t k j none (by omega)
/-- The values of a list from a key on. -/
def T.fill {α : Type} (t : T α) (k : Nat) : List α → T α
  | [] => t
  | v :: r => (t.set k v).fill (k + 1) r
theorem T.get_fill {α : Type} (l : List α) : ∀ (t : T α) (k j : Nat), k + l.length ≤ 1073741824 → (t.fill k l).get j = if k ≤ j ∧ j < k + l.length then l[j - k]? else t.get j := by
  induction l with
  | nil => intro t k j _; simp [T.fill]; omega
  | cons v r ih =>
    intro t k j h
    simp only [List.length_cons] at h
    rw [T.fill, ih _ _ _ (by omega), T.get_set _ _ _ (by omega)]
    simp only [List.length_cons]
    by_cases h1 : k + 1 ≤ j ∧ j < k + 1 + r.length
    · rw [if_pos h1, if_pos (by omega)]
      obtain ⟨i, hi⟩ : ∃ i, j - k = i + 1 := ⟨j - k - 1, by omega⟩
      rw [hi, show j - (k + 1) = i by omega]; rfl
    · rw [if_neg h1]
      by_cases h2 : j = k
      · subst h2; rw [if_pos rfl, if_pos (by omega)]; simp
      · rw [if_neg h2, if_neg (by omega)]
/-- n values from a key on; none: one lacks. -/
def T.take {α : Type} (t : T α) (k : Nat) : Nat → Option (List α)
  | 0 => some []
  | n + 1 => match t.get k with
    | none => none
    | some v => match t.take (k + 1) n with
      | none => none
      | some r => some (v :: r)
theorem T.take_spec {α : Type} : ∀ (n : Nat) (t : T α) (k : Nat) (l : List α), t.take k n = some l → l.length = n ∧ ∀ j v, l[j]? = some v → t.get (k + j) = some v := by
  intro n
  induction n with
  | zero => intro t k l h; simp [T.take] at h; subst h; simp
  | succ n ih =>
    intro t k l h
    simp only [T.take] at h
    cases hg : t.get k with
    | none => rw [hg] at h; cases h
    | some v =>
      rw [hg] at h
      cases ht : t.take (k + 1) n with
      | none => rw [ht] at h; cases h
      | some r =>
        rw [ht] at h
        injection h with h
        subst h
        obtain ⟨h1, h2⟩ := ih t (k + 1) r ht
        refine ⟨by simp [h1], fun j u hu => ?_⟩
        cases j with
        | zero => simp at hu; subst hu; exact hg
        | succ j => simp at hu; rw [show k + (j + 1) = k + 1 + j by omega]; exact h2 j u hu

/-! ### renamings -/
/-- Which block a number of ours stands for; of a slice that grew: how many elements its block bears, and how many cells one has. -/
structure Env where
  blk : Nat → Option Nat
  cap : Nat → Option (Nat × Nat)
  /-- Blocks that are laid out already, and not yet there. -/
  ph : Nat → Bool
structure Env.le (E E' : Env) : Prop where
  to : ∀ i b, E.blk i = some b → E'.blk i = some b ∧ E'.cap i = E.cap i
  ph : E'.ph = E.ph
theorem Env.le_refl (E : Env) : E.le E := ⟨fun _ _ h => ⟨h, rfl⟩, rfl⟩
theorem Env.le_trans {A B C : Env} (h : A.le B) (k : B.le C) : A.le C := ⟨fun i b hb => ⟨(k.to i b (h.to i b hb).1).1, ((k.to i b (h.to i b hb).1).2).trans (h.to i b hb).2⟩, k.ph.trans h.ph⟩

/-- What a slice's capacity of ours stands for. -/
def capOf (E : Env) (i o c : Nat) (c' : Nat) : Prop :=
  match E.cap i with
  | none => c' = c
  | some (C, s) => c ≤ c' ∧ c' = C - o / s

/-- A value of one cell that nothing is known of; no truth. -/
def opqOK : Value → Bool
  | .agg _ | .tuple _ | .bool _ => false
  | _ => true
mutual
inductive VR (E : Env) : Value → Value → Prop where
  | bool (b : Bool) : VR E (.bool b) (.bool b)
  | int (k : IntKind) (n : Int) : VR E (.int k n) (.int k n)
  | string (s : ByteArray) : VR E (.string s) (.string s)
  | ptr0 : VR E (.pointer none) (.pointer none)
  | ptr {i b : Nat} (o : Nat) (h : E.blk i = some b) : VR E (.pointer (some ⟨i, o, none⟩)) (.pointer (some ⟨b, o, none⟩))
  | slice0 (n c : Nat) : VR E (.slice none n c) (.slice none n c)
  | slice {i b : Nat} (o n : Nat) {c c' : Nat} (h : E.blk i = some b) (hc : capOf E i o c c') : VR E (.slice (some ⟨i, o, none⟩) n c) (.slice (some ⟨b, o, none⟩) n c')
  | slicex (i : Nat) (a : Addr) (c : Nat) : VR E (.slice (some ⟨i, 0, some 0⟩) 0 0) (.slice (some a) 0 c)
  | map0 : VR E (.map none) (.map none)
  | map {i b : Nat} (h : E.blk i = some b) : VR E (.map (some i)) (.map (some b))
  | func (f : FuncId) {y y' x x' : List Value} (g : VRL E y y') (h : VRL E x x') : VR E (.func (.func f) y.toArray x.toArray) (.func (.func f) y'.toArray x'.toArray)
  | yield {i b : Nat} (h : E.blk i = some b) : VR E (.func (.yield i) #[] #[]) (.func (.yield b) #[] #[])
  | low (c : Nat) {n : Nat} (h : c ≤ n) : VR E (.float .f64 c) (.int .i64 (n : Nat))
  | nilFunc : VR E .nilFunc .nilFunc
  | iface (t : TypeId) {v v' : Value} (h : VR E v v') : VR E (.iface t v) (.iface t v')
  | nilIface : VR E .nilIface .nilIface
  | opq (k : Nat) {v' : Value} (h : opqOK v' = true) : VR E (.chan (some k)) v'
  | agg {x x' : List Value} (h : VRL E x x') : VR E (.agg x.toArray) (.agg x'.toArray)
  | tuple {x x' : List Value} (h : VRL E x x') : VR E (.tuple x.toArray) (.tuple x'.toArray)
inductive VRL (E : Env) : List Value → List Value → Prop where
  | nil : VRL E [] []
  | cons {v v' : Value} {x x' : List Value} (h : VR E v v') (hs : VRL E x x') : VRL E (v :: x) (v' :: x')
end

/-- What is named stays named so. -/
def Env.To (E E' : Env) : Prop := ∀ i b, E.blk i = some b → E'.blk i = some b ∧ E'.cap i = E.cap i
theorem Env.To.trans {A B C : Env} (h : A.To B) (k : B.To C) : A.To C := fun i b hb => ⟨(k i b (h i b hb).1).1, ((k i b (h i b hb).1).2).trans (h i b hb).2⟩
theorem Env.le.T {E E' : Env} (h : E.le E') : E.To E' := h.to
theorem capOf_to {E E' : Env} (h : E.To E') {i b o c c' : Nat} (hb : E.blk i = some b) (hc : capOf E i o c c') : capOf E' i o c c' := by
  unfold capOf at *
  rw [(h i b hb).2]; exact hc
mutual
theorem VR.monoT {E E' : Env} (h : E.To E') {v v' : Value} : VR E v v' → VR E' v v'
  | .bool b => .bool b
  | .int k n => .int k n
  | .string s => .string s
  | .ptr0 => .ptr0
  | .ptr o hb => .ptr o (h _ _ hb).1
  | .slice0 n c => .slice0 n c
  | .slice o n hb hc => .slice o n (h _ _ hb).1 (capOf_to h hb hc)
  | .slicex i a c => .slicex i a c
  | .map0 => .map0
  | .map hb => .map (h _ _ hb).1
  | .func f gl hl => .func f (VRL.monoT h gl) (VRL.monoT h hl)
  | .yield hb => .yield (h _ _ hb).1
  | .low c hc => .low c hc
  | .nilFunc => .nilFunc
  | .iface t hv => .iface t (VR.monoT h hv)
  | .nilIface => .nilIface
  | .opq k h => .opq k h
  | .agg hl => .agg (VRL.monoT h hl)
  | .tuple hl => .tuple (VRL.monoT h hl)
theorem VRL.monoT {E E' : Env} (h : E.To E') {x x' : List Value} : VRL E x x' → VRL E' x x'
  | .nil => .nil
  | .cons hv hl => .cons (VR.monoT h hv) (VRL.monoT h hl)
end
theorem capOf_le {E E' : Env} (h : E.le E') {i b o c c' : Nat} (hb : E.blk i = some b) (hc : capOf E i o c c') : capOf E' i o c c' := capOf_to h.T hb hc
theorem VR.mono {E E' : Env} (h : E.le E') {v v' : Value} (k : VR E v v') : VR E' v v' := VR.monoT h.T k
theorem VRL.mono {E E' : Env} (h : E.le E') {x x' : List Value} (k : VRL E x x') : VRL E' x x' := VRL.monoT h.T k
theorem VRL.len {E : Env} {x x' : List Value} (h : VRL E x x') : x'.length = x.length := by
  induction x generalizing x' with
  | nil => cases h; rfl
  | cons v x ih => cases h with | cons hv hl => simp [ih hl]
theorem VRL.get {E : Env} {x x' : List Value} (h : VRL E x x') {i : Nat} {v : Value} (hv : x[i]? = some v) : ∃ v', x'[i]? = some v' ∧ VR E v v' := by
  induction x generalizing x' i with
  | nil => simp at hv
  | cons u x ih =>
    cases h with
    | cons hu hl =>
      cases i with
      | zero => simp at hv; subst hv; exact ⟨_, rfl, hu⟩
      | succ i => simp at hv; exact ih hl hv
theorem VRL.append {E : Env} {x x' y y' : List Value} (h : VRL E x x') (k : VRL E y y') : VRL E (x ++ y) (x' ++ y') := by
  induction x generalizing x' with
  | nil => cases h; exact k
  | cons u x ih => cases h with | cons hu hl => exact .cons hu (ih hl)
theorem VRL.of_get {E : Env} : ∀ {x x' : List Value}, x'.length = x.length → (∀ (i : Nat) (v : Value), x[i]? = some v → ∃ v' : Value, x'[i]? = some v' ∧ VR E v v') → VRL E x x' := by
  intro x
  induction x with
  | nil => intro x' hl _; cases x' with | nil => exact .nil | cons _ _ => simp at hl
  | cons u x ih =>
    intro x' hl h
    cases x' with
    | nil => simp at hl
    | cons u' x' =>
      obtain ⟨v', h1, h2⟩ := h 0 u rfl
      simp at h1; subst h1
      exact .cons h2 (ih (by simpa using hl) fun i v hv => by have := h (i + 1) v (by simpa using hv); simpa using this)

/-! ### values without any address -/
mutual
def clean : Value → Bool
  | .bool _ | .int _ _ | .string _ | .pointer none | .slice none _ _ | .map none | .nilFunc | .nilIface => true
  | .func (.func _) ⟨y⟩ ⟨x⟩ => y.isEmpty && cleanL x
  | .iface _ v => clean v
  | .agg ⟨x⟩ | .tuple ⟨x⟩ => cleanL x
  | _ => false
def cleanL : List Value → Bool
  | [] => true
  | v :: x => clean v && cleanL x
end
mutual
theorem VR.of_clean (E : Env) : ∀ (v : Value), clean v = true → VR E v v
  | .bool b, _ => .bool b
  | .int k n, _ => .int k n
  | .string s, _ => .string s
  | .pointer none, _ => .ptr0
  | .slice none n c, _ => .slice0 n c
  | .map none, _ => .map0
  | .nilFunc, _ => .nilFunc
  | .nilIface, _ => .nilIface
  | .func (.func f) ⟨[]⟩ ⟨x⟩, h => .func f .nil (VRL.of_clean E x (by simpa [clean] using h))
  | .func (.func f) ⟨u :: y⟩ ⟨x⟩, h => by simp [clean] at h
  | .float _ _, h => by simp [clean] at h
  | .complex _ _ _, h => by simp [clean] at h
  | .pointer (some _), h => by simp [clean] at h
  | .slice (some _) _ _, h => by simp [clean] at h
  | .map (some _), h => by simp [clean] at h
  | .chan _, h => by simp [clean] at h
  | .func (.method _) _ _, h => by simp [clean] at h
  | .func (.methodOf _ _) _ _, h => by simp [clean] at h
  | .func (.via _ _ _ _) _ _, h => by simp [clean] at h
  | .func (.yield _) _ _, h => by simp [clean] at h
  | .iface t v, h => .iface t (VR.of_clean E v (by simpa [clean] using h))
  | .agg ⟨x⟩, h => .agg (VRL.of_clean E x (by simpa [clean] using h))
  | .tuple ⟨x⟩, h => .tuple (VRL.of_clean E x (by simpa [clean] using h))
theorem VRL.of_clean (E : Env) : ∀ (x : List Value), cleanL x = true → VRL E x x
  | [], _ => .nil
  | v :: x, h => by
    simp only [cleanL, Bool.and_eq_true] at h
    exact .cons (VR.of_clean E v h.1) (VRL.of_clean E x h.2)
end
mutual
theorem VR.eq_of_clean {E : Env} : ∀ {v v' : Value}, VR E v v' → clean v = true → v' = v
  | _, _, .bool _, _ => rfl
  | _, _, .int _ _, _ => rfl
  | _, _, .string _, _ => rfl
  | _, _, .ptr0, _ => rfl
  | _, _, .slice0 _ _, _ => rfl
  | _, _, .slicex _ _ _, h => by simp [clean] at h
  | _, _, .map0, _ => rfl
  | _, _, .func f .nil hl, h => by rw [VRL.eq_of_clean hl (by simpa [clean] using h)]
  | _, _, .func f (.cons _ _) hl, h => by simp [clean] at h
  | _, _, .yield _, h => by simp [clean] at h
  | _, _, .low _ _, h => by simp [clean] at h
  | _, _, .nilFunc, _ => rfl
  | _, _, .iface t hv, h => by rw [VR.eq_of_clean hv (by simpa [clean] using h)]
  | _, _, .nilIface, _ => rfl
  | _, _, .opq _ _, h => by simp [clean] at h
  | _, _, .agg hl, h => by rw [VRL.eq_of_clean hl (by simpa [clean] using h)]
  | _, _, .tuple hl, h => by rw [VRL.eq_of_clean hl (by simpa [clean] using h)]
theorem VRL.eq_of_clean {E : Env} : ∀ {x x' : List Value}, VRL E x x' → cleanL x = true → x' = x
  | _, _, .nil, _ => rfl
  | _, _, .cons hv hl, h => by
    simp only [cleanL, Bool.and_eq_true] at h
    rw [VR.eq_of_clean hv h.1, VRL.eq_of_clean hl h.2]
end
end Go.Proofs.YtlkdjdcnbcegeaaGreatDoor.Ev

/-! The memory of our machine, and how it stands for a world's. -/
namespace Go.Proofs.YtlkdjdcnbcegeaaGreatDoor.Ev
open Go.RowKit

/-- A block of ours: cells (how many, of which type; did it grow?); a map; a walk through a string. -/
inductive AObj where
  | cells (cs : T Value) (n : Nat) (elem : TypeId) (g : Bool)
  | map (es : List MapEntry) (clock : Nat)
  | iter (s : ByteArray) (pos : Nat)
  | miter (m : Option Nat) (since last : Nat) (seen : List Nat)
  | loop (tm : T Value) (nt : Nat) (ps : List Nat) (assign body : Code) (dfr : Nat) (st : LoopState) (pend : Option Code)
  | dfr

/-- Entries that stand for entries. -/
inductive ER (E : Env) : List MapEntry → List MapEntry → Prop where
  | nil : ER E [] []
  | cons {k v k' v' : Value} (born : Nat) {x x' : List MapEntry} (hk : VR E k k') (hv : VR E v v') (h : ER E x x') : ER E (⟨k, v, born⟩ :: x) (⟨k', v', born⟩ :: x')
theorem ER.monoT {E E' : Env} (h : E.To E') {x x' : List MapEntry} (k : ER E x x') : ER E' x x' := by
  induction k with
  | nil => exact .nil
  | cons born hk hv _ ih => exact .cons born (hk.monoT h) (hv.monoT h) ih
theorem ER.mono {E E' : Env} (h : E.le E') {x x' : List MapEntry} (k : ER E x x') : ER E' x x' := k.monoT h.T

def sizeOk (P : Program) (E : Env) (i n elem : Nat) (g : Bool) (size : Nat) : Prop :=
  match E.cap i with
  | none => size = n ∧ g = false
  | some (C, s) => n ≤ size ∧ size = C * s ∧ 0 < s ∧ g = true ∧ P.cellsOf elem = s
/-- What is frozen of a block lies behind its cells; and only where each element is of one cell. -/
def fzOK (one : Nat) (fz : Nat × Nat) (size : Nat) : Prop := fz = (0, 0) ∨ (fz = (size, size + 1) ∧ one = 1)
theorem fzOK.free {one : Nat} {fz : Nat × Nat} {size o : Nat} (h : fzOK one fz size) (ho : o < size) : (decide (fz.1 ≤ o) && decide (o < fz.2)) = false := by
  rcases h with rfl | ⟨rfl, _⟩
  · simp
  · simp only [Bool.and_eq_false_imp, decide_eq_true_eq, decide_eq_false_iff_not]; omega
theorem frozen_free {one : Nat} {w : World} {b o : Nat} {arr : Array Value} {elem : TypeId} {fz : Nat × Nat} (h : w.heap[b]? = some (.cells arr elem fz)) (hz : fzOK one fz arr.size) (ho : o < arr.size) : w.frozen? ⟨b, o, none⟩ = false := by
  unfold World.frozen?
  rw [h]
  exact hz.free ho
/-- A block of ours stands for one of a world. -/
def OR (P : Program) (E : Env) (i : Nat) : AObj → Obj → Prop
  | .cells cs n elem g, r => ∃ arr : Array Value, (∃ fz elem', (64 ≤ i → fzOK (P.cellsOf elem') fz arr.size) ∧ (64 ≤ i → elem' = elem) ∧ r = .cells arr elem' fz) ∧ sizeOk P E i n elem g arr.size ∧ ∀ j v, j < n → cs.get j = some v → ∃ v', arr[j]? = some v' ∧ VR E v v'
  | .map es clock, r => ∃ arr : Array MapEntry, r = .map arr clock ∧ ER E es arr.toList
  | .iter s pos, r => r = .stringIter s pos
  | .miter none _ _ _, r => r = .mapIter none 0 #[] 0
  | .miter (some j) since last seen, r => ∃ b, E.blk j = some b ∧ r = .mapIter (some b) since seen.toArray last
  | .loop tm nt ps assign body dfr st pend, r => ∃ fn tmps bd, E.blk dfr = some bd ∧ tmps.size = nt ∧ (∀ t, VR E ((tm.get t).getD undef) (tmps.getD t undef)) ∧
      r = .loop { state := st, pending := pend, fn := fn, tmps := tmps, params := ps.toArray, assign := assign, body := body, defers := bd }
  | .dfr, r => r = .deferred (some [])
theorem sizeOk_to {P : Program} {E E' : Env} (h : E.To E') {i b n elem size : Nat} {g : Bool} (hb : E.blk i = some b) (k : sizeOk P E i n elem g size) : sizeOk P E' i n elem g size := by
  unfold sizeOk at *; rw [(h i b hb).2]; exact k
theorem sizeOk_le {P : Program} {E E' : Env} (h : E.le E') {i b n elem size : Nat} {g : Bool} (hb : E.blk i = some b) (k : sizeOk P E i n elem g size) : sizeOk P E' i n elem g size := sizeOk_to h.T hb k
theorem sizeOk_n {P : Program} {E : Env} {i n elem size : Nat} {g : Bool} (k : sizeOk P E i n elem g size) : n ≤ size := by
  unfold sizeOk at k; split at k <;> omega
theorem OR.monoT {P : Program} {E E' : Env} (h : E.To E') {i b : Nat} (hb : E.blk i = some b) {o : AObj} {r : Obj} (k : OR P E i o r) : OR P E' i o r := by
  cases o with
  | cells cs n elem g =>
    obtain ⟨arr, e, hs, hc⟩ := k
    exact ⟨arr, e, sizeOk_to h hb hs, fun j v hj hv => by obtain ⟨v', h1, h2⟩ := hc j v hj hv; exact ⟨v', h1, h2.monoT h⟩⟩
  | map es clock => obtain ⟨arr, e, hs⟩ := k; exact ⟨arr, e, hs.monoT h⟩
  | iter s pos => exact k
  | miter mi since last seen =>
    cases mi with
    | none => exact k
    | some j => obtain ⟨b, h1, h2⟩ := k; exact ⟨b, (h j b h1).1, h2⟩
  | loop tm nt ps assign body dfr st pend =>
    obtain ⟨fn, tmps, bd, h1, h2, h3, h4⟩ := k
    exact ⟨fn, tmps, bd, (h dfr bd h1).1, h2, fun t => (h3 t).monoT h, h4⟩
  | dfr => exact k
theorem OR.mono {P : Program} {E E' : Env} (h : E.le E') {i b : Nat} (hb : E.blk i = some b) {o : AObj} {r : Obj} (k : OR P E i o r) : OR P E' i o r := k.monoT h.T hb

/-- Our memory stands for a world's; what lay in the world w0 lies as it lay. -/
structure HR (P : Program) (w0 : World) (E : Env) (H : T AObj) (next : Nat) (w : World) : Prop where
  below : Below w0.heap.size w0 w
  dom : ∀ i b, E.blk i = some b → i < next ∧ (64 ≤ i → w0.heap.size ≤ b ∧ b < w.heap.size)
  glob : ∀ g, g < 48 → E.blk g = some g
  inj : ∀ i j o o' b, H.get i = some o → H.get j = some o' → E.blk i = some b → E.blk j = some b → i = j
  ph : ∀ i, E.ph i = true → i < next ∧ E.blk i = none
  born : ∀ i o, H.get i = some o → E.ph i = false → ∃ b r, E.blk i = some b ∧ w.heap[b]? = some r ∧ OR P E i o r

variable {P : Program} {w0 w w' : World} {E E' : Env} {H : T AObj} {next : Nat}

theorem HR.obj (h : HR P w0 E H next w) {i b : Nat} (hb : E.blk i = some b) {o : AObj} (hg : H.get i = some o) : ∃ b r, E.blk i = some b ∧ w.heap[b]? = some r ∧ OR P E i o r :=
  h.born i o hg (by
    cases hp : E.ph i with
    | false => rfl
    | true => have := (h.ph i hp).2; rw [hb] at this; cases this)
theorem HR.start (w : World) : HR P w ⟨fun i => if i < 48 then some i else none, fun _ => none, fun _ => false⟩ .leaf 64 w :=
  ⟨Below.refl _ _, by intro i b h; simp at h; omega, by intro g hg; simp [hg], by intro i j o o' b h; simp [T.get] at h, fun i h => absurd h Bool.false_ne_true, by intro i o h; simp [T.get] at h⟩
/-- The world turns where nothing of ours lies. -/
theorem HR.keep (h : HR P w0 E H next w) (hb : Below w0.heap.size w w') (hk : ∀ i o b, H.get i = some o → E.blk i = some b → w'.heap[b]? = w.heap[b]?) : HR P w0 E H next w' :=
  ⟨h.below.trans hb, fun i b e => by have := h.dom i b e; have := hb.size; omega, h.glob, h.inj, h.ph, fun i o e hp => by
    obtain ⟨b, r, h1, h2, h3⟩ := h.born i o e hp
    exact ⟨b, r, h1, (hk i o b e h1).trans h2, h3⟩⟩
theorem HR.drew (h : HR P w0 E H next w) : HR P w0 E H next w.drew := h.keep (Below.refl _ _).drew fun _ _ _ _ _ => rfl
theorem HR.drawn (h : HR P w0 E H next w) : HR P w0 E H next { w with drawn := w.drawn + 1 } := h.drew
/-- A block of ours is forgotten. -/
theorem HR.forget (h : HR P w0 E H next w) {i : Nat} (hi : i < 1073741824) : HR P w0 E (H.del i) next w := by
  have hg : ∀ j o, (H.del i).get j = some o → H.get j = some o := fun j o e => by
    rw [T.get_del _ _ hi] at e; split at e
    · cases e
    · exact e
  exact ⟨h.below, h.dom, h.glob, fun i j o o' b h1 h2 => h.inj i j o o' b (hg _ _ h1) (hg _ _ h2), h.ph, fun j o e hp => h.born j o (hg j o e) hp⟩

/-- The renaming with one block more. -/
def Env.more (E : Env) (i b : Nat) (c : Option (Nat × Nat)) : Env := ⟨fun j => if j = i then some b else E.blk j, fun j => if j = i then c else E.cap j, E.ph⟩
theorem Env.le_more (h : HR P w0 E H next w) (b : Nat) (c : Option (Nat × Nat)) : E.le (E.more next b c) := ⟨fun i b' hb => by
  have := (h.dom i b' hb).1
  simp only [Env.more]
  rw [if_neg (by omega), if_neg (by omega)]
  exact ⟨hb, rfl⟩, rfl⟩
/-- A new block. -/
theorem HR.new (h : HR P w0 E H next w) (hn : next < 1073741824) {c : Option (Nat × Nat)} {o : AObj} {r : Obj} (ho : OR P (E.more next w.heap.size c) next o r) :
    HR P w0 (E.more next w.heap.size c) (H.set next o) (next + 1) (w.alloc r) := by
  have hle := Env.le_more h w.heap.size c
  have hsz : (w.alloc r).heap.size = w.heap.size + 1 := by simp
  have hbk : ∀ i b, (E.more next w.heap.size c).blk i = some b → (i = next ∧ b = w.heap.size) ∨ (i ≠ next ∧ E.blk i = some b) := by
    intro i b e
    simp only [Env.more] at e
    split at e
    · injection e with e; exact .inl ⟨‹_›, e.symm⟩
    · exact .inr ⟨‹_›, e⟩
  have hno : ∀ j o', H.get j = some o' → E.blk j ≠ some w.heap.size := fun j o' hj e => by
    obtain ⟨b', r', k1, k2, _⟩ := h.obj e hj
    rw [e] at k1
    injection k1 with k1
    subst k1
    simp at k2
  refine ⟨h.below.alloc h.below.size _, ?_, fun g hg => (hle.to g g (h.glob g hg)).1, ?_, fun i hi => ?_, ?_⟩
  · intro i b e
    rw [hsz]
    rcases hbk i b e with ⟨rfl, rfl⟩ | ⟨_, e⟩
    · exact ⟨by omega, fun _ => ⟨h.below.size, by omega⟩⟩
    · have := h.dom i b e; omega
  · intro i j o1 o2 b h1 h2 e1 e2
    rw [T.get_set _ _ _ hn] at h1 h2
    rcases hbk i b e1 with ⟨rfl, rfl⟩ | ⟨hi, e1'⟩ <;> rcases hbk j _ e2 with ⟨rfl, hb2⟩ | ⟨hj, e2'⟩
    · rfl
    · rw [if_neg hj] at h2; exact absurd e2' (hno j o2 h2)
    · rw [if_neg hi] at h1; subst hb2; exact absurd e1' (hno i o1 h1)
    · rw [if_neg hi] at h1; rw [if_neg hj] at h2
      exact h.inj i j o1 o2 b h1 h2 e1' e2'
  · have := h.ph i hi
    refine ⟨by omega, ?_⟩
    simp only [Env.more]
    rw [if_neg (by omega)]
    exact this.2
  · intro i o1 h1 hp
    rw [T.get_set _ _ _ hn] at h1
    split at h1
    · injection h1 with h1; subst h1
      rename_i hi; subst hi
      exact ⟨w.heap.size, r, by simp [Env.more], World.alloc_heap_new w r, ho⟩
    · obtain ⟨b, r1, g1, g2, g3⟩ := h.born i o1 h1 hp
      refine ⟨b, r1, (hle.to i b g1).1, ?_, g3.mono hle g1⟩
      rw [Below.heap_alloc w r b (Array.getElem?_eq_some_iff.1 g2).1]; exact g2
/-- A block that is laid out beforehand. -/
def Env.phantom (E : Env) (i : Nat) : Env := ⟨E.blk, E.cap, fun j => j == i || E.ph j⟩
theorem HR.lay (h : HR P w0 E H next w) (hn : next < 1073741824) (o : AObj) : HR P w0 (E.phantom next) (H.set next o) (next + 1) w := by
  have hno : E.blk next = none := by
    cases hb : E.blk next with
    | none => rfl
    | some b => have := (h.dom next b hb).1; omega
  have hg : ∀ i o' b, (H.set next o).get i = some o' → E.blk i = some b → H.get i = some o' := fun i o' b hi hb => by
    rw [T.get_set _ _ _ hn] at hi
    split at hi
    · rename_i e; subst e; rw [hno] at hb; cases hb
    · exact hi
  refine ⟨h.below, fun i b hb => ?_, h.glob, fun i j o1 o2 b h1 h2 e1 e2 => h.inj i j o1 o2 b (hg i o1 b h1 e1) (hg j o2 b h2 e2) e1 e2, fun i hi => ?_, fun i o' hi hp => ?_⟩
  · have := h.dom i b hb; exact ⟨by omega, this.2⟩
  · simp only [Env.phantom, Bool.or_eq_true, beq_iff_eq] at hi
    rcases hi with rfl | hi
    · exact ⟨by omega, hno⟩
    · have := h.ph i hi; exact ⟨by omega, this.2⟩
  · simp only [Env.phantom, Bool.or_eq_false_iff, beq_eq_false_iff_ne] at hp
    rw [T.get_set _ _ _ hn, if_neg hp.1] at hi
    obtain ⟨b, r, k1, k2, k3⟩ := h.born i o' hi hp.2
    exact ⟨b, r, k1, k2, OR.monoT (E := E) (E' := E.phantom next) (fun _ _ e => ⟨e, rfl⟩) k1 k3⟩
/-- Such a block comes to be. -/
def Env.real (E : Env) (n b : Nat) : Env := ⟨fun j => if j = n then some b else E.blk j, fun j => if j = n then none else E.cap j, fun j => if j = n then false else E.ph j⟩
theorem Env.to_real (h : HR P w0 E H next w) {n : Nat} (hp : E.ph n = true) (b : Nat) : E.To (E.real n b) := fun i b' hb => by
  have hne : i ≠ n := fun e => by subst e; rw [(h.ph i hp).2] at hb; cases hb
  simp only [Env.real]
  rw [if_neg hne, if_neg hne]
  exact ⟨hb, rfl⟩
theorem HR.real (h : HR P w0 E H next w) {n b : Nat} (hp : E.ph n = true) {o : AObj} {r : Obj} (hw : Below w.heap.size w w') (hge : w.heap.size ≤ b) (hlt : b < w'.heap.size) (hg : H.get n = some o) (hr : w'.heap[b]? = some r) (ho : OR P (E.real n b) n o r) :
    HR P w0 (E.real n b) H next w' := by
  have hto := Env.to_real h hp b
  have hpn := h.ph n hp
  have hbk : ∀ i c, (E.real n b).blk i = some c → (i = n ∧ c = b) ∨ (i ≠ n ∧ E.blk i = some c) := fun i c e => by
    simp only [Env.real] at e
    split at e
    · injection e with e; exact .inl ⟨‹_›, e.symm⟩
    · exact .inr ⟨‹_›, e⟩
  have hold : ∀ i o' c, H.get i = some o' → E.blk i = some c → c < w.heap.size := fun i o' c hi hc => by
    obtain ⟨c', r', k1, k2, _⟩ := h.obj hc hi
    rw [hc] at k1
    injection k1 with k1
    subst k1
    exact (Array.getElem?_eq_some_iff.1 k2).1
  refine ⟨h.below.trans ⟨hw.os, hw.tape, hw.output, hw.size, fun k hk => hw.block k (Nat.lt_of_lt_of_le hk h.below.size)⟩, fun i c hc => ?_, fun g hgl => (hto g g (h.glob g hgl)).1, fun i j o1 o2 c h1 h2 e1 e2 => ?_, fun i hi => ?_, fun i o' hi hpi => ?_⟩
  · rcases hbk i c hc with ⟨rfl, rfl⟩ | ⟨_, hc⟩
    · exact ⟨hpn.1, fun _ => ⟨Nat.le_trans h.below.size hge, hlt⟩⟩
    · have := h.dom i c hc; have := hw.size; omega
  · rcases hbk i c e1 with ⟨rfl, rfl⟩ | ⟨hi, e1'⟩ <;> rcases hbk j c e2 with ⟨rfl, hb2⟩ | ⟨hj, e2'⟩
    · rfl
    · have := hold j o2 _ h2 e2'; omega
    · have := hold i o1 _ h1 e1'; omega
    · exact h.inj i j o1 o2 c h1 h2 e1' e2'
  · simp only [Env.real] at hi ⊢
    split at hi
    · cases hi
    · rename_i hne
      rw [if_neg hne]
      exact h.ph i hi
  · by_cases e : i = n
    · subst e
      rw [hg] at hi
      injection hi with hi
      subst hi
      exact ⟨b, r, by simp [Env.real], hr, ho⟩
    · simp only [Env.real] at hpi
      rw [if_neg e] at hpi
      obtain ⟨c, r', k1, k2, k3⟩ := h.born i o' hi hpi
      exact ⟨c, r', (hto i c k1).1, (hw.block c (Array.getElem?_eq_some_iff.1 k2).1).trans k2, k3.monoT hto k1⟩
/-- A block of ours turns, and the world's with it. -/
theorem HR.turn (h : HR P w0 E H next w) {i b : Nat} (hi : i < 1073741824) {o o' : AObj} {r' : Obj} (hg : H.get i = some o) (hb : E.blk i = some b) (ho : OR P E i o' r')
    (hw : Below w0.heap.size w w') (h1 : w'.heap[b]? = some r') (h2 : ∀ k, k ≠ b → w'.heap[k]? = w.heap[k]?) : HR P w0 E (H.set i o') next w' := by
  refine ⟨h.below.trans hw, fun j c e => by have := h.dom j c e; have := hw.size; omega, h.glob, ?_, h.ph, ?_⟩
  · intro j k o1 o2 c g1 g2 e1 e2
    rw [T.get_set _ _ _ hi] at g1 g2
    by_cases hj : j = i <;> by_cases hk : k = i
    · rw [hj, hk]
    · subst hj; rw [if_neg hk] at g2; exact h.inj _ _ _ _ c hg g2 e1 e2
    · subst hk; rw [if_neg hj] at g1; exact h.inj _ _ _ _ c g1 hg e1 e2
    · rw [if_neg hj] at g1; rw [if_neg hk] at g2; exact h.inj _ _ _ _ c g1 g2 e1 e2
  · intro j o1 g1 hp
    rw [T.get_set _ _ _ hi] at g1
    split at g1
    · injection g1 with g1; subst g1
      rename_i hj; subst hj
      exact ⟨b, r', hb, h1, ho⟩
    · rename_i hj
      obtain ⟨c, r1, k1, k2, k3⟩ := h.born j o1 g1 hp
      refine ⟨c, r1, k1, ?_, k3⟩
      rw [h2 c (fun e => hj (h.inj j i o1 o c g1 hg k1 (e ▸ hb)))]; exact k2

/-! ### cells -/
/-- The address of ours stands for the world's. -/
theorem HR.cell (h : HR P w0 E H next w) {i b o n : Nat} {cs : T Value} {elem : TypeId} {g : Bool} {v : Value} (hb : E.blk i = some b) (hg : H.get i = some (.cells cs n elem g)) (ho : o < n) (hv : cs.get o = some v) :
    ∃ v', w.cell? ⟨b, o, none⟩ = some v' ∧ (64 ≤ i → w.frozen? ⟨b, o, none⟩ = false) ∧ VR E v v' := by
  obtain ⟨b', r, h1, h2, arr, ⟨fz, elem', hz, hel, rfl⟩, hs, hc⟩ := h.obj hb hg
  obtain rfl : b = b' := by rw [hb] at h1; injection h1
  obtain ⟨v', e1, e2⟩ := hc o v ho hv
  refine ⟨v', ?_, ?_, e2⟩
  · simp [World.cell?, h2, e1]
  · exact fun h64 => frozen_free h2 (hz h64) (by have := sizeOk_n hs; omega)
theorem setCell_heap {w : World} {b o : Nat} {arr : Array Value} {elem : TypeId} {fz : Nat × Nat} (h : w.heap[b]? = some (.cells arr elem fz)) (v : Value) :
    (w.setCell ⟨b, o, none⟩ v).heap[b]? = some (.cells (arr.setIfInBounds o v) elem fz) := by
  simp [World.setCell, Array.getElem?_modify, h]
theorem HR.setCell (h : HR P w0 E H next w) {i b o n : Nat} (h64 : 64 ≤ i) (hi : i < 1073741824) (hoB : o < 1073741824) {cs : T Value} {elem : TypeId} {g : Bool} {v v' : Value} (hb : E.blk i = some b) (hg : H.get i = some (.cells cs n elem g)) (ho : o < n) (hv : VR E v v') :
    HR P w0 E (H.set i (.cells (cs.set o v) n elem g)) next (w.setCell ⟨b, o, none⟩ v') := by
  obtain ⟨b', r, h1, h2, arr, ⟨fz, elem', hz, hel, rfl⟩, hs, hc⟩ := h.obj hb hg
  obtain rfl : b = b' := by rw [hb] at h1; injection h1
  have hd := h.dom i b hb
  refine h.turn hi hg hb (o' := .cells (cs.set o v) n elem g) ⟨arr.setIfInBounds o v', ⟨fz, elem', fun k64 => by simpa using hz k64, hel, rfl⟩, by simpa using hs, ?_⟩ ((Below.refl _ _).setCell (p := ⟨b, o, none⟩) (hd.2 h64).1 v') (setCell_heap h2 v')
    (fun k hk => Below.heap_setCell w ⟨b, o, none⟩ v' k hk)
  intro j u hj hu
  rw [T.get_set _ _ _ hoB] at hu
  have hsz : n ≤ arr.size := sizeOk_n hs
  split at hu
  · injection hu with hu; subst hu
    rename_i e; subst e
    exact ⟨v', by simp [show j < arr.size by omega], hv⟩
  · rename_i e
    obtain ⟨u', e1, e2⟩ := hc j u hj hu
    refine ⟨u', ?_, e2⟩
    rw [Array.getElem?_setIfInBounds_ne (by omega)]; exact e1

/-! ### frames -/
/-- Our temporaries stand for a frame's. -/
structure AR (E : Env) (tm : T Value) (nt : Nat) (a : Act) : Prop where
  glob : ∀ g, g < 48 → E.blk g = some g
  size : a.tmps.size = nt
  get : ∀ t, VR E ((tm.get t).getD undef) (a.tmps.getD t undef)
theorem AR.monoT {tm : T Value} {nt : Nat} {a : Act} (h : AR E tm nt a) (hE : E.To E') : AR E' tm nt a := ⟨fun g hg => (hE g g (h.glob g hg)).1, h.size, fun t => (h.get t).monoT hE⟩
theorem AR.mono {tm : T Value} {nt : Nat} {a : Act} (h : AR E tm nt a) (hE : E.le E') : AR E' tm nt a := ⟨fun g hg => (hE.to g g (h.glob g hg)).1, h.size, fun t => (h.get t).mono hE⟩
theorem VR.undef (E : Env) : VR E Go.undef Go.undef := .tuple (x := []) (x' := []) .nil
theorem AR.put {tm : T Value} {nt : Nat} {a : Act} (h : AR E tm nt a) {d : Nat} {v v' : Value} (hd : d < nt) (hB : d < 1073741824) (hv : VR E v v') : AR E (tm.set d v) nt (a.put (some d) v') := by
  refine ⟨h.glob, by simp [Act.put, h.size], fun t => ?_⟩
  rw [T.get_set _ _ _ hB]
  simp only [Act.put]
  by_cases ht : t = d
  · subst ht
    rw [if_pos rfl]
    have : t < a.tmps.size := by rw [h.size]; exact hd
    simpa [Array.getD_eq_getD_getElem?, this] using hv
  · rw [if_neg ht]
    have := h.get t
    rw [Array.getD_eq_getD_getElem?, Array.getElem?_setIfInBounds_ne (by omega), ← Array.getD_eq_getD_getElem?]
    exact this
theorem AR.enter (E : Env) (hglob : ∀ g, g < 48 → E.blk g = some g) {x x' : List Value} (h : VRL E x x') (nt : Nat) (hB : x.length ≤ 1073741824) (hn : x.length ≤ nt) :
    AR E (T.leaf.fill 0 x) nt { tmps := x'.toArray ++ Array.replicate (nt - x'.toArray.size) Go.undef, defers := [] } := by
  have hl := h.len
  refine ⟨hglob, by simp; omega, fun t => ?_⟩
  rw [T.get_fill _ _ _ _ (by omega)]
  simp only [Array.getD_eq_getD_getElem?]
  by_cases ht : t < x.length
  · rw [if_pos (by omega)]
    obtain ⟨v', h1, h2⟩ := h.get (i := t) (List.getElem?_eq_getElem ht)
    rw [Array.getElem?_append_left (by simp; omega)]
    simp [h1, List.getElem?_eq_getElem ht, h2]
  · rw [if_neg (by omega)]
    rw [Array.getElem?_append_right (by simp; omega)]
    simp only [T.get, Option.getD_none]
    rw [Array.getElem?_replicate]
    split <;> exact VR.undef E
end Go.Proofs.YtlkdjdcnbcegeaaGreatDoor.Ev

/-! Our machine's operations on memory, and that they stand for the model's. -/
namespace Go.Proofs.YtlkdjdcnbcegeaaGreatDoor.Ev
open Go.RowKit

/-- What a computation that asks no memory comes to. -/
def valQ (P : Program) {α : Type} : Sem α → Option α
  | .pure a => some a
  | .program k => valQ P (k P)
  | .mark _ k => valQ P k
  | _ => none
theorem valQ_run {P : Program} {α : Type} (w : World) : ∀ (s : Sem α) (a : α), valQ P s = some a → s.run P w = .ok a w := by
  intro s
  induction s with
  | pure b => intro a h; simp [valQ] at h; subst h; rfl
  | program k ih => intro a h; simp only [valQ] at h; exact ih P a h
  | mark m k ih => intro a h; simp only [valQ] at h; exact ih a h
  | _ => intro a h; simp [valQ] at h

variable {P : Program} {w0 w : World} {E : Env} {H : T AObj} {next : Nat}

theorem HR.congr {H' : T AObj} (h : HR P w0 E H next w) (e : ∀ i, H'.get i = H.get i) : HR P w0 E H' next w :=
  ⟨h.below, h.dom, h.glob, fun i j o o' b h1 h2 => h.inj i j o o' b ((e i).symm.trans h1) ((e j).symm.trans h2), h.ph, fun i o h1 hp => h.born i o ((e i).symm.trans h1) hp⟩

def cell1 : Value → Bool
  | .agg _ | .tuple _ => false
  | _ => true
theorem VR.cell1 {v v' : Value} (h : VR E v v') (hc : cell1 v = true) : Ev.cell1 v' = true := by
  cases h <;> first | (simp_all [Ev.cell1]; done) | (rename_i k h; cases v' <;> first | rfl | (simp [opqOK] at h))
theorem VR.cells {v v' : Value} (h : VR E v v') : VRL E v.cells.toList v'.cells.toList := by
  cases h with
  | agg h => exact h
  | opq k h => cases v' <;> first | exact .cons (.opq k h) .nil | (simp [opqOK] at h)
  | bool b => exact .cons (.bool b) .nil
  | int k n => exact .cons (.int k n) .nil
  | string s => exact .cons (.string s) .nil
  | ptr0 => exact .cons .ptr0 .nil
  | ptr o h => exact .cons (.ptr o h) .nil
  | slice0 n c => exact .cons (.slice0 n c) .nil
  | slice o n h hc => exact .cons (.slice o n h hc) .nil
  | slicex i a c => exact .cons (.slicex i a c) .nil
  | map0 => exact .cons .map0 .nil
  | map h => exact .cons (.map h) .nil
  | func f g h => exact .cons (.func f g h) .nil
  | yield h => exact .cons (.yield h) .nil
  | low c h => exact .cons (.low c h) .nil
  | nilFunc => exact .cons .nilFunc .nil
  | iface t h => exact .cons (.iface t h) .nil
  | nilIface => exact .cons .nilIface .nil
  | tuple h => exact .cons (.tuple h) .nil

theorem add_is (b o i : Nat) : (⟨b, o, none⟩ : Addr).add i = ⟨b, o + i, none⟩ := by
  unfold Addr.add; split
  · subst_vars; rfl
  · rfl

/-- Rows of cells are loaded. -/
theorem HR.loadL (h : HR P w0 E H next w) {i b o k n : Nat} {cs : T Value} {elem : TypeId} {g : Bool} {l : List Value} (hb : E.blk i = some b) (hg : H.get i = some (.cells cs n elem g)) (hn : o + k ≤ n) (hl : cs.take o k = some l) :
    ∃ l' : List Value, (loadCells ⟨b, o, none⟩ k).run P w = .ok l'.toArray w ∧ VRL E l l' := by
  obtain ⟨h1, h2⟩ := T.take_spec k cs o l hl
  have hex : ∀ j, j < k → ∃ v', w.cell? ⟨b, o + j, none⟩ = some v' ∧ VR E (l.getD j undef) v' := by
    intro j hj
    have hj' : l[j]? = some l[j] := List.getElem?_eq_getElem (by omega)
    obtain ⟨v', e1, _, e2⟩ := h.cell hb hg (o := o + j) (by omega) (h2 j _ hj')
    exact ⟨v', e1, by simpa [List.getD, hj'] using e2⟩
  let f : Nat → Value := fun j => (w.cell? ⟨b, o + j, none⟩).getD undef
  refine ⟨(List.range k).map f, run_loadCells w ⟨b, o, none⟩ k f (fun j hj => ?_), VRL.of_get (by simp [h1]) fun j v hv => ?_⟩
  · obtain ⟨v', e1, _⟩ := hex j hj
    rw [add_is]; simp [f, e1]
  · have hj : j < k := by have := (List.getElem?_eq_some_iff.1 hv).1; omega
    obtain ⟨v', e1, e2⟩ := hex j hj
    refine ⟨v', by simp [hj, f, e1], ?_⟩
    simpa [List.getD, hv] using e2

/-- Rows of cells are stored. -/
theorem HR.storeL : ∀ (x x' : List Value) (i : Nat) {w : World} {H : T AObj} (_ : HR P w0 E H next w) {id b o n : Nat} {cs : T Value} {elem : TypeId} {g : Bool} (_ : E.blk id = some b) (_ : H.get id = some (.cells cs n elem g))
    (_ : 64 ≤ id) (_ : id < 1073741824) (_ : n ≤ 1073741824) (_ : o + i + x.length ≤ n) (_ : VRL E x x') (_ : x.all cell1 = true),
    ∃ w1, (storeCells ⟨b, o, none⟩ x' i).run P w = .ok () w1 ∧ HR P w0 E (H.set id (.cells (cs.fill (o + i) x) n elem g)) next w1 := by
  intro x
  induction x with
  | nil =>
    intro x' i w H h id b o n cs elem g hb hg h64 hid hn hl hx hc
    cases hx
    refine ⟨w, rfl, h.congr fun j => ?_⟩
    rw [T.get_set _ _ _ hid]
    split
    · rename_i e; subst e; simp [T.fill, hg]
    · rfl
  | cons v x ih =>
    intro x' i w H h id b o n cs elem g hb hg h64 hid hn hl hx hc
    cases hx with
    | cons hv hx =>
      rename_i v' y'
      simp only [List.all_cons, Bool.and_eq_true] at hc
      simp only [List.length_cons] at hl
      obtain ⟨b', r, h1, h2, arr, ⟨fz, elem', hz, hel, rfl⟩, hs, hcell⟩ := h.obj hb hg
      obtain rfl : b = b' := by rw [hb] at h1; injection h1
      have hsz : n ≤ arr.size := sizeOk_n hs
      have hcl : w.cell? ⟨b, o + i, none⟩ = some arr[o + i] := by simp [World.cell?, h2, show o + i < arr.size by omega]
      have hfz : w.frozen? ⟨b, o + i, none⟩ = false := frozen_free h2 (hz h64) (by omega)
      have h' := h.setCell h64 hid (o := o + i) (by omega) hb hg (by omega) hv
      obtain ⟨w1, hr, hh⟩ := ih y' (i + 1) h' (o := o) hb (by rw [T.get_set _ _ _ hid, if_pos rfl]) h64 hid hn (by omega) hx hc.2
      refine ⟨w1, ?_, hh.congr fun j => ?_⟩
      · rw [storeCells, Sem.run_bind]
        have hst : (store ((⟨b, o, none⟩ : Addr).add i) v').run P w = .ok () (w.setCell ⟨b, o + i, none⟩ v') := by
          rw [add_is]
          have hc1 := hv.cell1 hc.1
          unfold store
          cases v' <;> first | (simp [Ev.cell1] at hc1; done) | (simp [Sem.run, hcl, hfz])
        rw [hst]
        exact hr
      · rw [T.get_set _ _ _ hid, T.get_set _ _ _ hid]
        split
        · rfl
        · rename_i e; rw [T.get_set _ _ _ hid, if_neg e]

def isAggB (P : Program) (t : TypeId) : Option Bool :=
  match P.underlying t with
  | some (.struct _) => some true
  | some (.array _ _) => some true
  | some _ => some false
  | none => none
theorem run_isAgg {t : TypeId} {b : Bool} (h : isAggB P t = some b) (w : World) : (isAgg t).run P w = .ok b w := by
  unfold isAggB at h
  cases hu : P.underlying t with
  | none => rw [hu] at h; cases h
  | some d =>
    rw [hu] at h
    rw [isAgg, Sem.run_bind, run_underlying hu]
    cases d <;> simp_all [Result.andThen, Sem.run_pure]

/-- A load. -/
def exLoad (P : Program) (H : T AObj) (t : TypeId) : Value → Option Value
  | .pointer (some ⟨i, o, none⟩) =>
    match H.get i, isAggB P t, P.info? t with
    | some (.cells cs n _ _), some true, some info => if o + info.size ≤ n then (cs.take o info.size).map fun l => .agg l.toArray else none
    | some (.cells cs n _ _), some false, some _ => if o < n then cs.get o else none
    | _, _, _ => none
  | _ => none
theorem exLoad_run (h : HR P w0 E H next w) {t : TypeId} {v v' u : Value} (hv : VR E v v') (he : exLoad P H t v = some u) : ∃ u', (Instr.loadAt t v').run P w = .ok u' w ∧ VR E u u' := by
  cases hv <;> simp only [exLoad] at he <;> try cases he
  rename_i i b o hb
  cases hg : H.get i with
  | none => rw [hg] at he; cases he
  | some ob =>
    cases ob with
    | map _ _ => rw [hg] at he; simp at he
    | iter _ _ => rw [hg] at he; simp at he
    | miter _ _ _ _ => rw [hg] at he; simp at he
    | loop _ _ _ _ _ _ _ _ => rw [hg] at he; simp at he
    | dfr => rw [hg] at he; simp at he
    | cells cs n elem g =>
      cases ha : isAggB P t with
      | none => rw [hg, ha] at he; simp at he
      | some ag =>
        cases hi : P.info? t with
        | none => rw [hg, ha, hi] at he; cases ag <;> simp at he
        | some info =>
          rw [hg, ha, hi] at he
          have hsa : ∀ w, (Instr.sureAddr (.pointer (some ⟨b, o, none⟩))).run P w = .ok ⟨b, o, none⟩ w := fun w => rfl
          cases ag with
          | true =>
            simp only at he
            split at he
            · rename_i hn
              cases ht : cs.take o info.size with
              | none => rw [ht] at he; cases he
              | some l =>
                rw [ht] at he
                injection he with he
                subst he
                obtain ⟨l', h1, h2⟩ := h.loadL (P := P) hb hg hn ht
                refine ⟨.agg l'.toArray, ?_, .agg h2⟩
                rw [Instr.loadAt, Sem.run_bind, hsa]
                simp only [Result.andThen]
                rw [loadVar, Sem.run_bind, run_isAgg ha]
                simp only [Result.andThen, if_true]
                rw [Sem.run_bind, run_sizeOf w hi]
                simp only [Result.andThen, Program.cellsOf, hi]
                rw [Sem.run_bind]
                simp only [Option.map_some, Option.getD_some]
                rw [h1]; rfl
            · cases he
          | false =>
            simp only at he
            split at he
            · rename_i hn
              obtain ⟨u', h1, _, h2⟩ := h.cell hb hg hn he
              refine ⟨u', ?_, h2⟩
              rw [Instr.loadAt, Sem.run_bind, hsa]
              simp only [Result.andThen]
              rw [loadVar, Sem.run_bind, run_isAgg ha]
              simp [Result.andThen, load, Sem.run, h1]
            · cases he
/-- A store. -/
def exStore (P : Program) (H : T AObj) (lo : Nat) (t : TypeId) (u : Value) : Value → Option (T AObj)
  | .pointer (some ⟨i, o, none⟩) =>
    match H.get i, P.info? t with
    | some (.cells cs n elem g), some info =>
      if u.cells.toList.length = info.size ∧ u.cells.toList.all cell1 = true ∧ o + info.size ≤ n ∧ n ≤ 1073741824 ∧ i < 1073741824 ∧ lo + 64 ≤ i then
        some (H.set i (.cells (cs.fill o u.cells.toList) n elem g)) else none
    | _, _ => none
  | _ => none
theorem exStore_run (h : HR P w0 E H next w) {lo : Nat} {t : TypeId} {v v' u u' : Value} (hv : VR E v v') (hu : VR E u u') {H' : T AObj} (he : exStore P H lo t u v = some H') :
    ∃ w', (Instr.storeAt t v' u').run P w = .ok () w' ∧ HR P w0 E H' next w' ∧ ∀ i, i < lo → H'.get i = H.get i := by
  cases hv <;> simp only [exStore] at he <;> try cases he
  rename_i i b o hb
  cases hg : H.get i with
  | none => rw [hg] at he; cases he
  | some ob =>
    cases ob with
    | map _ _ => rw [hg] at he; simp at he
    | iter _ _ => rw [hg] at he; simp at he
    | miter _ _ _ _ => rw [hg] at he; simp at he
    | loop _ _ _ _ _ _ _ _ => rw [hg] at he; simp at he
    | dfr => rw [hg] at he; simp at he
    | cells cs n elem g =>
      cases hi : P.info? t with
      | none => rw [hg, hi] at he; simp at he
      | some info =>
        rw [hg, hi] at he
        simp only at he
        split at he
        · rename_i hc
          obtain ⟨c1, c2, c3, c4, c5, c6⟩ := hc
          injection he with he
          subst he
          have hcl := hu.cells
          obtain ⟨w1, h1, h2⟩ := HR.storeL (P := P) u.cells.toList u'.cells.toList 0 h (o := o) hb hg (by omega) c5 c4 (by omega) hcl c2
          refine ⟨w1, ?_, h2, fun j hj => by rw [T.get_set _ _ _ c5, if_neg (by omega)]⟩
          rw [Instr.storeAt, Sem.run_bind]
          have hsa : (Instr.sureAddr (.pointer (some ⟨b, o, none⟩))).run P w = .ok ⟨b, o, none⟩ w := rfl
          rw [hsa]
          simp only [Result.andThen]
          rw [storeVar, Sem.run_bind, run_sizeOf w hi]
          have hsz : u'.cells.size = info.size := by have := hcl.len; simp only [Array.length_toList] at this c1; omega
          simp only [Result.andThen, Program.cellsOf, hi, Option.map_some, Option.getD_some, hsz, ne_eq, not_true, if_false]
          exact h1
        · cases he
/-- A new row. -/
def exNew (H : T AObj) (next : Nat) (elem : TypeId) (l : List Value) : Option (T AObj) :=
  if next < 1073741824 ∧ l.length ≤ 1073741824 then some (H.set next (.cells (T.leaf.fill 0 l) l.length elem false)) else none
theorem exNew_run (h : HR P w0 E H next w) {elem : TypeId} {l l' : List Value} (hl : VRL E l l') {H' : T AObj} (he : exNew H next elem l = some H') :
    ∃ E', (newRow elem l'.toArray).run P w = .ok ⟨w.heap.size, 0, none⟩ (w.alloc (.cells l'.toArray elem)) ∧ E.le E' ∧ HR P w0 E' H' (next + 1) (w.alloc (.cells l'.toArray elem)) ∧ E'.blk next = some w.heap.size ∧ E'.cap next = none ∧
      ∀ i, i < next → H'.get i = H.get i := by
  unfold exNew at he
  split at he
  · rename_i hc
    injection he with he
    subst he
    refine ⟨E.more next w.heap.size none, rfl, Env.le_more h _ _, ?_, by simp [Env.more], by simp [Env.more], fun i hi => by rw [T.get_set _ _ _ hc.1, if_neg (by omega)]⟩
    refine h.new hc.1 ⟨l'.toArray, ⟨_, _, fun _ => .inl rfl, fun _ => rfl, rfl⟩, ?_, fun j v hj hv => ?_⟩
    · simp [sizeOk, Env.more, hl.len]
    · rw [T.get_fill _ _ _ _ (by omega)] at hv
      rw [if_pos (by omega)] at hv
      obtain ⟨v', h1, h2⟩ := hl.get hv
      exact ⟨v', by simpa using h1, h2.mono (Env.le_more h _ _)⟩
  · cases he
end Go.Proofs.YtlkdjdcnbcegeaaGreatDoor.Ev

/-! Values whose addresses are package variables'. -/
namespace Go.Proofs.YtlkdjdcnbcegeaaGreatDoor.Ev
set_option linter.unusedVariables false
set_option linter.unusedSectionVars false
open Go.RowKit
/-! ### values whose addresses are package variables' -/
mutual
def gclean : Value → Bool
  | .bool _ | .int _ _ | .string _ | .pointer none | .slice none _ _ | .map none | .nilFunc | .nilIface => true
  | .func (.func _) ⟨y⟩ ⟨x⟩ => y.isEmpty && gcleanL x
  | .iface _ v => gclean v
  | .agg ⟨x⟩ | .tuple ⟨x⟩ => gcleanL x
  | .pointer (some ⟨g, _, none⟩) => Nat.blt g 48
  | _ => false
def gcleanL : List Value → Bool
  | [] => true
  | v :: x => gclean v && gcleanL x
end
mutual
theorem VR.of_g {E : Env} (hg : ∀ g, g < 48 → E.blk g = some g) : ∀ (v : Value), gclean v = true → VR E v v
  | .bool b, _ => .bool b
  | .int k n, _ => .int k n
  | .string s, _ => .string s
  | .pointer none, _ => .ptr0
  | .slice none n c, _ => .slice0 n c
  | .map none, _ => .map0
  | .nilFunc, _ => .nilFunc
  | .nilIface, _ => .nilIface
  | .func (.func f) ⟨[]⟩ ⟨x⟩, h => .func f .nil (VRL.of_g hg x (by simpa [gclean] using h))
  | .func (.func f) ⟨u :: y⟩ ⟨x⟩, h => by simp [gclean] at h
  | .float _ _, h => by simp [gclean] at h
  | .complex _ _ _, h => by simp [gclean] at h
  | .pointer (some ⟨g, o, none⟩), h => .ptr o (hg g (by simpa [gclean] using h))
  | .pointer (some ⟨g, o, some _⟩), h => by simp [gclean] at h
  | .slice (some _) _ _, h => by simp [gclean] at h
  | .map (some _), h => by simp [gclean] at h
  | .chan _, h => by simp [gclean] at h
  | .func (.method _) _ _, h => by simp [gclean] at h
  | .func (.methodOf _ _) _ _, h => by simp [gclean] at h
  | .func (.via _ _ _ _) _ _, h => by simp [gclean] at h
  | .func (.yield _) _ _, h => by simp [gclean] at h
  | .iface t v, h => .iface t (VR.of_g hg v (by simpa [gclean] using h))
  | .agg ⟨x⟩, h => .agg (VRL.of_g hg x (by simpa [gclean] using h))
  | .tuple ⟨x⟩, h => .tuple (VRL.of_g hg x (by simpa [gclean] using h))
theorem VRL.of_g {E : Env} (hg : ∀ g, g < 48 → E.blk g = some g) : ∀ (x : List Value), gcleanL x = true → VRL E x x
  | [], _ => .nil
  | v :: x, h => by
    simp only [gcleanL, Bool.and_eq_true] at h
    exact .cons (VR.of_g hg v h.1) (VRL.of_g hg x h.2)
end
mutual
theorem VR.eq_of_g {E : Env} (hg : ∀ g, g < 48 → E.blk g = some g) : ∀ {v v' : Value}, VR E v v' → gclean v = true → v' = v
  | _, _, .bool _, _ => rfl
  | _, _, .int _ _, _ => rfl
  | _, _, .string _, _ => rfl
  | _, _, .ptr0, _ => rfl
  | _, _, .ptr o hb, h => by
    rw [hg _ (by simpa [gclean] using h)] at hb
    injection hb with hb
    rw [hb]
  | _, _, .slice0 _ _, _ => rfl
  | _, _, .slicex _ _ _, h => by simp [gclean] at h
  | _, _, .map0, _ => rfl
  | _, _, .func f .nil hl, h => by rw [VRL.eq_of_g hg hl (by simpa [gclean] using h)]
  | _, _, .func f (.cons _ _) hl, h => by simp [gclean] at h
  | _, _, .yield _, h => by simp [gclean] at h
  | _, _, .low _ _, h => by simp [gclean] at h
  | _, _, .nilFunc, _ => rfl
  | _, _, .iface t hv, h => by rw [VR.eq_of_g hg hv (by simpa [gclean] using h)]
  | _, _, .nilIface, _ => rfl
  | _, _, .opq _ _, h => by simp [gclean] at h
  | _, _, .agg hl, h => by rw [VRL.eq_of_g hg hl (by simpa [gclean] using h)]
  | _, _, .tuple hl, h => by rw [VRL.eq_of_g hg hl (by simpa [gclean] using h)]
theorem VRL.eq_of_g {E : Env} (hg : ∀ g, g < 48 → E.blk g = some g) : ∀ {x x' : List Value}, VRL E x x' → gcleanL x = true → x' = x
  | _, _, .nil, _ => rfl
  | _, _, .cons hv hl, h => by
    simp only [gcleanL, Bool.and_eq_true] at h
    rw [VR.eq_of_g hg hv h.1, VRL.eq_of_g hg hl h.2]
end
/-- What a computation that looks at no memory comes to: such a value. -/
def gQ (P : Program) (s : Sem Value) : Option Value :=
  match valQ P s with
  | some v => if gclean v then some v else none
  | none => none
theorem gQ_run {P : Program} {w : World} {E : Env} (hg : ∀ g, g < 48 → E.blk g = some g) {s : Sem Value} {v : Value} (he : gQ P s = some v) : s.run P w = .ok v w ∧ VR E v v := by
  unfold gQ at he
  cases hq : valQ P s with
  | none => rw [hq] at he; cases he
  | some u =>
    rw [hq] at he
    simp only at he
    split at he
    · injection he with he; subst he; exact ⟨valQ_run w _ _ hq, VR.of_g hg _ (by assumption)⟩
    · cases he
end Go.Proofs.YtlkdjdcnbcegeaaGreatDoor.Ev

/-! Our machine's operations on values, and that they stand for the model's. -/
namespace Go.Proofs.YtlkdjdcnbcegeaaGreatDoor.Ev
open Go.RowKit

variable {P : Program} {w0 w : World} {E : Env} {H : T AObj} {next : Nat}

theorem VRL.drop {x x' : List Value} (h : VRL E x x') (n : Nat) : VRL E (x.drop n) (x'.drop n) := by
  induction n generalizing x x' with
  | zero => exact h
  | succ n ih => cases h with
    | nil => exact .nil
    | cons hv hl => exact ih hl
theorem VRL.take {x x' : List Value} (h : VRL E x x') (n : Nat) : VRL E (x.take n) (x'.take n) := by
  induction n generalizing x x' with
  | zero => exact .nil
  | succ n ih => cases h with
    | nil => exact .nil
    | cons hv hl => exact .cons hv (ih hl)
theorem VRL.set {x x' : List Value} (h : VRL E x x') (n : Nat) {v v' : Value} (hv : VR E v v') : VRL E (x.set n v) (x'.set n v') := by
  induction n generalizing x x' with
  | zero => cases h with
    | nil => exact .nil
    | cons _ hl => exact .cons hv hl
  | succ n ih => cases h with
    | nil => exact .nil
    | cons hu hl => exact .cons hu (ih hl)

/-! ### a part of a struct or an array -/
def exPart (P : Program) (t : TypeId) (cs : List Value) (off : Nat) : Option Value :=
  match isAggB P t, P.info? t with
  | some true, some i => some (.agg ((cs.drop off).take i.size).toArray)
  | some false, _ => cs[off]?
  | _, _ => none
theorem exPart_run {t : TypeId} {x x' : List Value} (h : VRL E x x') {off : Nat} {u : Value} (he : exPart P t x off = some u) : ∃ u', (part t x'.toArray off).run P w = .ok u' w ∧ VR E u u' := by
  unfold exPart at he
  cases ha : isAggB P t with
  | none => rw [ha] at he; simp at he
  | some ag =>
    rw [ha] at he
    cases ag with
    | true =>
      cases hi : P.info? t with
      | none => rw [hi] at he; simp at he
      | some i =>
        rw [hi] at he
        simp only at he
        injection he with he
        subst he
        refine ⟨.agg ((x'.drop off).take i.size).toArray, ?_, .agg ((h.drop off).take i.size)⟩
        rw [part, Sem.run_bind, run_isAgg ha]
        simp only [Result.andThen, if_true]
        rw [Sem.run_bind, run_sizeOf w hi]
        simp only [Result.andThen, Program.cellsOf, hi, Option.map_some, Option.getD_some]
        have : x'.toArray.extract off (off + i.size) = ((x'.drop off).take i.size).toArray := by
          apply Array.toList_inj.1
          simp [List.take_drop]
        rw [this]; rfl
    | false =>
      simp only at he
      obtain ⟨u', h1, h2⟩ := h.get he
      refine ⟨u', ?_, h2⟩
      rw [part, Sem.run_bind, run_isAgg ha]
      simp [Result.andThen, h1, Sem.run_pure]
def exField (P : Program) (t : TypeId) (v : Value) (f : Nat) : Option Value :=
  match P.underlying t, v with
  | some (.struct fields), .agg ⟨x⟩ => match fields[f]? with
    | some fd => exPart P fd.type x fd.offset
    | none => none
  | _, _ => none
theorem exField_run {t : TypeId} {v v' u : Value} {f : Nat} (hv : VR E v v') (he : exField P t v f = some u) : ∃ u', (Instr.field t v' f).run P w = .ok u' w ∧ VR E u u' := by
  unfold exField at he
  cases hu : P.underlying t with
  | none => rw [hu] at he; simp at he
  | some d =>
    rw [hu] at he
    cases d <;> try (simp at he; done)
    rename_i fields
    cases hv <;> try (simp at he; done)
    rename_i x x' hx
    simp only at he
    cases hf : fields[f]? with
    | none => rw [hf] at he; simp at he
    | some fd =>
      rw [hf] at he
      simp only at he
      obtain ⟨u', h1, h2⟩ := exPart_run (w := w) hx he
      refine ⟨u', ?_, h2⟩
      rw [Instr.field, Sem.run_bind, run_underlying hu]
      simp [Result.andThen, hf, asAgg, h1]
def exIndex (P : Program) (t : TypeId) (v ix : Value) : Option Value :=
  match P.underlying t, v, ix with
  | some (.array len elem), .agg ⟨x⟩, .int _ i =>
    match P.info? elem with
    | some info => if 0 ≤ i ∧ i < len then exPart P elem x (i.toNat * info.size) else none
    | none => none
  | some .string, .string s, .int _ i =>
    if 0 ≤ i then (match s[i.toNat]? with | some b => some (.int .u8 b.toNat) | none => none) else none
  | _, _, _ => none
theorem exIndex_run {t : TypeId} {v v' ix ix' u : Value} (hv : VR E v v') (hi : VR E ix ix') (he : exIndex P t v ix = some u) : ∃ u', (Instr.index t v' ix').run P w = .ok u' w ∧ VR E u u' := by
  unfold exIndex at he
  cases hu : P.underlying t with
  | none => rw [hu] at he; simp at he
  | some d =>
    rw [hu] at he
    cases d <;> try (simp at he; done)
    · cases hv <;> try (simp at he; done)
      rename_i s
      cases hi <;> try (simp at he; done)
      rename_i k i
      simp only at he
      split at he
      · rename_i h0
        cases hs : s[i.toNat]? with
        | none => rw [hs] at he; simp at he
        | some b =>
          rw [hs] at he
          simp only at he
          injection he with he
          subst he
          refine ⟨_, ?_, .int _ _⟩
          rw [Instr.index, Sem.run_bind]
          simp [asIntOf, Result.andThen, Sem.run_pure, run_underlying hu, h0, hs]
      · cases he
    · rename_i len elem
      cases hv <;> try (simp at he; done)
      rename_i x x' hx
      cases hi <;> try (simp at he; done)
      rename_i k i
      simp only at he
      cases hin : P.info? elem with
      | none => rw [hin] at he; simp at he
      | some info =>
        rw [hin] at he
        simp only at he
        split at he
        · rename_i h0
          obtain ⟨u', h1, h2⟩ := exPart_run (w := w) hx he
          refine ⟨u', ?_, h2⟩
          rw [Instr.index, Sem.run_bind]
          simp [asIntOf, Result.andThen, Sem.run_pure, run_underlying hu, h0, run_sizeOf w hin, Program.cellsOf, hin, h1]
        · cases he
def exExtract (v : Value) (i : Nat) : Option Value :=
  match v with
  | .tuple ⟨x⟩ => x[i]?
  | _ => none
theorem exExtract_run {v v' u : Value} {i : Nat} (hv : VR E v v') (he : exExtract v i = some u) : ∃ u', (Instr.extract v' i).run P w = .ok u' w ∧ VR E u u' := by
  cases hv <;> try (simp [exExtract] at he; done)
  rename_i x x' hx
  simp only [exExtract] at he
  obtain ⟨u', h1, h2⟩ := hx.get he
  exact ⟨u', by simp [Instr.extract, h1, Sem.run_pure], h2⟩
def exIface (P : Program) (t : TypeId) (v : Value) : Option Value :=
  match P.underlying t with
  | some (.interface _) => none
  | some _ => some (.iface t v)
  | none => none
theorem exIface_run {t : TypeId} {v v' u : Value} (hv : VR E v v') (he : exIface P t v = some u) : ∃ u', (Instr.makeInterface t v').run P w = .ok u' w ∧ VR E u u' := by
  unfold exIface at he
  cases hu : P.underlying t with
  | none => rw [hu] at he; simp at he
  | some d =>
    rw [hu] at he
    refine ⟨.iface t v', ?_, ?_⟩
    · rw [Instr.makeInterface, Sem.run_bind, run_underlying hu]
      cases d <;> first | (simp at he; done) | rfl
    · cases d <;> first | (simp at he; done) | (simp only [Option.some.injEq] at he; subst he; exact .iface t hv)
def exFieldAddr (P : Program) (s : TypeId) (v : Value) (f : Nat) : Option Value :=
  match P.underlying s, v with
  | some (.struct fields), .pointer (some ⟨i, o, none⟩) => match fields[f]? with
    | some fd => match P.info? fd.type with
      | some info => if info.size = 0 then none else some (.pointer (some ⟨i, o + fd.offset, none⟩))
      | none => none
    | none => none
  | _, _ => none
theorem exFieldAddr_run {s : TypeId} {v v' u : Value} {f : Nat} (hv : VR E v v') (he : exFieldAddr P s v f = some u) : ∃ u', (Instr.fieldAt s v' f).run P w = .ok u' w ∧ VR E u u' := by
  unfold exFieldAddr at he
  cases hu : P.underlying s with
  | none => rw [hu] at he; simp at he
  | some d =>
    rw [hu] at he
    cases d <;> try (simp at he; done)
    rename_i fields
    cases hv <;> try (simp at he; done)
    rename_i i b o hb
    simp only at he
    cases hf : fields[f]? with
    | none => rw [hf] at he; simp at he
    | some fd =>
      rw [hf] at he
      simp only at he
      cases hi : P.info? fd.type with
      | none => rw [hi] at he; simp at he
      | some info =>
        rw [hi] at he
        simp only at he
        split at he
        · cases he
        · rename_i h0
          injection he with he
          subst he
          refine ⟨_, ?_, .ptr _ hb⟩
          rw [Instr.fieldAt, Sem.run_bind, run_underlying hu]
          simp [Result.andThen, hf, Instr.sureAddr, fieldPlace, run_sizeOf w hi, Program.cellsOf, hi, h0, add_is]
def exIndexAddr (P : Program) (t : TypeId) (v ix : Value) : Option Value :=
  match P.underlying t, v, ix with
  | some (.array len elem), .pointer (some ⟨i, o, none⟩), .int _ k =>
    match P.info? elem with
    | some info => if 0 ≤ k ∧ k < len then some (.pointer (some ⟨i, o + k.toNat * info.size, none⟩)) else none
    | none => none
  | some (.slice elem), .slice (some ⟨i, o, none⟩) n _, .int _ k =>
    match P.info? elem with
    | some info => if 0 ≤ k ∧ k < n then some (.pointer (some ⟨i, o + k.toNat * info.size, none⟩)) else none
    | none => none
  | _, _, _ => none
theorem exIndexAddr_run {t : TypeId} {v v' ix ix' u : Value} (hv : VR E v v') (hi : VR E ix ix') (he : exIndexAddr P t v ix = some u) : ∃ u', (Instr.indexAt t v' ix').run P w = .ok u' w ∧ VR E u u' := by
  unfold exIndexAddr at he
  cases hu : P.underlying t with
  | none => rw [hu] at he; simp at he
  | some d =>
    rw [hu] at he
    cases d <;> try (simp at he; done)
    · rename_i elem
      cases hv <;> try (simp at he; done)
      rename_i i b o n c c' hb hcap
      cases hi <;> try (simp at he; done)
      rename_i k q
      simp only at he
      cases hin : P.info? elem with
      | none => rw [hin] at he; simp at he
      | some info =>
        rw [hin] at he
        simp only at he
        split at he
        · rename_i h0
          injection he with he
          subst he
          refine ⟨_, ?_, .ptr _ hb⟩
          rw [Instr.indexAt, Sem.run_bind]
          simp [asIntOf, Result.andThen, Sem.run_pure, run_underlying hu, h0, run_sizeOf w hin, Program.cellsOf, hin, add_is]
        · cases he
    · rename_i len elem
      cases hv <;> try (simp at he; done)
      rename_i i b o hb
      cases hi <;> try (simp at he; done)
      rename_i k q
      simp only at he
      cases hin : P.info? elem with
      | none => rw [hin] at he; simp at he
      | some info =>
        rw [hin] at he
        simp only at he
        split at he
        · rename_i h0
          injection he with he
          subst he
          refine ⟨_, ?_, .ptr _ hb⟩
          rw [Instr.indexAt, Sem.run_bind]
          simp [asIntOf, Result.andThen, Sem.run_pure, run_underlying hu, h0, run_sizeOf w hin, Program.cellsOf, hin, add_is, Instr.sureAddr]
        · cases he
/-- The second answer of what does not hold. -/
def exNot (P : Program) (t : TypeId) : Option Value :=
  match P.info? t with
  | some it => match it.zero with
    | some z => if clean z then some (.tuple ⟨[z, .bool false]⟩) else none
    | none => none
  | none => none
theorem exNot_run {t : TypeId} {u : Value} (he : exNot P t = some u) : ∃ z : Value, (zeroValue t).run P w = .ok z w ∧ u = .tuple #[z, .bool false] ∧ VR E u u := by
  unfold exNot at he
  cases hi : P.info? t with
  | none => rw [hi] at he; cases he
  | some it =>
    rw [hi] at he
    simp only at he
    cases hz : it.zero with
    | none => rw [hz] at he; cases he
    | some z =>
      rw [hz] at he
      simp only at he
      split at he
      · rename_i hc
        injection he with he
        subst he
        exact ⟨z, by simp [zeroValue, run_typeInfo w hi, hz], rfl, .tuple (.cons (VR.of_clean E z hc) (.cons (.bool false) .nil))⟩
      · cases he
def exHold (ok : Bool) (v : Value) : Value := if ok then .tuple ⟨[v, .bool true]⟩ else v
theorem exHold_VR {ok : Bool} {v v' : Value} (h : VR E v v') : VR E (exHold ok v) (if ok then .tuple #[v', .bool true] else v') := by
  cases ok
  · exact h
  · exact .tuple (.cons h (.cons (.bool true) .nil))
/-- Does a type lack one of an interface's methods? -/
def missed (want : Array (String × TypeId)) (got : Array Method) : Bool := want.toList.any fun p => !(got.toList.any fun m => m.name == p.1 && m.sig == p.2)
theorem missed_list (want : Array (String × TypeId)) (got : Array Method) : missed want got = !((want.toList.filter fun (name, sig) => !got.any fun m => m.name == name && m.sig == sig).map (·.1)).isEmpty := by
  unfold missed
  cases want with
  | mk l =>
    induction l with
    | nil => rfl
    | cons p r ih =>
      simp only [List.any_cons, List.filter_cons, ← Array.any_toList] at ih ⊢
      cases hc : (!got.toList.any fun m => m.name == p.1 && m.sig == p.2) with
      | true => simp
      | false => simpa using ih
theorem least_cons (s : String) (r : List String) : ∃ x, Instr.least (s :: r) = some x := ⟨_, rfl⟩
theorem missed_false {want : Array (String × TypeId)} {got : Array Method} (h : missed want got = false) : Instr.missingMethod want got = none := by
  rw [missed_list] at h
  unfold Instr.missingMethod
  generalize ((want.toList.filter fun (name, sig) => !got.any fun m => m.name == name && m.sig == sig).map (·.1)) = l at h ⊢
  cases l with
  | nil => rfl
  | cons a r => simp at h
theorem missed_true {want : Array (String × TypeId)} {got : Array Method} (h : missed want got = true) : ∃ s, Instr.missingMethod want got = some s := by
  rw [missed_list] at h
  unfold Instr.missingMethod
  generalize ((want.toList.filter fun (name, sig) => !got.any fun m => m.name == name && m.sig == sig).map (·.1)) = l at h ⊢
  cases l with
  | nil => simp at h
  | cons a r =>
    simp only [List.partition_eq_filter_filter]
    cases hx : List.filter (not ∘ fun x : String => x.contains '.') (a :: r) with
    | cons b q => obtain ⟨x, e⟩ := least_cons b q; exact ⟨x, by simp [e]⟩
    | nil =>
      cases hy : List.filter (fun x : String => x.contains '.') (a :: r) with
      | cons b q => obtain ⟨x, e⟩ := least_cons ((b.splitOn ".").getLastD b) (q.map fun id => (id.splitOn ".").getLastD id); exact ⟨x, by simp only [List.map_cons]; rw [e]; rfl⟩
      | nil =>
        have h1 := List.filter_eq_nil_iff.1 hx a (List.mem_cons_self ..)
        have h2 := List.filter_eq_nil_iff.1 hy a (List.mem_cons_self ..)
        simp at h1 h2
        exact absurd h1 (by simp [h2])
/-- A type assertion that holds, or one with a second answer that does not. -/
def exAssert (P : Program) (v : Value) (t : TypeId) (ok : Bool) : Option Value :=
  match P.underlying t, v with
  | some (.interface _), .nilIface => if ok then exNot P t else none
  | some (.interface want), .iface d _ =>
    match P.info? d with
    | some info => match missed want info.methods with
      | false => some (exHold ok v)
      | true => if ok then exNot P t else none
    | none => none
  | some (.interface _), _ => none
  | some _, .nilIface => if ok then exNot P t else none
  | some _, .iface d u => if d = t then some (exHold ok u) else if ok then exNot P t else none
  | _, _ => none
theorem exAssert_run {v v' u : Value} {xt t : TypeId} {ok : Bool} (hv : VR E v v') (he : exAssert P v t ok = some u) : ∃ u', (Instr.typeAssert v' xt t ok).run P w = .ok u' w ∧ VR E u u' := by
  have hnot : ∀ (s d : Option TypeId) (m : String), (if ok then exNot P t else none) = some u → ∃ u', ((if ok then (do pure (.tuple #[← zeroValue t, .bool false])) else runtimePanic (.typeAssertion s d t m)) : Sem Value).run P w = .ok u' w ∧ VR E u u' := by
    intro s d m h
    cases ok with
    | false => cases h
    | true =>
      simp only [if_true] at h
      obtain ⟨z, h1, h2, h3⟩ := exNot_run (w := w) (E := E) h
      exact ⟨u, by simp [h1, h2], h3⟩
  unfold exAssert at he
  cases hu : P.underlying t with
  | none => rw [hu] at he; simp at he
  | some d =>
    rw [hu] at he
    by_cases hif : ∃ ms, d = .interface ms
    · obtain ⟨ms, rfl⟩ := hif
      cases hv <;> try (simp at he; done)
      · rename_i dt x x' hx
        simp only at he
        cases hi : P.info? dt with
        | none => rw [hi] at he; simp at he
        | some info =>
          rw [hi] at he
          simp only at he
          cases hms : missed ms info.methods with
          | false =>
            have hm := missed_false hms
            rw [hms] at he
            simp only [Option.some.injEq] at he
            subst he
            refine ⟨_, ?_, exHold_VR (.iface dt hx)⟩
            rw [Instr.typeAssert, Sem.run_bind, run_underlying hu]
            simp [Result.andThen, run_typeInfo w hi, hm, Sem.run_pure]
          | true =>
            obtain ⟨m, hm⟩ := missed_true hms
            rw [hms] at he
            simp only at he
            obtain ⟨u', h1, h2⟩ := hnot none (some dt) m he
            refine ⟨u', ?_, h2⟩
            rw [Instr.typeAssert, Sem.run_bind, run_underlying hu]
            simp only [Result.andThen, Sem.run_bind, run_typeInfo w hi, hm]
            exact h1
      · simp only at he
        obtain ⟨u', h1, h2⟩ := hnot none none "" he
        refine ⟨u', ?_, h2⟩
        rw [Instr.typeAssert, Sem.run_bind, run_underlying hu]
        simp only [Result.andThen]
        exact h1
    · cases hv
      case iface dt x x' hx =>
        have he' : (if dt = t then some (exHold ok x) else if ok then exNot P t else none) = some u := by
          cases d <;> first | exact he | exact absurd ⟨_, rfl⟩ hif
        by_cases hd : dt = t
        · rw [if_pos hd] at he'
          injection he' with he'
          subst he'
          refine ⟨_, ?_, exHold_VR hx⟩
          rw [Instr.typeAssert, Sem.run_bind, run_underlying hu]
          simp only [Result.andThen]
          cases d <;> first | exact absurd ⟨_, rfl⟩ hif | (simp [hd, Sem.run_pure])
        · rw [if_neg hd] at he'
          obtain ⟨u', h1, h2⟩ := hnot (some xt) (some dt) "" he'
          refine ⟨u', ?_, h2⟩
          rw [Instr.typeAssert, Sem.run_bind, run_underlying hu]
          simp only [Result.andThen]
          cases d <;> first | exact absurd ⟨_, rfl⟩ hif | (simp only [hd, if_false]; exact h1)
      case nilIface =>
        have he' : (if ok then exNot P t else none) = some u := by
          cases d <;> first | exact he | exact absurd ⟨_, rfl⟩ hif
        obtain ⟨u', h1, h2⟩ := hnot (some xt) none "" he'
        refine ⟨u', ?_, h2⟩
        rw [Instr.typeAssert, Sem.run_bind, run_underlying hu]
        simp only [Result.andThen]
        cases d <;> first | exact absurd ⟨_, rfl⟩ hif | exact h1
      all_goals (exfalso; cases d <;> first | exact absurd ⟨_, rfl⟩ hif | (simp at he; done))

/-! ### structs and arrays that are built -/
theorem fill_one (off : Nat) : ∀ (x x' : List Value) (k : Nat) (a a' : Array Value), VRL E x x' → VRL E a.toList a'.toList →
    VRL E ((x.zipIdx k).foldl (fun cs (p : Value × Nat) => cs.setIfInBounds (off + p.2) p.1) a).toList ((x'.zipIdx k).foldl (fun cs (p : Value × Nat) => cs.setIfInBounds (off + p.2) p.1) a').toList := by
  intro x
  induction x with
  | nil => intro x' k a a' hx ha; cases hx; exact ha
  | cons v x ih =>
    intro x' k a a' hx ha
    cases hx with
    | cons hv hx =>
      simp only [List.zipIdx_cons, List.foldl_cons]
      exact ih _ (k + 1) _ _ hx (by simp only [Array.toList_setIfInBounds]; exact ha.set _ hv)
inductive PR (E : Env) : List (Nat × Value) → List (Nat × Value) → Prop where
  | nil : PR E [] []
  | cons (i : Nat) {v v' : Value} {x x' : List (Nat × Value)} (hv : VR E v v') (h : PR E x x') : PR E ((i, v) :: x) ((i, v') :: x')
theorem fill_VR (place : Nat → Option (Nat × Nat)) : ∀ (ps ps' : List (Nat × Value)) (a a' out : Array Value), PR E ps ps' → VRL E a.toList a'.toList → Instr.fill place a ps = some out →
    ∃ out', Instr.fill place a' ps' = some out' ∧ VRL E out.toList out'.toList := by
  intro ps
  induction ps with
  | nil => intro ps' a a' out h ha hf; cases h; simp only [Instr.fill, Option.some.injEq] at hf; subst hf; exact ⟨a', rfl, ha⟩
  | cons p ps ih =>
    intro ps' a a' out h ha hf
    cases h with
    | cons i hv h =>
      rename_i v v' x'
      simp only [Instr.fill] at hf ⊢
      cases hp : place i with
      | none => rw [hp] at hf; cases hf
      | some q =>
        obtain ⟨off, size⟩ := q
        rw [hp] at hf
        have hc := hv.cells
        have hs : v'.cells.size = v.cells.size := by have := hc.len; simpa using this
        have hs2 : a'.size = a.size := by have := ha.len; simpa using this
        simp only [hs, hs2] at hf ⊢
        split at hf
        · cases hf
        · rename_i hcond
          rw [if_neg hcond]
          refine ih _ _ _ out h ?_ hf
          have := fill_one off v.cells.toList v'.cells.toList 0 a a' hc ha
          have e : ∀ (y : Array Value) (b : Array Value), y.zipIdx.foldl (fun cs (p : Value × Nat) => cs.setIfInBounds (off + p.2) p.1) b = (y.toList.zipIdx 0).foldl (fun cs (p : Value × Nat) => cs.setIfInBounds (off + p.2) p.1) b := by
            intro y b; rw [← Array.foldl_toList, Array.toList_zipIdx]
          rw [← e, ← e] at this
          exact this
theorem run_buildE {t : TypeId} {ps ps' : Array (Nat × Value)} (h : PR E ps.toList ps'.toList) {z : Value} {info : TypeInfo} (hi : P.info? t = some info) (hz : info.zero = some z) (hc : cleanL z.cells.toList = true) {out : Array Value} (hb : P.built t ps.toList = some out) :
    ∃ out', (Instr.build t ps').run P w = .ok (.agg out') w ∧ VRL E out.toList out'.toList := by
  have hzz := VRL.of_clean E _ hc
  have key : ∃ out', P.built t ps'.toList = some out' ∧ VRL E out.toList out'.toList := by
    unfold Program.built at hb ⊢
    rw [hi] at hb ⊢
    cases hu : P.underlying t with
    | none => rw [hu] at hb; simp at hb
    | some d =>
      rw [hu] at hb
      cases d <;> try (simp at hb; done)
      · rename_i n e
        simp only [hz] at hb ⊢
        cases he : P.info? e with
        | none => rw [he] at hb; simp at hb
        | some ie => rw [he] at hb; simp only at hb ⊢; exact fill_VR _ _ _ _ _ _ h hzz hb
      · rename_i fields
        simp only [hz] at hb ⊢
        cases hp : fields.toList.mapM (fun f => (P.info? f.type).map fun i => (f.offset, i.size)) with
        | none => rw [hp] at hb; simp at hb
        | some places => rw [hp] at hb; simp only at hb ⊢; exact fill_VR _ _ _ _ _ _ h hzz hb
  obtain ⟨out', h1, h2⟩ := key
  exact ⟨out', run_build w t ps' out' h1, h2⟩
end Go.Proofs.YtlkdjdcnbcegeaaGreatDoor.Ev

/-! Our machine's slices: cuts, rows that are made, appends and copies, and that they stand for the model's. -/
namespace Go.Proofs.YtlkdjdcnbcegeaaGreatDoor.Ev
open Go.RowKit

variable {P : Program} {w0 w : World} {E : Env} {H : T AObj} {next : Nat}

/-- A row of elements of so many cells: how many, and their cells. -/
def exRow (H : T AObj) (size : Nat) : Value → Option (Nat × List Value)
  | .slice none n _ => if n = 0 then some (0, []) else none
  | .slice (some ⟨i, o, none⟩) n _ =>
    match H.get i with
    | some (.cells cs nb _ _) => if o + n * size ≤ nb then (cs.take o (n * size)).map fun l => (n, l) else none
    | _ => none
  | .string s => if size = 1 then some (s.size, s.data.toList.map fun b => .int .u8 b.toNat) else none
  | _ => none
theorem exRow_run (h : HR P w0 E H next w) {size : Nat} {v v' : Value} {n : Nat} {l : List Value} (hv : VR E v v') (he : exRow H size v = some (n, l)) :
    (∀ W, (Builtin.lenOf v').run P W = .ok n W) ∧ l.length = n * size ∧ ∃ l' : List Value, VRL E l l' ∧ ∀ W : World, (∀ i o b, H.get i = some o → E.blk i = some b → W.heap[b]? = w.heap[b]?) → (Builtin.firstCells size n v').run P W = .ok l'.toArray W := by
  cases hv <;> try (simp [exRow] at he; done)
  · rename_i s
    simp only [exRow] at he
    split at he
    · rename_i hs
      simp only [Option.some.injEq, Prod.mk.injEq] at he
      obtain ⟨rfl, rfl⟩ := he
      refine ⟨fun W => rfl, by subst hs; simp, _, VRL.of_clean E _ ?_, fun W _ => ?_⟩
      · induction s.data.toList with
        | nil => rfl
        | cons a l ih => simp [cleanL, clean, ih]
      · have : s.extract 0 s.size = s := by
          cases s with | mk d => simp [ByteArray.extract, ByteArray.size, ByteArray.copySlice]
        simp [Builtin.firstCells, this, Sem.run_pure]
        apply Array.toList_inj.1; simp
    · cases he
  · rename_i n' c
    simp only [exRow] at he
    split at he
    · rename_i hn
      simp only [Option.some.injEq, Prod.mk.injEq] at he
      obtain ⟨rfl, rfl⟩ := he
      subst hn
      exact ⟨fun W => rfl, by simp, [], .nil, fun W _ => rfl⟩
    · cases he
  · rename_i i b o n' c c' hb hc
    simp only [exRow] at he
    cases hg : H.get i with
    | none => rw [hg] at he; simp at he
    | some ob =>
      cases ob with
      | map _ _ => rw [hg] at he; simp at he
      | iter _ _ => rw [hg] at he; simp at he
      | miter _ _ _ _ => rw [hg] at he; simp at he
      | loop _ _ _ _ _ _ _ _ => rw [hg] at he; simp at he
      | dfr => rw [hg] at he; simp at he
      | cells cs nb elem g =>
        rw [hg] at he
        simp only at he
        split at he
        · rename_i hn
          cases ht : cs.take o (n' * size) with
          | none => rw [ht] at he; cases he
          | some l0 =>
            rw [ht] at he
            simp only [Option.map_some, Option.some.injEq, Prod.mk.injEq] at he
            obtain ⟨rfl, rfl⟩ := he
            obtain ⟨hlen, hget⟩ := T.take_spec _ _ _ _ ht
            obtain ⟨l', h1, h2⟩ := h.loadL (P := P) hb hg hn ht
            refine ⟨fun W => rfl, hlen, l', h2, fun W hW => ?_⟩
            -- the same cells in W
            have hll := h2.len
            have hcell : ∀ j v, l'[j]? = some v → W.cell? ((⟨b, o, none⟩ : Addr).add j) = some v := by
              intro j v hj
              have hjl : j < l0.length := by have := (List.getElem?_eq_some_iff.1 hj).1; omega
              have h0 : l0[j]? = some l0[j] := List.getElem?_eq_getElem hjl
              obtain ⟨v', e1, _, _⟩ := h.cell hb hg (o := o + j) (by omega) (hget j _ h0)
              rw [add_is]
              have hWb := hW i _ b hg hb
              have : W.cell? ⟨b, o + j, none⟩ = w.cell? ⟨b, o + j, none⟩ := by simp [World.cell?, hWb]
              rw [this]
              -- from the load
              have hrun := run_loadCells_list (P := P) (w := w) ⟨b, o, none⟩ ((List.range (n' * size)).map fun j => (w.cell? ⟨b, o + j, none⟩).getD Go.undef) (fun j v hv => by
                rw [add_is]
                have hj' : j < n' * size := by have := (List.getElem?_eq_some_iff.1 hv).1; simpa using this
                have h0' : l0[j]? = some l0[j] := List.getElem?_eq_getElem (by omega)
                obtain ⟨u', k1, _, _⟩ := h.cell hb hg (o := o + j) (by omega) (hget j _ h0')
                simp [hj', k1] at hv
                rw [k1, ← hv])
              rw [List.length_map, List.length_range, h1] at hrun
              injection hrun with hrun _
              have hl' := congrArg Array.toList hrun
              simp only [] at hl'
              rw [hl'] at hj
              simp [show j < n' * size by omega, e1] at hj
              rw [e1, ← hj]
            have := run_loadCells_list (P := P) (w := W) ⟨b, o, none⟩ l' hcell
            simp only [Builtin.firstCells]
            rw [show n' * size = l'.length by omega]
            exact this
        · cases he

/-! ### append -/
section
variable {t tx ty e : TypeId} {info : TypeInfo} {dx : TypeDesc} {x' : Value} {m : Nat} {news : List Value}
theorem run_app_fits (ht : P.underlying t = some (.slice e)) (hi : P.info? e = some info) (hx : P.underlying tx = some dx) (hnz : ∀ k, dx ≠ .int k)
    (hl : ∀ W, (Builtin.lenOf x').run P W = .ok m W) (hf : (Builtin.firstCells info.size m x').run P w = .ok news.toArray w) {b o n c : Nat} (hc : n + m ≤ c) {w1 : World}
    (hst : (storeCells ⟨b, o + n * info.size, none⟩ news).run P w = .ok () w1) :
    (Builtin.append_ #[t, tx] ty #[.slice (some ⟨b, o, none⟩) n c, x']).run P w = .ok (.slice (some ⟨b, o, none⟩) (n + m) c) w1 := by
  simp [Builtin.append_, run_underlying ht, run_underlying hx, sizeOf, typeInfo, hi, hl, hc, hf, add_is, hst]
theorem run_app_grows {z : Value} (ht : P.underlying t = some (.slice e)) (hi : P.info? e = some info) (hzz : info.zero = some z) (hx : P.underlying tx = some dx) (hnz : ∀ k, dx ≠ .int k)
    (hl : ∀ W, (Builtin.lenOf x').run P W = .ok m W) {A : Option Addr} {n c : Nat} {olds : List Value} (hfo : (Builtin.firstCells info.size n (.slice A n c)).run P w.drew = .ok olds.toArray w.drew) (hf : (Builtin.firstCells info.size m x').run P w.drew = .ok news.toArray w.drew) (hc : c < n + m)
    (h1 : n + m ≤ 1048576) (h2 : info.bytes ≤ 1048576) :
    ∃ C, n + m ≤ C ∧ (Builtin.append_ #[t, tx] ty #[.slice A n c, x']).run P w = .ok (.slice (some ⟨w.heap.size, 0, none⟩) (n + m) C) (w.drew.alloc (.cells (olds.toArray ++ news.toArray ++ Builtin.zeroCells z.cells (C - (n + m))) e)) := by
  have hn : ¬ (n + m ≤ c) := by omega
  have h63 : ¬ (9223372036854775807 < ((n : Int) + (m : Int))) := by omega
  have hle := nextslicecap_le hc
  have h48 : ¬ (281474976710656 < Builtin.nextslicecap (n + m) c * info.bytes) := by
    have := Nat.mul_le_mul hle h2
    have : 2 * (n + m) * 1048576 ≤ 2 * 1048576 * 1048576 := Nat.mul_le_mul (Nat.mul_le_mul (Nat.le_refl 2) h1) (Nat.le_refl _)
    omega
  refine ⟨(Question.appendCap (n + m) c e).cut (w.tape w.drawn (.appendCap (n + m) c e)), by simp [Question.cut], ?_⟩
  simp [Builtin.append_, run_underlying ht, run_underlying hx, sizeOf, typeInfo, zeroValue, hi, hzz, hl, hn, h63, h48, Question.forced, hf, hfo, newRow]
  congr 2
  apply Array.ext'
  simp [List.append_assoc]
end
end Go.Proofs.YtlkdjdcnbcegeaaGreatDoor.Ev

/-! Our machine's append: the memory behind it. -/
namespace Go.Proofs.YtlkdjdcnbcegeaaGreatDoor.Ev
open Go.RowKit

variable {P : Program} {w0 w : World} {E : Env} {H : T AObj} {next : Nat}

theorem HR.grew (h : HR P w0 E H next w) (hn : next < 1073741824) {olds olds' news news' : List Value} (ho : VRL E olds olds') (hw : VRL E news news') {elem size k C : Nat} {z : Array Value} {tr : T Value} (htr : ∀ j v, j < k * size → tr.get j = some v → (olds ++ news)[j]? = some v)
    (hl : olds.length + news.length = k * size) (hC : k ≤ C) (hz : z.size = size) (hs : 0 < size) (hce : P.cellsOf elem = size) :
    HR P w0 (E.more next w.heap.size (some (C, size))) (H.set next (.cells tr (k * size) elem true)) (next + 1)
      (w.drew.alloc (.cells (olds'.toArray ++ news'.toArray ++ Builtin.zeroCells z (C - k)) elem)) := by
  have hx := ho.append hw
  have hol := ho.len
  have hwl := hw.len
  refine HR.new (w := w.drew) h.drew hn ⟨_, ⟨_, _, fun _ => .inl rfl, fun _ => rfl, rfl⟩, ?_, fun j v hj hv => ?_⟩
  · simp only [sizeOk, Env.more, if_true]
    have e1 : (olds'.toArray ++ news'.toArray ++ Builtin.zeroCells z (C - k)).size = C * size := by
      simp only [Array.size_append, List.size_toArray, Builtin.zeroCells, Array.size_map, Array.size_range, hol, hwl, hl, hz]
      rw [← Nat.add_mul]; congr 1; omega
    rw [e1]
    exact ⟨Nat.mul_le_mul_right _ hC, rfl, hs, trivial, hce⟩
  · obtain ⟨v', h1, h2⟩ := hx.get (htr j v hj hv)
    refine ⟨v', ?_, h2.mono (Env.le_more (w := w.drew) h.drew _ _)⟩
    have hj2 : j < (olds' ++ news').length := (List.getElem?_eq_some_iff.1 (by simpa using h1)).1
    rw [Array.getElem?_append_left (by simpa using hj2)]
    simpa using h1

theorem run_storeCells_fz {one : Nat} (g o : Nat) (t : TypeId) {fz : Nat × Nat} : ∀ (vs : List Value) (i : Nat) (cur : Array Value) (w : World), w.heap[g]? = some (.cells cur t fz) → fzOK one fz cur.size → o + i + vs.length ≤ cur.size → (∀ v ∈ vs, v.oneCell' = true) →
    (storeCells ⟨g, o, none⟩ vs i).run P w = .ok () (w.setRow g (cur.toList.take (o + i) ++ vs ++ cur.toList.drop (o + i + vs.length)).toArray)
  | [], i, cur, w, hg, _, _, _ => by
    simp only [storeCells, List.append_nil, List.length_nil, Nat.add_zero, List.take_append_drop, Array.toArray_toList]
    rw [setRow_self w g cur t fz hg]
    rfl
  | v :: rest, i, cur, w, hg, hz, hl, h1 => by
    have hi : o + i < cur.size := by simp at hl; omega
    have hcell : w.cell? ⟨g, o + i, none⟩ = some cur[o + i] := by simp [World.cell?, hg, hi]
    have hfro : w.frozen? ⟨g, o + i, none⟩ = false := frozen_free hg hz hi
    have hst : (store ((⟨g, o, none⟩ : Addr).add i) v).run P w = .ok () (w.setRow g (cur.setIfInBounds (o + i) v)) := by
      rw [add_is, run_store P w _ v _ (h1 v (by simp)), hcell]
      simp [hfro, setCell_eq_setRow w g (o + i) cur t fz v hg]
    have ih := run_storeCells_fz g o t rest (i + 1) (cur.setIfInBounds (o + i) v) (w.setRow g (cur.setIfInBounds (o + i) v)) (setRow_heap w g cur _ t _ hg) (by simpa using hz) (by simp at hl ⊢; omega) (fun x hx => h1 x (by simp [hx]))
    simp only [storeCells, Sem.run_bind, hst, Result.andThen_ok, ih, setRow_setRow]
    congr 3
    have e := list_seg_step cur.toList (o + i) v rest (by simp at hl ⊢; omega)
    simpa [Array.toList_setIfInBounds, Nat.add_assoc] using e
theorem HR.regrow (h : HR P w0 E H next w) (hn : next < 1073741824) {i b nb elem C s : Nat} {cs : T Value} {arr : Array Value} (hb : E.blk i = some b) (hcap : E.cap i = some (C, s)) (hg : H.get i = some (.cells cs nb elem true))
    {fz : Nat × Nat} (hr : w.heap[b]? = some (.cells arr elem fz)) (hfz : fzOK (P.cellsOf elem) fz arr.size) {news news' : List Value} (hw : VRL E news news') (hfit : nb + news.length ≤ C * s) (hL : nb + news.length ≤ 1073741824) (h64 : 64 ≤ i) (hi : i < 1073741824) :
    HR P w0 (E.more next b (some (C, s))) ((H.del i).set next (.cells (cs.fill nb news) (nb + news.length) elem true)) (next + 1)
      (w.setRow b (arr.toList.take (nb + 0) ++ news' ++ arr.toList.drop (nb + 0 + news'.length)).toArray) := by
  have hd := h.dom i b hb
  have hwl := hw.len
  obtain ⟨b', r, h1, h2, arr', ⟨fz', elem', hz', hel, rfl⟩, hs, hc⟩ := h.obj hb hg
  obtain rfl : b = b' := by rw [hb] at h1; injection h1
  obtain rfl : arr = arr' := by rw [hr] at h2; injection h2 with h2; injection h2
  simp only [sizeOk, hcap] at hs
  obtain ⟨s1, s2, s3, _, s5⟩ := hs
  have hle : E.le (E.more next b (some (C, s))) := Env.le_more h b _
  have hbk : ∀ j c, (E.more next b (some (C, s))).blk j = some c → (j = next ∧ c = b) ∨ (j ≠ next ∧ E.blk j = some c) := by
    intro j c e
    simp only [Env.more] at e
    split at e
    · injection e with e; exact .inl ⟨‹_›, e.symm⟩
    · exact .inr ⟨‹_›, e⟩
  have hget : ∀ j o, j ≠ next → ((H.del i).set next (.cells (cs.fill nb news) (nb + news.length) elem true)).get j = some o → j ≠ i ∧ H.get j = some o := by
    intro j o hj e
    rw [T.get_set _ _ _ hn, if_neg hj, T.get_del _ _ hi] at e
    split at e
    · cases e
    · exact ⟨‹_›, e⟩
  refine ⟨h.below.trans ⟨rfl, rfl, rfl, by simp, fun k hk => setRow_other w b k _ (by have := (hd.2 h64).1; omega)⟩, ?_, fun g hg => (hle.to g g (h.glob g hg)).1, ?_, fun i hi => ?_, ?_⟩
  · intro j c e
    rw [setRow_size]
    rcases hbk j c e with ⟨rfl, rfl⟩ | ⟨_, e⟩
    · exact ⟨by omega, fun _ => hd.2 h64⟩
    · have := h.dom j c e; omega
  · intro j k o1 o2 c g1 g2 e1 e2
    rcases hbk j c e1 with ⟨rfl, rfl⟩ | ⟨hj, e1'⟩ <;> rcases hbk k _ e2 with ⟨rfl, hc2⟩ | ⟨hk, e2'⟩
    · rfl
    · obtain ⟨hki, gk⟩ := hget k o2 hk g2
      exact absurd (h.inj k i _ _ _ gk hg e2' hb) hki
    · subst hc2
      obtain ⟨hji, gj⟩ := hget j o1 hj g1
      exact absurd (h.inj j i _ _ _ gj hg e1' hb) hji
    · exact h.inj j k o1 o2 c (hget j o1 hj g1).2 (hget k o2 hk g2).2 e1' e2'
  · have := h.ph i hi
    refine ⟨by omega, ?_⟩
    simp only [Env.more]
    rw [if_neg (by omega)]
    exact this.2
  · intro j o g1 hp
    by_cases hj : j = next
    · subst hj
      rw [T.get_set _ _ _ hn, if_pos rfl] at g1
      injection g1 with g1
      subst g1
      refine ⟨b, _, by simp [Env.more], setRow_heap w b arr _ elem fz hr, _, ⟨fz, elem, ?_, fun _ => rfl, rfl⟩, ?_, fun q v hq hv => ?_⟩
      · have : (arr.toList.take (nb + 0) ++ news' ++ arr.toList.drop (nb + 0 + news'.length)).toArray.size = arr.size := by
          simp only [List.size_toArray, List.length_append, List.length_take, List.length_drop, Array.length_toList]; omega
        intro _; rw [this]; exact hfz
      · simp only [sizeOk, Env.more, if_true]
        refine ⟨?_, ?_, s3, trivial, s5⟩
        · simp only [List.size_toArray, List.length_append, List.length_take, List.length_drop, Array.length_toList]; omega
        · simp only [List.size_toArray, List.length_append, List.length_take, List.length_drop, Array.length_toList]; omega
      · rw [T.get_fill _ _ _ _ (by omega)] at hv
        by_cases hqn : nb ≤ q ∧ q < nb + news.length
        · rw [if_pos hqn] at hv
          obtain ⟨v', k1, k2⟩ := hw.get hv
          refine ⟨v', ?_, k2.mono hle⟩
          rw [List.getElem?_toArray, List.getElem?_append_left (by simp; omega), List.getElem?_append_right (by simp; omega)]
          rw [List.length_take, show min (nb + 0) arr.toList.length = nb by simp; omega]
          exact k1
        · rw [if_neg hqn] at hv
          obtain ⟨v', k1, k2⟩ := hc q v (by omega) hv
          refine ⟨v', ?_, k2.mono hle⟩
          rw [List.getElem?_toArray, List.append_assoc, List.getElem?_append_left (by simp; omega), List.getElem?_take, if_pos (by omega)]
          simpa using k1
    · obtain ⟨hji, gj⟩ := hget j o hj g1
      obtain ⟨c, r, k1, k2, k3⟩ := h.born j o gj hp
      refine ⟨c, r, (hle.to j c k1).1, ?_, k3.mono hle k1⟩
      rw [setRow_other w b c _ (fun e => hji (h.inj j i _ _ c gj hg k1 (e ▸ hb)))]
      exact k2
end Go.Proofs.YtlkdjdcnbcegeaaGreatDoor.Ev

/-! Our machine's append, cuts, copies and rows that are made. -/
namespace Go.Proofs.YtlkdjdcnbcegeaaGreatDoor.Ev
open Go.RowKit

structure Mem where
  H : T AObj
  next : Nat
  lo : Nat
variable {P : Program} {w0 w : World} {E : Env} {m : Mem}

/-- A computation of the model's comes to what ours comes to. -/
def Good (P : Program) (w0 : World) (E : Env) (m : Mem) (w : World) (s : Sem Value) (v : Value) (m' : Mem) : Prop :=
  ∃ E' v' w', s.run P w = .ok v' w' ∧ E.le E' ∧ HR P w0 E' m'.H m'.next w' ∧ VR E' v v' ∧ (∀ i, i < m.lo → m'.H.get i = m.H.get i) ∧ m'.lo = m.lo ∧ m.next ≤ m'.next
theorem Good.same (h : HR P w0 E m.H m.next w) {s : Sem Value} {v v' : Value} (hr : s.run P w = .ok v' w) (hv : VR E v v') : Good P w0 E m w s v m :=
  ⟨E, v', w, hr, E.le_refl, h, hv, fun _ _ => rfl, rfl, Nat.le_refl _⟩

def intDesc : TypeDesc → Bool
  | .int _ => true
  | _ => false
theorem intDesc_no {d : TypeDesc} (h : intDesc d = false) : ∀ k, d ≠ .int k := by intro k e; subst e; cases h

/-- What an append is given: the element's type, its size, the new cells. -/
def exNews (P : Program) (m : Mem) (t tx : TypeId) (x : Value) : Option (TypeId × TypeInfo × Nat × List Value) :=
  match P.underlying t, P.underlying tx with
  | some (.slice elem), some dx =>
    match P.info? elem with
    | some info => match exRow m.H info.size x with
      | some (k, news) => if intDesc dx = false ∧ news.all cell1 = true ∧ 0 < info.size ∧ info.bytes ≤ 1048576 then some (elem, info, k, news) else none
      | none => none
    | none => none
  | _, _ => none
/-- A row that grows. -/
def exGrow (m : Mem) (elem : TypeId) (info : TypeInfo) (n k : Nat) (olds news : List Value) : Option (Value × Mem) :=
  match info.zero with
  | some z => if z.cells.size = info.size ∧ m.next < 1073741824 ∧ n + k ≤ 1048576 ∧ (n + k) * info.size ≤ 1073741824 then
      some (.slice (some ⟨m.next, 0, none⟩) (n + k) (n + k), { m with H := m.H.set m.next (.cells (T.leaf.fill 0 (olds ++ news)) ((n + k) * info.size) elem true), next := m.next + 1 }) else none
  | none => none
def exAppend (P : Program) (m : Mem) (t tx : TypeId) (s x : Value) : Option (Value × Mem) :=
  match exNews P m t tx x with
  | some (elem, info, k, news) =>
    match s with
    | .slice none n c => if n = 0 ∧ c = 0 then (if k = 0 then some (s, m) else exGrow m elem info 0 k [] news) else none
    | .slice (some ⟨i, o, none⟩) n c =>
      match m.H.get i with
      | some (.cells cs nb eb g) =>
        if n + k ≤ c then
          (if o + (n + k) * info.size ≤ nb ∧ nb ≤ 1073741824 ∧ i < 1073741824 ∧ m.lo + 64 ≤ i then
            some (.slice (some ⟨i, o, none⟩) (n + k) c, { m with H := m.H.set i (.cells (cs.fill (o + n * info.size) news) nb eb g) }) else none)
        else if g = false then
          (match exRow m.H info.size s with
          | some (_, olds) => exGrow m elem info n k olds news
          | none => none)
        else if o = 0 ∧ n * info.size = nb ∧ eb = elem ∧ m.lo + 64 ≤ i ∧ i < 1073741824 ∧ m.next < 1073741824 ∧ n + k ≤ 1048576 ∧ (n + k) * info.size ≤ 1073741824 then
          (match cs.take 0 (n * info.size), info.zero with
          | some _, some z => if z.cells.size = info.size then
              some (.slice (some ⟨m.next, 0, none⟩) (n + k) (n + k), { m with H := (m.H.del i).set m.next (.cells (cs.fill nb news) ((n + k) * info.size) elem true), next := m.next + 1 }) else none
          | _, _ => none)
        else none
      | _ => none
    | _ => none
  | none => none
theorem cell1_one {v : Value} (h : cell1 v = true) : v.oneCell' = true := by cases v <;> simp_all [cell1, Value.oneCell']
theorem VRL.all1 {E : Env} {x x' : List Value} (h : VRL E x x') (hc : x.all cell1 = true) : x'.all cell1 = true := by
  induction x generalizing x' with
  | nil => cases h; rfl
  | cons v x ih => cases h with | cons hv hl => simp only [List.all_cons, Bool.and_eq_true] at hc ⊢; exact ⟨hv.cell1 hc.1, ih hl hc.2⟩
theorem exGrow_run (h : HR P w0 E m.H m.next w) {t tx ty elem : TypeId} {info : TypeInfo} {dx : TypeDesc} {x' : Value} {k n c : Nat} {A : Option Addr} {olds olds' news news' : List Value}
    (ht : P.underlying t = some (.slice elem)) (hi : P.info? elem = some info) (hx : P.underlying tx = some dx) (hnz : intDesc dx = false) (hs : 0 < info.size) (hby : info.bytes ≤ 1048576)
    (hl : ∀ W, (Builtin.lenOf x').run P W = .ok k W) (hf : (Builtin.firstCells info.size k x').run P w.drew = .ok news'.toArray w.drew) (hfo : (Builtin.firstCells info.size n (.slice A n c)).run P w.drew = .ok olds'.toArray w.drew)
    (ho : VRL E olds olds') (hn : VRL E news news') (hlo : olds.length = n * info.size) (hln : news.length = k * info.size) (hc : c < n + k) {v : Value} {m' : Mem} (he : exGrow m elem info n k olds news = some (v, m')) (hlo2 : m.lo ≤ m.next) :
    Good P w0 E m w (Builtin.append_ #[t, tx] ty #[.slice A n c, x']) v m' := by
  unfold exGrow at he
  cases hz : info.zero with
  | none => rw [hz] at he; cases he
  | some z =>
    rw [hz] at he
    simp only at he
    split at he
    · rename_i hcond
      obtain ⟨c1, c2, c3, c4⟩ := hcond
      simp only [Option.some.injEq, Prod.mk.injEq] at he
      obtain ⟨rfl, rfl⟩ := he
      obtain ⟨C, hC, hrun⟩ := run_app_grows (ty := ty) ht hi hz hx (intDesc_no hnz) hl hfo hf hc c3 hby
      have hsum : olds.length + news.length = (n + k) * info.size := by rw [hlo, hln, Nat.add_mul]
      refine ⟨_, _, _, hrun, Env.le_more h _ _, HR.grew h c2 ho hn (size := info.size) (k := n + k) (C := C) (tr := T.leaf.fill 0 (olds ++ news)) (fun j u hj hu => ?_) hsum hC c1 hs (by simp [Program.cellsOf, hi]), ?_, fun i hi => ?_, rfl, by simp⟩
      · rw [T.get_fill _ _ _ _ (by simp; omega)] at hu
        rw [if_pos (by simp; omega)] at hu
        simpa using hu
      · exact .slice 0 _ (by simp [Env.more]) (by simp [capOf, Env.more, hC])
      · show (m.H.set m.next _).get i = _
        rw [T.get_set _ _ _ c2, if_neg (by omega)]
    · cases he
end Go.Proofs.YtlkdjdcnbcegeaaGreatDoor.Ev

/-! Our machine's append stands for the model's. -/
namespace Go.Proofs.YtlkdjdcnbcegeaaGreatDoor.Ev
open Go.RowKit

variable {P : Program} {w0 w : World} {E : Env} {m : Mem}

theorem exNews_spec (h : HR P w0 E m.H m.next w) {t tx elem : TypeId} {x x' : Value} {info : TypeInfo} {k : Nat} {news : List Value} (hx : VR E x x') (he : exNews P m t tx x = some (elem, info, k, news)) :
    P.underlying t = some (.slice elem) ∧ P.info? elem = some info ∧ (∃ dx, P.underlying tx = some dx ∧ intDesc dx = false) ∧ news.all cell1 = true ∧ 0 < info.size ∧ info.bytes ≤ 1048576 ∧ (∀ W, (Builtin.lenOf x').run P W = .ok k W) ∧ news.length = k * info.size ∧
      ∃ news' : List Value, VRL E news news' ∧ ∀ W : World, (∀ i o b, m.H.get i = some o → E.blk i = some b → W.heap[b]? = w.heap[b]?) → (Builtin.firstCells info.size k x').run P W = .ok news'.toArray W := by
  unfold exNews at he
  cases hu : P.underlying t with
  | none => rw [hu] at he; simp at he
  | some d =>
    cases hux : P.underlying tx with
    | none => rw [hu, hux] at he; cases d <;> simp at he
    | some dx =>
      rw [hu, hux] at he
      cases d <;> try (simp at he; done)
      rename_i el
      simp only at he
      cases hi : P.info? el with
      | none => rw [hi] at he; simp at he
      | some inf =>
        rw [hi] at he
        simp only at he
        cases hr : exRow m.H inf.size x with
        | none => rw [hr] at he; simp at he
        | some q =>
          obtain ⟨k1, n1⟩ := q
          rw [hr] at he
          simp only at he
          split at he
          · rename_i hc
            simp only [Option.some.injEq, Prod.mk.injEq] at he
            obtain ⟨rfl, rfl, rfl, rfl⟩ := he
            obtain ⟨h1, h2, l', h3, h4⟩ := exRow_run h hx hr
            exact ⟨rfl, hi, ⟨dx, rfl, hc.1⟩, hc.2.1, hc.2.2.1, hc.2.2.2, h1, h2, l', h3, h4⟩
          · cases he

theorem exAppend_run (h : HR P w0 E m.H m.next w) (hlo2 : m.lo ≤ m.next) {t tx ty : TypeId} {s s' x x' v : Value} {m' : Mem} (hs : VR E s s') (hx : VR E x x') (he : exAppend P m t tx s x = some (v, m')) :
    Good P w0 E m w (Builtin.append_ #[t, tx] ty #[s', x']) v m' := by
  unfold exAppend at he
  cases hq : exNews P m t tx x with
  | none => rw [hq] at he; cases he
  | some q =>
    obtain ⟨elem, info, k, news⟩ := q
    rw [hq] at he
    simp only at he
    obtain ⟨ht, hi, ⟨dx, hux, hnz⟩, hall, hsz, hby, hlen, hnl, news', hn, hrun⟩ := exNews_spec h hx hq
    have hrunw := hrun w fun _ _ _ _ _ => rfl
    have hrund := hrun w.drew fun _ _ _ _ _ => rfl
    cases hs <;> try (simp at he; done)
    · rename_i n c
      simp only at he
      split at he
      · rename_i h0
        obtain ⟨rfl, rfl⟩ := h0
        split at he
        · rename_i hk
          subst hk
          simp only [Option.some.injEq, Prod.mk.injEq] at he
          obtain ⟨rfl, rfl⟩ := he
          refine Good.same h (v' := .slice none 0 0) ?_ (.slice0 0 0)
          have hdx := intDesc_no hnz
          simp [Builtin.append_, run_underlying ht, run_underlying hux, sizeOf, typeInfo, hi, hlen, hrunw]
        · exact exGrow_run (A := none) (olds := []) (olds' := []) h ht hi hux hnz hsz hby hlen hrund rfl .nil hn (by simp) hnl (by omega) he hlo2
      · cases he
    · rename_i i b o n c c' hb hc
      simp only at he
      cases hg : m.H.get i with
      | none => rw [hg] at he; simp at he
      | some ob =>
        rw [hg] at he
        cases ob <;> try (simp at he; done)
        rename_i cs nb eb g
        simp only at he
        obtain ⟨b', r, h1, h2, arr, ⟨fz, elem', hfz, hel, rfl⟩, hsok, hcell⟩ := h.obj hb hg
        obtain rfl : b = b' := by rw [hb] at h1; injection h1
        have hcc : c ≤ c' := by
          unfold capOf at hc; split at hc <;> omega
        split at he
        · -- it fits
          rename_i hfit
          split at he
          · rename_i hcond
            obtain ⟨f1, f2, f3, f4⟩ := hcond
            simp only [Option.some.injEq, Prod.mk.injEq] at he
            obtain ⟨rfl, rfl⟩ := he
            have hadd : (n + k) * info.size = n * info.size + k * info.size := Nat.add_mul _ _ _
            obtain ⟨w1, hst, hh⟩ := HR.storeL (P := P) news news' 0 h (o := o + n * info.size) hb hg (by omega) f3 f2 (by omega) hn hall
            have hrn := run_app_fits (ty := ty) ht hi hux (intDesc_no hnz) hlen hrunw (b := b) (o := o) (n := n) (c := c') (by omega) hst
            exact ⟨E, _, w1, hrn, E.le_refl, hh, .slice o _ hb hc, fun j hj => by show (m.H.set i _).get j = _; rw [T.get_set _ _ _ f3, if_neg (by omega)], rfl, Nat.le_refl _⟩
          · cases he
        · rename_i hfit
          split at he
          · -- an exact row grows
            rename_i hgf
            subst hgf
            have hcap : E.cap i = none := by
              unfold sizeOk at hsok
              cases hcp : E.cap i with
              | none => rfl
              | some q => rw [hcp] at hsok; simp at hsok
            obtain rfl : c' = c := by simpa [capOf, hcap] using hc
            cases hro : exRow m.H info.size (.slice (some ⟨i, o, none⟩) n c') with
            | none => rw [hro] at he; simp at he
            | some q =>
              obtain ⟨n0, olds⟩ := q
              rw [hro] at he
              simp only at he
              obtain ⟨g1, g2, olds', g3, g4⟩ := exRow_run h (VR.slice o n hb hc) hro
              have hn0 : n = n0 := by
                have := g1 w
                simp only [Builtin.lenOf, Sem.run_pure] at this
                injection this with this
              subst hn0
              exact exGrow_run h ht hi hux hnz hsz hby hlen hrund (g4 w.drew fun _ _ _ _ _ => rfl) g3 hn g2 hnl (by omega) he hlo2
          · rename_i hgt
            obtain rfl : g = true := by simpa using hgt
            split at he
            · rename_i hcond
              obtain ⟨rfl, f2, rfl, f4, f5, f6, f7, f8⟩ := hcond
              cases hto : cs.take 0 (n * info.size) with
              | none => rw [hto] at he; simp at he
              | some olds =>
                cases hz : info.zero with
                | none => rw [hto, hz] at he; simp at he
                | some z =>
                  rw [hto, hz] at he
                  simp only at he
                  split at he
                  · rename_i hzs
                    simp only [Option.some.injEq, Prod.mk.injEq] at he
                    obtain ⟨rfl, rfl⟩ := he
                    cases hcp : E.cap i with
                    | none => simp [sizeOk, hcp] at hsok
                    | some q =>
                      obtain ⟨C, sz⟩ := q
                      simp only [sizeOk, hcp] at hsok
                      obtain ⟨s1, s2, s3, _, s5⟩ := hsok
                      have hsi : info.size = sz := by rw [← s5]; simp [Program.cellsOf, hi]
                      subst hsi
                      obtain ⟨e1, e2⟩ : c ≤ c' ∧ c' = C := by simpa [capOf, hcp] using hc
                      subst e2
                      have hsum : (n + k) * info.size = n * info.size + k * info.size := Nat.add_mul _ _ _
                      have hkeep : ∀ j, j < m.lo → ((m.H.del i).set m.next (.cells (cs.fill nb news) ((n + k) * info.size) eb true)).get j = m.H.get j := fun j hj => by
                        rw [T.get_set _ _ _ f6, if_neg (by omega), T.get_del _ _ f5, if_neg (by omega)]
                      by_cases hfit2 : n + k ≤ c'
                      · have hfz := hfz (by omega)
                        rw [hel (by omega)] at h2 hfz
                        have hle2 : (n + k) * info.size ≤ c' * info.size := Nat.mul_le_mul_right _ hfit2
                        have hst := run_storeCells_fz (P := P) b (0 + n * info.size) eb news' 0 arr w h2 hfz (by have := hn.len; omega) (fun v hv => by
                          have := hn.all1 hall
                          exact cell1_one (List.all_eq_true.1 this v hv))
                        have hrn := run_app_fits (ty := ty) ht hi hux (intDesc_no hnz) hlen hrunw (b := b) (o := 0) (n := n) (c := c') hfit2 hst
                        have hreg := h.regrow f6 hb hcp hg h2 hfz hn (by omega) (by omega) (by omega) f5
                        rw [show 0 + n * info.size + 0 = nb + 0 by omega] at hrn
                        rw [show nb + news.length = (n + k) * info.size by omega] at hreg
                        exact ⟨_, _, _, hrn, Env.le_more h _ _, hreg, .slice 0 _ (by simp [Env.more]) (by simp [capOf, Env.more, hfit2]), hkeep, rfl, by simp⟩
                      · obtain ⟨t1, t2⟩ := T.take_spec _ _ _ _ hto
                        obtain ⟨olds', l1, l2⟩ := h.loadL (P := P) hb hg (o := 0) (k := n * info.size) (by omega) hto
                        have hro : exRow m.H info.size (.slice (some ⟨i, 0, none⟩) n c) = some (n, olds) := by
                          simp only [exRow, hg]
                          rw [if_pos (by omega), hto]; rfl
                        obtain ⟨_, _, olds', g3, g4⟩ := exRow_run h (VR.slice 0 n hb hc) hro
                        obtain ⟨C2, hC2, hrn⟩ := run_app_grows (ty := ty) ht hi hz hux (intDesc_no hnz) hlen (g4 w.drew fun _ _ _ _ _ => rfl) hrund (c := c') (by omega) f7 hby
                        refine ⟨_, _, _, hrn, Env.le_more h _ _, HR.grew (h.forget f5) f6 g3 hn (size := info.size) (k := n + k) (C := C2) (tr := cs.fill nb news) (fun j u hj hu => ?_) (by omega) hC2 hzs hsz (by simp [Program.cellsOf, hi]), .slice 0 _ (by simp [Env.more]) (by simp [capOf, Env.more, hC2]), hkeep, rfl, by simp⟩
                        rw [T.get_fill _ _ _ _ (by omega)] at hu
                        by_cases hjn : nb ≤ j ∧ j < nb + news.length
                        · rw [if_pos hjn] at hu
                          rw [List.getElem?_append_right (by omega), t1, f2]; exact hu
                        · rw [if_neg hjn] at hu
                          rw [List.getElem?_append_left (by omega)]
                          have hjl : olds[j]? = some olds[j] := List.getElem?_eq_getElem (by omega)
                          have := t2 j _ hjl
                          rw [Nat.zero_add, hu] at this
                          rw [hjl, this]
                  · cases he
            · cases he

/-! ### zeros behind a row: 'append(s, make(S, n)...)' -/
def exAppendZ (P : Program) (m : Mem) (t tx : TypeId) (s x : Value) : Option (Value × Mem) :=
  match P.underlying t, P.underlying tx, x with
  | some (.slice elem), some (.int _), .int _ (.ofNat k) => match P.info? elem with
    | some info => match info.zero with
      | some z => if 0 < k ∧ k ≤ 1048576 ∧ 0 < info.size ∧ info.bytes ≤ 1048576 ∧ cleanL (Builtin.zeroCells z.cells k).toList = true ∧ (Builtin.zeroCells z.cells k).toList.length = k * info.size then
          match s with
          | .slice none n c => if n = 0 ∧ c = 0 then exGrow m elem info 0 k [] (Builtin.zeroCells z.cells k).toList else none
          | .slice (some ⟨i, _, none⟩) n c => match m.H.get i with
            | some (.cells _ _ _ false) => if c < n + k then match exRow m.H info.size s with
                | some (_, olds) => exGrow m elem info n k olds (Builtin.zeroCells z.cells k).toList
                | none => none else none
            | _ => none
          | _ => none else none
      | none => none
    | none => none
  | _, _, _ => none
theorem run_app_growsZ {t tx ty e : TypeId} {kn k0 : IntKind} {info : TypeInfo} {z : Value} (ht : P.underlying t = some (.slice e)) (hi : P.info? e = some info) (hzz : info.zero = some z) (hx : P.underlying tx = some (.int kn)) {k : Nat} (hk : 0 < k) (hk2 : k ≤ 1048576) (hs : 0 < info.size)
    {A : Option Addr} {n c : Nat} {olds : List Value} (hfo : (Builtin.firstCells info.size n (.slice A n c)).run P w.drew = .ok olds.toArray w.drew) (hc : c < n + k) (h1 : n + k ≤ 1048576) (h2 : info.bytes ≤ 1048576) :
    ∃ C, n + k ≤ C ∧ (Builtin.append_ #[t, tx] ty #[.slice A n c, .int k0 (k : Nat)]).run P w = .ok (.slice (some ⟨w.heap.size, 0, none⟩) (n + k) C) (w.drew.alloc (.cells (olds.toArray ++ (Builtin.zeroCells z.cells k).toList.toArray ++ Builtin.zeroCells z.cells (C - (n + k))) e)) := by
  have hn : ¬ (n + k ≤ c) := by omega
  have h63 : ¬ (9223372036854775807 < ((n : Int) + (k : Int))) := by omega
  have hle := nextslicecap_le hc
  have h48 : ¬ (281474976710656 < Builtin.nextslicecap (n + k) c * info.bytes) := by
    have := Nat.mul_le_mul hle h2
    have : 2 * (n + k) * 1048576 ≤ 2 * 1048576 * 1048576 := Nat.mul_le_mul (Nat.mul_le_mul (Nat.le_refl 2) h1) (Nat.le_refl _)
    omega
  have h48i : ¬ (281474976710656 < (k : Int) * (info.bytes : Int)) := by
    have := Nat.mul_le_mul hk2 h2
    rw [← Int.natCast_mul]
    omega
  have hw : IntKind.i64.wrap (k : Int) = k := by rw [IntKind.wrap_i64]; omega
  have hneg : ¬ ((k : Int) < 0) := by omega
  have hns : ¬ (k * info.size = 0) := Nat.mul_ne_zero (by omega) (by omega)
  refine ⟨(Question.appendCap (n + k) c e).cut (w.tape w.drawn (.appendCap (n + k) c e)), by simp [Question.cut], ?_⟩
  simp [Builtin.append_, run_underlying ht, run_underlying hx, sizeOf, typeInfo, zeroValue, hi, hzz, asInt, asIntOf, hw, hn, hneg, hns, h63, h48, h48i, Question.forced, hfo, newRow]
theorem exGrowZ_run (h : HR P w0 E m.H m.next w) {t tx ty elem : TypeId} {kn k0 : IntKind} {info : TypeInfo} {z : Value} {k n c : Nat} {A : Option Addr} {olds olds' : List Value}
    (ht : P.underlying t = some (.slice elem)) (hi : P.info? elem = some info) (hz : info.zero = some z) (hx : P.underlying tx = some (.int kn)) (hk : 0 < k) (hk2 : k ≤ 1048576) (hs : 0 < info.size) (hby : info.bytes ≤ 1048576)
    (hcl : cleanL (Builtin.zeroCells z.cells k).toList = true) (hlen : (Builtin.zeroCells z.cells k).toList.length = k * info.size) (hfo : (Builtin.firstCells info.size n (.slice A n c)).run P w.drew = .ok olds'.toArray w.drew)
    (ho : VRL E olds olds') (hlo : olds.length = n * info.size) (hc : c < n + k) {v : Value} {m' : Mem} (he : exGrow m elem info n k olds (Builtin.zeroCells z.cells k).toList = some (v, m')) (hlo2 : m.lo ≤ m.next) :
    Good P w0 E m w (Builtin.append_ #[t, tx] ty #[.slice A n c, .int k0 (k : Nat)]) v m' := by
  unfold exGrow at he
  rw [hz] at he
  simp only at he
  split at he
  · rename_i hcond
    obtain ⟨c1, c2, c3, c4⟩ := hcond
    simp only [Option.some.injEq, Prod.mk.injEq] at he
    obtain ⟨rfl, rfl⟩ := he
    obtain ⟨C, hC, hrun⟩ := run_app_growsZ (ty := ty) (k0 := k0) ht hi hz hx hk hk2 hs hfo hc c3 hby
    have hsum : olds.length + (Builtin.zeroCells z.cells k).toList.length = (n + k) * info.size := by rw [hlo, hlen, Nat.add_mul]
    refine ⟨_, _, _, hrun, Env.le_more h _ _, HR.grew h c2 ho (VRL.of_clean E _ hcl) (size := info.size) (k := n + k) (C := C) (tr := T.leaf.fill 0 (olds ++ (Builtin.zeroCells z.cells k).toList)) (fun j u hj hu => ?_) hsum hC c1 hs (by simp [Program.cellsOf, hi]), ?_, fun i hi => ?_, rfl, by simp⟩
    · rw [T.get_fill _ _ _ _ (by rw [List.length_append]; omega)] at hu
      rw [if_pos (by rw [List.length_append]; omega)] at hu
      simpa using hu
    · exact .slice 0 _ (by simp [Env.more]) (by simp [capOf, Env.more, hC])
    · show (m.H.set m.next _).get i = _
      rw [T.get_set _ _ _ c2, if_neg (by omega)]
  · cases he
theorem exAppendZ_run (h : HR P w0 E m.H m.next w) (hlo2 : m.lo ≤ m.next) {t tx ty : TypeId} {s s' x x' v : Value} {m' : Mem} (hs : VR E s s') (hx : VR E x x') (he : exAppendZ P m t tx s x = some (v, m')) :
    Good P w0 E m w (Builtin.append_ #[t, tx] ty #[s', x']) v m' := by
  unfold exAppendZ at he
  split at he
  · rename_i elem kn k0 k ht htx
    cases hx with
    | int _ _ =>
    split at he
    · rename_i info hi
      split at he
      · rename_i z hz
        split at he
        · rename_i hc
          obtain ⟨c1, c2, c3, c4, c5, c6⟩ := hc
          split at he
          · rename_i n c
            split at he
            · rename_i h0
              obtain ⟨rfl, rfl⟩ := h0
              cases hs with
              | slice0 _ _ => exact exGrowZ_run (A := none) (olds := []) (olds' := []) h ht hi hz htx c1 c2 c3 c4 c5 c6 rfl .nil (by simp) (by omega) he hlo2
            · cases he
          · rename_i i o n c
            cases hs with
            | @slice _ b _ _ _ c' hb hcp =>
            split at he
            · rename_i cs nb eb hg
              split at he
              · rename_i hlt
                split at he
                · rename_i n0 olds hro
                  obtain ⟨b', r, h1, h2, arr, ⟨fz, elem', hfz, hel, rfl⟩, hsok, hcell⟩ := h.obj hb hg
                  have hcap : E.cap i = none := by
                    unfold sizeOk at hsok
                    cases hcp : E.cap i with
                    | none => rfl
                    | some q => rw [hcp] at hsok; simp at hsok
                  obtain rfl : c' = c := by simpa [capOf, hcap] using hcp
                  obtain ⟨g1, g2, olds', g3, g4⟩ := exRow_run h (VR.slice o n hb hcp) hro
                  have hn0 : n = n0 := by
                    have := g1 w
                    simp only [Builtin.lenOf, Sem.run_pure] at this
                    injection this with this
                  subst hn0
                  exact exGrowZ_run h ht hi hz htx c1 c2 c3 c4 c5 c6 (g4 w.drew fun _ _ _ _ _ => rfl) g3 g2 (by omega) he hlo2
                · cases he
              · cases he
            · cases he
          · cases he
        · cases he
      · cases he
    · cases he
  · cases he
end Go.Proofs.YtlkdjdcnbcegeaaGreatDoor.Ev

/-! Our machine's cuts, rows that are made, copies, lengths, boxes, and that they stand for the model's. -/
namespace Go.Proofs.YtlkdjdcnbcegeaaGreatDoor.Ev
open Go.RowKit
set_option linter.unusedSimpArgs false

variable {P : Program} {w0 w : World} {E : Env} {m : Mem}

/-! ### cuts -/
def bnd (y : Nat) : Value → Option Nat
  | .int _ i => if 0 ≤ i ∧ i ≤ (y : Int) then some i.toNat else none
  | _ => none
theorem bnd_run {y y' l : Nat} {v : Value} (h : bnd y v = some l) (hy : y ≤ y') (c : BoundsCode) : (Instr.sliceBound v y' c).run P w = .ok l w := by
  cases v <;> simp only [bnd] at h <;> try cases h
  rename_i k i
  split at h
  · rename_i hc
    injection h with h
    subst h
    simp [Instr.sliceBound, asIntOf, Sem.run_pure, hc.1, show i ≤ (y' : Int) by omega]
  · cases h
def bndO (y d : Nat) : Option Value → Option Nat
  | some v => bnd y v
  | none => some d
/-- Low, high: of a row of so many, with room for so many. -/
def exBounds (len cap : Nat) (low high : Option Value) : Option (Nat × Nat) :=
  match bndO cap len high with
  | none => none
  | some h => match bndO h 0 low with
    | none => none
    | some l => some (l, h)
theorem exBounds_run {len cap cap' l h : Nat} {low high : Option Value} (he : exBounds len cap low high = some (l, h)) (hc : cap ≤ cap') (b : Bool) : (Instr.sliceBounds b len cap' low high none).run P w = .ok (l, h, cap') w := by
  unfold exBounds at he
  cases hh : bndO cap len high with
  | none => rw [hh] at he; cases he
  | some h1 =>
    rw [hh] at he
    simp only at he
    cases hl : bndO h1 0 low with
    | none => rw [hl] at he; cases he
    | some l1 =>
      rw [hl] at he
      simp only [Option.some.injEq, Prod.mk.injEq] at he
      obtain ⟨rfl, rfl⟩ := he
      have e1 : ∀ c, (match high with | some v => Instr.sliceBound v cap' c | none => pure len : Sem Nat).run P w = .ok h1 w := by
        intro c
        cases high with
        | none => simp only [bndO, Option.some.injEq] at hh; subst hh; rfl
        | some v => exact bnd_run hh hc _
      have e2 : ∀ c, (match low with | some v => Instr.sliceBound v h1 c | none => pure 0 : Sem Nat).run P w = .ok l1 w := by
        intro c
        cases low with
        | none => simp only [bndO, Option.some.injEq] at hl; subst hl; rfl
        | some v => exact bnd_run hl (Nat.le_refl _) _
      unfold Instr.sliceBounds
      cases high with
      | none =>
        simp only [bndO, Option.some.injEq] at hh
        subst hh
        cases low with
        | none => simp only [bndO, Option.some.injEq] at hl; subst hl; simp [Sem.run_pure]
        | some v => simp [Sem.run_pure, bnd_run (P := P) (w := w) hl (Nat.le_refl _)]
      | some u =>
        cases low with
        | none => simp only [bndO, Option.some.injEq] at hl; subst hl; simp [Sem.run_pure, bnd_run (P := P) (w := w) hh hc]
        | some v => simp [Sem.run_pure, bnd_run (P := P) (w := w) hl (Nat.le_refl _), bnd_run (P := P) (w := w) hh hc]

/-- A cut of a row, of an array behind an address. -/
def exSlice (P : Program) (H : T AObj) (t : TypeId) (x : Value) (low high : Option Value) : Option Value :=
  match P.underlying t, x with
  | some (.array n elem), .pointer (some ⟨i, o, none⟩) =>
    match H.get i, P.info? elem, exBounds n n low high with
    | some (.cells _ _ _ false), some info, some (l, h) => some (.slice (some ⟨i, if n = l then o else o + l * info.size, none⟩) (h - l) (n - l))
    | _, _, _ => none
  | some (.slice elem), .slice (some ⟨i, o, none⟩) n c =>
    match H.get i, P.info? elem, exBounds n c low high with
    | some (.cells _ _ _ false), some info, some (l, h) => some (.slice (some ⟨i, if c = l then o else o + l * info.size, none⟩) (h - l) (c - l))
    | some (.cells _ _ eb true), some info, some (l, h) => if eb = elem ∧ (l < c ∨ l = 0) then some (.slice (some ⟨i, o + l * info.size, none⟩) (h - l) (c - l)) else if h = l then some (.slice (some ⟨i, 0, some 0⟩) 0 0) else none
    | _, _, _ => none
  | _, _ => none
theorem HR.capF {H : T AObj} {next : Nat} (h : HR P w0 E H next w) {i n b0 : Nat} (hb : E.blk i = some b0) {cs : T Value} {e : TypeId} {g : Bool} (hg : H.get i = some (.cells cs n e g)) : (g = false → E.cap i = none) ∧ (g = true → ∃ C s, E.cap i = some (C, s) ∧ 0 < s ∧ P.cellsOf e = s) := by
  obtain ⟨b, r, h1, h2, arr, ⟨fz, elem', hz, hel, rfl⟩, hs, hc⟩ := h.obj hb hg
  cases hcp : E.cap i with
  | none => simp only [sizeOk, hcp] at hs; exact ⟨fun _ => rfl, fun e => by rw [hs.2] at e; cases e⟩
  | some q => simp only [sizeOk, hcp] at hs; exact ⟨fun e => (by rw [hs.2.2.2.1] at e; cases e), fun _ => ⟨q.1, q.2, rfl, hs.2.2.1, hs.2.2.2.2⟩⟩
theorem exSlice_run (h : HR P w0 E m.H m.next w) {t : TypeId} {x x' v : Value} {low high : Option Value} (hx : VR E x x') (he : exSlice P m.H t x low high = some v) : ∃ v', (Instr.sliceAt t x' low high none).run P w = .ok v' w ∧ VR E v v' := by
  unfold exSlice at he
  cases hu : P.underlying t with
  | none => rw [hu] at he; simp at he
  | some d =>
    rw [hu] at he
    cases d <;> try (simp at he; done)
    · rename_i elem
      cases hx <;> try (simp at he; done)
      rename_i i b o n c c' hb hcap
      simp only at he
      cases hg : m.H.get i with
      | none => rw [hg] at he; simp at he
      | some ob =>
        cases ob <;> try (rw [hg] at he; simp at he; done)
        rename_i cs nb eb g
        have hcp := h.capF hb hg
        cases hi : P.info? elem with
        | none => rw [hg, hi] at he; cases g <;> simp at he
        | some info =>
          cases hbd : exBounds n c low high with
          | none => rw [hg, hi, hbd] at he; cases g <;> simp at he
          | some q =>
            obtain ⟨l, hh⟩ := q
            rw [hg, hi, hbd] at he
            cases g with
            | false =>
              simp only [Option.some.injEq] at he
              subst he
              have hc0 := hcp.1 rfl
              obtain rfl : c' = c := by simpa [capOf, hc0] using hcap
              have hrb := exBounds_run (P := P) (w := w) hbd (Nat.le_refl _) true
              refine ⟨.slice (some ⟨b, if c' = l then o else o + l * info.size, none⟩) (hh - l) (c' - l), ?_, .slice _ _ hb (by simp [capOf, hc0])⟩
              simp [Instr.sliceAt, run_underlying hu, Instr.slice, hrb, run_sizeOf w hi, Program.cellsOf, hi, Sem.run_pure]
              split <;> simp [add_is]
            | true =>
              obtain ⟨C, s, hc1, hs0, hcs⟩ := hcp.2 rfl
              simp only at he
              split at he
              · rename_i hcond
                obtain ⟨rfl, hl⟩ := hcond
                simp only [Option.some.injEq] at he
                subst he
                have hsz : info.size = s := by rw [← hcs]; simp [Program.cellsOf, hi]
                obtain ⟨q1, q2⟩ : c ≤ c' ∧ c' = C - o / s := by simpa [capOf, hc1] using hcap
                have hrb := exBounds_run (P := P) (w := w) hbd q1 true
                refine ⟨.slice (some ⟨b, o + l * info.size, none⟩) (hh - l) (c' - l), ?_, .slice _ _ hb ?_⟩
                · simp [Instr.sliceAt, run_underlying hu, Instr.slice, hrb, run_sizeOf w hi, Program.cellsOf, hi, Sem.run_pure]
                  split
                  · rename_i e; rcases hl with hl | hl
                    · omega
                    · subst hl; simp
                  · simp [add_is]
                · have : (o + l * s) / s = o / s + l := by rw [Nat.add_mul_div_right _ _ hs0]
                  simp only [capOf, hc1, hsz, this]
                  omega
              · split at he
                · rename_i hhl
                  subst hhl
                  simp only [Option.some.injEq] at he
                  subst he
                  obtain ⟨q1, q2⟩ : c ≤ c' ∧ c' = C - o / s := by simpa [capOf, hc1] using hcap
                  have hrb := exBounds_run (P := P) (w := w) hbd q1 true
                  refine ⟨.slice (some (if c' = hh then ⟨b, o, none⟩ else (⟨b, o, none⟩ : Addr).add (hh * info.size))) 0 (c' - hh), ?_, .slicex _ _ _⟩
                  simp [Instr.sliceAt, run_underlying hu, Instr.slice, hrb, run_sizeOf w hi, Program.cellsOf, hi, Sem.run_pure]
                  split <;> rfl
                · cases he
    · rename_i n elem
      cases hx <;> try (simp at he; done)
      rename_i i b o hb
      simp only at he
      cases hg : m.H.get i with
      | none => rw [hg] at he; simp at he
      | some ob =>
        cases ob <;> try (rw [hg] at he; simp at he; done)
        rename_i cs nb eb g
        have hcp := h.capF hb hg
        cases hi : P.info? elem with
        | none => rw [hg, hi] at he; cases g <;> simp at he
        | some info =>
          cases hbd : exBounds n n low high with
          | none => rw [hg, hi, hbd] at he; cases g <;> simp at he
          | some q =>
            obtain ⟨l, hh⟩ := q
            rw [hg, hi, hbd] at he
            cases g with
            | true => simp at he
            | false =>
              simp only [Option.some.injEq] at he
              subst he
              have hc0 := hcp.1 rfl
              have hrb := exBounds_run (P := P) (w := w) hbd (Nat.le_refl _) false
              refine ⟨.slice (some ⟨b, if n = l then o else o + l * info.size, none⟩) (hh - l) (n - l), ?_, .slice _ _ hb (by simp [capOf, hc0])⟩
              simp [Instr.sliceAt, run_underlying hu, Instr.sureAddr, hrb, run_sizeOf w hi, Program.cellsOf, hi, Sem.run_pure]
              split <;> simp [add_is]
end Go.Proofs.YtlkdjdcnbcegeaaGreatDoor.Ev

/-! Our machine's rows that are made, copies, lengths, boxes, and that they stand for the model's. -/
namespace Go.Proofs.YtlkdjdcnbcegeaaGreatDoor.Ev
open Go.RowKit
set_option linter.unusedSimpArgs false

variable {P : Program} {w0 w : World} {E : Env} {m : Mem}

/-- A new row of ours. -/
def exRowNew (m : Mem) (elem : TypeId) (l : List Value) : Option Mem :=
  match exNew m.H m.next elem l with
  | some H' => some { m with H := H', next := m.next + 1 }
  | none => none
theorem exRowNew_run (h : HR P w0 E m.H m.next w) (hlo : m.lo ≤ m.next) {elem : TypeId} {l l' : List Value} (hl : VRL E l l') {m' : Mem} (he : exRowNew m elem l = some m') :
    ∃ E', (newRow elem l'.toArray).run P w = .ok ⟨w.heap.size, 0, none⟩ (w.alloc (.cells l'.toArray elem)) ∧ E.le E' ∧ HR P w0 E' m'.H m'.next (w.alloc (.cells l'.toArray elem)) ∧ E'.blk m.next = some w.heap.size ∧ E'.cap m.next = none ∧
      (∀ i, i < m.lo → m'.H.get i = m.H.get i) ∧ m'.lo = m.lo ∧ m.next ≤ m'.next := by
  unfold exRowNew at he
  cases hq : exNew m.H m.next elem l with
  | none => rw [hq] at he; cases he
  | some H' =>
    rw [hq] at he
    simp only [Option.some.injEq] at he
    subst he
    obtain ⟨E', h1, h2, h3, h4, h5, h6⟩ := exNew_run h hl hq
    exact ⟨E', h1, h2, h3, h4, h5, fun i hi => h6 i (by omega), rfl, by simp⟩

/-! ### boxes -/
def exBox (m : Mem) (elem : TypeId) (v : Value) : Option (Value × Mem) :=
  match exRowNew m elem v.cells.toList with
  | some m' => some (.pointer (some ⟨m.next, 0, none⟩), m')
  | none => none
theorem exBox_run (h : HR P w0 E m.H m.next w) (hlo : m.lo ≤ m.next) {elem : TypeId} {v v' u : Value} (hv : VR E v v') {m' : Mem} (he : exBox m elem v = some (u, m')) : Good P w0 E m w (Instr.box elem v') u m' := by
  unfold exBox at he
  cases hq : exRowNew m elem v.cells.toList with
  | none => rw [hq] at he; cases he
  | some m1 =>
    rw [hq] at he
    simp only [Option.some.injEq, Prod.mk.injEq] at he
    obtain ⟨rfl, rfl⟩ := he
    obtain ⟨E', h1, h2, h3, h4, h5, h6, h7, h8⟩ := exRowNew_run h hlo hv.cells hq
    refine ⟨E', .pointer (some ⟨w.heap.size, 0, none⟩), _, ?_, h2, h3, .ptr 0 h4, h6, h7, h8⟩
    simp only [Instr.box, newVar, Sem.run_bind]
    have : v'.cells.toList.toArray = v'.cells := by simp
    rw [this] at h1 ⊢
    rw [h1]; rfl
def exAlloc (P : Program) (m : Mem) (elem : TypeId) : Option (Value × Mem) :=
  match P.info? elem with
  | some info => match info.zero with
    | some z => if clean z then exBox m elem z else none
    | none => none
  | none => none
theorem exAlloc_run (h : HR P w0 E m.H m.next w) (hlo : m.lo ≤ m.next) {elem : TypeId} {u : Value} {m' : Mem} (he : exAlloc P m elem = some (u, m')) (o : Value) : Good P w0 E m w (Instr.alloc elem true o) u m' := by
  unfold exAlloc at he
  cases hi : P.info? elem with
  | none => rw [hi] at he; cases he
  | some info =>
    rw [hi] at he
    simp only at he
    cases hz : info.zero with
    | none => rw [hz] at he; cases he
    | some z =>
      rw [hz] at he
      simp only at he
      split at he
      · rename_i hc
        obtain ⟨E', v', w', h1, h2⟩ := exBox_run h hlo (VR.of_clean E z hc) he
        refine ⟨E', v', w', ?_, h2⟩
        rw [← h1]
        simp [Instr.alloc, Instr.box, zeroValue, run_typeInfo w hi, hz]
      · cases he

/-! ### rows that are made -/
def exMade (z : Value) (n : Nat) : List Value := (madeCells z.cells n).toList
def exMakeSlice (P : Program) (m : Mem) (t : TypeId) (l c : Value) : Option (Value × Mem) :=
  match P.underlying t, l, c with
  | some (.slice elem), .int _ l, .int _ c =>
    match P.info? elem with
    | some info => match info.zero with
      | some z => if 0 ≤ l ∧ l ≤ c ∧ c.toNat * info.size ≤ 16777216 ∧ (info.bytes : Int) * c ≤ 281474976710656 ∧ c ≤ 9223372036854775807 ∧ cleanL (exMade z (c.toNat * info.size)) = true then
          (match exRowNew m elem (exMade z (c.toNat * info.size)) with
          | some m' => some (.slice (some ⟨m.next, 0, none⟩) l.toNat c.toNat, m')
          | none => none) else none
      | none => none
    | none => none
  | _, _, _ => none
theorem exMakeSlice_run (h : HR P w0 E m.H m.next w) (hlo : m.lo ≤ m.next) {t : TypeId} {l c u : Value} {m' : Mem} (he : exMakeSlice P m t l c = some (u, m')) : Good P w0 E m w (Instr.makeSlice t l c) u m' := by
  unfold exMakeSlice at he
  cases hu : P.underlying t with
  | none => rw [hu] at he; simp at he
  | some d =>
    rw [hu] at he
    cases d <;> try (simp at he; done)
    rename_i elem
    cases l <;> try (simp at he; done)
    rename_i kl l
    cases c <;> try (simp at he; done)
    rename_i kc c
    simp only at he
    cases hi : P.info? elem with
    | none => rw [hi] at he; cases he
    | some info =>
      rw [hi] at he
      simp only at he
      cases hz : info.zero with
      | none => rw [hz] at he; cases he
      | some z =>
        rw [hz] at he
        simp only at he
        split at he
        · rename_i hc
          obtain ⟨c1, c2, c3, c4, c5, c6⟩ := hc
          cases hq : exRowNew m elem (exMade z (c.toNat * info.size)) with
          | none => rw [hq] at he; cases he
          | some m1 =>
            rw [hq] at he
            simp only [Option.some.injEq, Prod.mk.injEq] at he
            obtain ⟨rfl, rfl⟩ := he
            obtain ⟨E', h1, h2, h3, h4, h5, h6, h7, h8⟩ := exRowNew_run h hlo (VRL.of_clean E _ c6) hq
            have hm := run_makeSlice (P := P) (w := w) t elem info z hu hi hz kl kc l c c1 c2 c3 c4 c5
            have e : (exMade z (c.toNat * info.size)).toArray = madeCells z.cells (c.toNat * info.size) := by simp [exMade]
            rw [e] at h3
            exact ⟨E', _, _, hm, h2, h3, .slice 0 _ h4 (by simp [capOf, h5]), h6, h7, h8⟩
        · cases he

/-! ### lengths -/
def exLen (P : Program) (t : TypeId) (x : Value) : Option Value :=
  match P.underlying t, x with
  | some .string, .string s => some (goInt s.size)
  | some (.array n _), _ => some (goInt n)
  | some (.slice _), .slice _ n _ => some (goInt n)
  | some (.map _ _), .map none => some (goInt 0)
  | _, _ => none
theorem exLen_run {t ty : TypeId} {x x' v : Value} (hx : VR E x x') (he : exLen P t x = some v) : (Builtin.len_ #[t] ty #[x']).run P w = .ok v w ∧ VR E v v := by
  unfold exLen at he
  cases hu : P.underlying t with
  | none => rw [hu] at he; simp at he
  | some d =>
    rw [hu] at he
    cases d <;> try (simp at he; done)
    all_goals (cases hx <;> first | (simp at he; done) | (simp only [Option.some.injEq] at he; subst he; exact ⟨by simp [Builtin.len_, run_underlying hu, Sem.run_pure], .int _ _⟩))
def exCap (P : Program) (H : T AObj) (t : TypeId) (x : Value) : Option Value :=
  match P.underlying t, x with
  | some (.slice _), .slice none _ c => some (goInt c)
  | some (.slice _), .slice (some ⟨i, _, none⟩) _ c => match H.get i with
    | some (.cells _ _ _ false) => some (goInt c)
    | some (.cells _ _ _ true) => some (.float .f64 c)
    | _ => none
  | _, _ => none
theorem exCap_run (h : HR P w0 E m.H m.next w) {t ty : TypeId} {x x' v : Value} (hx : VR E x x') (he : exCap P m.H t x = some v) : ∃ v', (Builtin.cap_ #[t] ty #[x']).run P w = .ok v' w ∧ VR E v v' := by
  unfold exCap at he
  cases hu : P.underlying t with
  | none => rw [hu] at he; simp at he
  | some d =>
    rw [hu] at he
    cases d <;> try (simp at he; done)
    cases hx <;> try (simp at he; done)
    · simp only [Option.some.injEq] at he; subst he; exact ⟨goInt _, by simp [Builtin.cap_, run_underlying hu, Sem.run_pure], .int _ _⟩
    · rename_i i b o n c c' hb hc
      simp only at he
      cases hg : m.H.get i with
      | none => rw [hg] at he; cases he
      | some ob =>
        cases ob <;> try (rw [hg] at he; simp at he; done)
        rename_i cs nb e g
        rw [hg] at he
        cases g
        · simp only [Option.some.injEq] at he
          subst he
          have := (h.capF hb hg).1 rfl
          obtain rfl : c' = c := by simpa [capOf, this] using hc
          exact ⟨goInt _, by simp [Builtin.cap_, run_underlying hu, Sem.run_pure], .int _ _⟩
        · simp only [Option.some.injEq] at he
          subst he
          have hcc : c ≤ c' := by
            unfold capOf at hc; split at hc <;> omega
          exact ⟨goInt c', by simp [Builtin.cap_, run_underlying hu, Sem.run_pure], .low c hcc⟩
end Go.Proofs.YtlkdjdcnbcegeaaGreatDoor.Ev

/-! Our machine's literal rows, copies, strings of bytes, functions, comparisons with nil, and that they stand for the model's. -/
namespace Go.Proofs.YtlkdjdcnbcegeaaGreatDoor.Ev
open Go.RowKit
set_option linter.unusedSimpArgs false

variable {P : Program} {w0 w : World} {E : Env} {m : Mem}

/-! ### rows that are written out -/
def exBuildSlice (P : Program) (m : Mem) (t : TypeId) (len : Nat) (parts : List (Nat × Value)) : Option (Value × Mem) :=
  match P.underlying t with
  | some (.slice elem) =>
    match P.info? elem with
    | some info => match info.zero with
      | some z => if len * info.size ≤ 16777216 ∧ (len * info.size = 0 ∨ cleanL (exMade z (len * info.size)) = true) then
          match Instr.fill (fun i => some (i * info.size, info.size)) (if len * info.size = 0 then #[] else (exMade z (len * info.size)).toArray) parts with
          | some out => match exRowNew m elem out.toList with
            | some m' => some (.slice (some ⟨m.next, 0, none⟩) len len, m')
            | none => none
          | none => none
          else none
      | none => none
    | none => none
  | _ => none
theorem exBuildSlice_run (h : HR P w0 E m.H m.next w) (hlo : m.lo ≤ m.next) {t : TypeId} {len : Nat} {ps ps' : Array (Nat × Value)} (hp : PR E ps.toList ps'.toList) {u : Value} {m' : Mem} (he : exBuildSlice P m t len ps.toList = some (u, m')) :
    Good P w0 E m w (Instr.buildSlice t len ps') u m' := by
  unfold exBuildSlice at he
  cases hu : P.underlying t with
  | none => rw [hu] at he; simp at he
  | some d =>
    rw [hu] at he
    cases d <;> try (simp at he; done)
    rename_i elem
    simp only at he
    cases hi : P.info? elem with
    | none => rw [hi] at he; cases he
    | some info =>
      rw [hi] at he
      simp only at he
      cases hz : info.zero with
      | none => rw [hz] at he; cases he
      | some z =>
        rw [hz] at he
        simp only at he
        split at he
        · rename_i hc
          obtain ⟨c1, c2⟩ := hc
          split at he
          · rename_i out hf
            cases hq : exRowNew m elem out.toList with
            | none => rw [hq] at he; cases he
            | some m1 =>
              rw [hq] at he
              simp only [Option.some.injEq, Prod.mk.injEq] at he
              obtain ⟨rfl, rfl⟩ := he
              have hbase : VRL E (if len * info.size = 0 then #[] else (exMade z (len * info.size)).toArray : Array Value).toList (if len * info.size = 0 then #[] else (exMade z (len * info.size)).toArray : Array Value).toList := by
                split
                · exact .nil
                · rename_i h0
                  exact VRL.of_clean E _ (by rcases c2 with c2 | c2; exact absurd c2 h0; simpa using c2)
              obtain ⟨out', hf', hout⟩ := fill_VR _ _ _ _ _ _ hp hbase hf
              obtain ⟨E', h1, h2, h3, h4, h5, h6, h7, h8⟩ := exRowNew_run h hlo hout hq
              refine ⟨E', .slice (some ⟨w.heap.size, 0, none⟩) len len, _, ?_, h2, h3, .slice 0 _ h4 (by simp [capOf, h5]), h6, h7, h8⟩
              have e1 : out'.toList.toArray = out' := by simp
              rw [e1] at h1 ⊢
              have e2 : (exMade z (len * info.size)).toArray = (Array.range (len * info.size)).map (z.cells[· % z.cells.size]!) := by
                apply Array.toList_inj.1; simp [exMade, madeCells]
              rw [e2] at hf'
              have hbig : ¬ (16777216 < len * info.size) := by omega
              by_cases h0 : len * info.size = 0
              · rw [if_pos h0] at hf'
                rw [Instr.buildSlice, Sem.run_bind, run_underlying hu]
                simp only [Result.andThen, Sem.run_bind, run_sizeOf w hi, Program.cellsOf, hi, Option.map_some, Option.getD_some]
                simp [h0, Sem.run_pure, show (Array.range 0) = #[] from rfl, hf', h1]
              · rw [if_neg h0] at hf'
                rw [Instr.buildSlice, Sem.run_bind, run_underlying hu]
                simp only [Result.andThen, Sem.run_bind, run_sizeOf w hi, Program.cellsOf, hi, Option.map_some, Option.getD_some]
                simp [h0, hbig, zeroValue, run_typeInfo w hi, hz, Sem.run_pure, hf', h1]
          · cases he
        · cases he

/-! ### copies -/
/-- The first elements of a row. -/
def exFirst (H : T AObj) (size k : Nat) : Value → Option (List Value)
  | .slice none _ _ => some []
  | .slice (some ⟨i, o, none⟩) _ _ =>
    match H.get i with
    | some (.cells cs nb _ _) => if o + k * size ≤ nb then cs.take o (k * size) else none
    | _ => none
  | .string s => some ((s.data.toList.take k).map fun b => .int .u8 b.toNat)
  | _ => none
def lenV : Value → Option Nat
  | .slice _ n _ => some n
  | .string s => some s.size
  | _ => none
theorem lenV_run {v v' : Value} {n : Nat} (hv : VR E v v') (he : lenV v = some n) : (Builtin.lenOf v').run P w = .ok n w := by
  cases hv <;> simp only [lenV] at he <;> first | (cases he; done) | (injection he with he; subst he; rfl)
theorem exFirst_run (h : HR P w0 E m.H m.next w) {size k : Nat} {v v' : Value} {l : List Value} (hv : VR E v v') (he : exFirst m.H size k v = some l) : ∃ l' : List Value, (Builtin.firstCells size k v').run P w = .ok l'.toArray w ∧ VRL E l l' := by
  cases hv <;> try (simp [exFirst] at he; done)
  · rename_i s
    simp only [exFirst, Option.some.injEq] at he
    subst he
    refine ⟨_, ?_, VRL.of_clean E _ ?_⟩
    · have : (s.extract 0 k).data = s.data.extract 0 k := by simp
      simp only [Builtin.firstCells, Sem.run_pure]
      congr 1
      apply Array.toList_inj.1
      simp [List.take_drop]
    · induction s.data.toList.take k with
      | nil => rfl
      | cons a l ih => simp [cleanL, clean, ih]
  · simp only [exFirst, Option.some.injEq] at he
    subst he
    exact ⟨[], rfl, .nil⟩
  · rename_i i b o n c c' hb hc
    simp only [exFirst] at he
    cases hg : m.H.get i with
    | none => rw [hg] at he; cases he
    | some ob =>
      cases ob <;> try (rw [hg] at he; simp at he; done)
      rename_i cs nb eb g
      rw [hg] at he
      simp only at he
      split at he
      · rename_i hn
        exact h.loadL (P := P) hb hg hn he
      · cases he
def exCopy (P : Program) (m : Mem) (t : TypeId) (d x : Value) : Option (Value × Mem) :=
  match P.underlying t, d, lenV x with
  | some (.slice elem), .slice none n _, some _ => if n = 0 then
      match P.info? elem with
      | some info => match exFirst m.H info.size 0 x with
        | some _ => some (goInt 0, m)
        | none => none
      | none => none
      else none
  | some (.slice elem), .slice (some ⟨i, o, none⟩) n _, some k =>
    match P.info? elem, m.H.get i with
    | some info, some (.cells cs nb eb g) =>
      match exFirst m.H info.size (Nat.min k n) x with
      | some l => if o + l.length ≤ nb ∧ nb ≤ 1073741824 ∧ i < 1073741824 ∧ m.lo + 64 ≤ i ∧ l.all cell1 = true then
          some (goInt (Nat.min k n), { m with H := m.H.set i (.cells (cs.fill o l) nb eb g) }) else none
      | none => none
    | _, _ => none
  | _, _, _ => none
theorem exCopy_run (h : HR P w0 E m.H m.next w) {t tx ty : TypeId} {d d' x x' u : Value} {m' : Mem} (hd : VR E d d') (hx : VR E x x') (he : exCopy P m t d x = some (u, m')) : Good P w0 E m w (Builtin.copy_ #[t, tx] ty #[d', x']) u m' := by
  unfold exCopy at he
  cases hu : P.underlying t with
  | none => rw [hu] at he; simp at he
  | some dd =>
    rw [hu] at he
    cases dd <;> try (simp at he; done)
    rename_i elem
    cases hl : lenV x with
    | none => rw [hl] at he; cases hd <;> simp at he
    | some k =>
      rw [hl] at he
      have hlen := lenV_run (P := P) (w := w) hx hl
      cases hd <;> try (simp at he; done)
      · rename_i n c
        simp only at he
        split at he
        · rename_i h0
          subst h0
          cases hi : P.info? elem with
          | none => rw [hi] at he; cases he
          | some info =>
            rw [hi] at he
            simp only at he
            cases hf : exFirst m.H info.size 0 x with
            | none => rw [hf] at he; cases he
            | some l =>
              rw [hf] at he
              simp only [Option.some.injEq, Prod.mk.injEq] at he
              obtain ⟨rfl, rfl⟩ := he
              obtain ⟨l', h1, h2⟩ := exFirst_run h hx hf
              refine Good.same h (v' := goInt 0) ?_ (.int _ _)
              simp [Builtin.copy_, run_underlying hu, hlen, run_sizeOf w hi, Program.cellsOf, hi, h1, Sem.run_pure]
        · cases he
      · rename_i i b o n c c' hb hc
        simp only at he
        cases hi : P.info? elem with
        | none => rw [hi] at he; simp at he
        | some info =>
          cases hg : m.H.get i with
          | none => rw [hi, hg] at he; simp at he
          | some ob =>
            cases ob <;> try (rw [hi, hg] at he; simp at he; done)
            rename_i cs nb eb g
            rw [hi, hg] at he
            simp only at he
            cases hf : exFirst m.H info.size (Nat.min k n) x with
            | none => rw [hf] at he; cases he
            | some l =>
              rw [hf] at he
              simp only at he
              split at he
              · rename_i hcnd
                obtain ⟨c1, c2, c3, c4, c5⟩ := hcnd
                simp only [Option.some.injEq, Prod.mk.injEq] at he
                obtain ⟨rfl, rfl⟩ := he
                obtain ⟨l', h1, h2⟩ := exFirst_run h hx hf
                obtain ⟨w1, hst, hh⟩ := HR.storeL (P := P) l l' 0 h (o := o) hb hg (by omega) c3 c2 (by omega) h2 c5
                refine ⟨E, goInt (Nat.min k n), w1, ?_, E.le_refl, hh, .int _ _, fun j hj => by show (m.H.set i _).get j = _; rw [T.get_set _ _ _ c3, if_neg (by omega)], rfl, Nat.le_refl _⟩
                simp [Builtin.copy_, run_underlying hu, hlen, run_sizeOf w hi, Program.cellsOf, hi, h1, hst, Sem.run_pure]
              · cases he

/-! ### strings of bytes -/
def bytesOf : List Value → Option (List Int)
  | [] => some []
  | .int .u8 n :: r => match bytesOf r with
    | some l => some (n :: l)
    | none => none
  | _ => none
theorem bytesOf_eq : ∀ (l l' : List Value) (ns : List Int), VRL E l l' → bytesOf l = some ns → l' = ns.map (Value.int .u8) := by
  intro l
  induction l with
  | nil => intro l' ns h e; cases h; simp [bytesOf] at e; subst e; rfl
  | cons v l ih =>
    intro l' ns h e
    cases h with
    | cons hv h =>
      cases hv <;> try (simp [bytesOf] at e; done)
      rename_i k n
      cases k <;> try (simp [bytesOf] at e; done)
      simp only [bytesOf] at e
      cases hb : bytesOf l with
      | none => rw [hb] at e; cases e
      | some r =>
        rw [hb] at e
        injection e with e
        subst e
        simp [ih _ _ h hb]
def exToString (m : Mem) : Value → Option Value
  | .slice none _ _ => some (.string .empty)
  | .slice (some ⟨i, o, none⟩) n _ =>
    match m.H.get i with
    | some (.cells cs nb _ _) => if o + n ≤ nb then
        match cs.take o n with
        | some l => match bytesOf l with
          | some ns => some (.string (ns.foldl (fun r n => r.push (UInt8.ofNat n.toNat)) ByteArray.empty))
          | none => none
        | none => none
        else none
    | _ => none
  | _ => none
theorem exToString_run (h : HR P w0 E m.H m.next w) {v v' u : Value} (hv : VR E v v') (he : exToString m v = some u) : ∃ u', (Conv.bytesToString v').run P w = .ok u' w ∧ VR E u u' := by
  cases hv <;> try (simp [exToString] at he; done)
  · simp only [exToString, Option.some.injEq] at he
    subst he
    exact ⟨_, rfl, .string _⟩
  · rename_i i b o n c c' hb hc
    simp only [exToString] at he
    cases hg : m.H.get i with
    | none => rw [hg] at he; cases he
    | some ob =>
      cases ob <;> try (rw [hg] at he; simp at he; done)
      rename_i cs nb eb g
      rw [hg] at he
      simp only at he
      split at he
      · rename_i hn
        cases ht : cs.take o n with
        | none => rw [ht] at he; cases he
        | some l =>
          rw [ht] at he
          simp only at he
          cases hbs : bytesOf l with
          | none => rw [hbs] at he; cases he
          | some ns =>
            rw [hbs] at he
            simp only [Option.some.injEq] at he
            subst he
            obtain ⟨l', h1, h2⟩ := h.loadL (P := P) hb hg hn ht
            rw [bytesOf_eq _ _ _ h2 hbs] at h1
            exact ⟨_, run_bytesToString w _ n c' ns h1, .string _⟩
      · cases he

/-! ### comparisons with nil -/
def exEq (P : Program) (t : TypeId) (x y : Value) : Option Bool :=
  match P.underlying t, x, y with
  | some (.pointer _), .pointer none, .pointer (some _) | some (.pointer _), .pointer (some _), .pointer none => some false
  | some (.interface _), .nilIface, .iface _ _ | some (.interface _), .iface _ _, .nilIface => some false
  | some (.interface _), .iface a _, .iface b _ => if a ≠ b then some false else none
  | some (.slice _), .slice none _ _, .slice (some _) _ _ | some (.slice _), .slice (some _) _ _, .slice none _ _ => some false
  | some (.map _ _), .map none, .map (some _) | some (.map _ _), .map (some _), .map none => some false
  | some (.func _ _ _), .nilFunc, .func _ _ _ | some (.func _ _ _), .func _ _ _, .nilFunc => some false
  | _, _, _ => none
theorem equal_one (t : TypeId) (x y : Value) : Op.equal t x y = Op.equalIn (9999 + 1) t x y := rfl
theorem exEq_run {t : TypeId} {x x' y y' : Value} {b : Bool} (hx : VR E x x') (hy : VR E y y') (he : exEq P t x y = some b) : (Op.equal t x' y').run P w = .ok b w := by
  unfold exEq at he
  cases hu : P.underlying t with
  | none => rw [hu] at he; simp at he
  | some d =>
    rw [hu] at he
    cases d <;> try (simp at he; done)
    all_goals (cases hx <;> try (simp at he; done))
    all_goals (cases hy <;> try (simp at he; done))
    all_goals first
      | (simp only [Option.some.injEq] at he; subst he; rw [equal_one, Op.equalIn, Sem.run_bind, run_underlying hu]; simp [Result.andThen, Sem.run_pure]; done)
      | (simp only at he; split at he <;> first | (cases he; done) | (rename_i hne; simp only [Option.some.injEq] at he; subst he; rw [equal_one, Op.equalIn, Sem.run_bind, run_underlying hu]; simp [Result.andThen, Sem.run_pure, hne]; done))
end Go.Proofs.YtlkdjdcnbcegeaaGreatDoor.Ev
