/-
  A machine of our own for runs that hang on no input: tries keyed by numbers; values that stand for values by a renaming of blocks.
-/
import Derived.Calls
import Derived.Below
namespace Go.Proofs.YtkecgbcfkbafpaaDoor.Ev

/-! ### tries keyed by numbers -/
inductive T (α : Type) where
  | leaf
  | node (l : T α) (v : Option α) (r : T α)

def T.get {α : Type} : T α → Nat → Option α
  | .leaf, _ => none
  | .node l v r, k => if k = 0 then v else if k % 2 = 1 then l.get (k / 2) else r.get (k / 2 - 1)

/-- The same, reckoned out first. -/
def T.first {α : Type} (c : T α) (f : T α → T α) : T α :=
  match c with
  | .leaf => f .leaf
  | .node a b d => f (.node a b d)
theorem T.first_eq {α : Type} (c : T α) (f : T α → T α) : T.first c f = f c := by cases c <;> rfl
def T.put {α : Type} : Nat → T α → Nat → Option α → T α
  | 0, t, _, _ => t
  | n + 1, .leaf, k, v => if k = 0 then .node .leaf v .leaf else if k % 2 = 1 then T.first (T.put n .leaf (k / 2) v) fun c => .node c none .leaf else T.first (T.put n .leaf (k / 2 - 1) v) fun c => .node .leaf none c
  | n + 1, .node l u r, k, v => if k = 0 then .node l v r else if k % 2 = 1 then T.first (T.put n l (k / 2) v) fun c => .node c u r else T.first (T.put n r (k / 2 - 1) v) fun c => .node l u c

theorem T.get_put {α : Type} : ∀ (n : Nat) (t : T α) (k j : Nat) (v : Option α), k + 1 < 2 ^ n → (T.put n t k v).get j = if j = k then v else t.get j := by
  intro n
  induction n with
  | zero => intro t k j v h; omega
  | succ n ih =>
    intro t k j v h
    have hp : 2 ^ (n + 1) = 2 * 2 ^ n := by rw [Nat.pow_succ]; omega
    rw [hp] at h
    have aux1 : k % 2 = 1 → k / 2 + 1 < 2 ^ n := fun _ => by omega
    have aux2 : ¬ k = 0 → ¬ k % 2 = 1 → (k / 2 - 1) + 1 < 2 ^ n := fun _ _ => by omega
    cases t with
    | leaf =>
      simp only [T.put, T.first_eq]
      by_cases hk : k = 0
      · subst hk
        simp only [if_true, T.get]
        by_cases hj : j = 0
        · simp [hj]
        · simp [hj]
      · rw [if_neg hk]
        by_cases h1 : k % 2 = 1
        · rw [if_pos h1]
          simp only [T.get]
          by_cases hj : j = 0
          · subst hj; rw [if_pos rfl, if_neg (by omega)]
          · rw [if_neg hj]
            by_cases hj1 : j % 2 = 1
            · rw [if_pos hj1, ih _ _ _ _ (aux1 h1)]
              simp only [T.get]
              by_cases he : j = k
              · rw [if_pos (by omega), if_pos he]
              · rw [if_neg (by omega), if_neg he]
            · rw [if_neg hj1, if_neg (by omega)]
        · rw [if_neg h1]
          simp only [T.get]
          by_cases hj : j = 0
          · subst hj; rw [if_pos rfl, if_neg (by omega)]
          · rw [if_neg hj]
            by_cases hj1 : j % 2 = 1
            · rw [if_pos hj1, if_neg (by omega)]
            · rw [if_neg hj1, ih _ _ _ _ (aux2 hk h1)]
              simp only [T.get]
              by_cases he : j = k
              · rw [if_pos (by omega), if_pos he]
              · rw [if_neg (by omega), if_neg he]
    | node l u r =>
      simp only [T.put, T.first_eq]
      by_cases hk : k = 0
      · subst hk
        simp only [if_true, T.get]
        by_cases hj : j = 0
        · simp [hj]
        · simp [hj]
      · rw [if_neg hk]
        by_cases h1 : k % 2 = 1
        · rw [if_pos h1]
          simp only [T.get]
          by_cases hj : j = 0
          · subst hj; rw [if_pos rfl, if_neg (by omega), if_pos rfl]
          · rw [if_neg hj, if_neg hj]
            by_cases hj1 : j % 2 = 1
            · rw [if_pos hj1, if_pos hj1, ih _ _ _ _ (aux1 h1)]
              by_cases he : j = k
              · rw [if_pos (by omega), if_pos he]
              · rw [if_neg (by omega), if_neg he]
            · rw [if_neg hj1, if_neg hj1, if_neg (by omega)]
        · rw [if_neg h1]
          simp only [T.get]
          by_cases hj : j = 0
          · subst hj; rw [if_pos rfl, if_neg (by omega), if_pos rfl]
          · rw [if_neg hj, if_neg hj]
            by_cases hj1 : j % 2 = 1
            · rw [if_pos hj1, if_pos hj1, if_neg (by omega)]
            · rw [if_neg hj1, if_neg hj1, ih _ _ _ _ (aux2 hk h1)]
              by_cases he : j = k
              · rw [if_pos (by omega), if_pos he]
              · rw [if_neg (by omega), if_neg he]

/-- A trie as it is used: keys below 2^30. -/
def T.set {α : Type} (t : T α) (k : Nat) (v : α) : T α := T.put 31 t k (some v)
theorem T.get_set {α : Type} (t : T α) {k : Nat} (j : Nat) (v : α) (h : k < 1073741824) : (t.set k v).get j = if j = k then some v else t.get j :=
  T.get_put 31 t k j (some v) (by omega)
def T.del {α : Type} (t : T α) (k : Nat) : T α := T.put 31 t k none
theorem T.get_del {α : Type} (t : T α) {k : Nat} (j : Nat) (h : k < 1073741824) : (t.del k).get j = if j = k then none else t.get j :=
  T.get_put 31 t k j none (by omega)
/-- The values of a list from a key on. -/
def T.fill {α : Type} (t : T α) (k : Nat) : List α → T α
  | [] => t
  | v :: r => (t.set k v).fill (k + 1) r
theorem T.get_fill {α : Type} (l : List α) : ∀ (t : T α) (k j : Nat), k + l.length ≤ 1073741824 → (t.fill k l).get j = if k ≤ j ∧ j < k + l.length then l[j - k]? else t.get j := by
  induction l with
  | nil => intro t k j _; simp [T.fill]; omega
  | cons v r ih =>
    intro t k j h
    simp only [List.length_cons] at h
    rw [T.fill, ih _ _ _ (by omega), T.get_set _ _ _ (by omega)]
    simp only [List.length_cons]
    by_cases h1 : k + 1 ≤ j ∧ j < k + 1 + r.length
    · rw [if_pos h1, if_pos (by omega)]
      obtain ⟨i, hi⟩ : ∃ i, j - k = i + 1 := ⟨j - k - 1, by omega⟩
      rw [hi, show j - (k + 1) = i by omega]; rfl
    · rw [if_neg h1]
      by_cases h2 : j = k
      · subst h2; rw [if_pos rfl, if_pos (by omega)]; simp
      · rw [if_neg h2, if_neg (by omega)]
/-- n values from a key on; none: one lacks. -/
def T.take {α : Type} (t : T α) (k : Nat) : Nat → Option (List α)
  | 0 => some []
  | n + 1 => match t.get k with
    | none => none
    | some v => match t.take (k + 1) n with
      | none => none
      | some r => some (v :: r)
theorem T.take_spec {α : Type} : ∀ (n : Nat) (t : T α) (k : Nat) (l : List α), t.take k n = some l → l.length = n ∧ ∀ j v, l[j]? = some v → t.get (k + j) = some v := by
  intro n
  induction n with
  | zero => intro t k l h; simp [T.take] at h; subst h; simp
  | succ n ih =>
    intro t k l h
    simp only [T.take] at h
    cases hg : t.get k with
    | none => rw [hg] at h; cases h
    | some v =>
      rw [hg] at h
      cases ht : t.take (k + 1) n with
      | none => rw [ht] at h; cases h
      | some r =>
        rw [ht] at h
        injection h with h
        subst h
        obtain ⟨h1, h2⟩ := ih t (k + 1) r ht
        refine ⟨by simp [h1], fun j u hu => ?_⟩
        cases j with
        | zero => simp at hu; subst hu; exact hg
        | succ j => simp at hu; rw [show k + (j + 1) = k + 1 + j by omega]; exact h2 j u hu

/-! ### renamings -/
/-- Which block a number of ours stands for; of a slice that grew: how many elements its block bears, and how many cells one has. -/
structure Env where
  blk : Nat → Option Nat
  cap : Nat → Option (Nat × Nat)
  /-- Blocks that are laid out already, and not yet there. -/
  ph : Nat → Bool
structure Env.le (E E' : Env) : Prop where
  to : ∀ i b, E.blk i = some b → E'.blk i = some b ∧ E'.cap i = E.cap i
  ph : E'.ph = E.ph
theorem Env.le_refl (E : Env) : E.le E := ⟨fun _ _ h => ⟨h, rfl⟩, rfl⟩
theorem Env.le_trans {A B C : Env} (h : A.le B) (k : B.le C) : A.le C := ⟨fun i b hb => ⟨(k.to i b (h.to i b hb).1).1, ((k.to i b (h.to i b hb).1).2).trans (h.to i b hb).2⟩, k.ph.trans h.ph⟩

/-- What a slice's capacity of ours stands for. -/
def capOf (E : Env) (i o c : Nat) (c' : Nat) : Prop :=
  match E.cap i with
  | none => c' = c
  | some (C, s) => c ≤ c' ∧ c' = C - o / s

/-! ### numbers that no literal stands for -/
inductive SV (val : Nat → Int) : Value → Value → Prop where
  | bool (b : Bool) : SV val (.bool b) (.bool b)
  | int (k : IntKind) (n : Int) : SV val (.int k n) (.int k n)
  | sym (j : Nat) : SV val (.float .f32 j) (.int .i64 (val j))
/-- What these numbers are, and what of them is known. -/
class Sig where
  val : Nat → Int
  tab : BinOp → Value → Value → Option Value
  ok : ∀ {op : BinOp} {x y r : Value}, tab op x y = some r → ∀ {x' y' : Value}, SV val x x' → SV val y y' → ∃ r', SV val r r' ∧ ∀ (P : Program) (t : TypeId) (w : World), (binOp op t x' y').run P w = .ok r' w
/-- There are none. -/
@[reducible] def noSig : Sig := ⟨fun _ => 0, fun _ _ _ => none, fun h => by cases h⟩
set_option linter.unusedSectionVars false
variable [Sig]

/-- A value of one cell that nothing is known of; no truth. -/
def opqOK : Value → Bool
  | .agg _ | .tuple _ | .bool _ => false
  | _ => true
mutual
inductive VR (E : Env) : Value → Value → Prop where
  | bool (b : Bool) : VR E (.bool b) (.bool b)
  | int (k : IntKind) (n : Int) : VR E (.int k n) (.int k n)
  | string (s : ByteArray) : VR E (.string s) (.string s)
  | ptr0 : VR E (.pointer none) (.pointer none)
  | ptr {i b : Nat} (o : Nat) (h : E.blk i = some b) : VR E (.pointer (some ⟨i, o, none⟩)) (.pointer (some ⟨b, o, none⟩))
  | slice0 (n c : Nat) : VR E (.slice none n c) (.slice none n c)
  | slice {i b : Nat} (o n : Nat) {c c' : Nat} (h : E.blk i = some b) (hc : capOf E i o c c') : VR E (.slice (some ⟨i, o, none⟩) n c) (.slice (some ⟨b, o, none⟩) n c')
  | slicex (i : Nat) (a : Addr) (c : Nat) : VR E (.slice (some ⟨i, 0, some 0⟩) 0 0) (.slice (some a) 0 c)
  | map0 : VR E (.map none) (.map none)
  | map {i b : Nat} (h : E.blk i = some b) : VR E (.map (some i)) (.map (some b))
  | func (f : FuncId) {y y' x x' : List Value} (g : VRL E y y') (h : VRL E x x') : VR E (.func (.func f) y.toArray x.toArray) (.func (.func f) y'.toArray x'.toArray)
  | yield {i b : Nat} (h : E.blk i = some b) : VR E (.func (.yield i) #[] #[]) (.func (.yield b) #[] #[])
  | sym (j : Nat) : VR E (.float .f32 j) (.int .i64 (Sig.val j))
  | low (c : Nat) {n : Nat} (h : c ≤ n) : VR E (.float .f64 c) (.int .i64 (n : Nat))
  | nilFunc : VR E .nilFunc .nilFunc
  | iface (t : TypeId) {v v' : Value} (h : VR E v v') : VR E (.iface t v) (.iface t v')
  | nilIface : VR E .nilIface .nilIface
  | opq (k : Nat) {v' : Value} (h : opqOK v' = true) : VR E (.chan (some k)) v'
  | agg {x x' : List Value} (h : VRL E x x') : VR E (.agg x.toArray) (.agg x'.toArray)
  | tuple {x x' : List Value} (h : VRL E x x') : VR E (.tuple x.toArray) (.tuple x'.toArray)
inductive VRL (E : Env) : List Value → List Value → Prop where
  | nil : VRL E [] []
  | cons {v v' : Value} {x x' : List Value} (h : VR E v v') (hs : VRL E x x') : VRL E (v :: x) (v' :: x')
end

/-- What is named stays named so. -/
def Env.To (E E' : Env) : Prop := ∀ i b, E.blk i = some b → E'.blk i = some b ∧ E'.cap i = E.cap i
theorem Env.To.trans {A B C : Env} (h : A.To B) (k : B.To C) : A.To C := fun i b hb => ⟨(k i b (h i b hb).1).1, ((k i b (h i b hb).1).2).trans (h i b hb).2⟩
theorem Env.le.T {E E' : Env} (h : E.le E') : E.To E' := h.to
theorem capOf_to {E E' : Env} (h : E.To E') {i b o c c' : Nat} (hb : E.blk i = some b) (hc : capOf E i o c c') : capOf E' i o c c' := by
  unfold capOf at *
  rw [(h i b hb).2]; exact hc
mutual
theorem VR.monoT {E E' : Env} (h : E.To E') {v v' : Value} : VR E v v' → VR E' v v'
  | .bool b => .bool b
  | .int k n => .int k n
  | .string s => .string s
  | .ptr0 => .ptr0
  | .ptr o hb => .ptr o (h _ _ hb).1
  | .slice0 n c => .slice0 n c
  | .slice o n hb hc => .slice o n (h _ _ hb).1 (capOf_to h hb hc)
  | .slicex i a c => .slicex i a c
  | .map0 => .map0
  | .map hb => .map (h _ _ hb).1
  | .func f gl hl => .func f (VRL.monoT h gl) (VRL.monoT h hl)
  | .yield hb => .yield (h _ _ hb).1
  | .sym j => .sym j
  | .low c hc => .low c hc
  | .nilFunc => .nilFunc
  | .iface t hv => .iface t (VR.monoT h hv)
  | .nilIface => .nilIface
  | .opq k h => .opq k h
  | .agg hl => .agg (VRL.monoT h hl)
  | .tuple hl => .tuple (VRL.monoT h hl)
theorem VRL.monoT {E E' : Env} (h : E.To E') {x x' : List Value} : VRL E x x' → VRL E' x x'
  | .nil => .nil
  | .cons hv hl => .cons (VR.monoT h hv) (VRL.monoT h hl)
end
theorem capOf_le {E E' : Env} (h : E.le E') {i b o c c' : Nat} (hb : E.blk i = some b) (hc : capOf E i o c c') : capOf E' i o c c' := capOf_to h.T hb hc
theorem VR.mono {E E' : Env} (h : E.le E') {v v' : Value} (k : VR E v v') : VR E' v v' := VR.monoT h.T k
theorem VRL.mono {E E' : Env} (h : E.le E') {x x' : List Value} (k : VRL E x x') : VRL E' x x' := VRL.monoT h.T k
theorem VRL.len {E : Env} {x x' : List Value} (h : VRL E x x') : x'.length = x.length := by
  induction x generalizing x' with
  | nil => cases h; rfl
  | cons v x ih => cases h with | cons hv hl => simp [ih hl]
theorem VRL.get {E : Env} {x x' : List Value} (h : VRL E x x') {i : Nat} {v : Value} (hv : x[i]? = some v) : ∃ v', x'[i]? = some v' ∧ VR E v v' := by
  induction x generalizing x' i with
  | nil => simp at hv
  | cons u x ih =>
    cases h with
    | cons hu hl =>
      cases i with
      | zero => simp at hv; subst hv; exact ⟨_, rfl, hu⟩
      | succ i => simp at hv; exact ih hl hv
theorem VRL.append {E : Env} {x x' y y' : List Value} (h : VRL E x x') (k : VRL E y y') : VRL E (x ++ y) (x' ++ y') := by
  induction x generalizing x' with
  | nil => cases h; exact k
  | cons u x ih => cases h with | cons hu hl => exact .cons hu (ih hl)
theorem VRL.of_get {E : Env} : ∀ {x x' : List Value}, x'.length = x.length → (∀ (i : Nat) (v : Value), x[i]? = some v → ∃ v' : Value, x'[i]? = some v' ∧ VR E v v') → VRL E x x' := by
  intro x
  induction x with
  | nil => intro x' hl _; cases x' with | nil => exact .nil | cons _ _ => simp at hl
  | cons u x ih =>
    intro x' hl h
    cases x' with
    | nil => simp at hl
    | cons u' x' =>
      obtain ⟨v', h1, h2⟩ := h 0 u rfl
      simp at h1; subst h1
      exact .cons h2 (ih (by simpa using hl) fun i v hv => by have := h (i + 1) v (by simpa using hv); simpa using this)

/-! ### values without any address -/
mutual
def clean : Value → Bool
  | .bool _ | .int _ _ | .string _ | .pointer none | .slice none _ _ | .map none | .nilFunc | .nilIface => true
  | .func (.func _) ⟨y⟩ ⟨x⟩ => y.isEmpty && cleanL x
  | .iface _ v => clean v
  | .agg ⟨x⟩ | .tuple ⟨x⟩ => cleanL x
  | _ => false
def cleanL : List Value → Bool
  | [] => true
  | v :: x => clean v && cleanL x
end
mutual
theorem VR.of_clean (E : Env) : ∀ (v : Value), clean v = true → VR E v v
  | .bool b, _ => .bool b
  | .int k n, _ => .int k n
  | .string s, _ => .string s
  | .pointer none, _ => .ptr0
  | .slice none n c, _ => .slice0 n c
  | .map none, _ => .map0
  | .nilFunc, _ => .nilFunc
  | .nilIface, _ => .nilIface
  | .func (.func f) ⟨[]⟩ ⟨x⟩, h => .func f .nil (VRL.of_clean E x (by simpa [clean] using h))
  | .func (.func f) ⟨u :: y⟩ ⟨x⟩, h => by simp [clean] at h
  | .float _ _, h => by simp [clean] at h
  | .complex _ _ _, h => by simp [clean] at h
  | .pointer (some _), h => by simp [clean] at h
  | .slice (some _) _ _, h => by simp [clean] at h
  | .map (some _), h => by simp [clean] at h
  | .chan _, h => by simp [clean] at h
  | .func (.method _) _ _, h => by simp [clean] at h
  | .func (.methodOf _ _) _ _, h => by simp [clean] at h
  | .func (.via _ _ _ _) _ _, h => by simp [clean] at h
  | .func (.yield _) _ _, h => by simp [clean] at h
  | .iface t v, h => .iface t (VR.of_clean E v (by simpa [clean] using h))
  | .agg ⟨x⟩, h => .agg (VRL.of_clean E x (by simpa [clean] using h))
  | .tuple ⟨x⟩, h => .tuple (VRL.of_clean E x (by simpa [clean] using h))
theorem VRL.of_clean (E : Env) : ∀ (x : List Value), cleanL x = true → VRL E x x
  | [], _ => .nil
  | v :: x, h => by
    simp only [cleanL, Bool.and_eq_true] at h
    exact .cons (VR.of_clean E v h.1) (VRL.of_clean E x h.2)
end
mutual
theorem VR.eq_of_clean {E : Env} : ∀ {v v' : Value}, VR E v v' → clean v = true → v' = v
  | _, _, .bool _, _ => rfl
  | _, _, .int _ _, _ => rfl
  | _, _, .string _, _ => rfl
  | _, _, .ptr0, _ => rfl
  | _, _, .slice0 _ _, _ => rfl
  | _, _, .slicex _ _ _, h => by simp [clean] at h
  | _, _, .map0, _ => rfl
  | _, _, .func f .nil hl, h => by rw [VRL.eq_of_clean hl (by simpa [clean] using h)]
  | _, _, .func f (.cons _ _) hl, h => by simp [clean] at h
  | _, _, .yield _, h => by simp [clean] at h
  | _, _, .sym _, h => by simp [clean] at h
  | _, _, .low _ _, h => by simp [clean] at h
  | _, _, .nilFunc, _ => rfl
  | _, _, .iface t hv, h => by rw [VR.eq_of_clean hv (by simpa [clean] using h)]
  | _, _, .nilIface, _ => rfl
  | _, _, .opq _ _, h => by simp [clean] at h
  | _, _, .agg hl, h => by rw [VRL.eq_of_clean hl (by simpa [clean] using h)]
  | _, _, .tuple hl, h => by rw [VRL.eq_of_clean hl (by simpa [clean] using h)]
theorem VRL.eq_of_clean {E : Env} : ∀ {x x' : List Value}, VRL E x x' → cleanL x = true → x' = x
  | _, _, .nil, _ => rfl
  | _, _, .cons hv hl, h => by
    simp only [cleanL, Bool.and_eq_true] at h
    rw [VR.eq_of_clean hv h.1, VRL.eq_of_clean hl h.2]
end
end Go.Proofs.YtkecgbcfkbafpaaDoor.Ev
