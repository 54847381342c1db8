/-
  The memory of our machine, and how it stands for a world's.
-/
import Derived.RangeFuncRecord
import Derived.Deep.Draws
import Derived.Test.YtkecgbcfkbafpaaDoorEvA
namespace Go.Proofs.YtkecgbcfkbafpaaDoor.Ev
set_option linter.unusedSectionVars false
variable [Sig]
open Go.RowKit

/-- A block of ours: cells (how many, of which type; did it grow?); a map; a walk through a string. -/
inductive AObj where
  | cells (cs : T Value) (n : Nat) (elem : TypeId) (g : Bool)
  | map (es : List MapEntry) (clock : Nat)
  | iter (s : ByteArray) (pos : Nat)
  | miter (m : Option Nat) (since last : Nat) (seen : List Nat)
  | loop (tm : T Value) (nt : Nat) (ps : List Nat) (assign body : Code) (dfr : Nat) (st : LoopState) (pend : Option Code)
  | dfr

/-- Entries that stand for entries. -/
inductive ER (E : Env) : List MapEntry → List MapEntry → Prop where
  | nil : ER E [] []
  | cons {k v k' v' : Value} (born : Nat) {x x' : List MapEntry} (hk : VR E k k') (hv : VR E v v') (h : ER E x x') : ER E (⟨k, v, born⟩ :: x) (⟨k', v', born⟩ :: x')
theorem ER.monoT {E E' : Env} (h : E.To E') {x x' : List MapEntry} (k : ER E x x') : ER E' x x' := by
  induction k with
  | nil => exact .nil
  | cons born hk hv _ ih => exact .cons born (hk.monoT h) (hv.monoT h) ih
theorem ER.mono {E E' : Env} (h : E.le E') {x x' : List MapEntry} (k : ER E x x') : ER E' x x' := k.monoT h.T

def sizeOk (P : Program) (E : Env) (i n elem : Nat) (g : Bool) (size : Nat) : Prop :=
  match E.cap i with
  | none => size = n ∧ g = false
  | some (C, s) => n ≤ size ∧ size = C * s ∧ 0 < s ∧ g = true ∧ P.cellsOf elem = s
/-- What is frozen of a block lies behind its cells; and only where each element is of one cell. -/
def fzOK (one : Nat) (fz : Nat × Nat) (size : Nat) : Prop := fz = (0, 0) ∨ (fz = (size, size + 1) ∧ one = 1)
theorem fzOK.free {one : Nat} {fz : Nat × Nat} {size o : Nat} (h : fzOK one fz size) (ho : o < size) : (decide (fz.1 ≤ o) && decide (o < fz.2)) = false := by
  rcases h with rfl | ⟨rfl, _⟩
  · simp
  · simp only [Bool.and_eq_false_imp, decide_eq_true_eq, decide_eq_false_iff_not]; omega
theorem frozen_free {one : Nat} {w : World} {b o : Nat} {arr : Array Value} {elem : TypeId} {fz : Nat × Nat} (h : w.heap[b]? = some (.cells arr elem fz)) (hz : fzOK one fz arr.size) (ho : o < arr.size) : w.frozen? ⟨b, o, none⟩ = false := by
  unfold World.frozen?
  rw [h]
  exact hz.free ho
/-- A block of ours stands for one of a world. -/
def OR (P : Program) (E : Env) (i : Nat) : AObj → Obj → Prop
  | .cells cs n elem g, r => ∃ arr : Array Value, (∃ fz elem', fzOK (P.cellsOf elem') fz arr.size ∧ (64 ≤ i → elem' = elem) ∧ r = .cells arr elem' fz) ∧ sizeOk P E i n elem g arr.size ∧ ∀ j v, j < n → cs.get j = some v → ∃ v', arr[j]? = some v' ∧ VR E v v'
  | .map es clock, r => ∃ arr : Array MapEntry, r = .map arr clock ∧ ER E es arr.toList
  | .iter s pos, r => r = .stringIter s pos
  | .miter none _ _ _, r => r = .mapIter none 0 #[] 0
  | .miter (some j) since last seen, r => ∃ b, E.blk j = some b ∧ r = .mapIter (some b) since seen.toArray last
  | .loop tm nt ps assign body dfr st pend, r => ∃ fn tmps bd, E.blk dfr = some bd ∧ tmps.size = nt ∧ (∀ t, VR E ((tm.get t).getD undef) (tmps.getD t undef)) ∧
      r = .loop { state := st, pending := pend, fn := fn, tmps := tmps, params := ps.toArray, assign := assign, body := body, defers := bd }
  | .dfr, r => r = .deferred (some [])
theorem sizeOk_to {P : Program} {E E' : Env} (h : E.To E') {i b n elem size : Nat} {g : Bool} (hb : E.blk i = some b) (k : sizeOk P E i n elem g size) : sizeOk P E' i n elem g size := by
  unfold sizeOk at *; rw [(h i b hb).2]; exact k
theorem sizeOk_le {P : Program} {E E' : Env} (h : E.le E') {i b n elem size : Nat} {g : Bool} (hb : E.blk i = some b) (k : sizeOk P E i n elem g size) : sizeOk P E' i n elem g size := sizeOk_to h.T hb k
theorem sizeOk_n {P : Program} {E : Env} {i n elem size : Nat} {g : Bool} (k : sizeOk P E i n elem g size) : n ≤ size := by
  unfold sizeOk at k; split at k <;> omega
theorem OR.monoT {P : Program} {E E' : Env} (h : E.To E') {i b : Nat} (hb : E.blk i = some b) {o : AObj} {r : Obj} (k : OR P E i o r) : OR P E' i o r := by
  cases o with
  | cells cs n elem g =>
    obtain ⟨arr, e, hs, hc⟩ := k
    exact ⟨arr, e, sizeOk_to h hb hs, fun j v hj hv => by obtain ⟨v', h1, h2⟩ := hc j v hj hv; exact ⟨v', h1, h2.monoT h⟩⟩
  | map es clock => obtain ⟨arr, e, hs⟩ := k; exact ⟨arr, e, hs.monoT h⟩
  | iter s pos => exact k
  | miter mi since last seen =>
    cases mi with
    | none => exact k
    | some j => obtain ⟨b, h1, h2⟩ := k; exact ⟨b, (h j b h1).1, h2⟩
  | loop tm nt ps assign body dfr st pend =>
    obtain ⟨fn, tmps, bd, h1, h2, h3, h4⟩ := k
    exact ⟨fn, tmps, bd, (h dfr bd h1).1, h2, fun t => (h3 t).monoT h, h4⟩
  | dfr => exact k
theorem OR.mono {P : Program} {E E' : Env} (h : E.le E') {i b : Nat} (hb : E.blk i = some b) {o : AObj} {r : Obj} (k : OR P E i o r) : OR P E' i o r := k.monoT h.T hb

/-- Our memory stands for a world's; what lay in the world w0 lies as it lay. -/
structure HR (P : Program) (w0 : World) (E : Env) (H : T AObj) (next : Nat) (w : World) : Prop where
  below : Below w0.heap.size w0 w
  dom : ∀ i b, E.blk i = some b → i < next ∧ (64 ≤ i → w0.heap.size ≤ b ∧ b < w.heap.size)
  glob : ∀ g, g < 48 → E.blk g = some g
  inj : ∀ i j o o' b, H.get i = some o → H.get j = some o' → E.blk i = some b → E.blk j = some b → i = j
  ph : ∀ i, E.ph i = true → i < next ∧ E.blk i = none
  born : ∀ i o, H.get i = some o → E.ph i = false → ∃ b r, E.blk i = some b ∧ w.heap[b]? = some r ∧ OR P E i o r

variable {P : Program} {w0 w w' : World} {E E' : Env} {H : T AObj} {next : Nat}

theorem HR.obj (h : HR P w0 E H next w) {i b : Nat} (hb : E.blk i = some b) {o : AObj} (hg : H.get i = some o) : ∃ b r, E.blk i = some b ∧ w.heap[b]? = some r ∧ OR P E i o r :=
  h.born i o hg (by
    cases hp : E.ph i with
    | false => rfl
    | true => have := (h.ph i hp).2; rw [hb] at this; cases this)
theorem HR.start (w : World) : HR P w ⟨fun i => if i < 48 then some i else none, fun _ => none, fun _ => false⟩ .leaf 64 w :=
  ⟨Below.refl _ _, by intro i b h; simp at h; omega, by intro g hg; simp [hg], by intro i j o o' b h; simp [T.get] at h, fun i h => absurd h Bool.false_ne_true, by intro i o h; simp [T.get] at h⟩
/-- The world turns where nothing of ours lies. -/
theorem HR.keep (h : HR P w0 E H next w) (hb : Below w0.heap.size w w') (hk : ∀ i o b, H.get i = some o → E.blk i = some b → w'.heap[b]? = w.heap[b]?) : HR P w0 E H next w' :=
  ⟨h.below.trans hb, fun i b e => by have := h.dom i b e; have := hb.size; omega, h.glob, h.inj, h.ph, fun i o e hp => by
    obtain ⟨b, r, h1, h2, h3⟩ := h.born i o e hp
    exact ⟨b, r, h1, (hk i o b e h1).trans h2, h3⟩⟩
theorem HR.drew (h : HR P w0 E H next w) : HR P w0 E H next w.drew := h.keep (Below.refl _ _).drew fun _ _ _ _ _ => rfl
theorem HR.drawn (h : HR P w0 E H next w) : HR P w0 E H next { w with drawn := w.drawn + 1 } := h.drew
/-- A block of ours is forgotten. -/
theorem HR.forget (h : HR P w0 E H next w) {i : Nat} (hi : i < 1073741824) : HR P w0 E (H.del i) next w := by
  have hg : ∀ j o, (H.del i).get j = some o → H.get j = some o := fun j o e => by
    rw [T.get_del _ _ hi] at e; split at e
    · cases e
    · exact e
  exact ⟨h.below, h.dom, h.glob, fun i j o o' b h1 h2 => h.inj i j o o' b (hg _ _ h1) (hg _ _ h2), h.ph, fun j o e hp => h.born j o (hg j o e) hp⟩

/-- The renaming with one block more. -/
def Env.more (E : Env) (i b : Nat) (c : Option (Nat × Nat)) : Env := ⟨fun j => if j = i then some b else E.blk j, fun j => if j = i then c else E.cap j, E.ph⟩
theorem Env.le_more (h : HR P w0 E H next w) (b : Nat) (c : Option (Nat × Nat)) : E.le (E.more next b c) := ⟨fun i b' hb => by
  have := (h.dom i b' hb).1
  simp only [Env.more]
  rw [if_neg (by omega), if_neg (by omega)]
  exact ⟨hb, rfl⟩, rfl⟩
/-- A new block. -/
theorem HR.new (h : HR P w0 E H next w) (hn : next < 1073741824) {c : Option (Nat × Nat)} {o : AObj} {r : Obj} (ho : OR P (E.more next w.heap.size c) next o r) :
    HR P w0 (E.more next w.heap.size c) (H.set next o) (next + 1) (w.alloc r) := by
  have hle := Env.le_more h w.heap.size c
  have hsz : (w.alloc r).heap.size = w.heap.size + 1 := by simp
  have hbk : ∀ i b, (E.more next w.heap.size c).blk i = some b → (i = next ∧ b = w.heap.size) ∨ (i ≠ next ∧ E.blk i = some b) := by
    intro i b e
    simp only [Env.more] at e
    split at e
    · injection e with e; exact .inl ⟨‹_›, e.symm⟩
    · exact .inr ⟨‹_›, e⟩
  have hno : ∀ j o', H.get j = some o' → E.blk j ≠ some w.heap.size := fun j o' hj e => by
    obtain ⟨b', r', k1, k2, _⟩ := h.obj e hj
    rw [e] at k1
    injection k1 with k1
    subst k1
    simp at k2
  refine ⟨h.below.alloc h.below.size _, ?_, fun g hg => (hle.to g g (h.glob g hg)).1, ?_, fun i hi => ?_, ?_⟩
  · intro i b e
    rw [hsz]
    rcases hbk i b e with ⟨rfl, rfl⟩ | ⟨_, e⟩
    · exact ⟨by omega, fun _ => ⟨h.below.size, by omega⟩⟩
    · have := h.dom i b e; omega
  · intro i j o1 o2 b h1 h2 e1 e2
    rw [T.get_set _ _ _ hn] at h1 h2
    rcases hbk i b e1 with ⟨rfl, rfl⟩ | ⟨hi, e1'⟩ <;> rcases hbk j _ e2 with ⟨rfl, hb2⟩ | ⟨hj, e2'⟩
    · rfl
    · rw [if_neg hj] at h2; exact absurd e2' (hno j o2 h2)
    · rw [if_neg hi] at h1; subst hb2; exact absurd e1' (hno i o1 h1)
    · rw [if_neg hi] at h1; rw [if_neg hj] at h2
      exact h.inj i j o1 o2 b h1 h2 e1' e2'
  · have := h.ph i hi
    refine ⟨by omega, ?_⟩
    simp only [Env.more]
    rw [if_neg (by omega)]
    exact this.2
  · intro i o1 h1 hp
    rw [T.get_set _ _ _ hn] at h1
    split at h1
    · injection h1 with h1; subst h1
      rename_i hi; subst hi
      exact ⟨w.heap.size, r, by simp [Env.more], World.alloc_heap_new w r, ho⟩
    · obtain ⟨b, r1, g1, g2, g3⟩ := h.born i o1 h1 hp
      refine ⟨b, r1, (hle.to i b g1).1, ?_, g3.mono hle g1⟩
      rw [Below.heap_alloc w r b (Array.getElem?_eq_some_iff.1 g2).1]; exact g2
/-- A block that is laid out beforehand. -/
def Env.phantom (E : Env) (i : Nat) : Env := ⟨E.blk, E.cap, fun j => j == i || E.ph j⟩
theorem HR.lay (h : HR P w0 E H next w) (hn : next < 1073741824) (o : AObj) : HR P w0 (E.phantom next) (H.set next o) (next + 1) w := by
  have hno : E.blk next = none := by
    cases hb : E.blk next with
    | none => rfl
    | some b => have := (h.dom next b hb).1; omega
  have hg : ∀ i o' b, (H.set next o).get i = some o' → E.blk i = some b → H.get i = some o' := fun i o' b hi hb => by
    rw [T.get_set _ _ _ hn] at hi
    split at hi
    · rename_i e; subst e; rw [hno] at hb; cases hb
    · exact hi
  refine ⟨h.below, fun i b hb => ?_, h.glob, fun i j o1 o2 b h1 h2 e1 e2 => h.inj i j o1 o2 b (hg i o1 b h1 e1) (hg j o2 b h2 e2) e1 e2, fun i hi => ?_, fun i o' hi hp => ?_⟩
  · have := h.dom i b hb; exact ⟨by omega, this.2⟩
  · simp only [Env.phantom, Bool.or_eq_true, beq_iff_eq] at hi
    rcases hi with rfl | hi
    · exact ⟨by omega, hno⟩
    · have := h.ph i hi; exact ⟨by omega, this.2⟩
  · simp only [Env.phantom, Bool.or_eq_false_iff, beq_eq_false_iff_ne] at hp
    rw [T.get_set _ _ _ hn, if_neg hp.1] at hi
    obtain ⟨b, r, k1, k2, k3⟩ := h.born i o' hi hp.2
    exact ⟨b, r, k1, k2, OR.monoT (E := E) (E' := E.phantom next) (fun _ _ e => ⟨e, rfl⟩) k1 k3⟩
/-- Such a block comes to be. -/
def Env.real (E : Env) (n b : Nat) : Env := ⟨fun j => if j = n then some b else E.blk j, fun j => if j = n then none else E.cap j, fun j => if j = n then false else E.ph j⟩
theorem Env.to_real (h : HR P w0 E H next w) {n : Nat} (hp : E.ph n = true) (b : Nat) : E.To (E.real n b) := fun i b' hb => by
  have hne : i ≠ n := fun e => by subst e; rw [(h.ph i hp).2] at hb; cases hb
  simp only [Env.real]
  rw [if_neg hne, if_neg hne]
  exact ⟨hb, rfl⟩
theorem HR.real (h : HR P w0 E H next w) {n b : Nat} (hp : E.ph n = true) {o : AObj} {r : Obj} (hw : Below w.heap.size w w') (hge : w.heap.size ≤ b) (hlt : b < w'.heap.size) (hg : H.get n = some o) (hr : w'.heap[b]? = some r) (ho : OR P (E.real n b) n o r) :
    HR P w0 (E.real n b) H next w' := by
  have hto := Env.to_real h hp b
  have hpn := h.ph n hp
  have hbk : ∀ i c, (E.real n b).blk i = some c → (i = n ∧ c = b) ∨ (i ≠ n ∧ E.blk i = some c) := fun i c e => by
    simp only [Env.real] at e
    split at e
    · injection e with e; exact .inl ⟨‹_›, e.symm⟩
    · exact .inr ⟨‹_›, e⟩
  have hold : ∀ i o' c, H.get i = some o' → E.blk i = some c → c < w.heap.size := fun i o' c hi hc => by
    obtain ⟨c', r', k1, k2, _⟩ := h.obj hc hi
    rw [hc] at k1
    injection k1 with k1
    subst k1
    exact (Array.getElem?_eq_some_iff.1 k2).1
  refine ⟨h.below.trans ⟨hw.os, hw.tape, hw.output, hw.size, fun k hk => hw.block k (Nat.lt_of_lt_of_le hk h.below.size)⟩, fun i c hc => ?_, fun g hgl => (hto g g (h.glob g hgl)).1, fun i j o1 o2 c h1 h2 e1 e2 => ?_, fun i hi => ?_, fun i o' hi hpi => ?_⟩
  · rcases hbk i c hc with ⟨rfl, rfl⟩ | ⟨_, hc⟩
    · exact ⟨hpn.1, fun _ => ⟨Nat.le_trans h.below.size hge, hlt⟩⟩
    · have := h.dom i c hc; have := hw.size; omega
  · rcases hbk i c e1 with ⟨rfl, rfl⟩ | ⟨hi, e1'⟩ <;> rcases hbk j c e2 with ⟨rfl, hb2⟩ | ⟨hj, e2'⟩
    · rfl
    · have := hold j o2 _ h2 e2'; omega
    · have := hold i o1 _ h1 e1'; omega
    · exact h.inj i j o1 o2 c h1 h2 e1' e2'
  · simp only [Env.real] at hi ⊢
    split at hi
    · cases hi
    · rename_i hne
      rw [if_neg hne]
      exact h.ph i hi
  · by_cases e : i = n
    · subst e
      rw [hg] at hi
      injection hi with hi
      subst hi
      exact ⟨b, r, by simp [Env.real], hr, ho⟩
    · simp only [Env.real] at hpi
      rw [if_neg e] at hpi
      obtain ⟨c, r', k1, k2, k3⟩ := h.born i o' hi hpi
      exact ⟨c, r', (hto i c k1).1, (hw.block c (Array.getElem?_eq_some_iff.1 k2).1).trans k2, k3.monoT hto k1⟩
/-- A block of ours turns, and the world's with it. -/
theorem HR.turn (h : HR P w0 E H next w) {i b : Nat} (hi : i < 1073741824) {o o' : AObj} {r' : Obj} (hg : H.get i = some o) (hb : E.blk i = some b) (ho : OR P E i o' r')
    (hw : Below w0.heap.size w w') (h1 : w'.heap[b]? = some r') (h2 : ∀ k, k ≠ b → w'.heap[k]? = w.heap[k]?) : HR P w0 E (H.set i o') next w' := by
  refine ⟨h.below.trans hw, fun j c e => by have := h.dom j c e; have := hw.size; omega, h.glob, ?_, h.ph, ?_⟩
  · intro j k o1 o2 c g1 g2 e1 e2
    rw [T.get_set _ _ _ hi] at g1 g2
    by_cases hj : j = i <;> by_cases hk : k = i
    · rw [hj, hk]
    · subst hj; rw [if_neg hk] at g2; exact h.inj _ _ _ _ c hg g2 e1 e2
    · subst hk; rw [if_neg hj] at g1; exact h.inj _ _ _ _ c g1 hg e1 e2
    · rw [if_neg hj] at g1; rw [if_neg hk] at g2; exact h.inj _ _ _ _ c g1 g2 e1 e2
  · intro j o1 g1 hp
    rw [T.get_set _ _ _ hi] at g1
    split at g1
    · injection g1 with g1; subst g1
      rename_i hj; subst hj
      exact ⟨b, r', hb, h1, ho⟩
    · rename_i hj
      obtain ⟨c, r1, k1, k2, k3⟩ := h.born j o1 g1 hp
      refine ⟨c, r1, k1, ?_, k3⟩
      rw [h2 c (fun e => hj (h.inj j i o1 o c g1 hg k1 (e ▸ hb)))]; exact k2

/-! ### cells -/
/-- The address of ours stands for the world's. -/
theorem HR.cell (h : HR P w0 E H next w) {i b o n : Nat} {cs : T Value} {elem : TypeId} {g : Bool} {v : Value} (hb : E.blk i = some b) (hg : H.get i = some (.cells cs n elem g)) (ho : o < n) (hv : cs.get o = some v) :
    ∃ v', w.cell? ⟨b, o, none⟩ = some v' ∧ w.frozen? ⟨b, o, none⟩ = false ∧ VR E v v' := by
  obtain ⟨b', r, h1, h2, arr, ⟨fz, elem', hz, hel, rfl⟩, hs, hc⟩ := h.obj hb hg
  obtain rfl : b = b' := by rw [hb] at h1; injection h1
  obtain ⟨v', e1, e2⟩ := hc o v ho hv
  refine ⟨v', ?_, ?_, e2⟩
  · simp [World.cell?, h2, e1]
  · exact frozen_free h2 hz (by have := sizeOk_n hs; omega)
theorem setCell_heap {w : World} {b o : Nat} {arr : Array Value} {elem : TypeId} {fz : Nat × Nat} (h : w.heap[b]? = some (.cells arr elem fz)) (v : Value) :
    (w.setCell ⟨b, o, none⟩ v).heap[b]? = some (.cells (arr.setIfInBounds o v) elem fz) := by
  simp [World.setCell, Array.getElem?_modify, h]
theorem HR.setCell (h : HR P w0 E H next w) {i b o n : Nat} (h64 : 64 ≤ i) (hi : i < 1073741824) (hoB : o < 1073741824) {cs : T Value} {elem : TypeId} {g : Bool} {v v' : Value} (hb : E.blk i = some b) (hg : H.get i = some (.cells cs n elem g)) (ho : o < n) (hv : VR E v v') :
    HR P w0 E (H.set i (.cells (cs.set o v) n elem g)) next (w.setCell ⟨b, o, none⟩ v') := by
  obtain ⟨b', r, h1, h2, arr, ⟨fz, elem', hz, hel, rfl⟩, hs, hc⟩ := h.obj hb hg
  obtain rfl : b = b' := by rw [hb] at h1; injection h1
  have hd := h.dom i b hb
  refine h.turn hi hg hb (o' := .cells (cs.set o v) n elem g) ⟨arr.setIfInBounds o v', ⟨fz, elem', by simpa using hz, hel, rfl⟩, by simpa using hs, ?_⟩ ((Below.refl _ _).setCell (p := ⟨b, o, none⟩) (hd.2 h64).1 v') (setCell_heap h2 v')
    (fun k hk => Below.heap_setCell w ⟨b, o, none⟩ v' k hk)
  intro j u hj hu
  rw [T.get_set _ _ _ hoB] at hu
  have hsz : n ≤ arr.size := sizeOk_n hs
  split at hu
  · injection hu with hu; subst hu
    rename_i e; subst e
    exact ⟨v', by simp [show j < arr.size by omega], hv⟩
  · rename_i e
    obtain ⟨u', e1, e2⟩ := hc j u hj hu
    refine ⟨u', ?_, e2⟩
    rw [Array.getElem?_setIfInBounds_ne (by omega)]; exact e1

/-! ### frames -/
/-- Our temporaries stand for a frame's. -/
structure AR (E : Env) (tm : T Value) (nt : Nat) (a : Act) : Prop where
  glob : ∀ g, g < 48 → E.blk g = some g
  size : a.tmps.size = nt
  get : ∀ t, VR E ((tm.get t).getD undef) (a.tmps.getD t undef)
theorem AR.monoT {tm : T Value} {nt : Nat} {a : Act} (h : AR E tm nt a) (hE : E.To E') : AR E' tm nt a := ⟨fun g hg => (hE g g (h.glob g hg)).1, h.size, fun t => (h.get t).monoT hE⟩
theorem AR.mono {tm : T Value} {nt : Nat} {a : Act} (h : AR E tm nt a) (hE : E.le E') : AR E' tm nt a := ⟨fun g hg => (hE.to g g (h.glob g hg)).1, h.size, fun t => (h.get t).mono hE⟩
theorem VR.undef (E : Env) : VR E Go.undef Go.undef := .tuple (x := []) (x' := []) .nil
theorem AR.put {tm : T Value} {nt : Nat} {a : Act} (h : AR E tm nt a) {d : Nat} {v v' : Value} (hd : d < nt) (hB : d < 1073741824) (hv : VR E v v') : AR E (tm.set d v) nt (a.put (some d) v') := by
  refine ⟨h.glob, by simp [Act.put, h.size], fun t => ?_⟩
  rw [T.get_set _ _ _ hB]
  simp only [Act.put]
  by_cases ht : t = d
  · subst ht
    rw [if_pos rfl]
    have : t < a.tmps.size := by rw [h.size]; exact hd
    simpa [Array.getD_eq_getD_getElem?, this] using hv
  · rw [if_neg ht]
    have := h.get t
    rw [Array.getD_eq_getD_getElem?, Array.getElem?_setIfInBounds_ne (by omega), ← Array.getD_eq_getD_getElem?]
    exact this
theorem AR.enter (E : Env) (hglob : ∀ g, g < 48 → E.blk g = some g) {x x' : List Value} (h : VRL E x x') (nt : Nat) (hB : x.length ≤ 1073741824) (hn : x.length ≤ nt) :
    AR E (T.leaf.fill 0 x) nt { tmps := x'.toArray ++ Array.replicate (nt - x'.toArray.size) Go.undef, defers := [] } := by
  have hl := h.len
  refine ⟨hglob, by simp; omega, fun t => ?_⟩
  rw [T.get_fill _ _ _ _ (by omega)]
  simp only [Array.getD_eq_getD_getElem?]
  by_cases ht : t < x.length
  · rw [if_pos (by omega)]
    obtain ⟨v', h1, h2⟩ := h.get (i := t) (List.getElem?_eq_getElem ht)
    rw [Array.getElem?_append_left (by simp; omega)]
    simp [h1, List.getElem?_eq_getElem ht, h2]
  · rw [if_neg (by omega)]
    rw [Array.getElem?_append_right (by simp; omega)]
    simp only [T.get, Option.getD_none]
    rw [Array.getElem?_replicate]
    split <;> exact VR.undef E
end Go.Proofs.YtkecgbcfkbafpaaDoor.Ev
