/-
  Values as trees, and how they lie in memory.
-/
import Derived.Test.YtjgicjgpahnmaaaDoorJP
import Derived.Deep.AppendLies
import Derived.OwnWalk
import Derived.Test.YtjgicjgpahnmaaaDoorJQ
import Derived.Deep.RegionLaw
import Derived.Stop.Asserts
import Derived.Handy
/-! Values as trees, and how they lie in memory. -/
namespace Go.Proofs.YtjgicjgpahnmaaaDoor
open Go.RowKit
set_option linter.unusedVariables false
mutual
/-- What reads as the value of a part, in blocks of S. -/
def ValueAt (w : World) (S : Nat → Prop) : PT → Value → Prop
  | .mk k y b m r l, v =>
    if k = 0 then v = .nilIface
    else if k = 1 then v = .iface 84 (.agg #[.bool y])
    else if k = 2 then v = .iface 86 (.agg #[.bool b, .string m]) ∧ m.size ≤ maxLen
    else if k = 7 then ∃ a c, v = .iface 88 (.agg #[.slice a l.length c]) ∧ l.length ≤ c ∧ c ≤ maxLen ∧ ValuesAt w S l a
    else v = .iface 90 (.agg #[.int .u8 k, .string r]) ∧ r.size ≤ maxLen ∧ k < 256
/-- Values that lie one behind the other. -/
def ValuesAt (w : World) (S : Nat → Prop) : List PT → Option Addr → Prop
  | [], _ => True
  | t :: l, a => ∃ b o u, a = some ⟨b, o, none⟩ ∧ S b ∧ w.cell? ⟨b, o, none⟩ = some u ∧ ValueAt w S t u ∧ ValuesAt w S l (some ⟨b, o + 1, none⟩)
end
section
variable {w w' : World} {S S' : Nat → Prop}
mutual
theorem ValueAt.keep (hk : ∀ p : Addr, S p.block → w'.cell? p = w.cell? p) : ∀ (t : PT) (v : Value), ValueAt w S t v → ValueAt w' S t v
  | .mk k y b m r l, v, h => by
    unfold ValueAt at h ⊢
    by_cases k0 : k = 0
    · rw [if_pos k0] at h ⊢; exact h
    · rw [if_neg k0] at h ⊢
      by_cases k1 : k = 1
      · rw [if_pos k1] at h ⊢; exact h
      · rw [if_neg k1] at h ⊢
        by_cases k2 : k = 2
        · rw [if_pos k2] at h ⊢; exact h
        · rw [if_neg k2] at h ⊢
          by_cases k7 : k = 7
          · rw [if_pos k7] at h ⊢
            obtain ⟨a, c, e, h1, h2, h3⟩ := h
            exact ⟨a, c, e, h1, h2, ValuesAt.keep hk l a h3⟩
          · rw [if_neg k7] at h ⊢; exact h
theorem ValuesAt.keep (hk : ∀ p : Addr, S p.block → w'.cell? p = w.cell? p) : ∀ (l : List PT) (a : Option Addr), ValuesAt w S l a → ValuesAt w' S l a
  | [], _, _ => trivial
  | t :: l, a, h => by
    obtain ⟨b, o, u, e, hb, hc, h1, h2⟩ := h
    exact ⟨b, o, u, e, hb, (hk _ hb).trans hc, ValueAt.keep hk t u h1, ValuesAt.keep hk l _ h2⟩
end
mutual
theorem ValueAt.more (hB : ∀ b, S b → S' b) : ∀ (t : PT) (v : Value), ValueAt w S t v → ValueAt w S' t v
  | .mk k y b m r l, v, h => by
    unfold ValueAt at h ⊢
    by_cases k0 : k = 0
    · rw [if_pos k0] at h ⊢; exact h
    · rw [if_neg k0] at h ⊢
      by_cases k1 : k = 1
      · rw [if_pos k1] at h ⊢; exact h
      · rw [if_neg k1] at h ⊢
        by_cases k2 : k = 2
        · rw [if_pos k2] at h ⊢; exact h
        · rw [if_neg k2] at h ⊢
          by_cases k7 : k = 7
          · rw [if_pos k7] at h ⊢
            obtain ⟨a, c, e, h1, h2, h3⟩ := h
            exact ⟨a, c, e, h1, h2, ValuesAt.more hB l a h3⟩
          · rw [if_neg k7] at h ⊢; exact h
theorem ValuesAt.more (hB : ∀ b, S b → S' b) : ∀ (l : List PT) (a : Option Addr), ValuesAt w S l a → ValuesAt w S' l a
  | [], _, _ => trivial
  | t :: l, a, h => by
    obtain ⟨b, o, u, e, hb, hc, h1, h2⟩ := h
    exact ⟨b, o, u, e, hB b hb, hc, ValueAt.more hB t u h1, ValuesAt.more hB l _ h2⟩
end
theorem ValueAt.below {B : Nat} {t : PT} {v : Value} (h : ValueAt w (· < B) t v) (hb : Below B w w') : ValueAt w' (· < B) t v := ValueAt.keep (fun _ hp => hb.cell hp) t v h
theorem ValuesAt.below {B : Nat} {l : List PT} {a : Option Addr} (h : ValuesAt w (· < B) l a) (hb : Below B w w') : ValuesAt w' (· < B) l a := ValuesAt.keep (fun _ hp => hb.cell hp) l a h
theorem ValueAt.wide {B B' : Nat} {t : PT} {v : Value} (h : ValueAt w (· < B) t v) (hB : B ≤ B') : ValueAt w (· < B') t v := ValueAt.more (fun b hb => Nat.lt_of_lt_of_le hb hB) _ _ h
theorem ValuesAt.wide {B B' : Nat} {l : List PT} {a : Option Addr} (h : ValuesAt w (· < B) l a) (hB : B ≤ B') : ValuesAt w (· < B') l a := ValuesAt.more (fun b hb => Nat.lt_of_lt_of_le hb hB) _ _ h
/-- The value at a place. -/
theorem ValuesAt.get : ∀ {l : List PT} {a : Option Addr}, ValuesAt w S l a → ∀ {i : Nat} (hi : i < l.length), ∃ b o u, a = some ⟨b, o, none⟩ ∧ S b ∧ w.cell? ⟨b, o + i, none⟩ = some u ∧ ValueAt w S l[i] u
  | [], _, _, i, hi => absurd hi (Nat.not_lt_zero i)
  | t :: l, a, h, i, hi => by
    obtain ⟨b, o, u, e, hb, hc, h1, h2⟩ := h
    cases i with
    | zero => exact ⟨b, o, u, e, hb, hc, h1⟩
    | succ i =>
      have hi' : i < l.length := by simpa using hi
      obtain ⟨b', o', u', e', hb', hc', h1'⟩ := ValuesAt.get h2 hi'
      simp only [Option.some.injEq, Addr.mk.injEq, and_true] at e'
      obtain ⟨rfl, rfl⟩ := e'
      exact ⟨b, o, u', e, hb, by rw [show o + (i + 1) = o + 1 + i by omega]; exact hc', h1'⟩
theorem ValuesAt.of_get : ∀ {l : List PT} {b o : Nat}, (l = [] ∨ S b) → (∀ i (hi : i < l.length), ∃ u, w.cell? ⟨b, o + i, none⟩ = some u ∧ ValueAt w S l[i] u) → ValuesAt w S l (some ⟨b, o, none⟩)
  | [], _, _, _, _ => trivial
  | t :: l, b, o, hb, h => by
    have hb' : S b := hb.resolve_left (by simp)
    obtain ⟨u, h1, h2⟩ := h 0 (by simp)
    refine ⟨b, o, u, rfl, hb', by simpa using h1, by simpa using h2, ValuesAt.of_get (.inr hb') fun i hi => ?_⟩
    obtain ⟨u, h1, h2⟩ := h (i + 1) (by simpa using hi)
    exact ⟨u, by rw [show o + 1 + i = o + (i + 1) by omega]; exact h1, by simpa using h2⟩
/-- By kind. -/
theorem ValueAt.null {t : PT} {v : Value} (hk : t.kind = 0) : ValueAt w S t v ↔ v = .nilIface := by
  cases t; simp only [PT.kind] at hk; subst hk; simp [ValueAt]
theorem ValueAt.truth {t : PT} {v : Value} (hk : t.kind = 1) : ValueAt w S t v ↔ v = .iface 84 (.agg #[.bool t.yes]) := by
  cases t; simp only [PT.kind] at hk; subst hk; simp [ValueAt, PT.yes]
theorem ValueAt.whole {t : PT} {v : Value} (hk : t.kind = 2) : ValueAt w S t v ↔ v = .iface 86 (.agg #[.bool t.bel, .string t.mag]) ∧ t.mag.size ≤ maxLen := by
  cases t; simp only [PT.kind] at hk; subst hk; simp [ValueAt, PT.bel, PT.mag]
theorem ValueAt.tuple {t : PT} {v : Value} (hk : t.kind = 7) : ValueAt w S t v ↔ ∃ a c, v = .iface 88 (.agg #[.slice a t.items.length c]) ∧ t.items.length ≤ c ∧ c ≤ maxLen ∧ ValuesAt w S t.items a := by
  cases t; simp only [PT.kind] at hk; subst hk; simp [ValueAt, PT.items]
theorem ValueAt.row {t : PT} {v : Value} (h0 : t.kind ≠ 0) (h1 : t.kind ≠ 1) (h2 : t.kind ≠ 2) (h7 : t.kind ≠ 7) : ValueAt w S t v ↔ v = .iface 90 (.agg #[.int .u8 t.kind, .string t.raw]) ∧ t.raw.size ≤ maxLen ∧ t.kind < 256 := by
  cases t; simp only [PT.kind] at h0 h1 h2 h7; simp [ValueAt, PT.kind, PT.raw, h0, h1, h2, h7]
theorem ValueAt.one {t : PT} {v : Value} (h : ValueAt w S t v) : v.oneCell' = true := by
  cases t
  unfold ValueAt at h
  split at h
  · subst h; rfl
  · split at h
    · subst h; rfl
    · split at h
      · obtain ⟨rfl, _⟩ := h; rfl
      · split at h
        · obtain ⟨a, c, rfl, _⟩ := h; rfl
        · obtain ⟨rfl, _⟩ := h; rfl
end
end Go.Proofs.YtjgicjgpahnmaaaDoor

/-! value.made: the value of a part, in new memory. -/
namespace Go.Proofs.YtjgicjgpahnmaaaDoor
open Go.RowKit Go.WideShapes
set_option linter.unusedVariables false
/-- A value in blocks that are new since w. -/
def NewVal (t : PT) (w : World) (e : Ending) (w' : World) : Prop := ∃ v, e = .returned v ∧ ValueAt w' (fun b => w.heap.size ≤ b ∧ b < w'.heap.size) t v ∧ Below w.heap.size w w'
theorem value_info : (Tryd.prog.info? 35).map (fun i => (i.zero, i.size, i.bytes)) = some (some .nilIface, 1, 16) := by kernel_rfl
def madeFlat (k : Nat) (y b : Bool) (m r : ByteArray) : Value := if k = 0 then .nilIface else if k = 1 then .iface 84 (.agg #[.bool y]) else if k = 2 then .iface 86 (.agg #[.bool b, .string m]) else .iface 90 (.agg #[.int .u8 k, .string r])
set_option maxRecDepth 100000 in
set_option maxHeartbeats 1000000 in
theorem made_flat (k : Nat) (hk7 : k ≠ 7) (hk : k < 256) (y b : Bool) (m r : ByteArray) (l : List PT) (a : Option Addr) (c : Nat) (w : World) (hm : m.size ≤ maxLen) (hr : r.size ≤ maxLen) :
    Calls Tryd.prog 26 #[.agg (partCells (.mk k y b m r l) a c).toArray] w (NewVal (.mk k y b m r l) w) := by
  have HB := Lib.hid (fun o => (Below.refl w.heap.size w).alloc (Nat.le_refl _) o)
  have HV := Lib.hid (show ∀ w' S, ValueAt w' S (.mk k y b m r l) (madeFlat k y b m r) by
    intro w' S
    unfold ValueAt madeFlat
    by_cases k0 : k = 0
    · simp [k0]
    · by_cases k1 : k = 1
      · simp [k1]
      · by_cases k2 : k = 2
        · simp [k2, hm]
        · simp [k0, k1, k2, hk7, hr, hk])
  unfold maxLen at hm hr
  show Calls Tryd.prog 26 #[.agg #[.int .u8 k, .bool y, .bool b, .string m, .string r, .slice a l.length c]] w _
  by_cases k0 : k = 0
  · subst k0
    go_enter Tryd.func26, Tryd.ntmps26
    go_wp2_with fail
    go_ret
    exact ⟨_, rfl, HV.out _ _, HB.out _⟩
  · by_cases k1 : k = 1
    · subst k1
      go_enter Tryd.func26, Tryd.ntmps26
      go_wp2_with fail
      go_ret
      exact ⟨_, rfl, HV.out _ _, HB.out _⟩
    · by_cases k2 : k = 2
      · subst k2
        go_enter Tryd.func26, Tryd.ntmps26
        go_wp2_with fail
        go_ret
        exact ⟨_, rfl, HV.out _ _, HB.out _⟩
      · have e : madeFlat k y b m r = .iface 90 (.agg #[.int .u8 k, .string r]) := by unfold madeFlat; rw [if_neg k0, if_neg k1, if_neg k2]
        rw [e] at HV
        have b0 : ((k : Int) == 0) = false := beq_eq_false_iff_ne.2 (by omega)
        have b1 : ((k : Int) == 1) = false := beq_eq_false_iff_ne.2 (by omega)
        have b2 : ((k : Int) == 2) = false := beq_eq_false_iff_ne.2 (by omega)
        have b7 : ((k : Int) == 7) = false := beq_eq_false_iff_ne.2 (by omega)
        clear k0 k1 k2 hk7 hk e
        go_enter Tryd.func26, Tryd.ntmps26
        go_wp2_with fail
        go_ret
        exact ⟨_, rfl, HV.out _ _, HB.out _⟩
end Go.Proofs.YtjgicjgpahnmaaaDoor

/-! value.made of a tuple. -/
namespace Go.Proofs.YtjgicjgpahnmaaaDoor
open Go.RowKit Go.WideShapes
set_option linter.unusedVariables false
/-- A box of one cell. -/
def BoxAt (w : World) (T : Nat) (v : Value) (ty : TypeId) : Prop := w.heap[T]? = some (.cells #[v] ty (0, 0))
theorem BoxAt.cell {w : World} {T : Nat} {v : Value} {ty : TypeId} (h : BoxAt w T v ty) : w.cell? ⟨T, 0, none⟩ = some v := by simp [World.cell?, show w.heap[T]? = _ from h]
theorem BoxAt.free {w : World} {T : Nat} {v : Value} {ty : TypeId} (h : BoxAt w T v ty) : w.frozen? ⟨T, 0, none⟩ = false := by simp [World.frozen?, show w.heap[T]? = _ from h]
theorem BoxAt.lt {w : World} {T : Nat} {v : Value} {ty : TypeId} (h : BoxAt w T v ty) : T < w.heap.size := (Array.getElem?_eq_some_iff.1 h).1
theorem BoxAt.set {w : World} {T : Nat} {v u : Value} {ty : TypeId} (h : BoxAt w T v ty) : BoxAt (w.setCell ⟨T, 0, none⟩ u) T u ty := by
  unfold BoxAt at *; simp [World.setCell, Array.getElem?_modify, h]
theorem BoxAt.of {w w' : World} {T : Nat} {v : Value} {ty : TypeId} (h : BoxAt w T v ty) (hh : w'.heap[T]? = w.heap[T]?) : BoxAt w' T v ty := hh.trans h
theorem BoxAt.below {w w' : World} {T B : Nat} {v : Value} {ty : TypeId} (h : BoxAt w T v ty) (hb : Below B w w') (hT : T < B) : BoxAt w' T v ty := h.of (hb.block T hT)
theorem BoxAt.new (w : World) (T : Nat) (v : Value) (ty : TypeId) (hT : T = w.heap.size) : BoxAt (w.alloc (.cells #[v] ty)) T v ty := by subst hT; exact World.alloc_heap_new w _
/-- So many values of a list stand in a row of one's own, each in blocks from n on. -/
structure VRow (w : World) (n base : Nat) (vt : Value) (k : Nat) (l : List PT) (vs : List Value) : Prop where
  len : vs.length = k
  own : w.ownsRow base 35 1 vt k vs
  val : ∀ i (hi : i < l.length) (hv : i < vs.length), ValueAt w (fun b => n ≤ b ∧ b < w.heap.size ∧ vt.ownBlock ≠ some b) l[i] vs[i]
theorem VRow.start (w : World) (n base : Nat) (l : List PT) : VRow w n base (.slice none 0 0) 0 l [] :=
  ⟨rfl, World.ownsRow_nil _ _ _ _, fun i hi hv => absurd hv (Nat.not_lt_zero i)⟩
theorem VRow.below {w w' : World} {n base : Nat} {vt : Value} {k : Nat} {l : List PT} {vs : List Value} (h : VRow w n base vt k l vs) (hb : Below w.heap.size w w') : VRow w' n base vt k l vs :=
  ⟨h.len, by
    rcases h.own.2 with ⟨e, h0⟩ | ⟨g, cap, cur, e, hb', hg, h1⟩
    · exact ⟨h.own.1, .inl ⟨e, h0⟩⟩
    · exact ⟨h.own.1, .inr ⟨g, cap, cur, e, hb', (hb.block g (Array.getElem?_eq_some_iff.1 hg).1).trans hg, h1⟩⟩,
   fun i hi hv => ValueAt.more (fun b hb' => ⟨hb'.1, Nat.lt_of_lt_of_le hb'.2.1 hb.size, hb'.2.2⟩) _ _ (ValueAt.keep (fun p hp => hb.cell hp.2.1) _ _ (h.val i hi hv))⟩
/-- One value more. -/
theorem VRow.step {w w2 w3 : World} {n base : Nat} {vt : Value} {k : Nat} {l : List PT} {vs : List Value} {v : Value} {tmp : Obj} {g cap : Nat} (h : VRow w n base vt k l vs) (hk : k < l.length)
    (hv : ValueAt w2 (fun b => w.heap.size ≤ b ∧ b < w2.heap.size) l[k] v) (hb : Below w.heap.size w w2) (hn : n ≤ w.heap.size)
    (hown : w3.ownsRow base 35 1 (.slice (some ⟨g, 0, none⟩) (k + 1) cap) (k + 1) (vs ++ [v])) (hgrow : (w2.alloc tmp).grownBy w3 vt.ownBlock) (hat : vt.ownBlock = some g ∨ g = (w2.alloc tmp).heap.size) :
    VRow w3 n base (.slice (some ⟨g, 0, none⟩) (k + 1) cap) (k + 1) l (vs ++ [v]) := by
  have h2 := h.below hb
  have hz : (w2.alloc tmp).heap.size = w2.heap.size + 1 := by simp
  have hz3 := hgrow.size
  have hcell : ∀ p : Addr, p.block < w2.heap.size → vt.ownBlock ≠ some p.block → w3.cell? p = w2.cell? p := fun p hp hne => by
    rw [hgrow.cell_far p (by omega) (fun e => hne e.symm), World.cell?_alloc_lt w2 tmp p hp]
  have hvt : ∀ b, w.heap.size ≤ b → vt.ownBlock ≠ some b := fun b hb e => by
    have := (h.own.lt b e).2; omega
  have hg : ∀ b, b < w2.heap.size → vt.ownBlock ≠ some b → (Value.slice (some ⟨g, 0, none⟩) (k + 1) cap).ownBlock ≠ some b := fun b hb hne e => by
    simp only [Value.ownBlock, Option.some.injEq] at e
    subst e
    rcases hat with hat | hat
    · exact hne hat
    · omega
  refine ⟨by simp [h.len], hown, fun i hi hv' => ?_⟩
  rw [List.length_append, h.len, List.length_singleton] at hv'
  by_cases e : i = k
  · subst e
    have : (vs ++ [v])[i]'(by rw [List.length_append, h.len, List.length_singleton]; omega) = v := by
      rw [List.getElem_append_right (by rw [h.len]; omega)]; simp [h.len]
    rw [this]
    refine ValueAt.more (fun b hb' => ?_) _ _ (ValueAt.keep (fun p hp => hcell p hp.2 (hvt _ hp.1)) _ _ hv)
    exact ⟨by omega, by omega, hg b hb'.2 (hvt b hb'.1)⟩
  · have hik : i < vs.length := by rw [h.len]; omega
    have : (vs ++ [v])[i]'(by rw [List.length_append, h.len, List.length_singleton]; omega) = vs[i] := List.getElem_append_left hik
    rw [this]
    refine ValueAt.more (fun b hb' => ?_) _ _ (ValueAt.keep (fun p hp => hcell p hp.2.1 hp.2.2) _ _ (h2.val i hi hik))
    exact ⟨hb'.1, by omega, hg b hb'.2.1 hb'.2.2⟩
/-- A box is written. -/
theorem VRow.set {w : World} {n base T : Nat} {vt u : Value} {k : Nat} {l : List PT} {vs : List Value} (h : VRow w n base vt k l vs) (hT : T < n) (hTb : T < base) : VRow (w.setCell ⟨T, 0, none⟩ u) n base vt k l vs := by
  have hheap : ∀ b, b ≠ T → (w.setCell ⟨T, 0, none⟩ u).heap[b]? = w.heap[b]? := fun b hb => by simp [World.setCell, Array.getElem?_modify, Ne.symm hb]
  have hz : (w.setCell ⟨T, 0, none⟩ u).heap.size = w.heap.size := by simp
  refine ⟨h.len, ?_, fun i hi hv => ?_⟩
  · rcases h.own.2 with ⟨e, h0⟩ | ⟨g, cap, cur, e, hb', hg, h1⟩
    · exact ⟨h.own.1, .inl ⟨e, h0⟩⟩
    · exact ⟨h.own.1, .inr ⟨g, cap, cur, e, hb', (hheap g (by omega)).trans hg, h1⟩⟩
  · refine ValueAt.more (fun b hb' => ⟨hb'.1, by omega, hb'.2.2⟩) _ _ (ValueAt.keep (fun p hp => ?_) _ _ (h.val i hi hv))
    exact World.cell?_setCell_other w _ p u (fun e => by have := hp.1; rw [← e] at this; simp at this; omega)
/-- The whole row, as a tuple's. -/
theorem VRow.values {w : World} {n base : Nat} {vt : Value} {l : List PT} {vs : List Value} (h : VRow w n base vt l.length l vs) (hl : l.length ≤ maxLen) (hn : n ≤ base) :
    ∃ a c, vt = .slice a l.length c ∧ l.length ≤ c ∧ c ≤ maxLen ∧ ValuesAt w (fun b => n ≤ b ∧ b < w.heap.size) l a := by
  rcases h.own.2 with ⟨e, h0⟩ | ⟨g, cap, cur, e, hb', hg, hnc, hcm, hcs, htake⟩
  · refine ⟨none, 0, by rw [e, h0], by omega, by omega, ?_⟩
    rw [List.length_eq_zero_iff.1 h0]; trivial
  · refine ⟨some ⟨g, 0, none⟩, cap, e, hnc, hcm, ValuesAt.of_get (.inr ⟨by omega, (Array.getElem?_eq_some_iff.1 hg).1⟩) fun i hi => ?_⟩
    have hv : i < vs.length := by rw [h.len]; exact hi
    refine ⟨vs[i], ?_, ValueAt.more (fun b hb => ⟨hb.1, hb.2.1⟩) _ _ (h.val i hi hv)⟩
    have ho := h.own
    rw [e] at ho
    rw [Nat.zero_add, ho.cellAt i (by omega), List.getElem?_eq_getElem hv]
end Go.Proofs.YtjgicjgpahnmaaaDoor

/-! value.made of a tuple: the walk. -/
namespace Go.Proofs.YtjgicjgpahnmaaaDoor
open Go.RowKit Go.WideShapes
set_option linter.unusedVariables false
theorem BoxAt.grown {w w' : World} {T : Nat} {v vt : Value} {ty : TypeId} {tmp : Obj} (h : BoxAt w T v ty) (hg : (w.alloc tmp).grownBy w' vt.ownBlock) (hne : vt.ownBlock ≠ some T) : BoxAt w' T v ty := by
  have hl := h.lt
  refine h.of ((hg.block T (by simp; omega) (fun e => hne e.symm)).trans ?_)
  rw [Below.heap_alloc w tmp T hl]
theorem ValueAt.cells {w : World} {S : Nat → Prop} {t : PT} {v : Value} (h : ValueAt w S t v) : v.cells = #[v] := by
  cases t
  unfold ValueAt at h
  split at h
  · subst h; rfl
  · split at h
    · subst h; rfl
    · split at h
      · obtain ⟨rfl, _⟩ := h; rfl
      · split at h
        · obtain ⟨a, c, rfl, _⟩ := h; rfl
        · obtain ⟨rfl, _⟩ := h; rfl
set_option maxRecDepth 100000 in
set_option maxHeartbeats 2000000 in
theorem made_7 (y b : Bool) (m r : ByteArray) (l : List PT) (a : Option Addr) (c : Nat) (w : World) (hlc : l.length ≤ 1048576) (hl : PartsAt w (· < w.heap.size) l a)
    (ih : ∀ x ∈ l, ∀ (a : Option Addr) (c : Nat) (w : World), PartAt w (· < w.heap.size) x (partCells x a c) → Calls Tryd.prog 26 #[.agg (partCells x a c).toArray] w (NewVal x w)) :
    Calls Tryd.prog 26 #[.agg (partCells (.mk 7 y b m r l) a c).toArray] w (NewVal (.mk 7 y b m r l) w) := by
  obtain ⟨i0, hi, hz0, hz1, hz2⟩ := info_parts value_info
  have HI := Lib.hid hl
  have HIH := Lib.hid ih
  have HB0 := Lib.hid (fun o o2 => ((Below.refl w.heap.size w).alloc (Nat.le_refl _) o).alloc (by simp : w.heap.size ≤ (w.alloc o).heap.size) o2)
  have HX0 := Lib.hid (fun o => BoxAt.new (w.alloc o) (w.heap.size + 1) (.slice none 0 0) 88 (by simp))
  have HV0 := Lib.hid (fun W => VRow.start W (w.heap.size + 2) (w.heap.size + 2) l)
  clear hl ih
  show Calls Tryd.prog 26 #[.agg #[.int .u8 7, .bool y, .bool b, .string m, .string r, .slice a l.length c]] w _
  go_enter Tryd.func26, Tryd.ntmps26
  go_wp2_with fail
  go_loopw [27] (fun i wr => ∃ (k : Nat) (vt : Value) (vs : List Value), i = .int .i64 k ∧ k ≤ l.length ∧ Hid (Below w.heap.size w wr) ∧ Hid (BoxAt wr (w.heap.size + 1) vt 88) ∧ Hid (VRow wr (w.heap.size + 2) (w.heap.size + 2) vt k l vs) ∧ w.heap.size + 2 ≤ wr.heap.size) (fun i _ => l.length - (intOf i).toNat)
  case atStart => exact ⟨0, _, _, rfl, by omega, Lib.hid (HB0.out _ _), Lib.hid (HX0.out _), Lib.hid (HV0.out _), by simp⟩
  case round =>
    obtain ⟨k, vt, vs, rfl, hk, HB, HX, HV, hwz⟩ := hrel
    have hTlt : w.heap.size + 1 < wr.heap.size := by omega
    have hbc := HX.out.cell
    have hbf := HX.out.free
    by_cases hlt : k < l.length
    · obtain ⟨bb, o, a', c', rfl, hb, k0, k1, k2, k3, k4, k5, hpa⟩ := (HI.out.below HB.out).cells hlt
      obtain ⟨W1, hW1⟩ : ∃ W1, W1 = (wr.alloc (.cells (partCells l[k] a' c').toArray 30)).drew := ⟨_, rfl⟩
      have hB1 : Below wr.heap.size wr W1 := by rw [hW1]; exact ((Below.refl _ _).alloc (Nat.le_refl _) _).drew
      have hz1' : W1.heap.size = wr.heap.size + 1 := by rw [hW1]; simp [World.drew]
      have HR := Lib.hid (HIH.out l[k] (List.getElem_mem hlt) a' c' W1 (((hpa.below (hB1.mono (by omega)))).wide (by omega)))
      have HB1 := Lib.hid hB1
      rw [hW1] at HR HB1
      unfold partCells at HR HB1
      clear hpa hW1 hB1
      go_wp2_with fail
      have hne : vt.ownBlock ≠ some (w.heap.size + 1) := fun e => by have := row_ge HV.out.own e; omega
      go_region_law (first
        | (go_simp; go_at_call 26; refine HR.out.mono ?_; rintro e w2 ⟨v, rfl, hv2, hb2⟩; have hm2 := hv2.cells; unfold Value.cells at hm2; have hbr2 := HB1.out.trans (hb2.mono (by simp [World.drew])); have hzz2 := hbr2.size; have hT2 : w.heap.size + 1 < w2.heap.size := (by omega); have HV2 := Lib.hid (HV.out.below hbr2); have HX2 := Lib.hid (HX.out.below hbr2 hTlt); have hbc2 := HX2.out.cell)
        | (refine step_append_lies _ (by rfl) _ _ _ (by rfl) (w.heap.size + 2) 35 i0 .nilIface 1 16 Tryd.underlying69 hi hz0 hz1 hz2 rfl (by omega) vt k vs (by rfl) (HV2.out.own.alloc _) ⟨w2.heap.size, 0, none⟩ 1 1 [v] (by rfl) (by rfl) (World.news_of_block (cs := #[v]) (t := 35) (fr := (0, 0)) (heap_alloc_new w2 _)) (fun u hu => by simp at hu; subst hu; exact hv2.one) (by omega) (by unfold maxLen; omega) (by omega) (by simp; omega) (w2.heap.size + 1) (by simp) ?_; intro g4 cap4 w4 hown4 hgrow4 hat4 hgl4; have HX4 := Lib.hid (HX2.out.grown hgrow4 hne); have hbc4 := HX4.out.cell; have hbf4 := HX4.out.free))
      all_goals (
        have hv2' := ValueAt.more (S' := fun b => wr.heap.size ≤ b ∧ b < w2.heap.size) (fun b hb => by have h1 := hb.1; simp [World.drew] at h1; exact ⟨by omega, hb.2⟩) _ _ hv2
        have HB' := Lib.hid (((((HB.out.trans (hbr2.mono (by omega))).alloc (by omega) _).grown hgrow4 (by simp; omega) (fun j ej => by have := row_ge HV2.out.own ej; omega)).setCell (p := ⟨w.heap.size + 1, 0, none⟩) (by simp only; omega) (.slice (some ⟨g4, 0, none⟩) (k + 1) cap4)))
        have HX' := Lib.hid (HX4.out.set (u := .slice (some ⟨g4, 0, none⟩) (k + 1) cap4))
        have HV' := Lib.hid ((HV.out.step hlt hv2' hbr2 (by omega) hown4 hgrow4 (hat4.imp id (fun h => h.trans (by simp)))).set (T := w.heap.size + 1) (u := .slice (some ⟨g4, 0, none⟩) (k + 1) cap4) (by omega) (by omega))
        have hz4 : w2.heap.size + 1 ≤ w4.heap.size := by have := hgrow4.size; simpa using this
        go_wp2_with fail
        go_roundw
        case rel => exact ⟨k + 1, _, _, by go_num, by omega, HB', HX', HV', by simp; omega⟩
        case measure => simp [intOf]; omega)
    · obtain rfl : k = l.length := by omega
      have HF := Lib.hid (HV.out.values (by unfold maxLen; omega) (Nat.le_refl _))
      go_wp2_with fail
      go_ret
      obtain ⟨a2, c2, e2, h2, h3, h4⟩ := HF.out
      refine ⟨_, rfl, (ValueAt.tuple (t := .mk 7 y b m r l) rfl).2 ⟨a2, c2, ?_, h2, h3, ValuesAt.more (fun b hb => ⟨by omega, hb.2⟩) _ _ h4⟩, HB.out⟩
      rw [e2]; rfl
end Go.Proofs.YtjgicjgpahnmaaaDoor

/-! ref09.Make and value.Make. -/
namespace Go.Proofs.YtjgicjgpahnmaaaDoor
open Go.RowKit Go.WideShapes
set_option linter.unusedVariables false
/-- Why a part may not be; 0, if it may. -/
def PT.why (t : PT) : Int := if t.deeper 16 then 91 else if t.may then 0 else 90
theorem PT.may_items {t : PT} (h : t.may = true) (h7 : t.kind = 7) : t.items.length ≤ 1024 ∧ ∀ x ∈ t.items, x.may = true := by
  cases t
  simp only [PT.kind] at h7; subst h7
  simp only [PT.may, PT.items] at h ⊢
  simp only [Bool.and_eq_true, reduceIte] at h
  have h2 := h.2
  simp at h2
  exact ⟨h2.1.2, fun x hx => PT.mayL_iff.1 h2.2 x hx⟩
theorem made_any : ∀ (t : PT) (a : Option Addr) (c : Nat) (w : World), t.may = true → PartAt w (· < w.heap.size) t (partCells t a c) → Calls Tryd.prog 26 #[.agg (partCells t a c).toArray] w (NewVal t w) := by
  refine PT.all fun t ih => ?_
  intro a c w hmay hp
  obtain ⟨a1, c1, e1, hk, hm, hr, hlc, hcm, hits⟩ := hp.open
  obtain ⟨rfl, rfl⟩ : a1 = a ∧ c1 = c := by simpa [partCells, eq_comm] using e1
  by_cases h7 : t.kind = 7
  · obtain ⟨hl, hall⟩ := PT.may_items hmay h7
    obtain ⟨k, y, b, m, r, l⟩ := t
    simp only [PT.kind] at h7; subst h7
    refine made_7 y b m r l a1 c1 w (by simp only [PT.items] at hl; omega) hits fun x hx a c w hpx => ih x hx a c w (hall x hx) hpx
  · obtain ⟨k, y, b, m, r, l⟩ := t
    exact made_flat k h7 hk y b m r l a1 c1 w hm hr
set_option maxRecDepth 100000 in
set_option maxHeartbeats 1000000 in
theorem refMake_any (t : PT) (a : Option Addr) (c : Nat) (w : World) (hp : PartAt w (· < w.heap.size) t (partCells t a c)) :
    Calls Tryd.prog 8 #[.agg (partCells t a c).toArray] w (Ret (.int .i64 t.why) w) := by
  have HP := Lib.hid hp
  have HB0 := Lib.hid ((Below.refl w.heap.size w).alloc (Nat.le_refl _) (.cells (partCells t a c).toArray 30))
  have HC0 := Lib.hid (new_part w w.heap.size t a c 30 rfl)
  have HD := Lib.hid (Deeper_any t a c 16 16 _ rfl (by omega) ((hp.below HB0.out).wide (by simp)))
  have HM := Lib.hid (rmay_any t a c)
  clear hp
  unfold partCells at HD HB0 HM
  unfold partCells
  go_enter Tryd.func8, Tryd.ntmps8
  go_wp2_with fail
  refine HD.out.mono ?_
  rintro e w1 ⟨rfl, hb1⟩
  have hz1 : w.heap.size + 1 ≤ w1.heap.size := by have := hb1.size; simpa using this
  have HB1 := Lib.hid (HB0.out.trans (hb1.mono (by simp)))
  have HC1 := Lib.hid (show CellsAt w1 w.heap.size 0 (partCells t a c) from CellsAt.keep HC0.out fun p hp => hb1.cell (by simp; omega))
  clear hb1 HB0 HC0 HD
  cases hd : t.deeper 16 with
  | true =>
    have HW := Lib.hid (show t.why = 91 by unfold PT.why; rw [hd]; rfl)
    clear hd
    go_wp2_with fail
    go_ret
    exact ret_int' HW.out.symm HB1.out
  | false =>
    have p0 := HC1.out 0 _ rfl
    have p1 := HC1.out 1 _ rfl
    have p2 := HC1.out 2 _ rfl
    have p3 := HC1.out 3 _ rfl
    have p4 := HC1.out 4 _ rfl
    have p5 := HC1.out 5 _ rfl
    go_wp2_with fail
    refine (HM.out _ ((HP.out.below HB1.out).wide (by omega))).mono ?_
    rintro e w2 ⟨rfl, hb2⟩
    have HB2 := Lib.hid (HB1.out.trans (hb2.mono (by omega)))
    clear hb2 HB1 HC1 HM p0 p1 p2 p3 p4 p5
    cases hm : t.may with
    | true =>
      have HW := Lib.hid (show t.why = 0 by unfold PT.why; rw [hd, hm]; rfl)
      clear hd hm
      go_wp2_with fail
      go_ret
      exact ret_int' HW.out.symm HB2.out
    | false =>
      have HW := Lib.hid (show t.why = 90 by unfold PT.why; rw [hd, hm]; rfl)
      clear hd hm
      go_wp2_with fail
      go_ret
      exact ret_int' HW.out.symm HB2.out
/-- What value.Make gives back. -/
def MakePost (t : PT) (w : World) (e : Ending) (w' : World) : Prop :=
  Below w.heap.size w w' ∧ ((t.why ≠ 0 ∧ e = .returned (.tuple #[.nilIface, .int .i64 t.why])) ∨
    (t.why = 0 ∧ ∃ v, e = .returned (.tuple #[v, .int .i64 0]) ∧ ValueAt w' (fun b => w.heap.size ≤ b ∧ b < w'.heap.size) t v))
set_option maxRecDepth 100000 in
set_option maxHeartbeats 1000000 in
theorem valMake_any (t : PT) (a : Option Addr) (c : Nat) (w : World) (hp : PartAt w (· < w.heap.size) t (partCells t a c)) :
    Calls Tryd.prog 9 #[.agg (partCells t a c).toArray] w (MakePost t w) := by
  have HP := Lib.hid hp
  have HB0 := Lib.hid ((Below.refl w.heap.size w).alloc (Nat.le_refl _) (.cells (partCells t a c).toArray 30))
  have HC0 := Lib.hid (new_part w w.heap.size t a c 30 rfl)
  have HD := Lib.hid (vdeep_any t a c 16 16 _ rfl (by omega) ((hp.below HB0.out).wide (by simp)))
  have HM := Lib.hid (vmay_any t a c)
  have HMa := Lib.hid (made_any t a c)
  clear hp
  unfold partCells at HD HB0 HM HMa
  unfold partCells
  go_enter Tryd.func9, Tryd.ntmps9
  go_wp2_with fail
  refine HD.out.mono ?_
  rintro e w1 ⟨rfl, hb1⟩
  have hz1 : w.heap.size + 1 ≤ w1.heap.size := by have := hb1.size; simpa using this
  have HB1 := Lib.hid (HB0.out.trans (hb1.mono (by simp)))
  have HC1 := Lib.hid (show CellsAt w1 w.heap.size 0 (partCells t a c) from CellsAt.keep HC0.out fun p hp => hb1.cell (by simp; omega))
  clear hb1 HB0 HC0 HD
  cases hd : t.deeper 16 with
  | true =>
    have HW := Lib.hid (show t.why = 91 by unfold PT.why; rw [hd]; rfl)
    clear hd
    go_wp2_with fail
    go_ret2
    exact ⟨HB1.out, .inl ⟨by rw [HW.out]; decide, by rw [HW.out]; rfl⟩⟩
  | false =>
    have p0 := HC1.out 0 _ rfl
    have p1 := HC1.out 1 _ rfl
    have p2 := HC1.out 2 _ rfl
    have p3 := HC1.out 3 _ rfl
    have p4 := HC1.out 4 _ rfl
    have p5 := HC1.out 5 _ rfl
    go_wp2_with fail
    refine (HM.out _ ((HP.out.below HB1.out).wide (by omega))).mono ?_
    rintro e w2 ⟨rfl, hb2⟩
    have hz2 := hb2.size
    have HB2 := Lib.hid (HB1.out.trans (hb2.mono (by omega)))
    have HC2 := Lib.hid (HC1.out.keep fun p hp => hb2.cell (by omega))
    clear hb2 HB1 HC1 HM p0 p1 p2 p3 p4 p5
    cases hm : t.may with
    | false =>
      have HW := Lib.hid (show t.why = 90 by unfold PT.why; rw [hd, hm]; rfl)
      clear hd hm
      go_wp2_with fail
      go_ret2
      exact ⟨HB2.out, .inl ⟨by rw [HW.out]; decide, by rw [HW.out]; rfl⟩⟩
    | true =>
      have HW := Lib.hid (show t.why = 0 by unfold PT.why; rw [hd, hm]; rfl)
      have HMm := Lib.hid hm
      have p0 := HC2.out 0 _ rfl
      have p1 := HC2.out 1 _ rfl
      have p2 := HC2.out 2 _ rfl
      have p3 := HC2.out 3 _ rfl
      have p4 := HC2.out 4 _ rfl
      have p5 := HC2.out 5 _ rfl
      clear hd
      go_wp2_with fail
      refine (HMa.out _ HMm.out ((HP.out.below HB2.out).wide (by omega))).mono ?_
      rintro e w3 ⟨v, rfl, hv, hb3⟩
      have HB3 := Lib.hid (HB2.out.trans (hb3.mono (by omega)))
      have HV := Lib.hid (ValueAt.more (S' := fun b => w.heap.size ≤ b ∧ b < w3.heap.size) (fun b hb => ⟨by have := hb.1; omega, hb.2⟩) _ _ hv)
      clear hb3 hv HB2 HC2 HMa p0 p1 p2 p3 p4 p5 hm
      go_wp2_with fail
      go_ret2
      exact ⟨HB3.out, .inr ⟨HW.out, _, rfl, HV.out⟩⟩
end Go.Proofs.YtjgicjgpahnmaaaDoor

/-! Which value is a number, bytes, a list: the assertions' facts. -/
namespace Go.Proofs.YtjgicjgpahnmaaaDoor
open Go.RowKit Go.WideShapes
set_option linter.unusedVariables false
theorem run_typeAssert_plainB {P : Program} {t asserted : TypeId} {want : Array (String × TypeId)} (hu : P.underlying asserted = some (.interface want)) (h : (P.info? t).map (fun i => (lacking want i.methods).isEmpty) = some true)
    (v : Value) (xT : TypeId) (w : World) : (Instr.typeAssert (.iface t v) xT asserted false).run P w = .ok (.iface t v) w := by
  obtain ⟨i, hi, hl⟩ := Option.map_eq_some_iff.1 h
  simp [Instr.typeAssert, run_underlying hu, typeInfo, hi, missingMethod_none (List.isEmpty_iff.1 hl)]
theorem tupleList (v : Value) (xT : TypeId) (w : World) : (Instr.typeAssert (.iface 88 v) xT 63 false).run Tryd.prog w = .ok (.iface 88 v) w := run_typeAssert_plainB Tryd.underlying63 (by kernel_rfl) v xT w
theorem tupleIsList (v : Value) (xT : TypeId) (w : World) : (Instr.typeAssert (.iface 88 v) xT 63 true).run Tryd.prog w = .ok (.tuple #[.iface 88 v, .bool true]) w := run_typeAssert_hasB Tryd.underlying63 (by kernel_rfl) v xT w
theorem truthNoList (v : Value) (xT : TypeId) (w : World) : (Instr.typeAssert (.iface 84 v) xT 63 true).run Tryd.prog w = .ok (.tuple #[.nilIface, .bool false]) w := run_typeAssert_lacksB Tryd.underlying63 (by kernel_rfl) (by kernel_rfl) v xT w
theorem wholeNoList (v : Value) (xT : TypeId) (w : World) : (Instr.typeAssert (.iface 86 v) xT 63 true).run Tryd.prog w = .ok (.tuple #[.nilIface, .bool false]) w := run_typeAssert_lacksB Tryd.underlying63 (by kernel_rfl) (by kernel_rfl) v xT w
theorem rowNoList (v : Value) (xT : TypeId) (w : World) : (Instr.typeAssert (.iface 90 v) xT 63 true).run Tryd.prog w = .ok (.tuple #[.nilIface, .bool false]) w := run_typeAssert_lacksB Tryd.underlying63 (by kernel_rfl) (by kernel_rfl) v xT w
theorem tupleNoNumber (v : Value) (xT : TypeId) (w : World) : (Instr.typeAssert (.iface 88 v) xT 98 true).run Tryd.prog w = .ok (.tuple #[.nilIface, .bool false]) w := run_typeAssert_lacksB Tryd.underlying98 (by kernel_rfl) (by kernel_rfl) v xT w
theorem wholeNumber (v : Value) (xT : TypeId) (w : World) : (Instr.typeAssert (.iface 86 v) xT 98 true).run Tryd.prog w = .ok (.tuple #[.iface 86 v, .bool true]) w := run_typeAssert_hasB Tryd.underlying98 (by kernel_rfl) v xT w
theorem rowNoNumber (v : Value) (xT : TypeId) (w : World) : (Instr.typeAssert (.iface 90 v) xT 98 true).run Tryd.prog w = .ok (.tuple #[.nilIface, .bool false]) w := run_typeAssert_lacksB Tryd.underlying98 (by kernel_rfl) (by kernel_rfl) v xT w
theorem truthNoNumber (v : Value) (xT : TypeId) (w : World) : (Instr.typeAssert (.iface 84 v) xT 98 true).run Tryd.prog w = .ok (.tuple #[.nilIface, .bool false]) w := run_typeAssert_lacksB Tryd.underlying98 (by kernel_rfl) (by kernel_rfl) v xT w
theorem tupleNoRaw (v : Value) (xT : TypeId) (w : World) : (Instr.typeAssert (.iface 88 v) xT 102 true).run Tryd.prog w = .ok (.tuple #[.nilIface, .bool false]) w := run_typeAssert_lacksB Tryd.underlying102 (by kernel_rfl) (by kernel_rfl) v xT w
theorem rowRaw (v : Value) (xT : TypeId) (w : World) : (Instr.typeAssert (.iface 90 v) xT 102 true).run Tryd.prog w = .ok (.tuple #[.iface 90 v, .bool true]) w := run_typeAssert_hasB Tryd.underlying102 (by kernel_rfl) v xT w
theorem wholeNoRaw (v : Value) (xT : TypeId) (w : World) : (Instr.typeAssert (.iface 86 v) xT 102 true).run Tryd.prog w = .ok (.tuple #[.nilIface, .bool false]) w := run_typeAssert_lacksB Tryd.underlying102 (by kernel_rfl) (by kernel_rfl) v xT w
end Go.Proofs.YtjgicjgpahnmaaaDoor

/-! A tuple's Len and At. -/
namespace Go.Proofs.YtjgicjgpahnmaaaDoor
open Go.RowKit Go.WideShapes
set_option linter.unusedVariables false
set_option maxRecDepth 100000 in
set_option maxHeartbeats 1000000 in
theorem tupLen_any (a : Option Addr) (n c : Nat) (w : World) (hn : n ≤ maxLen) : Calls Tryd.prog 83 #[.agg #[.slice a n c]] w (Ret (.int .i64 n) w) := by
  have HB := Lib.hid (fun o => (Below.refl w.heap.size w).alloc (Nat.le_refl _) o)
  unfold maxLen at hn
  go_enter Tryd.func83, Tryd.ntmps83
  go_wp2_with fail
  go_ret
  exact ⟨rfl, HB.out _⟩
set_option maxRecDepth 100000 in
set_option maxHeartbeats 1000000 in
theorem tupAt_any (b o n c i : Nat) (x : Int) (u : Value) (w : World) (hn : n ≤ maxLen) (hb : b < w.heap.size) (hx : x = (i : Int)) (hi : i < n) (hc : w.cell? ⟨b, o + i, none⟩ = some u) :
    Calls Tryd.prog 81 #[.agg #[.slice (some ⟨b, o, none⟩) n c], .int .i64 x] w (Ret u w) := by
  have HB := Lib.hid (fun o => (Below.refl w.heap.size w).alloc (Nat.le_refl _) o)
  unfold maxLen at hn
  subst hx
  go_enter Tryd.func81, Tryd.ntmps81
  go_wp2_with fail
  go_ret
  exact ⟨rfl, HB.out _⟩
end Go.Proofs.YtjgicjgpahnmaaaDoor

/-! value.depth, value.Depth: how many tuples stand within one another. -/
namespace Go.Proofs.YtjgicjgpahnmaaaDoor
open Go.RowKit Go.WideShapes
set_option linter.unusedVariables false
theorem nilNoList (xT : TypeId) (w : World) : (Instr.typeAssert .nilIface xT 63 true).run Tryd.prog w = .ok (.tuple #[.nilIface, .bool false]) w := by kernel_rfl
theorem PT.depth_flat {t : PT} (h : t.kind ≠ 7) : t.depth = 0 := by
  cases t; simp only [PT.kind] at h; simp [PT.depth, h]
theorem PT.depth_tuple {t : PT} (h : t.kind = 7) : t.depth = PT.depthL t.items + 1 := by
  cases t; simp only [PT.kind] at h; simp [PT.depth, PT.items, h]
theorem PT.depthL_take {l : List PT} {k : Nat} (hk : k < l.length) : PT.depthL (l.take (k + 1)) = max (PT.depthL (l.take k)) l[k].depth := by
  induction l generalizing k with
  | nil => simp at hk
  | cons t l ih =>
    cases k with
    | zero => simp [PT.depthL]
    | succ k =>
      have hk' : k < l.length := by simpa using hk
      simp only [List.take_succ_cons, PT.depthL, ih hk', List.getElem_cons_succ]; omega
theorem PT.depthL_take_le (l : List PT) (k : Nat) : PT.depthL (l.take k) ≤ PT.depthL l := by
  induction l generalizing k with
  | nil => simp
  | cons t l ih =>
    cases k with
    | zero => simp [PT.depthL]
    | succ k => simp only [List.take_succ_cons, PT.depthL]; have := ih k; omega
theorem ret_int2 {k : IntKind} {a b : Int} {B : Nat} {w w' : World} (h : a = b) (hb : Below B w w') : Ending.returned (.int k a) = .returned (.int k b) ∧ Below B w w' := ⟨by rw [h], hb⟩
set_option maxRecDepth 100000 in
set_option maxHeartbeats 1000000 in
theorem depth_any : ∀ (t : PT) (v : Value) (w : World), t.depth ≤ 1000 → ValueAt w (· < w.heap.size) t v →
    Calls Tryd.prog 51 #[v] w (Ret (.int .i64 t.depth) w) := by
  refine PT.all fun t ih => ?_
  intro v w hd hv
  by_cases h7 : t.kind = 7
  · obtain ⟨a, c, rfl, hlc, hcm, hits⟩ := (ValueAt.tuple h7).1 hv
    have HI := Lib.hid hits
    have HIH := Lib.hid ih
    have HD := Lib.hid (PT.depth_tuple h7)
    have HDL := Lib.hid (show PT.depthL t.items ≤ 999 by have := PT.depth_tuple h7; omega)
    have HT := Lib.hid (PT.depthL_take_le t.items)
    have hlen : t.items.length ≤ maxLen := by omega
    have HLen := Lib.hid (fun w => tupLen_any a t.items.length c w hlen)
    have HB0 := Lib.hid (Below.refl w.heap.size w)
    have hta := tupleIsList
    have HL := Lib.hid hlen
    unfold maxLen at hlen
    clear hv h7 hits ih hcm hd
    go_enter Tryd.func51, Tryd.ntmps51
    go_wp2_with fail
    refine (HLen.out _).mono ?_
    rintro e w1 ⟨rfl, hb1⟩
    have HB1 := Lib.hid hb1
    have hz1 := hb1.size
    clear hb1 HB0
    go_wp2_with fail
    go_loopw [5, 16] (fun m i wr => ∃ (k : Nat), m = .int .i64 (PT.depthL (t.items.take k) : Nat) ∧ i = .int .i64 k ∧ k ≤ t.items.length ∧ Hid (Below w.heap.size w wr) ∧ w.heap.size ≤ wr.heap.size) (fun _ i _ => t.items.length - (intOf i).toNat)
    case atStart => exact ⟨0, by simp [PT.depthL], rfl, by omega, HB1, by omega⟩
    case round =>
      clear HB1 hz1
      obtain ⟨k, rfl, rfl, hk, HB, hwz⟩ := hrel
      have hm1 := HT.out k
      have hm2 := HDL.out
      by_cases hlt : k < t.items.length
      · obtain ⟨b, o, u, ea, hb, hc, hu⟩ := (HI.out.below HB.out).get hlt
        subst ea
        have HAt := Lib.hid (tupAt_any b o t.items.length c k k u wr HL.out (by omega) rfl hlt hc)
        have HU := Lib.hid (hu.wide hwz)
        have HS := Lib.hid (PT.depthL_take hlt)
        have HIHk := Lib.hid (fun (W : World) (h : ValueAt W (· < W.heap.size) (t.items[k]'hlt) u) => HIH.out (t.items[k]'hlt) (List.getElem_mem _) u W (by have := PT.depthL_le.1 HDL.out _ (List.getElem_mem hlt); omega) h)
        have hd9 : t.items[k].depth ≤ 999 := PT.depthL_le.1 HDL.out _ (List.getElem_mem hlt)
        clear hc hu hb
        go_wp2_with fail
        refine HAt.out.mono ?_
        rintro e w2 ⟨rfl, hb2⟩
        have hz2 := hb2.size
        have HB2 := Lib.hid (HB.out.trans (hb2.mono hwz))
        have HU2 := Lib.hid ((HU.out.below hb2).wide hz2)
        clear hb2 HB HU HAt
        go_wp2_with fail
        refine (HIHk.out _ HU2.out).mono ?_
        rintro e w3 ⟨rfl, hb3⟩
        have hz3 := hb3.size
        have HB3 := Lib.hid (HB2.out.trans (hb3.mono (by omega)))
        clear hb3 HB2 HU2 HIHk
        go_wp2_with fail
        go_roundw
        case rel => exact ⟨k + 1, by rw [HS.out]; go_num, by go_num, by omega, HB3, by omega⟩
        case measure => simp [intOf]; omega
      · obtain rfl : k = t.items.length := by omega
        have HE := Lib.hid (show PT.depthL (t.items.take t.items.length) = PT.depthL t.items by rw [List.take_length])
        go_wp2_with fail
        go_ret
        exact ret_int2 (by rw [HD.out]; (try rw [HE.out]); omega) HB.out
  · rw [PT.depth_flat h7]
    have HB0 := Lib.hid (Below.refl w.heap.size w)
    clear ih hd
    obtain ⟨k, y, b, m, r, l⟩ := t
    simp only [PT.kind] at h7
    have h0 := nilNoList
    have h1 := truthNoList
    have h2 := wholeNoList
    have h3 := rowNoList
    by_cases k0 : k = 0
    · obtain rfl := (ValueAt.null (t := .mk k y b m r l) k0).1 hv
      clear hv k0 h7
      go_enter Tryd.func51, Tryd.ntmps51
      go_wp2_with fail
      go_ret
      exact ⟨rfl, HB0.out⟩
    · by_cases k1 : k = 1
      · obtain rfl := (ValueAt.truth (t := .mk k y b m r l) k1).1 hv
        clear hv k0 k1 h7
        go_enter Tryd.func51, Tryd.ntmps51
        go_wp2_with fail
        go_ret
        exact ⟨rfl, HB0.out⟩
      · by_cases k2 : k = 2
        · obtain ⟨rfl, -⟩ := (ValueAt.whole (t := .mk k y b m r l) k2).1 hv
          clear hv k0 k1 k2 h7
          go_enter Tryd.func51, Tryd.ntmps51
          go_wp2_with fail
          go_ret
          exact ⟨rfl, HB0.out⟩
        · obtain ⟨rfl, -, -⟩ := (ValueAt.row (t := .mk k y b m r l) k0 k1 k2 h7).1 hv
          clear hv k0 k1 k2 h7
          go_enter Tryd.func51, Tryd.ntmps51
          go_wp2_with fail
          go_ret
          exact ⟨rfl, HB0.out⟩
set_option maxRecDepth 100000 in
set_option maxHeartbeats 1000000 in
theorem Depth_any (t : PT) (v : Value) (w : World) (hd : t.depth ≤ 1000) (hv : ValueAt w (· < w.heap.size) t v) :
    Calls Tryd.prog 43 #[v] w (Ret (.int .i64 t.depth) w) := by
  have H := Lib.hid (depth_any t v w hd hv)
  clear hv hd
  go_enter Tryd.func43, Tryd.ntmps43
  go_wp2_with fail
  refine H.out.mono ?_
  rintro e w1 ⟨rfl, hb1⟩
  have HB1 := Lib.hid hb1
  clear hb1
  go_wp2_with fail
  go_ret
  exact ⟨rfl, HB1.out⟩
end Go.Proofs.YtjgicjgpahnmaaaDoor

/-! The values' methods. -/
namespace Go.Proofs.YtjgicjgpahnmaaaDoor
open Go.RowKit Go.WideShapes
set_option linter.unusedVariables false
set_option maxRecDepth 100000
theorem truthKind_any (y : Bool) (w : World) : Calls Tryd.prog 76 #[.agg #[.bool y]] w (Ret (.int .u8 1) w) := by
  have HB := Lib.hid (fun o => (Below.refl w.heap.size w).alloc (Nat.le_refl _) o)
  go_enter Tryd.func76, Tryd.ntmps76
  go_wp2_with fail
  go_ret
  exact ⟨rfl, HB.out _⟩
theorem wholeKind_any (b : Bool) (m : ByteArray) (w : World) : Calls Tryd.prog 78 #[.agg #[.bool b, .string m]] w (Ret (.int .u8 2) w) := by
  have HB := Lib.hid (fun o => (Below.refl w.heap.size w).alloc (Nat.le_refl _) o)
  go_enter Tryd.func78, Tryd.ntmps78
  go_wp2_with fail
  go_ret
  exact ⟨rfl, HB.out _⟩
theorem wholeNum_any (b : Bool) (m : ByteArray) (w : World) : Calls Tryd.prog 79 #[.agg #[.bool b, .string m]] w (Ret (.agg #[.bool b, .string m]) w) := by
  have HB := Lib.hid (fun o o' => ((Below.refl w.heap.size w).alloc (Nat.le_refl _) o).alloc (by simp) o')
  go_enter Tryd.func79, Tryd.ntmps79
  go_wp2_with fail
  go_returns
  exact ⟨rfl, HB.out _ _⟩
theorem rowKind_any (k : Nat) (r : ByteArray) (w : World) : Calls Tryd.prog 86 #[.agg #[.int .u8 k, .string r]] w (Ret (.int .u8 k) w) := by
  have HB := Lib.hid (fun o => (Below.refl w.heap.size w).alloc (Nat.le_refl _) o)
  go_enter Tryd.func86, Tryd.ntmps86
  go_wp2_with fail
  go_ret
  exact ⟨rfl, HB.out _⟩
theorem rowBytes_any (k : Nat) (r : ByteArray) (w : World) : Calls Tryd.prog 85 #[.agg #[.int .u8 k, .string r]] w (Ret (.string r) w) := by
  have HB := Lib.hid (fun o => (Below.refl w.heap.size w).alloc (Nat.le_refl _) o)
  go_enter Tryd.func85, Tryd.ntmps85
  go_wp2_with fail
  go_ret
  exact ⟨rfl, HB.out _⟩
theorem tupKind_any (a : Option Addr) (n c : Nat) (w : World) : Calls Tryd.prog 82 #[.agg #[.slice a n c]] w (Ret (.int .u8 7) w) := by
  have HB := Lib.hid (fun o => (Below.refl w.heap.size w).alloc (Nat.le_refl _) o)
  go_enter Tryd.func82, Tryd.ntmps82
  go_wp2_with fail
  go_ret
  exact ⟨rfl, HB.out _⟩
/-- A part without items comes back. -/
def FlatRet (k : Nat) (y b : Bool) (m r : ByteArray) (w : World) (e : Ending) (w' : World) : Prop := e = .returned (.agg #[.int .u8 k, .bool y, .bool b, .string m, .string r, .slice none 0 0]) ∧ Below w.heap.size w w'
theorem truthPart_any (y : Bool) (w : World) : Calls Tryd.prog 77 #[.agg #[.bool y]] w (FlatRet 1 y false ⟨#[]⟩ ⟨#[]⟩ w) := by
  have HB := Lib.hid (fun o o' => ((Below.refl w.heap.size w).alloc (Nat.le_refl _) o).alloc (by simp) o')
  go_enter Tryd.func77, Tryd.ntmps77
  go_wp2_with fail
  go_returns
  exact ⟨rfl, HB.out _ _⟩
theorem wholePart_any (b : Bool) (m : ByteArray) (w : World) : Calls Tryd.prog 80 #[.agg #[.bool b, .string m]] w (FlatRet 2 false b m ⟨#[]⟩ w) := by
  have HB := Lib.hid (fun o o' => ((Below.refl w.heap.size w).alloc (Nat.le_refl _) o).alloc (by simp) o')
  go_enter Tryd.func80, Tryd.ntmps80
  go_wp2_with fail
  go_returns
  exact ⟨rfl, HB.out _ _⟩
theorem rowPart_any (k : Nat) (r : ByteArray) (w : World) : Calls Tryd.prog 87 #[.agg #[.int .u8 k, .string r]] w (FlatRet k false false ⟨#[]⟩ r w) := by
  have HB := Lib.hid (fun o o' => ((Below.refl w.heap.size w).alloc (Nat.le_refl _) o).alloc (by simp) o')
  go_enter Tryd.func87, Tryd.ntmps87
  go_wp2_with fail
  go_returns
  exact ⟨rfl, HB.out _ _⟩
end Go.Proofs.YtjgicjgpahnmaaaDoor

/-! value.same: a value is the same as itself, wherever it lies. -/
namespace Go.Proofs.YtjgicjgpahnmaaaDoor
open Go.RowKit Go.WideShapes
set_option linter.unusedVariables false
theorem tupleNoTruth (v : Value) (xT : TypeId) (w : World) : (Instr.typeAssert (.iface 88 v) xT 84 true).run Tryd.prog w = .ok (.tuple #[.agg #[.bool false], .bool false]) w := by kernel_rfl
theorem wholeNoTruth (v : Value) (xT : TypeId) (w : World) : (Instr.typeAssert (.iface 86 v) xT 84 true).run Tryd.prog w = .ok (.tuple #[.agg #[.bool false], .bool false]) w := by kernel_rfl
theorem rowNoTruth (v : Value) (xT : TypeId) (w : World) : (Instr.typeAssert (.iface 90 v) xT 84 true).run Tryd.prog w = .ok (.tuple #[.agg #[.bool false], .bool false]) w := by kernel_rfl
theorem partYes (k : Int) (y b : Bool) (m r : ByteArray) (a : Option Addr) (n c : Nat) (w : World) : (Instr.field 30 (.agg #[.int .u8 k, .bool y, .bool b, .string m, .string r, .slice a n c]) 1).run Tryd.prog w = .ok (.bool y) w := by kernel_rfl
theorem truthIsTruth (v : Value) (xT : TypeId) (w : World) : (Instr.typeAssert (.iface 84 v) xT 84 true).run Tryd.prog w = .ok (.tuple #[v, .bool true]) w := by kernel_rfl
set_option maxRecDepth 100000 in
set_option maxHeartbeats 2000000 in
theorem same_truth (y : Bool) (w : World) : Calls Tryd.prog 31 #[.iface 84 (.agg #[.bool y]), .iface 84 (.agg #[.bool y])] w (Ret (.bool true) w) := by
  have HB0 := Lib.hid (Below.refl w.heap.size w)
  have h1 := truthIsTruth
  have HK := Lib.hid (fun y w => truthKind_any y w)
  have HP := Lib.hid (fun y w => truthPart_any y w)
  go_enter Tryd.func31, Tryd.ntmps31
  go_wp2_with fail
  refine (HK.out _ _).mono ?_
  rintro e w1 ⟨rfl, hb1⟩
  have HB1 := Lib.hid (HB0.out.trans hb1)
  have hz1 := hb1.size
  clear hb1 HB0
  go_wp2_with fail
  refine (HK.out _ _).mono ?_
  rintro e w2 ⟨rfl, hb2⟩
  have HB2 := Lib.hid (HB1.out.trans (hb2.mono hz1))
  have hz2 := hb2.size
  clear hb2 HB1 HK
  go_wp2_with fail
  have hc0 : (w2.alloc (Obj.cells #[Value.bool y] 84)).cell? ⟨w2.heap.size, 0, none⟩ = some (.bool y) := (BoxAt.new w2 w2.heap.size (.bool y) 84 rfl).cell
  have HB3 := Lib.hid ((HB2.out.alloc (by omega) (Obj.cells #[Value.bool y] 84)).drew)
  have HP' := Lib.hid (HP.out y (w2.alloc (Obj.cells #[Value.bool y] 84)).drew)
  clear HP
  have hpy := partYes
  go_region_law (go_simp; go_invoke; go_simp; go_at_call 77; refine HP'.out.mono ?_; rintro e w4 ⟨rfl, hb4⟩; have HB4 := Lib.hid (HB3.out.trans (hb4.mono (by simp [World.drew]; omega))); have hc4 := (hb4.cell (p := ⟨w2.heap.size, 0, none⟩) (by simp [World.drew])).trans hc0)
  all_goals (go_wp2_with fail; go_ret; exact ⟨rfl, HB4.out⟩)
end Go.Proofs.YtjgicjgpahnmaaaDoor

/-! value.same: a value is the same as itself, wherever it lies. -/
namespace Go.Proofs.YtjgicjgpahnmaaaDoor
open Go.RowKit Go.WideShapes
set_option linter.unusedVariables false
set_option maxRecDepth 100000 in
set_option maxHeartbeats 2000000 in
theorem same_any : ∀ (t : PT) (v u : Value) (w : World), ValueAt w (· < w.heap.size) t v → ValueAt w (· < w.heap.size) t u →
    Calls Tryd.prog 31 #[v, u] w (Ret (.bool true) w) := by
  refine PT.all fun t ih => ?_
  intro v u w hv hu
  have HB0 := Lib.hid (Below.refl w.heap.size w)
  by_cases h7 : t.kind = 7
  · obtain ⟨a, c, rfl, hlc, hcm, hits⟩ := (ValueAt.tuple h7).1 hv
    obtain ⟨a', c', rfl, hlc', hcm', hits'⟩ := (ValueAt.tuple h7).1 hu
    have HI := Lib.hid hits
    have HI' := Lib.hid hits'
    have HIH := Lib.hid ih
    have hlen : t.items.length ≤ maxLen := by omega
    have HLen := Lib.hid (fun a c w => tupLen_any a t.items.length c w hlen)
    have HK := Lib.hid (fun a c w => tupKind_any a t.items.length c w)
    have hta := tupleIsList
    have htb := tupleNoNumber
    have htc := tupleNoRaw
    have htd := tupleNoTruth
    have HL := Lib.hid hlen
    unfold maxLen at hlen
    clear hv hu h7 hits hits' ih hcm hcm'
    go_enter Tryd.func31, Tryd.ntmps31
    go_wp2_with fail
    refine (HK.out _ _ _).mono ?_
    rintro e w1 ⟨rfl, hb1⟩
    have HB1 := Lib.hid (HB0.out.trans hb1)
    have hz1 := hb1.size
    clear hb1 HB0
    go_wp2_with fail
    refine (HK.out _ _ _).mono ?_
    rintro e w2 ⟨rfl, hb2⟩
    have HB2 := Lib.hid (HB1.out.trans (hb2.mono hz1))
    have hz2 := hb2.size
    clear hb2 HB1
    go_wp2_with fail
    refine (HLen.out _ _ _).mono ?_
    rintro e w3 ⟨rfl, hb3⟩
    have HB3 := Lib.hid (HB2.out.trans (hb3.mono (by omega)))
    have hz3 := hb3.size
    clear hb3 HB2
    go_wp2_with fail
    refine (HLen.out _ _ _).mono ?_
    rintro e w4 ⟨rfl, hb4⟩
    have HB4 := Lib.hid (HB3.out.trans (hb4.mono (by omega)))
    have hz4 := hb4.size
    clear hb4 HB3
    go_wp2_with fail
    refine (HLen.out _ _ _).mono ?_
    rintro e w5 ⟨rfl, hb5⟩
    have HB5 := Lib.hid (HB4.out.trans (hb5.mono (by omega)))
    have hz5 := hb5.size
    clear hb5 HB4
    go_wp2_with fail
    go_loopw [94] (fun i wr => ∃ (k : Nat), i = .int .i64 k ∧ k ≤ t.items.length ∧ Hid (Below w.heap.size w wr) ∧ w.heap.size ≤ wr.heap.size) (fun i _ => t.items.length - (intOf i).toNat)
    case atStart => exact ⟨0, rfl, by omega, HB5, by omega⟩
    case round =>
      clear HB5 hz1 hz2 hz3 hz4 hz5
      obtain ⟨k, rfl, hk, HB, hwz⟩ := hrel
      by_cases hlt : k < t.items.length
      · obtain ⟨b, o, u, ea, hb, hc, hu⟩ := (HI.out.below HB.out).get hlt
        obtain ⟨b', o', u', ea', hb', hc', hu'⟩ := (HI'.out.below HB.out).get hlt
        subst ea
        subst ea'
        have HAt := Lib.hid (tupAt_any b o t.items.length c k k u wr HL.out (by omega) rfl hlt hc)
        have HAt' := Lib.hid (fun (W : World) (hB : Below wr.heap.size wr W) => tupAt_any b' o' t.items.length c' k k u' W HL.out (by have := hB.size; omega) rfl hlt ((hB.cell (by simp only; omega)).trans hc'))
        have HU := Lib.hid (hu.wide hwz)
        have HU' := Lib.hid (hu'.wide hwz)
        have HIHk := Lib.hid (fun (W : World) (h : ValueAt W (· < W.heap.size) (t.items[k]'hlt) u) (h' : ValueAt W (· < W.heap.size) (t.items[k]'hlt) u') => HIH.out (t.items[k]'hlt) (List.getElem_mem _) u u' W h h')
        clear hc hu hb hc' hu' hb'
        go_wp2_with fail
        refine HAt.out.mono ?_
        rintro e w2 ⟨rfl, hb2⟩
        have hz2 := hb2.size
        have HAt2 := Lib.hid (HAt'.out _ hb2)
        have HB2 := Lib.hid (HB.out.trans (hb2.mono hwz))
        have HU2 := Lib.hid ((HU.out.below hb2).wide hz2)
        have HU2' := Lib.hid ((HU'.out.below hb2).wide hz2)
        clear hb2 HB HU HAt HU' HAt'
        go_wp2_with fail
        refine HAt2.out.mono ?_
        rintro e w3 ⟨rfl, hb3⟩
        have hz3 := hb3.size
        have HB3 := Lib.hid (HB2.out.trans (hb3.mono (by omega)))
        have HU3 := Lib.hid ((HU2.out.below hb3).wide hz3)
        have HU3' := Lib.hid ((HU2'.out.below hb3).wide hz3)
        clear hb3 HB2 HU2 HAt2 HU2'
        go_wp2_with fail
        refine (HIHk.out _ HU3.out HU3'.out).mono ?_
        rintro e w4 ⟨rfl, hb4⟩
        have hz4 := hb4.size
        have HB4 := Lib.hid (HB3.out.trans (hb4.mono (by omega)))
        clear hb4 HB3 HU3 HU3' HIHk
        go_wp2_with fail
        go_roundw
        case rel => exact ⟨k + 1, by go_num, by omega, HB4, by omega⟩
        case measure => simp [intOf]; omega
      · obtain rfl : k = t.items.length := by omega
        go_wp2_with fail
        go_ret
        exact ⟨rfl, HB.out⟩
  · clear ih
    obtain ⟨k, y, b, m, r, l⟩ := t
    simp only [PT.kind] at h7
    by_cases k0 : k = 0
    · obtain rfl := (ValueAt.null (t := .mk k y b m r l) k0).1 hv
      obtain rfl := (ValueAt.null (t := .mk k y b m r l) k0).1 hu
      clear hv hu k0 h7
      go_enter Tryd.func31, Tryd.ntmps31
      go_wp2_with fail
      go_ret
      exact ⟨rfl, HB0.out⟩
    · by_cases k1 : k = 1
      · obtain rfl := (ValueAt.truth (t := .mk k y b m r l) k1).1 hv
        obtain rfl := (ValueAt.truth (t := .mk k y b m r l) k1).1 hu
        exact same_truth y w
      · by_cases k2 : k = 2
        · obtain ⟨rfl, -⟩ := (ValueAt.whole (t := .mk k y b m r l) k2).1 hv
          obtain ⟨rfl, -⟩ := (ValueAt.whole (t := .mk k y b m r l) k2).1 hu
          clear hv hu k0 k1 k2 h7
          have h1 := wholeNoTruth
          have h2 := wholeNumber
          have HK := Lib.hid (fun b m w => wholeKind_any b m w)
          have HP := Lib.hid (fun b m w => wholeNum_any b m w)
          simp only [PT.bel, PT.mag]
          go_enter Tryd.func31, Tryd.ntmps31
          go_wp2_with fail
          refine (HK.out _ _ _).mono ?_
          rintro e w1 ⟨rfl, hb1⟩
          have HB1 := Lib.hid (HB0.out.trans hb1)
          have hz1 := hb1.size
          clear hb1 HB0
          go_wp2_with fail
          refine (HK.out _ _ _).mono ?_
          rintro e w2 ⟨rfl, hb2⟩
          have HB2 := Lib.hid (HB1.out.trans (hb2.mono hz1))
          have hz2 := hb2.size
          clear hb2 HB1 HK
          go_wp2_with fail
          refine (HP.out _ _ _).mono ?_
          rintro e w3 ⟨rfl, hb3⟩
          have HB3 := Lib.hid (HB2.out.trans (hb3.mono (by omega)))
          have hz3 := hb3.size
          clear hb3 HB2
          go_wp2_with fail
          refine (HP.out _ _ _).mono ?_
          rintro e w4 ⟨rfl, hb4⟩
          have HB4 := Lib.hid (HB3.out.trans (hb4.mono (by omega)))
          have hz4 := hb4.size
          clear hb4 HB3
          go_wp2_with fail
          go_ret
          exact ⟨rfl, HB4.out⟩
        · obtain ⟨rfl, -, -⟩ := (ValueAt.row (t := .mk k y b m r l) k0 k1 k2 h7).1 hv
          obtain ⟨rfl, -, -⟩ := (ValueAt.row (t := .mk k y b m r l) k0 k1 k2 h7).1 hu
          clear hv hu k0 k1 k2 h7
          have h1 := rowNoTruth
          have h2 := rowNoNumber
          have h3 := rowRaw
          have HK := Lib.hid (fun b m w => rowKind_any b m w)
          have HP := Lib.hid (fun b m w => rowBytes_any b m w)
          simp only [PT.kind, PT.raw]
          go_enter Tryd.func31, Tryd.ntmps31
          go_wp2_with fail
          refine (HK.out _ _ _).mono ?_
          rintro e w1 ⟨rfl, hb1⟩
          have HB1 := Lib.hid (HB0.out.trans hb1)
          have hz1 := hb1.size
          clear hb1 HB0
          go_wp2_with fail
          refine (HK.out _ _ _).mono ?_
          rintro e w2 ⟨rfl, hb2⟩
          have HB2 := Lib.hid (HB1.out.trans (hb2.mono hz1))
          have hz2 := hb2.size
          clear hb2 HB1 HK
          go_wp2_with fail
          refine (HP.out _ _ _).mono ?_
          rintro e w3 ⟨rfl, hb3⟩
          have HB3 := Lib.hid (HB2.out.trans (hb3.mono (by omega)))
          have hz3 := hb3.size
          clear hb3 HB2
          go_wp2_with fail
          refine (HP.out _ _ _).mono ?_
          rintro e w4 ⟨rfl, hb4⟩
          have HB4 := Lib.hid (HB3.out.trans (hb4.mono (by omega)))
          have hz4 := hb4.size
          clear hb4 HB3
          go_wp2_with fail
          go_ret
          exact ⟨rfl, HB4.out⟩
set_option maxRecDepth 100000 in
set_option maxHeartbeats 1000000 in
theorem Same_any (t : PT) (v u : Value) (w : World) (hv : ValueAt w (· < w.heap.size) t v) (hu : ValueAt w (· < w.heap.size) t u) :
    Calls Tryd.prog 11 #[v, u] w (Ret (.bool true) w) := by
  have H := Lib.hid (same_any t v u w hv hu)
  clear hv hu
  go_enter Tryd.func11, Tryd.ntmps11
  go_wp2_with fail
  refine H.out.mono ?_
  rintro e w1 ⟨rfl, hb1⟩
  have HB1 := Lib.hid hb1
  clear hb1
  go_wp2_with fail
  go_ret
  exact ⟨rfl, HB1.out⟩
end Go.Proofs.YtjgicjgpahnmaaaDoor

/-! slices.Clone of values, value.Of. -/
namespace Go.Proofs.YtjgicjgpahnmaaaDoor
open Go.RowKit Go.WideShapes
set_option linter.unusedVariables false
theorem ValuesAt.vals {w : World} {S : Nat → Prop} : ∀ {l : List PT} {b o : Nat}, ValuesAt w S l (some ⟨b, o, none⟩) → ∃ vs : List Value, vs.length = l.length ∧ (∀ i u, vs[i]? = some u → w.cell? ⟨b, o + i, none⟩ = some u) ∧ ∀ i (hi : i < l.length) (hv : i < vs.length), ValueAt w S l[i] vs[i]
  | [], b, o, _ => ⟨[], rfl, fun i u hu => by simp at hu, fun i hi => absurd hi (Nat.not_lt_zero i)⟩
  | t :: l, b, o, h => by
    obtain ⟨b', o', u, e, hb, hc, h1, h2⟩ := h
    simp only [Option.some.injEq, Addr.mk.injEq, and_true] at e
    obtain ⟨rfl, rfl⟩ := e
    obtain ⟨vs, g1, g2, g3⟩ := ValuesAt.vals h2
    refine ⟨u :: vs, by simp [g1], fun i x hx => ?_, fun i hi hv => ?_⟩
    · cases i with
      | zero => simp at hx; subst hx; exact hc
      | succ i => rw [show o + (i + 1) = o + 1 + i by omega]; exact g2 i x (by simpa using hx)
    · cases i with
      | zero => exact h1
      | succ i => exact g3 i (by simpa using hi) (by simpa using hv)
theorem sliceSome (x : Addr) (n c : Nat) (w : World) : (binOp .eql 69 (.slice (some x) n c) (.slice none 0 0)).run Tryd.prog w = .ok (.bool false) w := by kernel_rfl
theorem sliceNone (n c : Nat) (w : World) : (binOp .eql 69 (.slice none n c) (.slice none 0 0)).run Tryd.prog w = .ok (.bool true) w := by kernel_rfl
theorem own_cap {w : World} {base e size n cap g m : Nat} {xs : List Value} (h : w.ownsRow base e size (.slice (some ⟨g, 0, none⟩) m cap) n xs) : n ≤ cap ∧ cap ≤ maxLen := by
  rcases h.2 with ⟨h, _⟩ | ⟨g', cap', cur, e, _, _, h1, h2, _⟩
  · cases h
  · injection e with _ _ e; subst e; exact ⟨h1, h2⟩
/-- A list of values comes back, below the world's end. -/
def RowPost (l : List PT) (w : World) (e : Ending) (w' : World) : Prop := ∃ a c, e = .returned (.slice a l.length c) ∧ l.length ≤ c ∧ c ≤ maxLen ∧ Below w.heap.size w w' ∧ ValuesAt w' (· < w'.heap.size) l a
set_option maxRecDepth 100000 in
set_option maxHeartbeats 1000000 in
theorem clone_any (l : List PT) (a : Option Addr) (c : Nat) (w : World) (hl : l.length ≤ 1024) (h0 : l = [] → a = none) (hv : ValuesAt w (· < w.heap.size) l a) :
    Calls Tryd.prog 44 #[.slice a l.length c] w (RowPost l w) := by
  have HB0 := Lib.hid (Below.refl w.heap.size w)
  by_cases hn : l = []
  · obtain rfl := h0 hn
    subst hn
    have hs := sliceNone
    clear h0 hv hl
    go_enter Tryd.func44, Tryd.ntmps44
    go_wp2_with fail
    go_ret
    exact ⟨none, 0, rfl, Nat.le_refl _, Nat.zero_le _, HB0.out, trivial⟩
  · obtain ⟨b, o, rfl⟩ : ∃ b o, a = some ⟨b, o, none⟩ := by
      cases l with
      | nil => exact absurd rfl hn
      | cons t l => obtain ⟨b, o, u, e, _⟩ := hv; exact ⟨b, o, e⟩
    have hpos : 0 < l.length := List.length_pos_iff.2 hn
    obtain ⟨vs, g1, g2, g3⟩ := ValuesAt.vals hv
    have HG2 := Lib.hid g2
    have HG3 := Lib.hid g3
    obtain ⟨i0, hi, hz⟩ := Option.map_eq_some_iff.1 value_info
    simp only [Prod.mk.injEq] at hz
    obtain ⟨hz0, hz1, hz2⟩ := hz
    have HOne := Lib.hid (show ∀ u ∈ vs, u.oneCell' = true from fun u hu => by
      obtain ⟨i, hi, rfl⟩ := List.getElem_of_mem hu
      exact (g3 i (by omega) hi).one)
    have HO := Lib.hid (show (w.alloc (Obj.cells #[] 35)).ownsRow w.heap.size 35 1 (.slice (some ⟨w.heap.size, 0, none⟩) 0 0) 0 [] from ⟨rfl, .inr ⟨w.heap.size, 0, #[], rfl, Nat.le_refl _, World.alloc_heap_new w _, Nat.le_refl _, Nat.zero_le _, rfl, rfl⟩⟩)
    have HB1 := Lib.hid (HB0.out.alloc (Nat.le_refl _) (Obj.cells #[] 35))
    have HL := Lib.hid g1
    have hblt : b < w.heap.size := by
      cases l with
      | nil => simp at hpos
      | cons t l => obtain ⟨b', o', u, e, hb', _⟩ := hv; simp at e; obtain ⟨rfl, -⟩ := e; exact hb'
    have HNews := Lib.hid (show ∀ j u, vs[j]? = some u → (w.alloc (Obj.cells #[] 35)).cell? ((⟨b, o, none⟩ : Addr).add j) = some u from fun j u hu => by
      rw [add_plain, World.cell?_alloc_lt _ _ _ hblt]; exact g2 j u hu)
    have hs := sliceSome
    clear g1 g2 g3 hv h0 hn
    go_enter Tryd.func44, Tryd.ntmps44
    go_wp2_with (at_builtin; refine wpList_append_lies _ rfl _ _ 69 rfl w.heap.size 35 i0 .nilIface 1 16 Tryd.underlying69 hi hz0 hz1 hz2 rfl (by decide) _ _ _ rfl HO.out ⟨b, o, none⟩ l.length c vs rfl (by rw [HL.out]; omega) (HNews.out) HOne.out hpos (by unfold maxLen; omega) (by omega) (by simp) _ rfl ?_; intro g cap w' hown hgrow hat hgl)
    go_ret
    have hcap := own_cap hown
    have hgrow' : (w.alloc (Obj.cells #[] 35)).grownBy w' (some w.heap.size) := hgrow
    have hb2 := HB1.out.grown hgrow' (by simp) (fun j ej => by injection ej with ej; omega)
    refine ⟨some ⟨g, 0, none⟩, cap, rfl, by omega, by omega, hb2, ValuesAt.of_get (.inr hgl) fun i hi => ?_⟩
    have hiv : i < vs.length := by rw [HL.out]; exact hi
    refine ⟨vs[i], ?_, ((HG3.out i hi hiv).below hb2).wide (by have := hb2.size; omega)⟩
    rw [Nat.zero_add, hown.cellAt i (by omega), List.nil_append, List.getElem?_eq_getElem hiv]
/-- A list comes back, and no error. -/
def OfPost (l : List PT) (w : World) (e : Ending) (w' : World) : Prop := ∃ a c, e = .returned (.tuple #[.iface 88 (.agg #[.slice a l.length c]), .int .i64 0]) ∧ l.length ≤ c ∧ c ≤ maxLen ∧ Below w.heap.size w w' ∧ ValuesAt w' (· < w'.heap.size) l a
set_option maxRecDepth 100000 in
set_option maxHeartbeats 1000000 in
theorem of_any (l : List PT) (a : Option Addr) (c : Nat) (w : World) (hl : l.length ≤ 1024) (h0 : l = [] → a = none) (hd : ∀ t ∈ l, t.depth < 16) (hv : ValuesAt w (· < w.heap.size) l a) :
    Calls Tryd.prog 30 #[.slice a l.length c] w (OfPost l w) := by
  have HB0 := Lib.hid (Below.refl w.heap.size w)
  have HV := Lib.hid hv
  have HC := Lib.hid (fun w => clone_any l a c w hl h0)
  have HD := Lib.hid hd
  clear hv h0 hd
  go_enter Tryd.func30, Tryd.ntmps30
  go_wp2_with fail
  go_loopw [11] (fun i wr => ∃ (k : Nat), i = .int .i64 k ∧ k ≤ l.length ∧ Hid (Below w.heap.size w wr) ∧ w.heap.size ≤ wr.heap.size) (fun i _ => l.length - (intOf i).toNat)
  case atStart => exact ⟨0, rfl, by omega, HB0, by omega⟩
  case round =>
    clear HB0
    obtain ⟨k, rfl, hk, HB, hwz⟩ := hrel
    by_cases hlt : k < l.length
    · obtain ⟨b, o, u, ea, hb, hc, hu⟩ := (HV.out.below HB.out).get hlt
      subst ea
      have hd := HD.out _ (List.getElem_mem hlt)
      have HR := Lib.hid (Depth_any l[k] u wr (by omega) (hu.wide hwz))
      clear hu
      go_wp2_with fail
      refine HR.out.mono ?_
      rintro e w2 ⟨rfl, hb2⟩
      have hz2 := hb2.size
      have HB2 := Lib.hid (HB.out.trans (hb2.mono hwz))
      clear hb2 HB HR hc
      go_wp2_with fail
      go_roundw
      case rel => exact ⟨k + 1, by go_num, by omega, HB2, by omega⟩
      case measure => simp [intOf]; omega
    · obtain rfl : k = l.length := by omega
      have HR := Lib.hid (HC.out wr ((HV.out.below HB.out).wide hwz))
      go_wp2_with fail
      refine HR.out.mono ?_
      rintro e w2 ⟨a2, c2, rfl, hc1, hc2, hb2, hv2⟩
      have HB2 := Lib.hid (HB.out.trans (hb2.mono hwz))
      have HV2 := Lib.hid hv2
      clear hb2 HB HR hv2
      go_wp2_with fail
      go_ret2
      exact ⟨a2, c2, rfl, hc1, hc2, HB2.out, HV2.out⟩
end Go.Proofs.YtjgicjgpahnmaaaDoor

/-! A row of parts that a call makes, and the part that holds it. -/
namespace Go.Proofs.YtjgicjgpahnmaaaDoor
open Go.RowKit Go.WideShapes
set_option linter.unusedVariables false
theorem part_info : (Tryd.prog.info? 30).map (fun i => (i.zero, i.size, i.bytes)) = some (some (.agg #[.int .u8 0, .bool false, .bool false, .string ⟨#[]⟩, .string ⟨#[]⟩, .slice none 0 0]), 6, 72) := by kernel_rfl
/-- A part in the making: a tuple's, with its items' list. -/
def PBox (w : World) (T : Nat) (v : Value) : Prop := w.heap[T]? = some (.cells #[.int .u8 7, .bool false, .bool false, .string ⟨#[]⟩, .string ⟨#[]⟩, v] 30 (0, 0))
section
variable {w w' : World} {T : Nat} {v u : Value}
theorem PBox.cells (h : PBox w T v) : w.cell? ⟨T, 0, none⟩ = some (.int .u8 7) ∧ w.cell? ⟨T, 1, none⟩ = some (.bool false) ∧ w.cell? ⟨T, 2, none⟩ = some (.bool false) ∧ w.cell? ⟨T, 3, none⟩ = some (.string ⟨#[]⟩) ∧ w.cell? ⟨T, 4, none⟩ = some (.string ⟨#[]⟩) ∧ w.cell? ⟨T, 5, none⟩ = some v := by
  simp [World.cell?, show w.heap[T]? = _ from h]
theorem PBox.cell (h : PBox w T v) : w.cell? ⟨T, 5, none⟩ = some v := h.cells.2.2.2.2.2
theorem PBox.free (h : PBox w T v) : w.frozen? ⟨T, 5, none⟩ = false := by simp [World.frozen?, show w.heap[T]? = _ from h]
theorem PBox.lt (h : PBox w T v) : T < w.heap.size := (Array.getElem?_eq_some_iff.1 h).1
theorem PBox.set (h : PBox w T v) : PBox (w.setCell ⟨T, 5, none⟩ u) T u := by
  unfold PBox at *; simp [World.setCell, Array.getElem?_modify, h]
theorem PBox.of (h : PBox w T v) (hh : w'.heap[T]? = w.heap[T]?) : PBox w' T v := hh.trans h
theorem PBox.below {B : Nat} (h : PBox w T v) (hb : Below B w w') (hT : T < B) : PBox w' T v := h.of (hb.block T hT)
theorem PBox.new (w : World) (T : Nat) (v : Value) (hT : T = w.heap.size) : PBox (w.alloc (.cells #[.int .u8 7, .bool false, .bool false, .string ⟨#[]⟩, .string ⟨#[]⟩, v] 30)) T v := by subst hT; exact World.alloc_heap_new w _
theorem PBox.grown {vt : Value} {tmp : Obj} (h : PBox w T v) (hg : (w.alloc tmp).grownBy w' vt.ownBlock) (hne : vt.ownBlock ≠ some T) : PBox w' T v := by
  have hl := h.lt
  refine h.of ((hg.block T (by simp; omega) (fun e => hne e.symm)).trans ?_)
  rw [Below.heap_alloc w tmp T hl]
end
theorem flat_get : ∀ (css : List (List Value)), (∀ c ∈ css, c.length = 6) → ∀ (i : Nat) (hi : i < css.length) (j : Nat) u, (css[i])[j]? = some u → css.flatten[i * 6 + j]? = some u
  | [], _, i, hi, _, _, _ => absurd hi (Nat.not_lt_zero i)
  | c :: css, h, i, hi, j, u, hu => by
    have hc : c.length = 6 := h c (by simp)
    cases i with
    | zero =>
      have hj : j < c.length := (List.getElem?_eq_some_iff.1 hu).1
      rw [List.flatten_cons, show 0 * 6 + j = j by omega, List.getElem?_append_left hj]; exact hu
    | succ i =>
      rw [List.flatten_cons, List.getElem?_append_right (by omega), show (i + 1) * 6 + j - c.length = i * 6 + j by omega]
      exact flat_get css (fun c hc => h c (by simp [hc])) i (by simpa using hi) j u hu
theorem flat_len : ∀ (css : List (List Value)), (∀ c ∈ css, c.length = 6) → css.flatten.length = css.length * 6
  | [], _ => rfl
  | c :: css, h => by rw [List.flatten_cons, List.length_append, h c (by simp), flat_len css fun c hc => h c (by simp [hc])]; simp; omega
/-- So many parts stand in a row of one's own, each in blocks from n on. -/
structure PRow (w : World) (n base : Nat) (vt : Value) (k : Nat) (l : List PT) (css : List (List Value)) : Prop where
  len : css.length = k
  tl : l.length = k
  six : ∀ c ∈ css, c.length = 6
  own : w.ownsRow base 30 6 vt k css.flatten
  part : ∀ i (hi : i < l.length) (hv : i < css.length), PartAt w (fun b => n ≤ b ∧ b < w.heap.size ∧ vt.ownBlock ≠ some b) l[i] css[i]
theorem PRow.start (w : World) (n base : Nat) : PRow w n base (.slice none 0 0) 0 [] [] :=
  ⟨rfl, rfl, fun c hc => by simp at hc, World.ownsRow_nil _ _ _ _, fun i hi hv => absurd hv (Nat.not_lt_zero i)⟩
theorem PRow.below {w w' : World} {n base : Nat} {vt : Value} {k : Nat} {l : List PT} {css : List (List Value)} (h : PRow w n base vt k l css) (hb : Below w.heap.size w w') : PRow w' n base vt k l css :=
  ⟨h.len, h.tl, h.six, by
    rcases h.own.2 with ⟨e, h0⟩ | ⟨g, cap, cur, e, hb', hg, h1⟩
    · exact ⟨h.own.1, .inl ⟨e, h0⟩⟩
    · exact ⟨h.own.1, .inr ⟨g, cap, cur, e, hb', (hb.block g (Array.getElem?_eq_some_iff.1 hg).1).trans hg, h1⟩⟩,
   fun i hi hv => PartAt.more (fun b hb' => ⟨hb'.1, Nat.lt_of_lt_of_le hb'.2.1 hb.size, hb'.2.2⟩) _ _ (PartAt.keep (fun p hp => hb.cell hp.2.1) _ _ (h.part i hi hv))⟩
/-- One part more. -/
theorem PRow.step {w w2 w3 : World} {n base : Nat} {vt : Value} {k : Nat} {l : List PT} {css : List (List Value)} {t : PT} {cs : List Value} {tmp : Obj} {g cap : Nat} (h : PRow w n base vt k l css) (h6 : cs.length = 6)
    (hv : PartAt w2 (fun b => w.heap.size ≤ b ∧ b < w2.heap.size) t cs) (hb : Below w.heap.size w w2) (hn : n ≤ w.heap.size)
    (hown : w3.ownsRow base 30 6 (.slice (some ⟨g, 0, none⟩) (k + 1) cap) (k + 1) (css.flatten ++ cs)) (hgrow : (w2.alloc tmp).grownBy w3 vt.ownBlock) (hat : vt.ownBlock = some g ∨ g = (w2.alloc tmp).heap.size) :
    PRow w3 n base (.slice (some ⟨g, 0, none⟩) (k + 1) cap) (k + 1) (l ++ [t]) (css ++ [cs]) := by
  have h2 := h.below hb
  have hz : (w2.alloc tmp).heap.size = w2.heap.size + 1 := by simp
  have hz3 := hgrow.size
  have hcell : ∀ p : Addr, p.block < w2.heap.size → vt.ownBlock ≠ some p.block → w3.cell? p = w2.cell? p := fun p hp hne => by
    rw [hgrow.cell_far p (by omega) (fun e => hne e.symm), World.cell?_alloc_lt w2 tmp p hp]
  have hvt : ∀ b, w.heap.size ≤ b → vt.ownBlock ≠ some b := fun b hb e => by
    have := (h.own.lt b e).2; omega
  have hg : ∀ b, b < w2.heap.size → vt.ownBlock ≠ some b → (Value.slice (some ⟨g, 0, none⟩) (k + 1) cap).ownBlock ≠ some b := fun b hb hne e => by
    simp only [Value.ownBlock, Option.some.injEq] at e
    subst e
    rcases hat with hat | hat
    · exact hne hat
    · omega
  refine ⟨by simp [h.len], by simp [h.tl], fun c hc => ?_, by simpa using hown, fun i hi hv' => ?_⟩
  · rcases List.mem_append.1 hc with hc | hc
    · exact h.six c hc
    · simp at hc; subst hc; exact h6
  · rw [List.length_append, h.len, List.length_singleton] at hv'
    by_cases e : i = k
    · subst e
      have e1 : (css ++ [cs])[i]'(by rw [List.length_append, h.len, List.length_singleton]; omega) = cs := by
        rw [List.getElem_append_right (by rw [h.len]; omega)]; simp [h.len]
      have e2 : (l ++ [t])[i]'hi = t := by
        rw [List.getElem_append_right (by rw [h.tl]; omega)]; simp [h.tl]
      rw [e1, e2]
      refine PartAt.more (fun b hb' => ?_) _ _ (PartAt.keep (fun p hp => hcell p hp.2 (hvt _ hp.1)) _ _ hv)
      exact ⟨by omega, by omega, hg b hb'.2 (hvt b hb'.1)⟩
    · have hik : i < css.length := by rw [h.len]; omega
      have hil : i < l.length := by rw [h.tl]; omega
      have e1 : (css ++ [cs])[i]'(by rw [List.length_append, h.len, List.length_singleton]; omega) = css[i] := List.getElem_append_left hik
      have e2 : (l ++ [t])[i]'hi = l[i] := List.getElem_append_left hil
      rw [e1, e2]
      refine PartAt.more (fun b hb' => ?_) _ _ (PartAt.keep (fun p hp => hcell p hp.2.1 hp.2.2) _ _ (h2.part i hil hik))
      exact ⟨hb'.1, by omega, hg b hb'.2.1 hb'.2.2⟩
/-- The part is written. -/
theorem PRow.set {w : World} {n base T : Nat} {vt u : Value} {k : Nat} {l : List PT} {css : List (List Value)} (h : PRow w n base vt k l css) (hT : T < n) (hTb : T < base) : PRow (w.setCell ⟨T, 5, none⟩ u) n base vt k l css := by
  have hheap : ∀ b, b ≠ T → (w.setCell ⟨T, 5, none⟩ u).heap[b]? = w.heap[b]? := fun b hb => by simp [World.setCell, Array.getElem?_modify, Ne.symm hb]
  have hz : (w.setCell ⟨T, 5, none⟩ u).heap.size = w.heap.size := by simp
  refine ⟨h.len, h.tl, h.six, ?_, fun i hi hv => ?_⟩
  · rcases h.own.2 with ⟨e, h0⟩ | ⟨g, cap, cur, e, hb', hg, h1⟩
    · exact ⟨h.own.1, .inl ⟨e, h0⟩⟩
    · exact ⟨h.own.1, .inr ⟨g, cap, cur, e, hb', (hheap g (by omega)).trans hg, h1⟩⟩
  · refine PartAt.more (fun b hb' => ⟨hb'.1, by omega, hb'.2.2⟩) _ _ (PartAt.keep (fun p hp => ?_) _ _ (h.part i hi hv))
    exact World.cell?_setCell_other w _ p u (fun e => by have := hp.1; rw [← e] at this; simp at this; omega)
/-- The whole row, as a tuple's. -/
theorem PRow.parts {w : World} {n base : Nat} {vt : Value} {k : Nat} {l : List PT} {css : List (List Value)} (h : PRow w n base vt k l css) (hn : n ≤ base) :
    ∃ a c, vt = .slice a l.length c ∧ l.length ≤ c ∧ c ≤ maxLen ∧ PartsAt w (fun b => n ≤ b ∧ b < w.heap.size) l a := by
  rcases h.own.2 with ⟨e, h0⟩ | ⟨g, cap, cur, e, hb', hg, hnc, hcm, hcs, htake⟩
  · refine ⟨none, 0, by rw [e, h.tl, h0], by rw [h.tl, h0]; exact Nat.le_refl _, by omega, ?_⟩
    rw [List.length_eq_zero_iff.1 (h.tl.trans h0)]; trivial
  · refine ⟨some ⟨g, 0, none⟩, cap, by rw [h.tl]; exact e, by rw [h.tl]; exact hnc, hcm, PartsAt.of_get (.inr ⟨by omega, (Array.getElem?_eq_some_iff.1 hg).1⟩) fun i hi => ?_⟩
    have hv : i < css.length := by rw [h.len, ← h.tl]; exact hi
    refine ⟨css[i], fun j u hu => ?_, PartAt.more (fun b hb => ⟨hb.1, hb.2.1⟩) _ _ (h.part i hi hv)⟩
    have hj : j < 6 := by have := (List.getElem?_eq_some_iff.1 hu).1; rw [h.six _ (List.getElem_mem hv)] at this; exact this
    have hik : i < k := by rw [← h.len]; exact hv
    have ho := h.own
    rw [e] at ho
    rw [Nat.zero_add, ho.cellAt (i * 6 + j) (by omega)]
    exact flat_get css h.six i hv j u hu
end Go.Proofs.YtjgicjgpahnmaaaDoor

/-! value.Tell: a value as a part. -/
namespace Go.Proofs.YtjgicjgpahnmaaaDoor
open Go.RowKit Go.WideShapes
set_option linter.unusedVariables false
/-- A part comes back, in new blocks. -/
def TellPost (w : World) (e : Ending) (w' : World) : Prop := ∃ (t : PT) (a : Option Addr) (c : Nat), e = .returned (.agg #[.int .u8 t.kind, .bool t.yes, .bool t.bel, .string t.mag, .string t.raw, .slice a t.items.length c]) ∧ Below w.heap.size w w' ∧ PartAt w' (fun b => w.heap.size ≤ b ∧ b < w'.heap.size) t (partCells t a c)
/-- The block of a result that is not there yet. -/
def RBox (w : World) (T : Nat) : Prop := w.heap[T]? = some (.cells #[.int .u8 0, .bool false, .bool false, .string ⟨#[]⟩, .string ⟨#[]⟩, .slice none 0 0] 30 (0, 0))
theorem RBox.below {w w' : World} {B T : Nat} (h : RBox w T) (hb : Below B w w') (hT : T < B) : RBox w' T := (hb.block T hT).trans h
theorem RBox.new (w : World) (T : Nat) (hT : T = w.heap.size) : RBox (w.alloc (.cells #[.int .u8 0, .bool false, .bool false, .string ⟨#[]⟩, .string ⟨#[]⟩, .slice none 0 0] 30)) T := by subst hT; exact World.alloc_heap_new w _
theorem RBox.grown {w w' : World} {T : Nat} {vt : Value} {tmp : Obj} (h : RBox w T) (hg : (w.alloc tmp).grownBy w' vt.ownBlock) (hne : vt.ownBlock ≠ some T) : RBox w' T := by
  have hl : T < w.heap.size := (Array.getElem?_eq_some_iff.1 h).1
  refine ((hg.block T (by simp; omega) (fun e => hne e.symm)).trans ?_).trans h
  rw [Below.heap_alloc w tmp T hl]
theorem RBox.set {w : World} {T T' o : Nat} {u : Value} (h : RBox w T) (hne : T' ≠ T) : RBox (w.setCell ⟨T', o, none⟩ u) T := by
  unfold RBox at *; simp [World.setCell, Array.getElem?_modify, hne, h]
theorem RBox.cells {w : World} {T : Nat} (h : RBox w T) : w.cell? ⟨T, 0, none⟩ = some (.int .u8 0) ∧ w.cell? ⟨T, 1, none⟩ = some (.bool false) ∧ w.cell? ⟨T, 2, none⟩ = some (.bool false) ∧ w.cell? ⟨T, 3, none⟩ = some (.string ⟨#[]⟩) ∧ w.cell? ⟨T, 4, none⟩ = some (.string ⟨#[]⟩) ∧ w.cell? ⟨T, 5, none⟩ = some (.slice none 0 0) := by
  simp [World.cell?, show w.heap[T]? = _ from h]
theorem RBox.free {w : World} {T : Nat} (h : RBox w T) (i : Nat) : w.frozen? ⟨T, i, none⟩ = false := by simp [World.frozen?, show w.heap[T]? = _ from h]
/-- It is written. -/
theorem RBox.filled {w : World} {T : Nat} (h : RBox w T) (x0 x1 x2 x3 x4 x5 : Value) : (w.setCell ⟨T, 0, none⟩ x0).cell? ⟨T, 0, none⟩ = some x0 ∧ ((w.setCell ⟨T, 0, none⟩ x0).setCell ⟨T, 1, none⟩ x1).cell? ⟨T, 1, none⟩ = some x1 ∧ (((w.setCell ⟨T, 0, none⟩ x0).setCell ⟨T, 1, none⟩ x1).setCell ⟨T, 2, none⟩ x2).cell? ⟨T, 2, none⟩ = some x2 ∧ ((((w.setCell ⟨T, 0, none⟩ x0).setCell ⟨T, 1, none⟩ x1).setCell ⟨T, 2, none⟩ x2).setCell ⟨T, 3, none⟩ x3).cell? ⟨T, 3, none⟩ = some x3 ∧ (((((w.setCell ⟨T, 0, none⟩ x0).setCell ⟨T, 1, none⟩ x1).setCell ⟨T, 2, none⟩ x2).setCell ⟨T, 3, none⟩ x3).setCell ⟨T, 4, none⟩ x4).cell? ⟨T, 4, none⟩ = some x4 ∧ ((((((w.setCell ⟨T, 0, none⟩ x0).setCell ⟨T, 1, none⟩ x1).setCell ⟨T, 2, none⟩ x2).setCell ⟨T, 3, none⟩ x3).setCell ⟨T, 4, none⟩ x4).setCell ⟨T, 5, none⟩ x5).cell? ⟨T, 5, none⟩ = some x5 := by
  unfold RBox at h
  refine ⟨?_, ?_, ?_, ?_, ?_, ?_⟩ <;> simp only [World.cell?] <;> simp [World.setCell, Array.getElem?_modify, h]
set_option maxRecDepth 100000 in
set_option maxHeartbeats 2000000 in
theorem tuplePart_any (l : List PT) (a : Option Addr) (c : Nat) (w : World) (hlc : l.length ≤ 1024) (hl : ValuesAt w (· < w.heap.size) l a)
    (ih : ∀ x ∈ l, ∀ (v : Value) (w : World), ValueAt w (· < w.heap.size) x v → Calls Tryd.prog 13 #[v] w (TellPost w)) :
    Calls Tryd.prog 84 #[.agg #[.slice a l.length c]] w (TellPost w) := by
  obtain ⟨i0, hi, hz0, hz1, hz2⟩ := info_parts part_info
  have HI := Lib.hid hl
  have HIH := Lib.hid ih
  have HB0 := Lib.hid (fun o o2 o3 => (((Below.refl w.heap.size w).alloc (Nat.le_refl _) o).alloc (by simp : w.heap.size ≤ (w.alloc o).heap.size) o2).alloc (by simp; omega : w.heap.size ≤ ((w.alloc o).alloc o2).heap.size) o3)
  have HX0 := Lib.hid (fun o o2 => PBox.new ((w.alloc o).alloc o2) (w.heap.size + 1 + 1) (.slice none 0 0) (by simp))
  have HR0 := Lib.hid (fun o o3 => (RBox.new (w.alloc o) (w.heap.size + 1) (by simp)).below ((Below.refl _ _).alloc (Nat.le_refl _) o3) (by simp : w.heap.size + 1 < ((w.alloc o).alloc _).heap.size))
  have HV0 := Lib.hid (fun W => PRow.start W (w.heap.size + 3) (w.heap.size + 3))
  clear hl ih
  go_enter Tryd.func84, Tryd.ntmps84
  go_wp2_with fail
  go_loopw [10] (fun i wr => ∃ (k : Nat) (vt : Value) (pl : List PT) (css : List (List Value)), i = .int .i64 k ∧ k ≤ l.length ∧ Hid (Below w.heap.size w wr) ∧ Hid (RBox wr (w.heap.size + 1)) ∧ Hid (PBox wr (w.heap.size + 1 + 1) vt) ∧ Hid (PRow wr (w.heap.size + 3) (w.heap.size + 3) vt k pl css) ∧ w.heap.size + 3 ≤ wr.heap.size) (fun i _ => l.length - (intOf i).toNat)
  case atStart => exact ⟨0, _, [], [], rfl, by omega, Lib.hid (HB0.out _ _ _), Lib.hid (HR0.out _ _), Lib.hid (HX0.out _ _), Lib.hid (HV0.out _), by simp⟩
  case round =>
    clear HB0 HX0 HV0 HR0
    obtain ⟨k, vt, pl, css, rfl, hk, HB, HR, HX, HV, hwz⟩ := hrel
    have hTlt : w.heap.size + 1 + 1 < wr.heap.size := by omega
    have hbc := HX.out.cell
    have hbf := HX.out.free
    by_cases hlt : k < l.length
    · obtain ⟨b, o, u, ea, hb, hc, hu⟩ := (HI.out.below HB.out).get hlt
      subst ea
      have hB1 : Below wr.heap.size wr wr.drew := (Below.refl _ _).drew
      have HRc := Lib.hid (HIH.out l[k] (List.getElem_mem hlt) u wr.drew ((hu.wide (by omega : w.heap.size ≤ wr.heap.size)).below hB1))
      have HB1 := Lib.hid hB1
      clear hu hB1
      go_wp2_with fail
      have hne : vt.ownBlock ≠ some (w.heap.size + 1 + 1) := fun e => by have := row_ge HV.out.own e; omega
      go_region_law (first
        | (go_simp; go_at_call 13; refine HRc.out.mono ?_; rintro e w2 ⟨t2, a2, c2, rfl, hb2, hp2⟩; have HP2 := Lib.hid hp2; clear hp2; have hbr2 := HB1.out.trans (hb2.mono (by simp)); have hzz2 := hbr2.size; have hT2 : w.heap.size + 1 + 1 < w2.heap.size := (by omega); have HV2 := Lib.hid (HV.out.below hbr2); have HX2 := Lib.hid (HX.out.below hbr2 hTlt); have hbc2 := HX2.out.cell)
        | (refine step_append_lies _ (by rfl) _ _ _ (by rfl) (w.heap.size + 3) 30 i0 (.agg #[.int .u8 0, .bool false, .bool false, .string ⟨#[]⟩, .string ⟨#[]⟩, .slice none 0 0]) 6 72 Tryd.underlying28 hi hz0 hz1 hz2 rfl (by omega) vt k css.flatten (by rfl) (HV2.out.own.alloc _) ⟨w2.heap.size, 0, none⟩ 1 1 [.int .u8 t2.kind, .bool t2.yes, .bool t2.bel, .string t2.mag, .string t2.raw, .slice a2 t2.items.length c2] (by rfl) (by rfl) (World.news_of_block (cs := #[.int .u8 t2.kind, .bool t2.yes, .bool t2.bel, .string t2.mag, .string t2.raw, .slice a2 t2.items.length c2]) (t := 30) (fr := (0, 0)) (heap_alloc_new w2 _)) (by simp [Value.oneCell']) (by omega) (by unfold maxLen; omega) (by omega) (by simp; omega) (w2.heap.size + 1) (by simp) ?_; intro g4 cap4 w4 hown4 hgrow4 hat4 hgl4; have HX4 := Lib.hid (HX2.out.grown hgrow4 hne); have hbc4 := HX4.out.cell; have hbf4 := HX4.out.free))
      all_goals (
        have hp2' := PartAt.more (S' := fun b => wr.heap.size ≤ b ∧ b < w2.heap.size) (fun b hb => by have h1 := hb.1; simp at h1; exact ⟨by omega, hb.2⟩) _ _ HP2.out
        have HB' := Lib.hid (((((HB.out.trans (hbr2.mono (by omega))).alloc (by omega) _).grown hgrow4 (by simp; omega) (fun j ej => by have := row_ge HV2.out.own ej; omega)).setCell (p := ⟨w.heap.size + 1 + 1, 5, none⟩) (by simp only; omega) (.slice (some ⟨g4, 0, none⟩) (k + 1) cap4)))
        have HX' := Lib.hid (HX4.out.set (u := .slice (some ⟨g4, 0, none⟩) (k + 1) cap4))
        have HR' := Lib.hid (((HR.out.below hbr2 (by omega)).grown hgrow4 (fun e => by have := row_ge HV.out.own e; omega)).set (T' := w.heap.size + 1 + 1) (o := 5) (u := .slice (some ⟨g4, 0, none⟩) (k + 1) cap4) (by omega))
        have HV' := Lib.hid ((HV.out.step (by rfl) hp2' hbr2 (by omega) hown4 hgrow4 (hat4.imp id (fun h => h.trans (by simp)))).set (T := w.heap.size + 1 + 1) (u := .slice (some ⟨g4, 0, none⟩) (k + 1) cap4) (by omega) (by omega))
        have hz4 : w2.heap.size + 1 ≤ w4.heap.size := by have := hgrow4.size; simpa using this
        go_wp2_with fail
        go_roundw
        case rel => exact ⟨k + 1, _, _, _, by go_num, by omega, HB', HR', HX', HV', by simp; omega⟩
        case measure => simp [intOf]; omega)
    · obtain ⟨a2, c2, rfl, hc1, hc2, hps⟩ := HV.out.parts (by omega)
      have HPS := Lib.hid hps
      obtain ⟨p0, p1, p2, p3, p4, p5⟩ := HX.out.cells
      obtain ⟨r0, r1, r2, r3, r4, r5⟩ := HR.out.cells
      have f0 := HR.out.free 0
      have f1 := HR.out.free 1
      have f2 := HR.out.free 2
      have f3 := HR.out.free 3
      have f4 := HR.out.free 4
      have f5 := HR.out.free 5
      clear hbc hbf hps
      go_wp2_with fail
      obtain ⟨q0, q1, q2, q3, q4, q5⟩ := HR.out.filled (.int .u8 7) (.bool false) (.bool false) (.string ⟨#[]⟩) (.string ⟨#[]⟩) (.slice a2 pl.length c2)
      refine bodyPost_ret (by simp [results, Tryd.results84, go_sem, q0, q1, q2, q3, q4, q5]; try rfl) rfl ?_
      have hk : ∀ p : Addr, w.heap.size + 3 ≤ p.block → ∀ W (o : Nat) (u : Value), (World.setCell W ⟨w.heap.size + 1, o, none⟩ u).cell? p = W.cell? p := fun p hp W o u => World.cell?_setCell_other W _ p u (fun e => by have := congrArg Addr.block e; simp only at this; omega)
      refine ⟨.mk 7 false false ⟨#[]⟩ ⟨#[]⟩ pl, a2, c2, rfl, (((((HB.out.setCell (by simp only; omega) _).setCell (by simp only; omega) _).setCell (by simp only; omega) _).setCell (by simp only; omega) _).setCell (by simp only; omega) _).setCell (by simp only; omega) _, ?_⟩
      refine PartAt.shut (show 7 < 256 by decide) (Nat.zero_le _) (Nat.zero_le _) hc1 hc2 (PartsAt.more (S := fun b => w.heap.size + 3 ≤ b ∧ b < wr.heap.size) (fun b hb => ⟨by omega, by simp; exact hb.2⟩) _ _ (PartsAt.keep (fun p hp => ?_) _ _ HPS.out))
      rw [hk p hp.1, hk p hp.1, hk p hp.1, hk p hp.1, hk p hp.1, hk p hp.1]
/-- A value without items, as a part. -/
theorem flat_tell {k : Nat} {y b : Bool} {m r : ByteArray} {w w' : World} {e : Ending} (hk : k < 256) (hm : m.size ≤ maxLen) (hr : r.size ≤ maxLen) (h : FlatRet k y b m r w e w') : TellPost w e w' := by
  obtain ⟨rfl, hb⟩ := h
  exact ⟨.mk k y b m r [], none, 0, rfl, hb, PartAt.shut hk hm hr (Nat.le_refl _) (Nat.zero_le _) trivial⟩
set_option maxRecDepth 100000 in
set_option maxHeartbeats 2000000 in
theorem tell_any : ∀ (t : PT) (v : Value) (w : World), t.may = true → ValueAt w (· < w.heap.size) t v → Calls Tryd.prog 13 #[v] w (TellPost w) := by
  refine PT.all fun t ih => ?_
  intro v w hmay hv
  by_cases h7 : t.kind = 7
  · obtain ⟨a, c, rfl, hlc, hcm, hits⟩ := (ValueAt.tuple h7).1 hv
    obtain ⟨hl, hall⟩ := PT.may_items hmay h7
    have HP := Lib.hid (fun (w : World) (h : ValuesAt w (· < w.heap.size) t.items a) => tuplePart_any t.items a c w hl h (fun x hx v w hv => ih x hx v w (hall x hx) hv))
    have HI := Lib.hid hits
    have HB0 := Lib.hid (fun o => (Below.refl w.heap.size w).alloc (Nat.le_refl _) o)
    have HR0 := Lib.hid (RBox.new w w.heap.size rfl)
    clear hits hv h7 hl hall hmay ih hcm hlc
    go_enter Tryd.func13, Tryd.ntmps13
    go_wp2_with fail
    refine (HP.out _ ((HI.out.below (HB0.out _)).wide (by simp))).mono ?_
    rintro e w2 ⟨t2, a2, c2, rfl, hb2, hp2⟩
    have HB2 := Lib.hid ((HB0.out _).trans (hb2.mono (by simp)))
    have HR2 := Lib.hid (HR0.out.below hb2 (by simp))
    have HP2 := Lib.hid hp2
    have hz2 := hb2.size
    simp only [World.size_alloc] at hz2
    clear hb2 hp2 HB0 HR0 HP
    obtain ⟨r0, r1, r2, r3, r4, r5⟩ := HR2.out.cells
    have f0 := HR2.out.free 0
    have f1 := HR2.out.free 1
    have f2 := HR2.out.free 2
    have f3 := HR2.out.free 3
    have f4 := HR2.out.free 4
    have f5 := HR2.out.free 5
    go_wp2_with fail
    obtain ⟨q0, q1, q2, q3, q4, q5⟩ := HR2.out.filled (.int .u8 t2.kind) (.bool t2.yes) (.bool t2.bel) (.string t2.mag) (.string t2.raw) (.slice a2 t2.items.length c2)
    refine bodyPost_ret (by simp [results, Tryd.results13, go_sem, q0, q1, q2, q3, q4, q5]; try rfl) rfl ?_
    have hk : ∀ p : Addr, w.heap.size + 1 ≤ p.block → ∀ W (o : Nat) (u : Value), (World.setCell W ⟨w.heap.size, o, none⟩ u).cell? p = W.cell? p := fun p hp W o u => World.cell?_setCell_other W _ p u (fun e => by have := congrArg Addr.block e; simp only at this; omega)
    refine ⟨t2, a2, c2, rfl, (((((HB2.out.setCell (by simp only; omega) _).setCell (by simp only; omega) _).setCell (by simp only; omega) _).setCell (by simp only; omega) _).setCell (by simp only; omega) _).setCell (by simp only; omega) _, ?_⟩
    refine PartAt.more (S := fun b => w.heap.size + 1 ≤ b ∧ b < w2.heap.size) (fun b hb => ⟨by omega, by simp; exact hb.2⟩) _ _ (PartAt.keep (fun p hp => ?_) _ _ (PartAt.more (S' := fun b => w.heap.size + 1 ≤ b ∧ b < w2.heap.size) (fun b hb => by have h1 := hb.1; simp at h1; exact ⟨h1, hb.2⟩) _ _ HP2.out))
    rw [hk p hp.1, hk p hp.1, hk p hp.1, hk p hp.1, hk p hp.1, hk p hp.1]
  · clear ih
    have HB0 := Lib.hid (fun o => (Below.refl w.heap.size w).alloc (Nat.le_refl _) o)
    have HR0 := Lib.hid (RBox.new w w.heap.size rfl)
    obtain ⟨k, y, b, m, r, l⟩ := t
    simp only [PT.kind] at h7
    by_cases k0 : k = 0
    · obtain rfl := (ValueAt.null (t := .mk k y b m r l) k0).1 hv
      clear hv k0 h7 hmay
      go_enter Tryd.func13, Tryd.ntmps13
      go_wp2_with fail
      go_returns
      exact flat_tell (by decide) (Nat.zero_le _) (Nat.zero_le _) (⟨rfl, HB0.out _⟩ : FlatRet 0 false false ⟨#[]⟩ ⟨#[]⟩ w _ _)
    · by_cases k1 : k = 1
      · obtain rfl := (ValueAt.truth (t := .mk k y b m r l) k1).1 hv
        clear hv k0 k1 h7 hmay
        simp only [PT.yes]
        have HP := Lib.hid (fun w => truthPart_any y w)
        go_enter Tryd.func13, Tryd.ntmps13
        go_wp2_with fail
        refine (HP.out _).mono ?_
        rintro e w2 ⟨rfl, hb2⟩
        have HB2 := Lib.hid ((HB0.out _).trans (hb2.mono (by simp)))
        have HR2 := Lib.hid (HR0.out.below hb2 (by simp))
        clear hb2 HB0 HR0 HP
        obtain ⟨r0, r1, r2, r3, r4, r5⟩ := HR2.out.cells
        have f0 := HR2.out.free 0
        have f1 := HR2.out.free 1
        have f2 := HR2.out.free 2
        have f3 := HR2.out.free 3
        have f4 := HR2.out.free 4
        have f5 := HR2.out.free 5
        go_wp2_with fail
        obtain ⟨q0, q1, q2, q3, q4, q5⟩ := HR2.out.filled (.int .u8 1) (.bool y) (.bool false) (.string ⟨#[]⟩) (.string ⟨#[]⟩) (.slice none 0 0)
        refine bodyPost_ret (by simp [results, Tryd.results13, go_sem, q0, q1, q2, q3, q4, q5]; try rfl) rfl ?_
        refine flat_tell (k := 1) (y := y) (b := false) (m := ⟨#[]⟩) (r := ⟨#[]⟩) (by decide) (Nat.zero_le _) (Nat.zero_le _) ⟨rfl, ?_⟩
        exact (((((HB2.out.setCell (by simp only; omega) _).setCell (by simp only; omega) _).setCell (by simp only; omega) _).setCell (by simp only; omega) _).setCell (by simp only; omega) _).setCell (by simp only; omega) _
      · by_cases k2 : k = 2
        · obtain ⟨rfl, hm⟩ := (ValueAt.whole (t := .mk k y b m r l) k2).1 hv
          have HM := Lib.hid hm
          clear hv k0 k1 k2 h7 hmay hm
          simp only [PT.bel, PT.mag] at HM ⊢
          have HP := Lib.hid (fun w => wholePart_any b m w)
          go_enter Tryd.func13, Tryd.ntmps13
          go_wp2_with fail
          refine (HP.out _).mono ?_
          rintro e w2 ⟨rfl, hb2⟩
          have HB2 := Lib.hid ((HB0.out _).trans (hb2.mono (by simp)))
          have HR2 := Lib.hid (HR0.out.below hb2 (by simp))
          clear hb2 HB0 HR0 HP
          obtain ⟨r0, r1, r2, r3, r4, r5⟩ := HR2.out.cells
          have f0 := HR2.out.free 0
          have f1 := HR2.out.free 1
          have f2 := HR2.out.free 2
          have f3 := HR2.out.free 3
          have f4 := HR2.out.free 4
          have f5 := HR2.out.free 5
          go_wp2_with fail
          obtain ⟨q0, q1, q2, q3, q4, q5⟩ := HR2.out.filled (.int .u8 2) (.bool false) (.bool b) (.string m) (.string ⟨#[]⟩) (.slice none 0 0)
          refine bodyPost_ret (by simp [results, Tryd.results13, go_sem, q0, q1, q2, q3, q4, q5]; try rfl) rfl ?_
          refine flat_tell (k := 2) (y := false) (b := b) (m := m) (r := ⟨#[]⟩) (by decide) HM.out (Nat.zero_le _) ⟨rfl, ?_⟩
          exact (((((HB2.out.setCell (by simp only; omega) _).setCell (by simp only; omega) _).setCell (by simp only; omega) _).setCell (by simp only; omega) _).setCell (by simp only; omega) _).setCell (by simp only; omega) _
        · obtain ⟨rfl, hr, hk⟩ := (ValueAt.row (t := .mk k y b m r l) k0 k1 k2 h7).1 hv
          have HK := Lib.hid hk
          have HRw := Lib.hid hr
          clear hv k0 k1 k2 h7 hmay hr hk
          simp only [PT.kind, PT.raw] at HK HRw ⊢
          have HP := Lib.hid (fun w => rowPart_any k r w)
          go_enter Tryd.func13, Tryd.ntmps13
          go_wp2_with fail
          refine (HP.out _).mono ?_
          rintro e w2 ⟨rfl, hb2⟩
          have HB2 := Lib.hid ((HB0.out _).trans (hb2.mono (by simp)))
          have HR2 := Lib.hid (HR0.out.below hb2 (by simp))
          clear hb2 HB0 HR0 HP
          obtain ⟨r0, r1, r2, r3, r4, r5⟩ := HR2.out.cells
          have f0 := HR2.out.free 0
          have f1 := HR2.out.free 1
          have f2 := HR2.out.free 2
          have f3 := HR2.out.free 3
          have f4 := HR2.out.free 4
          have f5 := HR2.out.free 5
          go_wp2_with fail
          obtain ⟨q0, q1, q2, q3, q4, q5⟩ := HR2.out.filled (.int .u8 k) (.bool false) (.bool false) (.string ⟨#[]⟩) (.string r) (.slice none 0 0)
          refine bodyPost_ret (by simp [results, Tryd.results13, go_sem, q0, q1, q2, q3, q4, q5]; try rfl) rfl ?_
          refine flat_tell (k := k) (y := false) (b := false) (m := ⟨#[]⟩) (r := r) HK.out (Nat.zero_le _) HRw.out ⟨rfl, ?_⟩
          exact (((((HB2.out.setCell (by simp only; omega) _).setCell (by simp only; omega) _).setCell (by simp only; omega) _).setCell (by simp only; omega) _).setCell (by simp only; omega) _).setCell (by simp only; omega) _
end Go.Proofs.YtjgicjgpahnmaaaDoor
