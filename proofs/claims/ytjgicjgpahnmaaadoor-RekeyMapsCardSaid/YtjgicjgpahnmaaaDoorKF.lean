/-
  Values as trees, and how they lie in memory.
-/
import Derived.Test.YtjgicjgpahnmaaaDoorKE
import Derived.Deep.AppendLies
import Derived.OwnWalk
import Derived.WalkKit
import Derived.Outline
import Derived.BigQuiet
import Derived.Deep.QuietTactic
import Derived.Maps.AppendAt
import Derived.Handy
import Derived.Deep.RegionHeld3
import Derived.WalkLawsBesides
/-! Values as trees, and how they lie in memory. -/
namespace Go.Proofs.YtjgicjgpahnmaaaDoor
open Go.RowKit
set_option linter.unusedVariables false
mutual
/-- What reads as the value of a part, in blocks of S. -/
def ValueAt (w : World) (S : Nat → Prop) : PT → Value → Prop
  | .mk k y b m r l, v =>
    if k = 0 then v = .nilIface
    else if k = 1 then v = .iface 84 (.agg #[.bool y])
    else if k = 2 then v = .iface 86 (.agg #[.bool b, .string m]) ∧ m.size ≤ maxLen
    else if k = 7 then ∃ a c, v = .iface 88 (.agg #[.slice a l.length c]) ∧ l.length ≤ c ∧ c ≤ maxLen ∧ ValuesAt w S l a
    else v = .iface 90 (.agg #[.int .u8 k, .string r]) ∧ r.size ≤ maxLen ∧ k < 256
/-- Values that lie one behind the other. -/
def ValuesAt (w : World) (S : Nat → Prop) : List PT → Option Addr → Prop
  | [], _ => True
  | t :: l, a => ∃ b o u, a = some ⟨b, o, none⟩ ∧ S b ∧ w.cell? ⟨b, o, none⟩ = some u ∧ ValueAt w S t u ∧ ValuesAt w S l (some ⟨b, o + 1, none⟩)
end
section
variable {w w' : World} {S S' : Nat → Prop}
mutual
theorem ValueAt.keep (hk : ∀ p : Addr, S p.block → w'.cell? p = w.cell? p) : ∀ (t : PT) (v : Value), ValueAt w S t v → ValueAt w' S t v
  | .mk k y b m r l, v, h => by
    unfold ValueAt at h ⊢
    by_cases k0 : k = 0
    · rw [if_pos k0] at h ⊢; exact h
    · rw [if_neg k0] at h ⊢
      by_cases k1 : k = 1
      · rw [if_pos k1] at h ⊢; exact h
      · rw [if_neg k1] at h ⊢
        by_cases k2 : k = 2
        · rw [if_pos k2] at h ⊢; exact h
        · rw [if_neg k2] at h ⊢
          by_cases k7 : k = 7
          · rw [if_pos k7] at h ⊢
            obtain ⟨a, c, e, h1, h2, h3⟩ := h
            exact ⟨a, c, e, h1, h2, ValuesAt.keep hk l a h3⟩
          · rw [if_neg k7] at h ⊢; exact h
theorem ValuesAt.keep (hk : ∀ p : Addr, S p.block → w'.cell? p = w.cell? p) : ∀ (l : List PT) (a : Option Addr), ValuesAt w S l a → ValuesAt w' S l a
  | [], _, _ => trivial
  | t :: l, a, h => by
    obtain ⟨b, o, u, e, hb, hc, h1, h2⟩ := h
    exact ⟨b, o, u, e, hb, (hk _ hb).trans hc, ValueAt.keep hk t u h1, ValuesAt.keep hk l _ h2⟩
end
mutual
theorem ValueAt.more (hB : ∀ b, S b → S' b) : ∀ (t : PT) (v : Value), ValueAt w S t v → ValueAt w S' t v
  | .mk k y b m r l, v, h => by
    unfold ValueAt at h ⊢
    by_cases k0 : k = 0
    · rw [if_pos k0] at h ⊢; exact h
    · rw [if_neg k0] at h ⊢
      by_cases k1 : k = 1
      · rw [if_pos k1] at h ⊢; exact h
      · rw [if_neg k1] at h ⊢
        by_cases k2 : k = 2
        · rw [if_pos k2] at h ⊢; exact h
        · rw [if_neg k2] at h ⊢
          by_cases k7 : k = 7
          · rw [if_pos k7] at h ⊢
            obtain ⟨a, c, e, h1, h2, h3⟩ := h
            exact ⟨a, c, e, h1, h2, ValuesAt.more hB l a h3⟩
          · rw [if_neg k7] at h ⊢; exact h
theorem ValuesAt.more (hB : ∀ b, S b → S' b) : ∀ (l : List PT) (a : Option Addr), ValuesAt w S l a → ValuesAt w S' l a
  | [], _, _ => trivial
  | t :: l, a, h => by
    obtain ⟨b, o, u, e, hb, hc, h1, h2⟩ := h
    exact ⟨b, o, u, e, hB b hb, hc, ValueAt.more hB t u h1, ValuesAt.more hB l _ h2⟩
end
theorem ValueAt.below {B : Nat} {t : PT} {v : Value} (h : ValueAt w (· < B) t v) (hb : Below B w w') : ValueAt w' (· < B) t v := ValueAt.keep (fun _ hp => hb.cell hp) t v h
theorem ValuesAt.below {B : Nat} {l : List PT} {a : Option Addr} (h : ValuesAt w (· < B) l a) (hb : Below B w w') : ValuesAt w' (· < B) l a := ValuesAt.keep (fun _ hp => hb.cell hp) l a h
theorem ValueAt.wide {B B' : Nat} {t : PT} {v : Value} (h : ValueAt w (· < B) t v) (hB : B ≤ B') : ValueAt w (· < B') t v := ValueAt.more (fun b hb => Nat.lt_of_lt_of_le hb hB) _ _ h
theorem ValuesAt.wide {B B' : Nat} {l : List PT} {a : Option Addr} (h : ValuesAt w (· < B) l a) (hB : B ≤ B') : ValuesAt w (· < B') l a := ValuesAt.more (fun b hb => Nat.lt_of_lt_of_le hb hB) _ _ h
/-- The value at a place. -/
theorem ValuesAt.get : ∀ {l : List PT} {a : Option Addr}, ValuesAt w S l a → ∀ {i : Nat} (hi : i < l.length), ∃ b o u, a = some ⟨b, o, none⟩ ∧ S b ∧ w.cell? ⟨b, o + i, none⟩ = some u ∧ ValueAt w S l[i] u
  | [], _, _, i, hi => absurd hi (Nat.not_lt_zero i)
  | t :: l, a, h, i, hi => by
    obtain ⟨b, o, u, e, hb, hc, h1, h2⟩ := h
    cases i with
    | zero => exact ⟨b, o, u, e, hb, hc, h1⟩
    | succ i =>
      have hi' : i < l.length := by simpa using hi
      obtain ⟨b', o', u', e', hb', hc', h1'⟩ := ValuesAt.get h2 hi'
      simp only [Option.some.injEq, Addr.mk.injEq, and_true] at e'
      obtain ⟨rfl, rfl⟩ := e'
      exact ⟨b, o, u', e, hb, by rw [show o + (i + 1) = o + 1 + i by omega]; exact hc', h1'⟩
theorem ValuesAt.of_get : ∀ {l : List PT} {b o : Nat}, (l = [] ∨ S b) → (∀ i (hi : i < l.length), ∃ u, w.cell? ⟨b, o + i, none⟩ = some u ∧ ValueAt w S l[i] u) → ValuesAt w S l (some ⟨b, o, none⟩)
  | [], _, _, _, _ => trivial
  | t :: l, b, o, hb, h => by
    have hb' : S b := hb.resolve_left (by simp)
    obtain ⟨u, h1, h2⟩ := h 0 (by simp)
    refine ⟨b, o, u, rfl, hb', by simpa using h1, by simpa using h2, ValuesAt.of_get (.inr hb') fun i hi => ?_⟩
    obtain ⟨u, h1, h2⟩ := h (i + 1) (by simpa using hi)
    exact ⟨u, by rw [show o + 1 + i = o + (i + 1) by omega]; exact h1, by simpa using h2⟩
/-- By kind. -/
theorem ValueAt.null {t : PT} {v : Value} (hk : t.kind = 0) : ValueAt w S t v ↔ v = .nilIface := by
  cases t; simp only [PT.kind] at hk; subst hk; simp [ValueAt]
theorem ValueAt.truth {t : PT} {v : Value} (hk : t.kind = 1) : ValueAt w S t v ↔ v = .iface 84 (.agg #[.bool t.yes]) := by
  cases t; simp only [PT.kind] at hk; subst hk; simp [ValueAt, PT.yes]
theorem ValueAt.whole {t : PT} {v : Value} (hk : t.kind = 2) : ValueAt w S t v ↔ v = .iface 86 (.agg #[.bool t.bel, .string t.mag]) ∧ t.mag.size ≤ maxLen := by
  cases t; simp only [PT.kind] at hk; subst hk; simp [ValueAt, PT.bel, PT.mag]
theorem ValueAt.tuple {t : PT} {v : Value} (hk : t.kind = 7) : ValueAt w S t v ↔ ∃ a c, v = .iface 88 (.agg #[.slice a t.items.length c]) ∧ t.items.length ≤ c ∧ c ≤ maxLen ∧ ValuesAt w S t.items a := by
  cases t; simp only [PT.kind] at hk; subst hk; simp [ValueAt, PT.items]
theorem ValueAt.row {t : PT} {v : Value} (h0 : t.kind ≠ 0) (h1 : t.kind ≠ 1) (h2 : t.kind ≠ 2) (h7 : t.kind ≠ 7) : ValueAt w S t v ↔ v = .iface 90 (.agg #[.int .u8 t.kind, .string t.raw]) ∧ t.raw.size ≤ maxLen ∧ t.kind < 256 := by
  cases t; simp only [PT.kind] at h0 h1 h2 h7; simp [ValueAt, PT.kind, PT.raw, h0, h1, h2, h7]
theorem ValueAt.one {t : PT} {v : Value} (h : ValueAt w S t v) : v.oneCell' = true := by
  cases t
  unfold ValueAt at h
  split at h
  · subst h; rfl
  · split at h
    · subst h; rfl
    · split at h
      · obtain ⟨rfl, _⟩ := h; rfl
      · split at h
        · obtain ⟨a, c, rfl, _⟩ := h; rfl
        · obtain ⟨rfl, _⟩ := h; rfl
end
end Go.Proofs.YtjgicjgpahnmaaaDoor

/-! dovetailkeep.Deep: it answers, whatever the part. -/
namespace Go.Proofs.YtjgicjgpahnmaaaDoor
open Go.RowKit Go.WideShapes
/-- A cell of a number. -/
def IntCell (w : World) (L : Nat) (l : Int) : Prop := w.heap[L]? = some (.cells #[.int .i64 l] 3 (0, 0))
theorem IntCell.at_ {w : World} {L : Nat} {l : Int} (h : IntCell w L l) : w.cell? ⟨L, 0, none⟩ = some (.int .i64 l) := by
  simp [World.cell?, show w.heap[L]? = _ from h]
theorem IntCell.free {w : World} {L : Nat} {l : Int} (h : IntCell w L l) (o : Nat) : w.frozen? ⟨L, o, none⟩ = false := by
  simp [World.frozen?, show w.heap[L]? = _ from h]
theorem IntCell.set {w : World} {L : Nat} {l : Int} (h : IntCell w L l) (l' : Int) : IntCell (w.setCell ⟨L, 0, none⟩ (.int .i64 l')) L l' := by
  have hl := (Array.getElem?_eq_some_iff.1 h).1
  unfold IntCell at *
  simp [World.setCell, Array.getElem?_modify, h]
theorem IntCell.alloc {w : World} {L : Nat} {l : Int} (h : IntCell w L l) (o : Obj) : IntCell (w.alloc o) L l := by
  have hl := (Array.getElem?_eq_some_iff.1 h).1
  unfold IntCell at *
  rw [Below.heap_alloc w o L hl]; exact h
theorem IntCell.lt {w : World} {L : Nat} {l : Int} (h : IntCell w L l) : L < w.heap.size := (Array.getElem?_eq_some_iff.1 h).1
theorem new_part (w : World) (n : Nat) (t : PT) (a : Option Addr) (c : Nat) (T : TypeId) (hn : n = w.heap.size) : CellsAt (w.alloc (.cells (partCells t a c).toArray T)) n 0 (partCells t a c) := fun i u hu => by
  subst hn
  rw [World.cell?_alloc_at _ _ _ _ (by simp)]
  simpa using hu
def DeepPost (L : Nat) (w : World) (e : Ending) (w' : World) : Prop := ∃ n l', e = .returned (.int .i64 n) ∧ IntCell w' L l' ∧ w.grownBy w' (some L)
set_option maxRecDepth 100000 in
set_option maxHeartbeats 4000000 in
theorem deep_any : ∀ (t : PT) (a : Option Addr) (c : Nat) (x l : Int) (L B : Nat) (w : World), PartAt w (· < B) t (partCells t a c) → B ≤ L → IntCell w L l →
    Calls Tryd.prog 39 #[.agg (partCells t a c).toArray, .int .i64 x, .pointer (some ⟨L, 0, none⟩)] w (DeepPost L w) := by
  refine PT.all fun t ih => ?_
  intro a c x l L B w hp hBL hL
  obtain ⟨a1, c1, e1, hk, hm, hr, hlc, hcm, hits⟩ := hp.open
  obtain ⟨rfl, rfl⟩ : a1 = a ∧ c1 = c := by simpa [partCells, eq_comm] using e1
  have HI := Lib.hid hits
  have HIH := Lib.hid ih
  have HL := Lib.hid hL
  have hc := hL.at_
  have hf := hL.free 0
  have hLlt : L < w.heap.size := (Array.getElem?_eq_some_iff.1 hL).1
  clear hits ih hp e1 hL
  have hlen : t.items.length ≤ 9223372036854775807 := by unfold maxLen at hcm; omega
  unfold partCells
  have HB2 := Lib.hid ((grownBy_setCell' w L (.int .i64 (wrap64 (l - 1)))).trans (World.grownBy_alloc (w.setCell ⟨L, 0, none⟩ (.int .i64 (wrap64 (l - 1)))) (.cells #[.int .u8 t.kind, .bool t.yes, .bool t.bel, .string t.mag, .string t.raw, .slice a1 t.items.length c1] 30) _))
  have HP2 := Lib.hid (new_part (w.setCell ⟨L, 0, none⟩ (.int .i64 (wrap64 (l - 1)))) w.heap.size t a1 c1 30 (by simp))
  have HL2 := Lib.hid ((HL.out.set (wrap64 (l - 1))).alloc (.cells #[.int .u8 t.kind, .bool t.yes, .bool t.bel, .string t.mag, .string t.raw, .slice a1 t.items.length c1] 30))
  by_cases hx : 40 < x
  · go_enter Tryd.func39, Tryd.ntmps39
    go_wp2_with fail
    go_ret
    exact ⟨_, _, rfl, HL2.out, HB2.out⟩
  · by_cases hn : wrap64 (l - 1) < 0
    · go_enter Tryd.func39, Tryd.ntmps39
      go_wp2_with fail
      go_ret
      exact ⟨_, _, rfl, HL2.out, HB2.out⟩
    · go_enter Tryd.func39, Tryd.ntmps39
      go_wp2_with fail
      go_loopw [7, 8] (fun n i wr => ∃ (k : Nat) (n' l' : Int), n = .int .i64 n' ∧ i = .int .i64 k ∧ k ≤ t.items.length ∧ Hid (IntCell wr L l') ∧ Hid (w.grownBy wr (some L)) ∧ Hid (CellsAt wr w.heap.size 0 (partCells t a1 c1)) ∧ w.heap.size < wr.heap.size) (fun _ i _ => t.items.length - (intOf i).toNat)
      case atStart => exact ⟨0, _, _, rfl, rfl, by omega, HL2, HB2, HP2, by simp⟩
      case round =>
        clear HL2 HB2 HP2
        obtain ⟨k, n', l', rfl, rfl, hk, HL', HB, HP, hwz⟩ := hrel
        have hp5 := HP.out 5 _ rfl
        have hp0 := HP.out 0 _ rfl
        have hL := HL'.out.at_
        have hLf := HL'.out.free 0
        by_cases hlt : k < t.items.length
        · obtain ⟨b, o, a', c', rfl, hb, k0, k1, k2, k3, k4, k5, hpa⟩ := (PartsAt.keep (fun p hp => HB.out.cell_far p (by omega) (by simp; omega)) _ _ HI.out).cells hlt
          have HR := Lib.hid (HIH.out t.items[k] (List.getElem_mem hlt) a' c' (wrap64 (x + 1)) l' L B wr hpa hBL HL'.out)
          clear hpa
          go_wp2_with fail
          refine HR.out.mono ?_
          rintro e w' ⟨n2, l2, rfl, hL2, hg2⟩
          have HB' := Lib.hid (HB.out.trans hg2)
          have HP' := Lib.hid (HP.out.keep fun p hp => hg2.cell_far p (by omega) (by simp; omega))
          have hz' := hg2.size
          have hL2a := hL2.at_
          have HL2 := Lib.hid hL2
          clear hL hLf hL2 hg2 HR k0 k1 k2 k3 k4 k5 hp0 hp5 HP HB HL'
          have hp5 := HP'.out 5 _ rfl
          have hp0 := HP'.out 0 _ rfl
          by_cases hd : n' < n2
          · by_cases hneg : l2 < 0
            · go_wp2_with fail
              go_ret
              exact ⟨_, _, rfl, HL2.out, HB'.out⟩
            · go_wp2_with fail
              go_roundw
              case rel => exact ⟨k + 1, _, _, rfl, by go_num, by omega, HL2, HB', HP', by omega⟩
              case measure => simp [intOf]; omega
          · by_cases hneg : l2 < 0
            · go_wp2_with fail
              go_ret
              exact ⟨_, _, rfl, HL2.out, HB'.out⟩
            · go_wp2_with fail
              go_roundw
              case rel => exact ⟨k + 1, _, _, rfl, by go_num, by omega, HL2, HB', HP', by omega⟩
              case measure => simp [intOf]; omega
        · by_cases h7 : t.kind = 7
          · go_wp2_with fail
            go_ret
            exact ⟨_, _, rfl, HL'.out, HB.out⟩
          · by_cases hz : t.items.length = 0
            · go_wp2_with fail
              go_ret
              exact ⟨_, _, rfl, HL'.out, HB.out⟩
            · go_wp2_with fail
              go_ret
              exact ⟨_, _, rfl, HL'.out, HB.out⟩
end Go.Proofs.YtjgicjgpahnmaaaDoor

/-! dovetailkeep.Deep answers, whatever the part. -/
namespace Go.Proofs.YtjgicjgpahnmaaaDoor
open Go.RowKit Go.WideShapes
theorem grown_below {w w' : World} {g B : Nat} (h : w.grownBy w' (some g)) (hB : B ≤ w.heap.size) (hg : B ≤ g) : Below B w w' := (Below.refl B w).grown h hB (fun j e => by cases e; exact hg)
def IntPost (w : World) (e : Ending) (w' : World) : Prop := ∃ n, e = .returned (.int .i64 n) ∧ Below w.heap.size w w'
set_option maxRecDepth 100000 in
set_option maxHeartbeats 1000000 in
theorem Deep_any (t : PT) (a : Option Addr) (c : Nat) (x : Int) (w : World) (hp : PartAt w (· < w.heap.size) t (partCells t a c)) :
    Calls Tryd.prog 21 #[.agg (partCells t a c).toArray, .int .i64 x] w (IntPost w) := by
  have HP := Lib.hid hp
  obtain ⟨W1, hW1⟩ : ∃ W1, W1 = w.alloc (.cells (partCells t a c).toArray 30) := ⟨_, rfl⟩
  obtain ⟨W2, hW2⟩ : ∃ W2, W2 = W1.alloc (.cells #[.int .i64 16777216] 3) := ⟨_, rfl⟩
  have hz1 : W1.heap.size = w.heap.size + 1 := by rw [hW1]; simp
  have hI : IntCell W2 (w.heap.size + 1) 16777216 := by
    unfold IntCell; rw [hW2, ← hz1]; exact World.alloc_heap_new W1 _
  have hB : Below w.heap.size w W2 := by
    rw [hW2]; refine Below.alloc ?_ (by omega) _; rw [hW1]; exact (Below.refl _ _).alloc (Nat.le_refl _) _
  have HR := Lib.hid (deep_any t a c x 16777216 (w.heap.size + 1) w.heap.size W2 (PartAt.below hp hB) (by omega) hI)
  have HB := Lib.hid hB
  rw [hW2, hW1] at HR HB
  clear hp hI hB hW1 hW2 hz1
  unfold partCells at *
  go_enter Tryd.func21, Tryd.ntmps21
  go_wp2_with fail
  refine HR.out.mono ?_
  rintro e w' ⟨n, l', rfl, _, hg⟩
  have hb : Below w.heap.size w w' := HB.out.trans (grown_below hg (by simp; omega) (by omega))
  clear HR HB hg
  go_wp2_with fail
  go_ret
  exact ⟨_, rfl, hb⟩
end Go.Proofs.YtjgicjgpahnmaaaDoor

/-! What parts are, reckoned: how deep, whether they may be. -/
namespace Go.Proofs.YtjgicjgpahnmaaaDoor
set_option linter.unusedVariables false
mutual
/-- Is a part deeper than so many tuples? -/
def PT.deeper : PT → Nat → Bool
  | .mk k _ _ _ _ l, n => if k = 7 then (match n with | 0 => true | n + 1 => PT.deeperL l n) else false
def PT.deeperL : List PT → Nat → Bool
  | [], _ => false
  | t :: l, n => PT.deeper t n || PT.deeperL l n
end
mutual
/-- How deep is a part? -/
def PT.depth : PT → Nat
  | .mk k _ _ _ _ l => if k = 7 then PT.depthL l + 1 else 0
def PT.depthL : List PT → Nat
  | [] => 0
  | t :: l => max (PT.depth t) (PT.depthL l)
end
mutual
theorem PT.deeper_depth : ∀ (t : PT) (n : Nat), t.deeper n = decide (n < t.depth)
  | .mk k _ _ _ _ l, n => by
    simp only [PT.deeper, PT.depth]
    by_cases hk : k = 7
    · simp only [hk, if_true]
      cases n with
      | zero => simp
      | succ n => show PT.deeperL l n = _; rw [PT.deeperL_depth l n]; simp
    · simp [hk]
theorem PT.deeperL_depth : ∀ (l : List PT) (n : Nat), PT.deeperL l n = decide (n < PT.depthL l)
  | [], n => by simp [PT.deeperL, PT.depthL]
  | t :: l, n => by
    simp only [PT.deeperL, PT.depthL, PT.deeper_depth t n, PT.deeperL_depth l n]
    rw [← Bool.decide_or]; exact decide_eq_decide.2 (by omega)
end
theorem PT.depthL_le {l : List PT} {n : Nat} : PT.depthL l ≤ n ↔ ∀ x ∈ l, x.depth ≤ n := by
  induction l with
  | nil => simp [PT.depthL]
  | cons t l ih => simp only [PT.depthL, List.forall_mem_cons, ← ih]; omega
theorem PT.deeperL_iff {l : List PT} {n : Nat} : PT.deeperL l n = false ↔ ∀ x ∈ l, x.deeper n = false := by
  induction l with
  | nil => simp [PT.deeperL]
  | cons t l ih => simp [PT.deeperL, ih]
/-- May a number be? -/
def numOk (below : Bool) (mag : ByteArray) : Bool := decide (mag.size ≤ 255) && !(below && mag.size == 0) && (mag.size == 0 || mag[0]! != 0)
mutual
/-- May a part be? -/
def PT.may : PT → Bool
  | .mk k y b m r l => (k == 1 || !y) && (k == 2 || (!b && m.size == 0)) && (k == 7 || l.isEmpty) &&
    (if k = 0 ∨ k = 1 then r.size == 0 else if k = 2 then r.size == 0 && numOk b m else if k = 4 then r.size == 16 else if k = 3 ∨ k = 5 ∨ k = 6 then decide (r.size ≤ 65536) else if k = 7 then r.size == 0 && decide (l.length ≤ 1024) && PT.mayL l else false)
def PT.mayL : List PT → Bool
  | [] => true
  | t :: l => PT.may t && PT.mayL l
end
theorem PT.mayL_iff {l : List PT} : PT.mayL l = true ↔ ∀ x ∈ l, x.may = true := by
  induction l with
  | nil => simp [PT.mayL]
  | cons t l ih => simp [PT.mayL, ih]
end Go.Proofs.YtjgicjgpahnmaaaDoor

/-! ref09.Deeper and value.deep: is a part deeper than so many tuples? -/
namespace Go.Proofs.YtjgicjgpahnmaaaDoor
open Go.RowKit Go.WideShapes
set_option linter.unusedVariables false
def Ret (v : Value) (w : World) (e : Ending) (w' : World) : Prop := e = .returned v ∧ Below w.heap.size w w'
theorem PartAt.wide {w : World} {B B' : Nat} {t : PT} {cs : List Value} (h : PartAt w (· < B) t cs) (hB : B ≤ B') : PartAt w (· < B') t cs := PartAt.more (fun b hb => Nat.lt_of_lt_of_le hb hB) _ _ h
theorem PartsAt.wide {w : World} {B B' : Nat} {l : List PT} {a : Option Addr} (h : PartsAt w (· < B) l a) (hB : B ≤ B') : PartsAt w (· < B') l a := PartsAt.more (fun b hb => Nat.lt_of_lt_of_le hb hB) _ _ h
theorem PT.deeper_not {t : PT} (h : ¬ t.kind = 7) (n : Nat) : t.deeper n = false := by
  cases t; simp only [PT.kind] at h; simp [PT.deeper, h]
theorem PT.deeper_zero {t : PT} (h : t.kind = 7) : t.deeper 0 = true := by
  cases t; simp only [PT.kind] at h; simp [PT.deeper, h]
theorem PT.deeper_succ {t : PT} (h : t.kind = 7) (n : Nat) : t.deeper (n + 1) = PT.deeperL t.items n := by
  cases t; simp only [PT.kind] at h; simp [PT.deeper, PT.items, h]
theorem PT.deeperL_at {l : List PT} {n k : Nat} (hk : k < l.length) (h : l[k].deeper n = true) : PT.deeperL l n = true := by
  cases hd : PT.deeperL l n with
  | true => rfl
  | false => exact absurd (PT.deeperL_iff.1 hd l[k] (List.getElem_mem hk)) (by rw [h]; simp)
theorem PT.deeperL_none {l : List PT} {n : Nat} (h : ∀ j (hj : j < l.length), l[j].deeper n = false) : PT.deeperL l n = false :=
  PT.deeperL_iff.2 fun x hx => by obtain ⟨j, hj, rfl⟩ := List.getElem_of_mem hx; exact h j hj
set_option maxRecDepth 100000 in
set_option maxHeartbeats 4000000 in
theorem Deeper_any : ∀ (t : PT) (a : Option Addr) (c n : Nat) (x : Int) (w : World), x = (n : Int) → n ≤ 1000 → PartAt w (· < w.heap.size) t (partCells t a c) →
    Calls Tryd.prog 22 #[.agg (partCells t a c).toArray, .int .i64 x] w (Ret (.bool (t.deeper n)) w) := by
  refine PT.all fun t ih => ?_
  intro a c n x w hx hn hp
  obtain ⟨a1, c1, e1, hk, hm, hr, hlc, hcm, hits⟩ := hp.open
  obtain ⟨rfl, rfl⟩ : a1 = a ∧ c1 = c := by simpa [partCells, eq_comm] using e1
  have HI := Lib.hid hits
  have HIH := Lib.hid ih
  have hlen : t.items.length ≤ 9223372036854775807 := by unfold maxLen at hcm; omega
  clear hits ih hp e1
  unfold partCells
  have HB2 := Lib.hid ((Below.refl w.heap.size w).alloc (Nat.le_refl _) (.cells #[.int .u8 t.kind, .bool t.yes, .bool t.bel, .string t.mag, .string t.raw, .slice a1 t.items.length c1] 30))
  have HP2 := Lib.hid (new_part w w.heap.size t a1 c1 30 rfl)
  by_cases h7 : t.kind = 7
  · have hb7 : ((t.kind : Int) == 7) = true := by simp [h7]
    cases n with
    | zero =>
      rw [PT.deeper_zero h7]
      clear h7
      have hx1 : x < 1 := by omega
      clear hx
      go_enter Tryd.func22, Tryd.ntmps22
      go_wp2_with fail
      go_ret
      exact ⟨rfl, HB2.out⟩
    | succ n =>
      rw [PT.deeper_succ h7]
      clear h7
      have hx1 : 1 ≤ x := by omega
      have hx2 : x ≤ 1000 := by omega
      have HX := Lib.hid hx
      clear hx
      go_enter Tryd.func22, Tryd.ntmps22
      go_wp2_with fail
      have HX1 := Lib.hid hx1
      clear hb7 hx1
      repeat (rename (_ : Bool) = false => hh; clear hh)
      go_loopw [5] (fun i wr => ∃ (k : Nat), i = .int .i64 k ∧ k ≤ t.items.length ∧ Hid (∀ j (hj : j < t.items.length), j < k → t.items[j].deeper n = false) ∧ Hid (Below w.heap.size w wr) ∧ Hid (CellsAt wr w.heap.size 0 (partCells t a1 c1)) ∧ w.heap.size < wr.heap.size) (fun i _ => t.items.length - (intOf i).toNat)
      case atStart => exact ⟨0, rfl, by omega, Lib.hid (fun j _ hj => absurd hj (Nat.not_lt_zero j)), HB2, HP2, by simp⟩
      case round =>
        clear HB2 HP2
        obtain ⟨k, rfl, hk, HN, HB, HP, hwz⟩ := hrel
        have hp5 := HP.out 5 _ rfl
        by_cases hlt : k < t.items.length
        · obtain ⟨b, o, a', c', rfl, hb, k0, k1, k2, k3, k4, k5, hpa⟩ := (HI.out.below HB.out).cells hlt
          have HR := Lib.hid (HIH.out t.items[k] (List.getElem_mem hlt) a' c' n (x - 1) wr (by have := HX.out; omega) (by have := HX.out; have := HX1.out; omega) (hpa.wide (by omega)))
          clear hpa
          go_wp2_with fail
          refine HR.out.mono ?_
          rintro e w' ⟨rfl, hg2⟩
          have HB' := Lib.hid (HB.out.trans (hg2.mono (by omega)))
          have HP' := Lib.hid (HP.out.keep fun p hp => hg2.cell (by omega))
          have hz' := hg2.size
          clear hg2 HR k0 k1 k2 k3 k4 k5 hp5 HP HB
          cases hd : t.items[k].deeper n with
          | true =>
            go_wp2_with fail
            go_ret
            exact ⟨ret_bool (PT.deeperL_at hlt hd).symm, HB'.out⟩
          | false =>
            go_wp2_with fail
            go_roundw
            case rel => exact ⟨k + 1, by go_num, by omega, Lib.hid (fun j hj hjk => (Nat.lt_succ_iff_lt_or_eq.1 hjk).elim (fun h => HN.out j hj h) (fun h => by subst h; exact hd)), HB', HP', by omega⟩
            case measure => simp [intOf]; omega
        · go_wp2_with fail
          go_ret
          exact ⟨ret_bool (PT.deeperL_none fun j hj => HN.out j hj (by omega)).symm, HB.out⟩
  · rw [PT.deeper_not h7]
    have hb7 : ((t.kind : Int) == 7) = false := by simp; omega
    clear h7
    go_enter Tryd.func22, Tryd.ntmps22
    go_wp2_with fail
    go_ret
    exact ⟨rfl, HB2.out⟩
end Go.Proofs.YtjgicjgpahnmaaaDoor

/-! value.deep: is a part deeper than so many tuples? -/
namespace Go.Proofs.YtjgicjgpahnmaaaDoor
open Go.RowKit Go.WideShapes
set_option linter.unusedVariables false
set_option maxRecDepth 100000 in
set_option maxHeartbeats 400000 in
theorem vdeep_any : ∀ (t : PT) (a : Option Addr) (c n : Nat) (x : Int) (w : World), x = (n : Int) → n ≤ 1000 → PartAt w (· < w.heap.size) t (partCells t a c) →
    Calls Tryd.prog 24 #[.agg (partCells t a c).toArray, .int .i64 x] w (Ret (.bool (t.deeper n)) w) := by
  refine PT.all fun t ih => ?_
  intro a c n x w hx hn hp
  obtain ⟨a1, c1, e1, hk, hm, hr, hlc, hcm, hits⟩ := hp.open
  obtain ⟨rfl, rfl⟩ : a1 = a ∧ c1 = c := by simpa [partCells, eq_comm] using e1
  have HI := Lib.hid hits
  have HIH := Lib.hid ih
  have hlen : t.items.length ≤ 9223372036854775807 := by unfold maxLen at hcm; omega
  clear hits ih hp e1
  unfold partCells
  have HB2 := Lib.hid ((Below.refl w.heap.size w).alloc (Nat.le_refl _) (.cells #[.int .u8 t.kind, .bool t.yes, .bool t.bel, .string t.mag, .string t.raw, .slice a1 t.items.length c1] 30))
  have HP2 := Lib.hid (new_part w w.heap.size t a1 c1 30 rfl)
  by_cases h7 : t.kind = 7
  · have hb7 : ((t.kind : Int) == 7) = true := by simp [h7]
    cases n with
    | zero =>
      rw [PT.deeper_zero h7]
      clear h7
      obtain rfl : x = 0 := by omega
      clear hx
      go_enter Tryd.func24, Tryd.ntmps24
      go_wp2_with fail
      go_ret
      exact ⟨rfl, HB2.out⟩
    | succ n =>
      rw [PT.deeper_succ h7]
      clear h7
      have hx1 : (x == 0) = false := by simp; omega
      have hx2 : x ≤ 1000 := by omega
      have HX := Lib.hid hx
      clear hx
      go_enter Tryd.func24, Tryd.ntmps24
      go_wp2_with fail
      have HX1 := Lib.hid hx1
      try clear hb7
      try clear hx1
      repeat (rename (_ : Bool) = false => hh; clear hh)
      try clear hb7
      try clear hx1
      repeat (rename (_ : Bool) = false => hh; clear hh)
      go_loopw [15] (fun i wr => ∃ (k : Nat), i = .int .i64 k ∧ k ≤ t.items.length ∧ Hid (∀ j (hj : j < t.items.length), j < k → t.items[j].deeper n = false) ∧ Hid (Below w.heap.size w wr) ∧ w.heap.size < wr.heap.size) (fun i _ => t.items.length - (intOf i).toNat)
      case atStart => exact ⟨0, rfl, by omega, Lib.hid (fun j _ hj => absurd hj (Nat.not_lt_zero j)), HB2, by simp⟩
      case round =>
        clear HB2 HP2
        obtain ⟨k, rfl, hk, HN, HB, hwz⟩ := hrel
        by_cases hlt : k < t.items.length
        · have hx3 : 1 ≤ x := by have := HX.out; omega
          obtain ⟨b, o, a', c', rfl, hb, k0, k1, k2, k3, k4, k5, hpa⟩ := (HI.out.below HB.out).cells hlt
          have HB1 := Lib.hid (HB.out.alloc (by omega) (.cells (partCells t.items[k] a' c').toArray 30))
          have HR := Lib.hid (HIH.out t.items[k] (List.getElem_mem hlt) a' c' n (x - 1) _ (by have := HX.out; omega) (by omega) ((hpa.below (B := w.heap.size) ((Below.refl _ _).alloc (by omega) (.cells (partCells t.items[k] a' c').toArray 30))).wide (by simp; omega)))
          unfold partCells at HR HB1
          clear hpa
          go_wp2_with fail
          refine HR.out.mono ?_
          rintro e w' ⟨rfl, hg2⟩
          have HB' := Lib.hid (HB1.out.trans (hg2.mono (by simp; omega)))
          have hz' : wr.heap.size + 1 ≤ w'.heap.size := by have := hg2.size; simpa using this
          clear hx3 hg2 HR k0 k1 k2 k3 k4 k5 HB HB1
          cases hd : t.items[k].deeper n with
          | true =>
            go_wp2_with fail
            go_ret
            exact ⟨ret_bool (PT.deeperL_at hlt hd).symm, HB'.out⟩
          | false =>
            go_wp2_with fail
            go_roundw
            case rel => exact ⟨k + 1, by go_num, by omega, Lib.hid (fun j hj hjk => (Nat.lt_succ_iff_lt_or_eq.1 hjk).elim (fun h => HN.out j hj h) (fun h => by subst h; exact hd)), HB', by omega⟩
            case measure => simp [intOf]; omega
        · go_wp2_with fail
          go_ret
          exact ⟨ret_bool (PT.deeperL_none fun j hj => HN.out j hj (by omega)).symm, HB.out⟩
  · rw [PT.deeper_not h7]
    have hb7 : ((t.kind : Int) == 7) = false := by simp; omega
    clear h7
    go_enter Tryd.func24, Tryd.ntmps24
    go_wp2_with fail
    go_ret
    exact ⟨rfl, HB2.out⟩
end Go.Proofs.YtjgicjgpahnmaaaDoor

/-! nat.Check and ref02.Check: may a number be? -/
namespace Go.Proofs.YtjgicjgpahnmaaaDoor
open Go.RowKit Go.WideShapes
set_option linter.unusedVariables false
/-- The number of what is wrong with a number. -/
def numWhy (b : Bool) (m : ByteArray) : Int := if 255 < m.size then 21 else if numOk b m then 0 else 20
theorem numWhy_ok (b : Bool) (m : ByteArray) : (numWhy b m == 0) = numOk b m := by
  unfold numWhy
  by_cases h : 255 < m.size
  · rw [if_pos h]; simp [numOk]; omega
  · rw [if_neg h]; cases numOk b m <;> simp
theorem numWhy_long {b : Bool} {m : ByteArray} (h : 255 < m.size) : numWhy b m = 21 := if_pos h
theorem numWhy_nil (b : Bool) : numWhy b ⟨#[]⟩ = if b then 20 else 0 := by cases b <;> rfl
theorem numWhy_zero {b : Bool} {m : ByteArray} (h : ¬ 255 < m.size) (h0 : 0 < m.size) (hz : ((m[0].toNat : Int) == 0) = true) : numWhy b m = 20 := by
  unfold numWhy
  have hz' : m[0] = 0 := by have h1 : (m[0].toNat : Int) = 0 := by simpa using hz
                            exact UInt8.toNat_inj.1 (by simpa using h1)
  have : numOk b m = false := by
    have hne : (m.size == 0) = false := beq_eq_false_iff_ne.2 (by omega)
    simp [numOk, getElem!_pos m 0 h0, hz', hne]
  rw [if_neg h, this]; rfl
theorem numWhy_good {b : Bool} {m : ByteArray} (h : ¬ 255 < m.size) (h0 : 0 < m.size) (hz : ((m[0].toNat : Int) == 0) = false) : numWhy b m = 0 := by
  unfold numWhy
  have hz' : m[0] ≠ 0 := by intro e; rw [e] at hz; simp at hz
  have : numOk b m = true := by
    have hne : (m.size == 0) = false := beq_eq_false_iff_ne.2 (by omega)
    simp [numOk, getElem!_pos m 0 h0, hz', hne]; omega
  rw [if_neg h, this]; rfl
theorem ba_nil {m : ByteArray} (h : m.size = 0) : m = ⟨#[]⟩ := by
  cases m with | mk d => congr 1; exact Array.eq_empty_of_size_eq_zero h
theorem toList_ne {m : ByteArray} (h : 0 < m.size) : m.toList.isEmpty = false := by
  rw [ByteArray.toList_eq]
  cases m with | mk d => cases d with | mk l => cases l with
    | nil => simp [ByteArray.size] at h
    | cons a l => rfl
theorem ret_int' {w w' : World} {a b : Int} (h : a = b) (hb : Below w.heap.size w w') : Ret (.int .i64 b) w (.returned (.int .i64 a)) w' := ⟨by rw [h], hb⟩
set_option maxRecDepth 100000 in
set_option maxHeartbeats 1000000 in
theorem natCheck_any (b : Bool) (m : ByteArray) (w : World) (hm : m.size ≤ maxLen) :
    Calls Tryd.prog 41 #[.agg #[.bool b, .string m]] w (Ret (.int .i64 (numWhy b m)) w) := by
  unfold maxLen at hm
  have HB := Lib.hid ((Below.refl w.heap.size w).alloc (Nat.le_refl _) (.cells #[.bool b, .string m] 27))
  by_cases h1 : 255 < m.size
  · go_enter Tryd.func41, Tryd.ntmps41
    go_wp2_with fail
    go_ret
    exact ret_int' (numWhy_long h1).symm HB.out
  · by_cases h0 : m.size = 0
    · obtain rfl := ba_nil h0
      cases b with
      | true =>
        go_enter Tryd.func41, Tryd.ntmps41
        go_wp2_with fail
        go_ret
        exact ret_int' rfl HB.out
      | false =>
        go_enter Tryd.func41, Tryd.ntmps41
        go_wp2_with fail
        go_ret
        exact ret_int' rfl HB.out
    · have hp : 0 < m.size := by omega
      have hne := toList_ne hp
      have hne2 : ¬ m = ByteArray.empty := by rintro rfl; simp at hp
      have hs0 : ((m.size : Int) == 0) = false := beq_eq_false_iff_ne.2 (by omega)
      clear h0
      cases hz : ((m[0].toNat : Int) == 0) with
      | true =>
        have HZ := Lib.hid (numWhy_zero (b := b) h1 hp hz)
        go_enter Tryd.func41, Tryd.ntmps41
        go_wp2_with fail
        go_ret
        exact ret_int' HZ.out.symm HB.out
      | false =>
        have HZ := Lib.hid (numWhy_good (b := b) h1 hp hz)
        go_enter Tryd.func41, Tryd.ntmps41
        go_wp2_with fail
        go_ret
        exact ret_int' HZ.out.symm HB.out
set_option maxRecDepth 100000 in
set_option maxHeartbeats 1000000 in
theorem refNatCheck_any (b : Bool) (m : ByteArray) (w : World) (hm : m.size ≤ maxLen) :
    Calls Tryd.prog 40 #[.agg #[.bool b, .string m]] w (Ret (.int .i64 (numWhy b m)) w) := by
  unfold maxLen at hm
  have HB := Lib.hid ((Below.refl w.heap.size w).alloc (Nat.le_refl _) (.cells #[.bool b, .string m] 27))
  by_cases h1 : 255 < m.size
  · go_enter Tryd.func40, Tryd.ntmps40
    go_wp2_with fail
    go_ret
    exact ret_int' (numWhy_long h1).symm HB.out
  · by_cases h0 : m.size = 0
    · obtain rfl := ba_nil h0
      cases b with
      | true =>
        go_enter Tryd.func40, Tryd.ntmps40
        go_wp2_with fail
        go_ret
        exact ret_int' rfl HB.out
      | false =>
        go_enter Tryd.func40, Tryd.ntmps40
        go_wp2_with fail
        go_ret
        exact ret_int' rfl HB.out
    · have hp : 0 < m.size := by omega
      have hne := toList_ne hp
      have hne2 : ¬ m = ByteArray.empty := by rintro rfl; simp at hp
      have hs0 : ((m.size : Int) == 0) = false := beq_eq_false_iff_ne.2 (by omega)
      clear h0
      cases hz : ((m[0].toNat : Int) == 0) with
      | true =>
        have HZ := Lib.hid (numWhy_zero (b := b) h1 hp hz)
        go_enter Tryd.func40, Tryd.ntmps40
        go_wp2_with fail
        go_ret
        exact ret_int' HZ.out.symm HB.out
      | false =>
        have HZ := Lib.hid (numWhy_good (b := b) h1 hp hz)
        go_enter Tryd.func40, Tryd.ntmps40
        go_wp2_with fail
        go_ret
        exact ret_int' HZ.out.symm HB.out
end Go.Proofs.YtjgicjgpahnmaaaDoor
