/-
  Words of our own on memory: a slice that reads as a list of one-cell values; rows that a call owns.
-/
import Derived.Below
import Derived.RangeFuncBox
import Derived.RangeFuncNested
import Derived.Laws.OwnMore
import Derived.Deep.Draws
import Derived.Lib.Hide
import Derived.Test.YtinonofhladkpaaGreatDoorProg
import Derived.ProofKit
import Derived.OpenShut
import Derived.Deep.Slices
import Derived.Deep.Strs
import Derived.WalkKit
import Derived.Outline
import Derived.BigQuiet
import Derived.Deep.QuietTactic
import Derived.OwnWalk
import Derived.Maps.AppendAt
import Derived.Deep.AppendLies
import Derived.Handy
import Derived.Deep.RegionHeld3
import Derived.Test.YtinonofhladkpaaGreatDoorJA
/-! Words of our own on memory: a slice that reads as a list of one-cell values; rows that a call owns. -/
namespace Go.Proofs.YtinonofhladkpaaGreatDoor
open Go.RowKit

theorem ret_bool {a b : Bool} (h : a = b) : Ending.returned (.bool a) = .returned (.bool b) := by rw [h]
theorem ret_int {k : IntKind} {a b : Int} (h : a = b) : Ending.returned (.int k a) = .returned (.int k b) := by rw [h]

/-- The cells at b, o on are vs. -/
def CellsAt (w : World) (b o : Nat) (vs : List Value) : Prop := ∀ i u, vs[i]? = some u → w.cell? ⟨b, o + i, none⟩ = some u
theorem CellsAt.keep {w w' : World} {b o : Nat} {vs : List Value} (h : CellsAt w b o vs) (hk : ∀ p : Addr, p.block = b → w'.cell? p = w.cell? p) : CellsAt w' b o vs := fun i u hu => (hk _ rfl).trans (h i u hu)
theorem CellsAt.at_ {w : World} {b o : Nat} {vs : List Value} (h : CellsAt w b o vs) {i : Nat} (hi : i < vs.length) : w.cell? ⟨b, o + i, none⟩ = some vs[i] := h i _ (List.getElem?_eq_getElem hi)
/-- The slice value v reads as the one-cell values vs, below block B. -/
def RowAt (w : World) (B : Nat) (v : Value) (vs : List Value) : Prop :=
  ∃ A c, v = .slice A vs.length c ∧ vs.length ≤ c ∧ (0 < vs.length → ∃ b o, A = some ⟨b, o, none⟩ ∧ b < B ∧ CellsAt w b o vs)
section
variable {w w' : World} {B B' : Nat} {v : Value} {vs : List Value}
theorem RowAt.nil (w : World) (B c : Nat) : RowAt w B (.slice none 0 c) [] := ⟨none, c, rfl, Nat.zero_le _, fun h => absurd h (by simp)⟩
theorem RowAt.keep (h : RowAt w B v vs) (hk : ∀ p : Addr, p.block < B → w'.cell? p = w.cell? p) : RowAt w' B v vs := by
  obtain ⟨A, c, e, hl, h⟩ := h
  refine ⟨A, c, e, hl, fun hp => ?_⟩
  obtain ⟨b, o, ea, hb, hc⟩ := h hp
  exact ⟨b, o, ea, hb, hc.keep fun p hp => hk p (by omega)⟩
theorem RowAt.below (h : RowAt w B v vs) (hb : Below B w w') : RowAt w' B v vs := h.keep fun _ hp => hb.cell hp
theorem RowAt.more (h : RowAt w B v vs) (hB : B ≤ B') : RowAt w B' v vs := by
  obtain ⟨A, c, e, hl, h⟩ := h
  refine ⟨A, c, e, hl, fun hp => ?_⟩
  obtain ⟨b, o, ea, hb, hc⟩ := h hp
  exact ⟨b, o, ea, by omega, hc⟩
theorem RowAt.drewN (h : RowAt w B v vs) (n : Nat) : RowAt (w.drewN n) B v vs := h.keep fun _ _ => rfl
theorem RowAt.alloc (h : RowAt w B v vs) (hB : B ≤ w.heap.size) (o : Obj) : RowAt (w.alloc o) B v vs := h.keep fun p hp => World.cell?_alloc_lt w o p (by omega)
theorem RowAt.setCell (h : RowAt w B v vs) {p : Addr} (hB : B ≤ p.block) (u : Value) : RowAt (w.setCell p u) B v vs :=
  h.keep fun q hq => World.cell?_setCell_other w p q u (fun e => by subst e; omega)
theorem RowAt.grown (h : RowAt w B v vs) {row : Option Nat} (hg : w.grownBy w' row) (hB : B ≤ w.heap.size) (hr : ∀ g, row = some g → B ≤ g) : RowAt w' B v vs :=
  h.keep fun p hp => World.cell?_of_block (hg.block p.block (by omega) (fun e => by have := hr _ e.symm; omega))
theorem RowAt.of_own {base : Nat} {e n : Nat} (h : w.ownsRow base e 1 v n vs) : RowAt w w.heap.size v vs := by
  have hlen : vs.length = n := by have := h.1; omega
  rcases h.2 with ⟨rfl, h0⟩ | ⟨g, cap, cur, rfl, hb, hg, hc, hm, hs, ht⟩
  · rw [h0] at hlen
    rw [List.eq_nil_of_length_eq_zero hlen]; exact RowAt.nil _ _ _
  · refine ⟨_, cap, by rw [hlen], by omega, fun _ => ⟨g, 0, rfl, (Array.getElem?_eq_some_iff.1 hg).1, fun i u hu => ?_⟩⟩
    have hi : i < n := by
      have := (List.getElem?_eq_some_iff.1 hu).1; omega
    rw [← ht, List.getElem?_take] at hu
    simp only [Nat.mul_one, hi, if_true] at hu
    simp [World.cell?, hg, ← hu]
theorem RowAt.len (h : RowAt w B v vs) : ∃ A c, v = .slice A vs.length c := by obtain ⟨A, c, e, _⟩ := h; exact ⟨A, c, e⟩
end
theorem row_ge {W : World} {n e size k : Nat} {v : Value} {xs : List Value} (h : W.ownsRow n e size v k xs) {g : Nat} (hg : v.ownBlock = some g) : n ≤ g := by
  rcases h.2 with ⟨rfl, _⟩ | ⟨g', cap, cur, rfl, hb, _, _⟩
  · simp [Value.ownBlock] at hg
  · obtain rfl : g' = g := by simpa [Value.ownBlock] using hg
    exact hb
theorem own_base {W : World} {n n' e size k : Nat} {v : Value} {xs : List Value} (h : W.ownsRow n e size v k xs) (hn : n' ≤ n) : W.ownsRow n' e size v k xs := by
  refine ⟨h.1, ?_⟩
  rcases h.2 with h0 | ⟨g, cap, cur, h1, hb, h2⟩
  · exact .inl h0
  · exact .inr ⟨g, cap, cur, h1, Nat.le_trans hn hb, h2⟩
theorem own_drewN {W : World} {n e size k : Nat} {v : Value} {xs : List Value} (h : W.ownsRow n e size v k xs) (q : Nat) : (W.drewN q).ownsRow n e size v k xs := h
/-- The numbers of a list, as values. -/
def ints (xs : List Int) : List Value := xs.map (Value.int .i64)
theorem ints_len (xs : List Int) : (ints xs).length = xs.length := by simp [ints]
theorem ints_get {xs : List Int} {i : Nat} (h : i < xs.length) : (ints xs)[i]? = some (.int .i64 xs[i]) := by simp [ints, h]
theorem RowAt.ints {w : World} {B : Nat} {v : Value} {xs : List Int} (h : RowAt w B v (ints xs)) :
    ∃ A c, v = .slice A xs.length c ∧ xs.length ≤ c ∧ (0 < xs.length → ∃ b o, A = some ⟨b, o, none⟩ ∧ b < B ∧ ∀ j (hj : j < xs.length), w.cell? ⟨b, o + j, none⟩ = some (.int .i64 xs[j])) := by
  obtain ⟨A, c, e, hl, h⟩ := h
  rw [ints_len] at e hl
  refine ⟨A, c, e, hl, fun hp => ?_⟩
  obtain ⟨b, o, ea, hb, hc⟩ := h (by rw [ints_len]; exact hp)
  exact ⟨b, o, ea, hb, fun j hj => hc j _ (ints_get hj)⟩
theorem below_drewN {B : Nat} {w w' : World} (h : Below B w w') (n : Nat) : Below B w (w'.drewN n) := by
  induction n with
  | zero => exact h
  | succ n ih => exact ih.drew
end Go.Proofs.YtinonofhladkpaaGreatDoor

/-! Parts as trees, and how they lie in memory. -/
namespace Go.Proofs.YtinonofhladkpaaGreatDoor
open Go.RowKit Go.ChangeShapes Go.WideShapes Go.ChangeAt
set_option linter.unusedVariables false
/-- A part, as a tree. -/
inductive PT where
  | mk (kind : Nat) (yes below : Bool) (mag raw : ByteArray) (items : List PT)
def PT.kind : PT → Nat | .mk k _ _ _ _ _ => k
def PT.yes : PT → Bool | .mk _ y _ _ _ _ => y
def PT.bel : PT → Bool | .mk _ _ b _ _ _ => b
def PT.mag : PT → ByteArray | .mk _ _ _ m _ _ => m
def PT.raw : PT → ByteArray | .mk _ _ _ _ r _ => r
def PT.items : PT → List PT | .mk _ _ _ _ _ l => l
instance : Inhabited PT := ⟨.mk 0 false false ⟨#[]⟩ ⟨#[]⟩ []⟩
/-- The six cells of a part. -/
def partCells (t : PT) (a : Option Addr) (c : Nat) : List Value := [.int .u8 t.kind, .bool t.yes, .bool t.bel, .string t.mag, .string t.raw, .slice a t.items.length c]
mutual
/-- Cells that read as a part, in blocks of S. -/
def PartAt (w : World) (S : Nat → Prop) : PT → List Value → Prop
  | .mk k y b m r l, cs => ∃ a c, cs = partCells (.mk k y b m r l) a c ∧ k < 256 ∧ m.size ≤ maxLen ∧ r.size ≤ maxLen ∧ l.length ≤ c ∧ c ≤ maxLen ∧ PartsAt w S l a
/-- Parts that lie one behind the other. -/
def PartsAt (w : World) (S : Nat → Prop) : List PT → Option Addr → Prop
  | [], _ => True
  | t :: l, a => ∃ b o cs, a = some ⟨b, o, none⟩ ∧ S b ∧ CellsAt w b o cs ∧ PartAt w S t cs ∧ PartsAt w S l (some ⟨b, o + 6, none⟩)
end
variable {w w' : World} {S S' : Nat → Prop}
mutual
theorem PartAt.keep (hk : ∀ p : Addr, S p.block → w'.cell? p = w.cell? p) : ∀ (t : PT) (cs : List Value), PartAt w S t cs → PartAt w' S t cs
  | .mk k y b m r l, cs, h => by
    obtain ⟨a, c, e, h1, h2, h3, h4, h5, h6⟩ := h
    exact ⟨a, c, e, h1, h2, h3, h4, h5, PartsAt.keep hk l a h6⟩
theorem PartsAt.keep (hk : ∀ p : Addr, S p.block → w'.cell? p = w.cell? p) : ∀ (l : List PT) (a : Option Addr), PartsAt w S l a → PartsAt w' S l a
  | [], _, _ => trivial
  | t :: l, a, h => by
    obtain ⟨b, o, cs, e, hb, hc, h1, h2⟩ := h
    exact ⟨b, o, cs, e, hb, hc.keep fun p hp => hk p (hp ▸ hb), PartAt.keep hk t cs h1, PartsAt.keep hk l _ h2⟩
end
mutual
theorem PartAt.more (hB : ∀ b, S b → S' b) : ∀ (t : PT) (cs : List Value), PartAt w S t cs → PartAt w S' t cs
  | .mk k y b m r l, cs, h => by
    obtain ⟨a, c, e, h1, h2, h3, h4, h5, h6⟩ := h
    exact ⟨a, c, e, h1, h2, h3, h4, h5, PartsAt.more hB l a h6⟩
theorem PartsAt.more (hB : ∀ b, S b → S' b) : ∀ (l : List PT) (a : Option Addr), PartsAt w S l a → PartsAt w S' l a
  | [], _, _ => trivial
  | t :: l, a, h => by
    obtain ⟨b, o, cs, e, hb, hc, h1, h2⟩ := h
    exact ⟨b, o, cs, e, hB b hb, hc, PartAt.more hB t cs h1, PartsAt.more hB l _ h2⟩
end
theorem PartAt.below {B : Nat} {t : PT} {cs : List Value} (h : PartAt w (· < B) t cs) (hb : Below B w w') : PartAt w' (· < B) t cs := PartAt.keep (fun _ hp => hb.cell hp) t cs h
theorem PartsAt.below {B : Nat} {l : List PT} {a : Option Addr} (h : PartsAt w (· < B) l a) (hb : Below B w w') : PartsAt w' (· < B) l a := PartsAt.keep (fun _ hp => hb.cell hp) l a h
/-- Opened. -/
theorem PartAt.open {t : PT} {cs : List Value} (h : PartAt w S t cs) : ∃ a c, cs = partCells t a c ∧ t.kind < 256 ∧ t.mag.size ≤ maxLen ∧ t.raw.size ≤ maxLen ∧ t.items.length ≤ c ∧ c ≤ maxLen ∧ PartsAt w S t.items a := by
  cases t; exact h
theorem PartAt.shut {t : PT} {a : Option Addr} {c : Nat} (h1 : t.kind < 256) (h2 : t.mag.size ≤ maxLen) (h3 : t.raw.size ≤ maxLen) (h4 : t.items.length ≤ c) (h5 : c ≤ maxLen) (h6 : PartsAt w S t.items a) : PartAt w S t (partCells t a c) := by
  cases t; exact ⟨a, c, rfl, h1, h2, h3, h4, h5, h6⟩
/-- The item at a place. -/
theorem PartsAt.get : ∀ {l : List PT} {a : Option Addr}, PartsAt w S l a → ∀ {i : Nat} (hi : i < l.length), ∃ b o a' c', a = some ⟨b, o, none⟩ ∧ S b ∧ CellsAt w b (o + i * 6) (partCells l[i] a' c') ∧ PartAt w S l[i] (partCells l[i] a' c')
  | [], _, _, i, hi => absurd hi (Nat.not_lt_zero i)
  | t :: l, a, h, i, hi => by
    obtain ⟨b, o, cs, e, hb, hc, h1, h2⟩ := h
    obtain ⟨a', c', rfl, _⟩ := h1.open
    cases i with
    | zero => exact ⟨b, o, a', c', e, hb, by simpa using hc, h1⟩
    | succ i =>
      have hi' : i < l.length := by simpa using hi
      obtain ⟨b', o', a2, c2, e', hb', hc', h1'⟩ := PartsAt.get h2 hi'
      simp only [Option.some.injEq, Addr.mk.injEq, and_true] at e'
      obtain ⟨rfl, rfl⟩ := e'
      refine ⟨b, o, a2, c2, e, hb, ?_, h1'⟩
      rw [show o + (i + 1) * 6 = o + 6 + i * 6 by omega]
      exact hc'
/-- Its cells, one by one. -/
theorem PartsAt.cells {l : List PT} {a : Option Addr} (h : PartsAt w S l a) {i : Nat} (hi : i < l.length) : ∃ b o a' c', a = some ⟨b, o, none⟩ ∧ S b ∧ w.cell? ⟨b, o + i * 6, none⟩ = some (.int .u8 l[i].kind) ∧ w.cell? ⟨b, o + i * 6 + 1, none⟩ = some (.bool l[i].yes) ∧
    w.cell? ⟨b, o + i * 6 + 2, none⟩ = some (.bool l[i].bel) ∧ w.cell? ⟨b, o + i * 6 + 3, none⟩ = some (.string l[i].mag) ∧ w.cell? ⟨b, o + i * 6 + 4, none⟩ = some (.string l[i].raw) ∧ w.cell? ⟨b, o + i * 6 + 5, none⟩ = some (.slice a' l[i].items.length c') ∧
    PartAt w S l[i] (partCells l[i] a' c') := by
  obtain ⟨b, o, a', c', e, hb, hc, h1⟩ := h.get hi
  exact ⟨b, o, a', c', e, hb, hc 0 _ rfl, hc 1 _ rfl, hc 2 _ rfl, hc 3 _ rfl, hc 4 _ rfl, hc 5 _ rfl, h1⟩
/-- Built of its items. -/
theorem PartsAt.of_get : ∀ {l : List PT} {b o : Nat}, (l = [] ∨ S b) → (∀ i (hi : i < l.length), ∃ cs, CellsAt w b (o + i * 6) cs ∧ PartAt w S l[i] cs) → PartsAt w S l (some ⟨b, o, none⟩)
  | [], _, _, _, _ => trivial
  | t :: l, b, o, hb, h => by
    have hb' : S b := hb.resolve_left (by simp)
    obtain ⟨cs, h1, h2⟩ := h 0 (by simp)
    refine ⟨b, o, cs, rfl, hb', by simpa using h1, by simpa using h2, PartsAt.of_get (.inr hb') fun i hi => ?_⟩
    obtain ⟨cs, h1, h2⟩ := h (i + 1) (by simpa using hi)
    exact ⟨cs, by rw [show o + 6 + i * 6 = o + (i + 1) * 6 by omega]; exact h1, by simpa using h2⟩
mutual
/-- What holds of a part if it holds of its items holds of all. -/
theorem PT.all {M : PT → Prop} (h : ∀ t : PT, (∀ x ∈ t.items, M x) → M t) : ∀ t, M t
  | .mk k y b m r l => h _ (PT.allL h l)
theorem PT.allL {M : PT → Prop} (h : ∀ t : PT, (∀ x ∈ t.items, M x) → M t) : ∀ (l : List PT), ∀ x ∈ l, M x
  | [], x, hx => by cases hx
  | t :: l, x, hx => (List.mem_cons.1 hx).elim (fun e => e ▸ PT.all h t) (fun hx => PT.allL h l x hx)
end
end Go.Proofs.YtinonofhladkpaaGreatDoor

/-! A part that is handed in, opened. -/
namespace Go.Proofs.YtinonofhladkpaaGreatDoor
open Go.RowKit Go.ChangeShapes Go.WideShapes Go.ChangeAt
set_option linter.unusedVariables false
theorem cellsPart : Tryz.prog.cellsOf 27 = 6 := by kernel_rfl
theorem cellsKind : Tryz.prog.cellsOf 22 = 1 := by kernel_rfl
theorem cellsBool : Tryz.prog.cellsOf 4 = 1 := by kernel_rfl
theorem cellsNum : Tryz.prog.cellsOf 24 = 2 := by kernel_rfl
theorem cellsStr : Tryz.prog.cellsOf 9 = 1 := by kernel_rfl
theorem cellsParts : Tryz.prog.cellsOf 25 = 1 := by kernel_rfl
theorem len2 {α : Type} {l : List α} (h : l.length = 2) : ∃ a b, l = [a, b] := by
  match l, h with | [a, b], _ => exact ⟨a, b, rfl⟩
theorem len6 {α : Type} {l : List α} (h : l.length = 6) : ∃ a b c d e f, l = [a, b, c, d, e, f] := by
  match l, h with | [a, b, c, d, e, f], _ => exact ⟨a, b, c, d, e, f, rfl⟩
theorem cell_plainP {w : World} {p : Addr} {v : Value} (h : w.cell? p = some v) : p = ⟨p.block, p.off, none⟩ := by
  have := World.cell?_spot h
  cases p with | mk b o s => simp only at this; subst this; rfl
theorem block_ltP {w : World} {p : Addr} {u : Value} (h : w.cell? p = some u) : p.block < w.heap.size := by
  unfold World.cell? at h
  split at h
  · rename_i hh; exact (Array.getElem?_eq_some_iff.1 hh).1
  · cases h
section
variable {H : Type} {enc : TypeId × Value → H} {W : World}
theorem trod_struct2n {P : Program} {t : TypeId} {f0 f1 : Field} {fuel : Nat} {cs : List Value} {x : DataW H × List MemPlace} (ht : P.underlying t = some (.struct #[f0, f1])) (h : DataW.trod enc P W 0 (fun _ => true) true fuel t cs = some x) :
    ∃ y0 y1 n, fuel = n + 1 ∧ cs.length = P.cellsOf t ∧ DataW.trod enc P W 0 (fun _ => true) true n f0.type ((cs.drop f0.offset).take (P.cellsOf f0.type)) = some y0 ∧ DataW.trod enc P W 0 (fun _ => true) true n f1.type ((cs.drop f1.offset).take (P.cellsOf f1.type)) = some y1 := by
  obtain ⟨xs, n, e, rfl, hl, hlen, hf⟩ := DataW.trod_struct ht h
  match xs, hlen with
  | [y0, y1], _ => exact ⟨y0, y1, n, e, hl, by simpa using hf 0 f0 rfl, by simpa using hf 1 f1 rfl⟩
theorem trod_struct5n {P : Program} {t : TypeId} {f0 f1 f2 f3 f4 : Field} {fuel : Nat} {cs : List Value} {x : DataW H × List MemPlace} (ht : P.underlying t = some (.struct #[f0, f1, f2, f3, f4])) (h : DataW.trod enc P W 0 (fun _ => true) true fuel t cs = some x) :
    ∃ y0 y1 y2 y3 y4 n, fuel = n + 1 ∧ cs.length = P.cellsOf t ∧ DataW.trod enc P W 0 (fun _ => true) true n f0.type ((cs.drop f0.offset).take (P.cellsOf f0.type)) = some y0 ∧ DataW.trod enc P W 0 (fun _ => true) true n f1.type ((cs.drop f1.offset).take (P.cellsOf f1.type)) = some y1 ∧
      DataW.trod enc P W 0 (fun _ => true) true n f2.type ((cs.drop f2.offset).take (P.cellsOf f2.type)) = some y2 ∧ DataW.trod enc P W 0 (fun _ => true) true n f3.type ((cs.drop f3.offset).take (P.cellsOf f3.type)) = some y3 ∧ DataW.trod enc P W 0 (fun _ => true) true n f4.type ((cs.drop f4.offset).take (P.cellsOf f4.type)) = some y4 := by
  obtain ⟨xs, n, e, rfl, hl, hlen, hf⟩ := DataW.trod_struct ht h
  match xs, hlen with
  | [y0, y1, y2, y3, y4], _ => exact ⟨y0, y1, y2, y3, y4, n, e, hl, by simpa using hf 0 f0 rfl, by simpa using hf 1 f1 rfl, by simpa using hf 2 f2 rfl, by simpa using hf 3 f3 rfl, by simpa using hf 4 f4 rfl⟩
theorem trod_num {n : Nat} {cs : List Value} {y : DataW H × List MemPlace} (h : DataW.trod enc Tryz.prog W 0 (fun _ => true) true n 24 cs = some y) : ∃ (b : Bool) (m : ByteArray), cs = [.bool b, .string m] ∧ m.size ≤ maxLen := by
  obtain ⟨x0, x1, k, rfl, hl, f0, f1⟩ := trod_struct2n Tryz.underlying24 h
  rw [cellsNum] at hl
  obtain ⟨c0, c1, rfl⟩ := len2 hl
  simp only [cellsBool, cellsStr, List.drop, List.take] at f0 f1
  obtain ⟨b, hb, _⟩ := DataW.trod_bool Tryz.underlying4 f0
  obtain ⟨m, hm, _, hw⟩ := DataW.trod_string Tryz.underlying9 f1
  simp only [List.cons.injEq, and_true] at hb hm
  subst hb hm
  exact ⟨b, m, rfl, hw⟩
theorem part_of : ∀ (n : Nat) (cs : List Value) (y : DataW H × List MemPlace), DataW.trod enc Tryz.prog W 0 (fun _ => true) true n 27 cs = some y → ∃ t, PartAt W (· < W.heap.size) t cs := by
  intro n
  induction n using Nat.strongRecOn with
  | _ n ih =>
    intro cs y h
    obtain ⟨x0, x1, x2, x3, x4, k, rfl, hl, f0, f1, f2, f3, f4⟩ := trod_struct5n Tryz.underlying27 h
    rw [cellsPart] at hl
    obtain ⟨c0, c1, c2, c3, c4, c5, rfl⟩ := len6 hl
    simp only [cellsKind, cellsBool, cellsNum, cellsStr, cellsParts, List.drop, List.take] at f0 f1 f2 f3 f4
    obtain ⟨kd, h0, _, hwf⟩ := DataW.trod_int Tryz.underlying22 f0
    obtain ⟨yes, h1, _⟩ := DataW.trod_bool Tryz.underlying4 f1
    obtain ⟨bel, mag, h2, hm⟩ := trod_num f2
    obtain ⟨raw, h3, _, hr⟩ := DataW.trod_string Tryz.underlying9 f3
    simp only [List.cons.injEq, and_true] at h0 h1 h2 h3
    obtain ⟨rfl, rfl⟩ := h2
    subst h0 h1 h3
    have hk : 0 ≤ kd ∧ kd < 256 := by
      have h9 : IntKind.u8.min ≤ kd ∧ kd ≤ IntKind.u8.max := by simpa [Lit.wf] using hwf
      exact ⟨h9.1, by have := h9.2; rw [show IntKind.u8.max = 255 from rfl] at this; omega⟩
    obtain ⟨k0, rfl⟩ := Int.eq_ofNat_of_zero_le hk.1
    rcases DataW.trod_slice Tryz.underlying25 f4 with ⟨h4, _⟩ | ⟨x, len, cap, elems, rest, m, hmk, h4, _, _, hlc, hcm, helen, hall, _⟩
    · simp only [List.cons.injEq, and_true] at h4
      subst h4
      exact ⟨.mk k0 yes bel mag raw [], none, 0, rfl, by omega, hm, hr, Nat.le_refl _, Nat.zero_le _, trivial⟩
    · simp only [List.cons.injEq, and_true] at h4
      subst h4
      have hex : ∀ i, i < len → ∃ t : PT, ∃ cs', W.cells? 0 (x.add (i * 6)) 6 = some cs' ∧ PartAt W (· < W.heap.size) t cs' := by
        intro i hi
        have h5 := hall i hi
        rw [cellsPart, List.getElem?_eq_getElem (by omega)] at h5
        obtain ⟨cs', h6, h7⟩ := Option.bind_eq_some_iff.1 h5
        obtain ⟨t, ht⟩ := ih m (by omega) cs' _ h7
        exact ⟨t, cs', h6, ht⟩
      obtain ⟨f, hfs⟩ := Deep.choose_lt hex
      have hlen' : ((List.range len).map f).length = len := by simp
      have hrow : PartsAt W (· < W.heap.size) ((List.range len).map f) (some x) := by
        by_cases h0 : len = 0
        · subst h0; trivial
        · have hx : x = ⟨x.block, x.off, none⟩ ∧ x.block < W.heap.size := by
            obtain ⟨cs', h6, h7⟩ := hfs 0 (by omega)
            obtain ⟨a', c', rfl, _⟩ := h7.open
            obtain ⟨_, _, hget⟩ := World.cells?_some h6
            have g0 := hget 0 (by omega)
            have e0 : (x.add (0 * 6)).add 0 = x := by simp [Addr.add]
            rw [e0] at g0
            exact ⟨cell_plainP g0, block_ltP g0⟩
          obtain ⟨b, o, hxb⟩ : ∃ b o, x = ⟨b, o, none⟩ := ⟨_, _, hx.1⟩
          subst hxb
          refine PartsAt.of_get (.inr hx.2) fun i hi => ?_
          rw [hlen'] at hi
          obtain ⟨cs', h6, h7⟩ := hfs i hi
          refine ⟨cs', fun j u hu => ?_, by simpa using h7⟩
          obtain ⟨_, hlen6, hget⟩ := World.cells?_some h6
          have hj : j < 6 := by have := (List.getElem?_eq_some_iff.1 hu).1; omega
          have g := hget j hj
          rw [add_plain, add_plain] at g
          rw [g, hu]
      have := PartAt.shut (t := .mk k0 yes bel mag raw ((List.range len).map f)) (a := some x) (c := cap) (by show k0 < 256; omega) hm hr (by show ((List.range len).map f).length ≤ cap; omega) hcm hrow
      refine ⟨.mk k0 yes bel mag raw ((List.range len).map f), ?_⟩
      simpa [partCells, PT.kind, PT.yes, PT.bel, PT.mag, PT.raw, PT.items] using this
end
end Go.Proofs.YtinonofhladkpaaGreatDoor

/-! dovetailkeep.Deep: it answers, whatever the part. -/
namespace Go.Proofs.YtinonofhladkpaaGreatDoor
open Go.RowKit Go.WideShapes
/-- A cell of a number. -/
def IntCell (w : World) (L : Nat) (l : Int) : Prop := w.heap[L]? = some (.cells #[.int .i64 l] 3 (0, 0))
theorem IntCell.at_ {w : World} {L : Nat} {l : Int} (h : IntCell w L l) : w.cell? ⟨L, 0, none⟩ = some (.int .i64 l) := by
  simp [World.cell?, show w.heap[L]? = _ from h]
theorem IntCell.free {w : World} {L : Nat} {l : Int} (h : IntCell w L l) (o : Nat) : w.frozen? ⟨L, o, none⟩ = false := by
  simp [World.frozen?, show w.heap[L]? = _ from h]
theorem IntCell.set {w : World} {L : Nat} {l : Int} (h : IntCell w L l) (l' : Int) : IntCell (w.setCell ⟨L, 0, none⟩ (.int .i64 l')) L l' := by
  have hl := (Array.getElem?_eq_some_iff.1 h).1
  unfold IntCell at *
  simp [World.setCell, Array.getElem?_modify, h]
theorem IntCell.alloc {w : World} {L : Nat} {l : Int} (h : IntCell w L l) (o : Obj) : IntCell (w.alloc o) L l := by
  have hl := (Array.getElem?_eq_some_iff.1 h).1
  unfold IntCell at *
  rw [Below.heap_alloc w o L hl]; exact h
theorem IntCell.lt {w : World} {L : Nat} {l : Int} (h : IntCell w L l) : L < w.heap.size := (Array.getElem?_eq_some_iff.1 h).1
theorem new_part (w : World) (n : Nat) (t : PT) (a : Option Addr) (c : Nat) (T : TypeId) (hn : n = w.heap.size) : CellsAt (w.alloc (.cells (partCells t a c).toArray T)) n 0 (partCells t a c) := fun i u hu => by
  subst hn
  rw [World.cell?_alloc_at _ _ _ _ (by simp)]
  simpa using hu
def DeepPost (L : Nat) (w : World) (e : Ending) (w' : World) : Prop := ∃ n l', e = .returned (.int .i64 n) ∧ IntCell w' L l' ∧ w.grownBy w' (some L)
set_option maxRecDepth 100000 in
set_option maxHeartbeats 4000000 in
theorem deep_any : ∀ (t : PT) (a : Option Addr) (c : Nat) (x l : Int) (L B : Nat) (w : World), PartAt w (· < B) t (partCells t a c) → B ≤ L → IntCell w L l →
    Calls Tryz.prog 54 #[.agg (partCells t a c).toArray, .int .i64 x, .pointer (some ⟨L, 0, none⟩)] w (DeepPost L w) := by
  refine PT.all fun t ih => ?_
  intro a c x l L B w hp hBL hL
  obtain ⟨a1, c1, e1, hk, hm, hr, hlc, hcm, hits⟩ := hp.open
  obtain ⟨rfl, rfl⟩ : a1 = a ∧ c1 = c := by simpa [partCells, eq_comm] using e1
  have HI := Lib.hid hits
  have HIH := Lib.hid ih
  have HL := Lib.hid hL
  have hc := hL.at_
  have hf := hL.free 0
  have hLlt : L < w.heap.size := (Array.getElem?_eq_some_iff.1 hL).1
  clear hits ih hp e1 hL
  have hlen : t.items.length ≤ 9223372036854775807 := by unfold maxLen at hcm; omega
  unfold partCells
  have HB2 := Lib.hid ((grownBy_setCell' w L (.int .i64 (wrap64 (l - 1)))).trans (World.grownBy_alloc (w.setCell ⟨L, 0, none⟩ (.int .i64 (wrap64 (l - 1)))) (.cells #[.int .u8 t.kind, .bool t.yes, .bool t.bel, .string t.mag, .string t.raw, .slice a1 t.items.length c1] 27) _))
  have HP2 := Lib.hid (new_part (w.setCell ⟨L, 0, none⟩ (.int .i64 (wrap64 (l - 1)))) w.heap.size t a1 c1 27 (by simp))
  have HL2 := Lib.hid ((HL.out.set (wrap64 (l - 1))).alloc (.cells #[.int .u8 t.kind, .bool t.yes, .bool t.bel, .string t.mag, .string t.raw, .slice a1 t.items.length c1] 27))
  by_cases hx : 40 < x
  · go_enter Tryz.func54, Tryz.ntmps54
    go_wp2_with fail
    go_ret
    exact ⟨_, _, rfl, HL2.out, HB2.out⟩
  · by_cases hn : wrap64 (l - 1) < 0
    · go_enter Tryz.func54, Tryz.ntmps54
      go_wp2_with fail
      go_ret
      exact ⟨_, _, rfl, HL2.out, HB2.out⟩
    · go_enter Tryz.func54, Tryz.ntmps54
      go_wp2_with fail
      go_loopw [7, 8] (fun n i wr => ∃ (k : Nat) (n' l' : Int), n = .int .i64 n' ∧ i = .int .i64 k ∧ k ≤ t.items.length ∧ Hid (IntCell wr L l') ∧ Hid (w.grownBy wr (some L)) ∧ Hid (CellsAt wr w.heap.size 0 (partCells t a1 c1)) ∧ w.heap.size < wr.heap.size) (fun _ i _ => t.items.length - (intOf i).toNat)
      case atStart => exact ⟨0, _, _, rfl, rfl, by omega, HL2, HB2, HP2, by simp⟩
      case round =>
        clear HL2 HB2 HP2
        obtain ⟨k, n', l', rfl, rfl, hk, HL', HB, HP, hwz⟩ := hrel
        have hp5 := HP.out 5 _ rfl
        have hp0 := HP.out 0 _ rfl
        have hL := HL'.out.at_
        have hLf := HL'.out.free 0
        by_cases hlt : k < t.items.length
        · obtain ⟨b, o, a', c', rfl, hb, k0, k1, k2, k3, k4, k5, hpa⟩ := (PartsAt.keep (fun p hp => HB.out.cell_far p (by omega) (by simp; omega)) _ _ HI.out).cells hlt
          have HR := Lib.hid (HIH.out t.items[k] (List.getElem_mem hlt) a' c' (wrap64 (x + 1)) l' L B wr hpa hBL HL'.out)
          clear hpa
          go_wp2_with fail
          refine HR.out.mono ?_
          rintro e w' ⟨n2, l2, rfl, hL2, hg2⟩
          have HB' := Lib.hid (HB.out.trans hg2)
          have HP' := Lib.hid (HP.out.keep fun p hp => hg2.cell_far p (by omega) (by simp; omega))
          have hz' := hg2.size
          have hL2a := hL2.at_
          have HL2 := Lib.hid hL2
          clear hL hLf hL2 hg2 HR k0 k1 k2 k3 k4 k5 hp0 hp5 HP HB HL'
          have hp5 := HP'.out 5 _ rfl
          have hp0 := HP'.out 0 _ rfl
          by_cases hd : n' < n2
          · by_cases hneg : l2 < 0
            · go_wp2_with fail
              go_ret
              exact ⟨_, _, rfl, HL2.out, HB'.out⟩
            · go_wp2_with fail
              go_roundw
              case rel => exact ⟨k + 1, _, _, rfl, by go_num, by omega, HL2, HB', HP', by omega⟩
              case measure => simp [intOf]; omega
          · by_cases hneg : l2 < 0
            · go_wp2_with fail
              go_ret
              exact ⟨_, _, rfl, HL2.out, HB'.out⟩
            · go_wp2_with fail
              go_roundw
              case rel => exact ⟨k + 1, _, _, rfl, by go_num, by omega, HL2, HB', HP', by omega⟩
              case measure => simp [intOf]; omega
        · by_cases h7 : t.kind = 7
          · go_wp2_with fail
            go_ret
            exact ⟨_, _, rfl, HL'.out, HB.out⟩
          · by_cases hz : t.items.length = 0
            · go_wp2_with fail
              go_ret
              exact ⟨_, _, rfl, HL'.out, HB.out⟩
            · go_wp2_with fail
              go_ret
              exact ⟨_, _, rfl, HL'.out, HB.out⟩
end Go.Proofs.YtinonofhladkpaaGreatDoor

/-! dovetailkeep.Deep answers, whatever the part. -/
namespace Go.Proofs.YtinonofhladkpaaGreatDoor
open Go.RowKit Go.WideShapes
theorem grown_below {w w' : World} {g B : Nat} (h : w.grownBy w' (some g)) (hB : B ≤ w.heap.size) (hg : B ≤ g) : Below B w w' := (Below.refl B w).grown h hB (fun j e => by cases e; exact hg)
def IntPost (w : World) (e : Ending) (w' : World) : Prop := ∃ n, e = .returned (.int .i64 n) ∧ Below w.heap.size w w'
set_option maxRecDepth 100000 in
set_option maxHeartbeats 1000000 in
theorem Deep_any (t : PT) (a : Option Addr) (c : Nat) (x : Int) (w : World) (hp : PartAt w (· < w.heap.size) t (partCells t a c)) :
    Calls Tryz.prog 25 #[.agg (partCells t a c).toArray, .int .i64 x] w (IntPost w) := by
  have HP := Lib.hid hp
  obtain ⟨W1, hW1⟩ : ∃ W1, W1 = w.alloc (.cells (partCells t a c).toArray 27) := ⟨_, rfl⟩
  obtain ⟨W2, hW2⟩ : ∃ W2, W2 = W1.alloc (.cells #[.int .i64 16777216] 3) := ⟨_, rfl⟩
  have hz1 : W1.heap.size = w.heap.size + 1 := by rw [hW1]; simp
  have hI : IntCell W2 (w.heap.size + 1) 16777216 := by
    unfold IntCell; rw [hW2, ← hz1]; exact World.alloc_heap_new W1 _
  have hB : Below w.heap.size w W2 := by
    rw [hW2]; refine Below.alloc ?_ (by omega) _; rw [hW1]; exact (Below.refl _ _).alloc (Nat.le_refl _) _
  have HR := Lib.hid (deep_any t a c x 16777216 (w.heap.size + 1) w.heap.size W2 (PartAt.below hp hB) (by omega) hI)
  have HB := Lib.hid hB
  rw [hW2, hW1] at HR HB
  clear hp hI hB hW1 hW2 hz1
  unfold partCells at *
  go_enter Tryz.func25, Tryz.ntmps25
  go_wp2_with fail
  refine HR.out.mono ?_
  rintro e w' ⟨n, l', rfl, _, hg⟩
  have hb : Below w.heap.size w w' := HB.out.trans (grown_below hg (by simp; omega) (by omega))
  clear HR HB hg
  go_wp2_with fail
  go_ret
  exact ⟨_, rfl, hb⟩
end Go.Proofs.YtinonofhladkpaaGreatDoor

/-! The weight of the law answers, whatever is handed in. -/
namespace Go.Proofs.YtinonofhladkpaaGreatDoor
open Go.RowKit Go.WideShapes
set_option maxRecDepth 100000 in
set_option maxHeartbeats 4000000 in
theorem weight_any : ∀ (t : PT) (a : Option Addr) (c : Nat) (w : World), PartAt w (· < w.heap.size) t (partCells t a c) →
    Calls Tryz.prog 26 #[.agg (partCells t a c).toArray] w (IntPost w) := by
  refine PT.all fun t ih => ?_
  intro a c w hp
  obtain ⟨a1, c1, e1, hk, hm, hr, hlc, hcm, hits⟩ := hp.open
  obtain ⟨rfl, rfl⟩ : a1 = a ∧ c1 = c := by simpa [partCells, eq_comm] using e1
  have HI := Lib.hid hits
  have HIH := Lib.hid ih
  have hlen : t.items.length ≤ 9223372036854775807 := by unfold maxLen at hcm; omega
  clear hits ih hp e1
  unfold partCells
  have HB2 := Lib.hid ((Below.refl w.heap.size w).alloc (Nat.le_refl _) (.cells #[.int .u8 t.kind, .bool t.yes, .bool t.bel, .string t.mag, .string t.raw, .slice a1 t.items.length c1] 27))
  have HP2 := Lib.hid (new_part w w.heap.size t a1 c1 27 rfl)
  go_enter Tryz.func26, Tryz.ntmps26
  go_wp2_with fail
  go_loopw [3, 4] (fun n i wr => ∃ (k : Nat) (n' : Int), n = .int .i64 n' ∧ i = .int .i64 k ∧ k ≤ t.items.length ∧ Hid (Below w.heap.size w wr) ∧ Hid (CellsAt wr w.heap.size 0 (partCells t a1 c1)) ∧ w.heap.size < wr.heap.size) (fun _ i _ => t.items.length - (intOf i).toNat)
  case atStart => exact ⟨0, _, rfl, rfl, by omega, HB2, HP2, by simp⟩
  case round =>
    clear HB2 HP2
    obtain ⟨k, n', rfl, rfl, hk, HB, HP, hwz⟩ := hrel
    have hp5 := HP.out 5 _ rfl
    by_cases hlt : k < t.items.length
    · by_cases hn : n' ≤ 16777216
      · obtain ⟨b, o, a', c', rfl, hb, k0, k1, k2, k3, k4, k5, hpa⟩ := (HI.out.below HB.out).cells hlt
        have HR := Lib.hid (HIH.out t.items[k] (List.getElem_mem hlt) a' c' wr (PartAt.more (fun b hb => by have := hb; omega) _ _ hpa))
        clear hpa
        go_wp2_with fail
        refine HR.out.mono ?_
        rintro e w' ⟨n2, rfl, hg2⟩
        have HB' := Lib.hid (HB.out.trans (hg2.mono (by omega)))
        have HP' := Lib.hid (HP.out.keep fun p hp => hg2.cell (by omega))
        have hz' := hg2.size
        clear hg2 HR k0 k1 k2 k3 k4 k5 hp5 HP HB
        go_wp2_with fail
        go_roundw
        case rel => exact ⟨k + 1, _, rfl, by go_num, by omega, HB', HP', by omega⟩
        case measure => simp [intOf]; omega
      · go_wp2_with fail
        go_ret
        exact ⟨_, rfl, HB.out⟩
    · go_wp2_with fail
      go_ret
      exact ⟨_, rfl, HB.out⟩
end Go.Proofs.YtinonofhladkpaaGreatDoor

/-! A struct that is read, field by field. -/
namespace Go.Proofs.YtinonofhladkpaaGreatDoor
set_option linter.unusedVariables false
section
variable {H : Type} {enc : TypeId × Value → H} {W : World}
theorem structN2 {P : Program} {t : TypeId} {f0 f1 : Field} {fuel : Nat} {cs : List Value} {x : DataW H × List MemPlace} (ht : P.underlying t = some (.struct #[f0, f1])) (h : DataW.trod enc P W 0 (fun _ => true) true fuel t cs = some x) :
    ∃ y0 y1 n, fuel = n + 1 ∧ x = (.agg [y0.1, y1.1], y0.2 ++ (y1.2)) ∧ cs.length = P.cellsOf t ∧ DataW.trod enc P W 0 (fun _ => true) true n f0.type ((cs.drop f0.offset).take (P.cellsOf f0.type)) = some y0 ∧ DataW.trod enc P W 0 (fun _ => true) true n f1.type ((cs.drop f1.offset).take (P.cellsOf f1.type)) = some y1 := by
  obtain ⟨xs, n, e, rfl, hl, hlen, hf⟩ := DataW.trod_struct ht h
  match xs, hlen with
  | [y0, y1], _ => exact ⟨y0, y1, n, e, by simp, hl, by simpa using hf 0 f0 rfl, by simpa using hf 1 f1 rfl⟩
theorem structN3 {P : Program} {t : TypeId} {f0 f1 f2 : Field} {fuel : Nat} {cs : List Value} {x : DataW H × List MemPlace} (ht : P.underlying t = some (.struct #[f0, f1, f2])) (h : DataW.trod enc P W 0 (fun _ => true) true fuel t cs = some x) :
    ∃ y0 y1 y2 n, fuel = n + 1 ∧ x = (.agg [y0.1, y1.1, y2.1], y0.2 ++ (y1.2 ++ (y2.2))) ∧ cs.length = P.cellsOf t ∧ DataW.trod enc P W 0 (fun _ => true) true n f0.type ((cs.drop f0.offset).take (P.cellsOf f0.type)) = some y0 ∧ DataW.trod enc P W 0 (fun _ => true) true n f1.type ((cs.drop f1.offset).take (P.cellsOf f1.type)) = some y1 ∧ DataW.trod enc P W 0 (fun _ => true) true n f2.type ((cs.drop f2.offset).take (P.cellsOf f2.type)) = some y2 := by
  obtain ⟨xs, n, e, rfl, hl, hlen, hf⟩ := DataW.trod_struct ht h
  match xs, hlen with
  | [y0, y1, y2], _ => exact ⟨y0, y1, y2, n, e, by simp, hl, by simpa using hf 0 f0 rfl, by simpa using hf 1 f1 rfl, by simpa using hf 2 f2 rfl⟩
theorem structN4 {P : Program} {t : TypeId} {f0 f1 f2 f3 : Field} {fuel : Nat} {cs : List Value} {x : DataW H × List MemPlace} (ht : P.underlying t = some (.struct #[f0, f1, f2, f3])) (h : DataW.trod enc P W 0 (fun _ => true) true fuel t cs = some x) :
    ∃ y0 y1 y2 y3 n, fuel = n + 1 ∧ x = (.agg [y0.1, y1.1, y2.1, y3.1], y0.2 ++ (y1.2 ++ (y2.2 ++ (y3.2)))) ∧ cs.length = P.cellsOf t ∧ DataW.trod enc P W 0 (fun _ => true) true n f0.type ((cs.drop f0.offset).take (P.cellsOf f0.type)) = some y0 ∧ DataW.trod enc P W 0 (fun _ => true) true n f1.type ((cs.drop f1.offset).take (P.cellsOf f1.type)) = some y1 ∧ DataW.trod enc P W 0 (fun _ => true) true n f2.type ((cs.drop f2.offset).take (P.cellsOf f2.type)) = some y2 ∧ DataW.trod enc P W 0 (fun _ => true) true n f3.type ((cs.drop f3.offset).take (P.cellsOf f3.type)) = some y3 := by
  obtain ⟨xs, n, e, rfl, hl, hlen, hf⟩ := DataW.trod_struct ht h
  match xs, hlen with
  | [y0, y1, y2, y3], _ => exact ⟨y0, y1, y2, y3, n, e, by simp, hl, by simpa using hf 0 f0 rfl, by simpa using hf 1 f1 rfl, by simpa using hf 2 f2 rfl, by simpa using hf 3 f3 rfl⟩
theorem structN5 {P : Program} {t : TypeId} {f0 f1 f2 f3 f4 : Field} {fuel : Nat} {cs : List Value} {x : DataW H × List MemPlace} (ht : P.underlying t = some (.struct #[f0, f1, f2, f3, f4])) (h : DataW.trod enc P W 0 (fun _ => true) true fuel t cs = some x) :
    ∃ y0 y1 y2 y3 y4 n, fuel = n + 1 ∧ x = (.agg [y0.1, y1.1, y2.1, y3.1, y4.1], y0.2 ++ (y1.2 ++ (y2.2 ++ (y3.2 ++ (y4.2))))) ∧ cs.length = P.cellsOf t ∧ DataW.trod enc P W 0 (fun _ => true) true n f0.type ((cs.drop f0.offset).take (P.cellsOf f0.type)) = some y0 ∧ DataW.trod enc P W 0 (fun _ => true) true n f1.type ((cs.drop f1.offset).take (P.cellsOf f1.type)) = some y1 ∧ DataW.trod enc P W 0 (fun _ => true) true n f2.type ((cs.drop f2.offset).take (P.cellsOf f2.type)) = some y2 ∧ DataW.trod enc P W 0 (fun _ => true) true n f3.type ((cs.drop f3.offset).take (P.cellsOf f3.type)) = some y3 ∧ DataW.trod enc P W 0 (fun _ => true) true n f4.type ((cs.drop f4.offset).take (P.cellsOf f4.type)) = some y4 := by
  obtain ⟨xs, n, e, rfl, hl, hlen, hf⟩ := DataW.trod_struct ht h
  match xs, hlen with
  | [y0, y1, y2, y3, y4], _ => exact ⟨y0, y1, y2, y3, y4, n, e, by simp, hl, by simpa using hf 0 f0 rfl, by simpa using hf 1 f1 rfl, by simpa using hf 2 f2 rfl, by simpa using hf 3 f3 rfl, by simpa using hf 4 f4 rfl⟩
theorem structN6 {P : Program} {t : TypeId} {f0 f1 f2 f3 f4 f5 : Field} {fuel : Nat} {cs : List Value} {x : DataW H × List MemPlace} (ht : P.underlying t = some (.struct #[f0, f1, f2, f3, f4, f5])) (h : DataW.trod enc P W 0 (fun _ => true) true fuel t cs = some x) :
    ∃ y0 y1 y2 y3 y4 y5 n, fuel = n + 1 ∧ x = (.agg [y0.1, y1.1, y2.1, y3.1, y4.1, y5.1], y0.2 ++ (y1.2 ++ (y2.2 ++ (y3.2 ++ (y4.2 ++ (y5.2)))))) ∧ cs.length = P.cellsOf t ∧ DataW.trod enc P W 0 (fun _ => true) true n f0.type ((cs.drop f0.offset).take (P.cellsOf f0.type)) = some y0 ∧ DataW.trod enc P W 0 (fun _ => true) true n f1.type ((cs.drop f1.offset).take (P.cellsOf f1.type)) = some y1 ∧ DataW.trod enc P W 0 (fun _ => true) true n f2.type ((cs.drop f2.offset).take (P.cellsOf f2.type)) = some y2 ∧ DataW.trod enc P W 0 (fun _ => true) true n f3.type ((cs.drop f3.offset).take (P.cellsOf f3.type)) = some y3 ∧ DataW.trod enc P W 0 (fun _ => true) true n f4.type ((cs.drop f4.offset).take (P.cellsOf f4.type)) = some y4 ∧ DataW.trod enc P W 0 (fun _ => true) true n f5.type ((cs.drop f5.offset).take (P.cellsOf f5.type)) = some y5 := by
  obtain ⟨xs, n, e, rfl, hl, hlen, hf⟩ := DataW.trod_struct ht h
  match xs, hlen with
  | [y0, y1, y2, y3, y4, y5], _ => exact ⟨y0, y1, y2, y3, y4, y5, n, e, by simp, hl, by simpa using hf 0 f0 rfl, by simpa using hf 1 f1 rfl, by simpa using hf 2 f2 rfl, by simpa using hf 3 f3 rfl, by simpa using hf 4 f4 rfl, by simpa using hf 5 f5 rfl⟩
theorem structN8 {P : Program} {t : TypeId} {f0 f1 f2 f3 f4 f5 f6 f7 : Field} {fuel : Nat} {cs : List Value} {x : DataW H × List MemPlace} (ht : P.underlying t = some (.struct #[f0, f1, f2, f3, f4, f5, f6, f7])) (h : DataW.trod enc P W 0 (fun _ => true) true fuel t cs = some x) :
    ∃ y0 y1 y2 y3 y4 y5 y6 y7 n, fuel = n + 1 ∧ x = (.agg [y0.1, y1.1, y2.1, y3.1, y4.1, y5.1, y6.1, y7.1], y0.2 ++ (y1.2 ++ (y2.2 ++ (y3.2 ++ (y4.2 ++ (y5.2 ++ (y6.2 ++ (y7.2)))))))) ∧ cs.length = P.cellsOf t ∧ DataW.trod enc P W 0 (fun _ => true) true n f0.type ((cs.drop f0.offset).take (P.cellsOf f0.type)) = some y0 ∧ DataW.trod enc P W 0 (fun _ => true) true n f1.type ((cs.drop f1.offset).take (P.cellsOf f1.type)) = some y1 ∧ DataW.trod enc P W 0 (fun _ => true) true n f2.type ((cs.drop f2.offset).take (P.cellsOf f2.type)) = some y2 ∧ DataW.trod enc P W 0 (fun _ => true) true n f3.type ((cs.drop f3.offset).take (P.cellsOf f3.type)) = some y3 ∧ DataW.trod enc P W 0 (fun _ => true) true n f4.type ((cs.drop f4.offset).take (P.cellsOf f4.type)) = some y4 ∧ DataW.trod enc P W 0 (fun _ => true) true n f5.type ((cs.drop f5.offset).take (P.cellsOf f5.type)) = some y5 ∧ DataW.trod enc P W 0 (fun _ => true) true n f6.type ((cs.drop f6.offset).take (P.cellsOf f6.type)) = some y6 ∧ DataW.trod enc P W 0 (fun _ => true) true n f7.type ((cs.drop f7.offset).take (P.cellsOf f7.type)) = some y7 := by
  obtain ⟨xs, n, e, rfl, hl, hlen, hf⟩ := DataW.trod_struct ht h
  match xs, hlen with
  | [y0, y1, y2, y3, y4, y5, y6, y7], _ => exact ⟨y0, y1, y2, y3, y4, y5, y6, y7, n, e, by simp, hl, by simpa using hf 0 f0 rfl, by simpa using hf 1 f1 rfl, by simpa using hf 2 f2 rfl, by simpa using hf 3 f3 rfl, by simpa using hf 4 f4 rfl, by simpa using hf 5 f5 rfl, by simpa using hf 6 f6 rfl, by simpa using hf 7 f7 rfl⟩
theorem structN10 {P : Program} {t : TypeId} {f0 f1 f2 f3 f4 f5 f6 f7 f8 f9 : Field} {fuel : Nat} {cs : List Value} {x : DataW H × List MemPlace} (ht : P.underlying t = some (.struct #[f0, f1, f2, f3, f4, f5, f6, f7, f8, f9])) (h : DataW.trod enc P W 0 (fun _ => true) true fuel t cs = some x) :
    ∃ y0 y1 y2 y3 y4 y5 y6 y7 y8 y9 n, fuel = n + 1 ∧ x = (.agg [y0.1, y1.1, y2.1, y3.1, y4.1, y5.1, y6.1, y7.1, y8.1, y9.1], y0.2 ++ (y1.2 ++ (y2.2 ++ (y3.2 ++ (y4.2 ++ (y5.2 ++ (y6.2 ++ (y7.2 ++ (y8.2 ++ (y9.2)))))))))) ∧ cs.length = P.cellsOf t ∧ DataW.trod enc P W 0 (fun _ => true) true n f0.type ((cs.drop f0.offset).take (P.cellsOf f0.type)) = some y0 ∧ DataW.trod enc P W 0 (fun _ => true) true n f1.type ((cs.drop f1.offset).take (P.cellsOf f1.type)) = some y1 ∧ DataW.trod enc P W 0 (fun _ => true) true n f2.type ((cs.drop f2.offset).take (P.cellsOf f2.type)) = some y2 ∧ DataW.trod enc P W 0 (fun _ => true) true n f3.type ((cs.drop f3.offset).take (P.cellsOf f3.type)) = some y3 ∧ DataW.trod enc P W 0 (fun _ => true) true n f4.type ((cs.drop f4.offset).take (P.cellsOf f4.type)) = some y4 ∧ DataW.trod enc P W 0 (fun _ => true) true n f5.type ((cs.drop f5.offset).take (P.cellsOf f5.type)) = some y5 ∧ DataW.trod enc P W 0 (fun _ => true) true n f6.type ((cs.drop f6.offset).take (P.cellsOf f6.type)) = some y6 ∧ DataW.trod enc P W 0 (fun _ => true) true n f7.type ((cs.drop f7.offset).take (P.cellsOf f7.type)) = some y7 ∧ DataW.trod enc P W 0 (fun _ => true) true n f8.type ((cs.drop f8.offset).take (P.cellsOf f8.type)) = some y8 ∧ DataW.trod enc P W 0 (fun _ => true) true n f9.type ((cs.drop f9.offset).take (P.cellsOf f9.type)) = some y9 := by
  obtain ⟨xs, n, e, rfl, hl, hlen, hf⟩ := DataW.trod_struct ht h
  match xs, hlen with
  | [y0, y1, y2, y3, y4, y5, y6, y7, y8, y9], _ => exact ⟨y0, y1, y2, y3, y4, y5, y6, y7, y8, y9, n, e, by simp, hl, by simpa using hf 0 f0 rfl, by simpa using hf 1 f1 rfl, by simpa using hf 2 f2 rfl, by simpa using hf 3 f3 rfl, by simpa using hf 4 f4 rfl, by simpa using hf 5 f5 rfl, by simpa using hf 6 f6 rfl, by simpa using hf 7 f7 rfl, by simpa using hf 8 f8 rfl, by simpa using hf 9 f9 rfl⟩
end
theorem lenN2 {α : Type} {l : List α} (h : l.length = 2) : ∃ a0 a1, l = [a0, a1] := by
  match l, h with | [a0, a1], _ => exact ⟨a0, a1, rfl⟩
theorem lenN3 {α : Type} {l : List α} (h : l.length = 3) : ∃ a0 a1 a2, l = [a0, a1, a2] := by
  match l, h with | [a0, a1, a2], _ => exact ⟨a0, a1, a2, rfl⟩
theorem lenN4 {α : Type} {l : List α} (h : l.length = 4) : ∃ a0 a1 a2 a3, l = [a0, a1, a2, a3] := by
  match l, h with | [a0, a1, a2, a3], _ => exact ⟨a0, a1, a2, a3, rfl⟩
theorem lenN5 {α : Type} {l : List α} (h : l.length = 5) : ∃ a0 a1 a2 a3 a4, l = [a0, a1, a2, a3, a4] := by
  match l, h with | [a0, a1, a2, a3, a4], _ => exact ⟨a0, a1, a2, a3, a4, rfl⟩
theorem lenN6 {α : Type} {l : List α} (h : l.length = 6) : ∃ a0 a1 a2 a3 a4 a5, l = [a0, a1, a2, a3, a4, a5] := by
  match l, h with | [a0, a1, a2, a3, a4, a5], _ => exact ⟨a0, a1, a2, a3, a4, a5, rfl⟩
theorem lenN8 {α : Type} {l : List α} (h : l.length = 8) : ∃ a0 a1 a2 a3 a4 a5 a6 a7, l = [a0, a1, a2, a3, a4, a5, a6, a7] := by
  match l, h with | [a0, a1, a2, a3, a4, a5, a6, a7], _ => exact ⟨a0, a1, a2, a3, a4, a5, a6, a7, rfl⟩
theorem lenN10 {α : Type} {l : List α} (h : l.length = 10) : ∃ a0 a1 a2 a3 a4 a5 a6 a7 a8 a9, l = [a0, a1, a2, a3, a4, a5, a6, a7, a8, a9] := by
  match l, h with | [a0, a1, a2, a3, a4, a5, a6, a7, a8, a9], _ => exact ⟨a0, a1, a2, a3, a4, a5, a6, a7, a8, a9, rfl⟩
theorem lenN11 {α : Type} {l : List α} (h : l.length = 11) : ∃ a0 a1 a2 a3 a4 a5 a6 a7 a8 a9 a10, l = [a0, a1, a2, a3, a4, a5, a6, a7, a8, a9, a10] := by
  match l, h with | [a0, a1, a2, a3, a4, a5, a6, a7, a8, a9, a10], _ => exact ⟨a0, a1, a2, a3, a4, a5, a6, a7, a8, a9, a10, rfl⟩
theorem lenN20 {α : Type} {l : List α} (h : l.length = 20) : ∃ a0 a1 a2 a3 a4 a5 a6 a7 a8 a9 a10 a11 a12 a13 a14 a15 a16 a17 a18 a19, l = [a0, a1, a2, a3, a4, a5, a6, a7, a8, a9, a10, a11, a12, a13, a14, a15, a16, a17, a18, a19] := by
  match l, h with | [a0, a1, a2, a3, a4, a5, a6, a7, a8, a9, a10, a11, a12, a13, a14, a15, a16, a17, a18, a19], _ => exact ⟨a0, a1, a2, a3, a4, a5, a6, a7, a8, a9, a10, a11, a12, a13, a14, a15, a16, a17, a18, a19, rfl⟩
theorem lenN23 {α : Type} {l : List α} (h : l.length = 23) : ∃ a0 a1 a2 a3 a4 a5 a6 a7 a8 a9 a10 a11 a12 a13 a14 a15 a16 a17 a18 a19 a20 a21 a22, l = [a0, a1, a2, a3, a4, a5, a6, a7, a8, a9, a10, a11, a12, a13, a14, a15, a16, a17, a18, a19, a20, a21, a22] := by
  match l, h with | [a0, a1, a2, a3, a4, a5, a6, a7, a8, a9, a10, a11, a12, a13, a14, a15, a16, a17, a18, a19, a20, a21, a22], _ => exact ⟨a0, a1, a2, a3, a4, a5, a6, a7, a8, a9, a10, a11, a12, a13, a14, a15, a16, a17, a18, a19, a20, a21, a22, rfl⟩
end Go.Proofs.YtinonofhladkpaaGreatDoor

/-! The law's size answers, whatever the op. -/
namespace Go.Proofs.YtinonofhladkpaaGreatDoor
open Go.RowKit Go.WideShapes Go.ChangeShapes Go.ChangeAt
set_option linter.unusedVariables false
theorem PartAt.wide {w : World} {B B' : Nat} {t : PT} {cs : List Value} (h : PartAt w (· < B) t cs) (hB : B ≤ B') : PartAt w (· < B') t cs := PartAt.more (fun b hb => Nat.lt_of_lt_of_le hb hB) _ _ h
/-- Elements of so many cells that lie one behind the other, each with a part from a place on. -/
def PRow (w : World) (S : Nat → Prop) (l : List PT) (a : Option Addr) (stride off : Nat) : Prop :=
  ∀ i (hi : i < l.length), ∃ b o a' c', a = some ⟨b, o, none⟩ ∧ S b ∧ CellsAt w b (o + i * stride + off) (partCells l[i] a' c') ∧ PartAt w S l[i] (partCells l[i] a' c')
theorem PRow.keep {w w' : World} {S : Nat → Prop} {l : List PT} {a : Option Addr} {s f : Nat} (hk : ∀ p : Addr, S p.block → w'.cell? p = w.cell? p) (h : PRow w S l a s f) : PRow w' S l a s f := fun i hi => by
  obtain ⟨b, o, a', c', e, hb, hc, hp⟩ := h i hi
  exact ⟨b, o, a', c', e, hb, hc.keep fun p hp => hk p (hp ▸ hb), PartAt.keep hk _ _ hp⟩
theorem PRow.below {w w' : World} {B : Nat} {l : List PT} {a : Option Addr} {s f : Nat} (h : PRow w (· < B) l a s f) (hb : Below B w w') : PRow w' (· < B) l a s f := h.keep fun _ hp => hb.cell hp
section
variable {H : Type} {enc : TypeId × Value → H} {W : World}
/-- A slice of structs that bear a part, opened. -/
theorem prow_of {e ts : TypeId} {s f : Nat} (ht : Tryz.prog.underlying ts = some (.slice e)) (hs : Tryz.prog.cellsOf e = s) (hf : f + 6 ≤ s) (hel : ∀ (n : Nat) (cs : List Value) (y : DataW H × List MemPlace), DataW.trod enc Tryz.prog W 0 (fun _ => true) true n e cs = some y → ∃ t, PartAt W (· < W.heap.size) t ((cs.drop f).take 6))
    {n : Nat} {c : Value} {y : DataW H × List MemPlace} (h : DataW.trod enc Tryz.prog W 0 (fun _ => true) true n ts [c] = some y) : ∃ (l : List PT) (a : Option Addr) (cap : Nat), c = .slice a l.length cap ∧ l.length ≤ maxLen ∧ PRow W (· < W.heap.size) l a s f := by
  rcases DataW.trod_slice ht h with ⟨h4, _⟩ | ⟨x, len, cap, elems, rest, m, hmk, h4, _, _, hlc, hcm, helen, hall, _⟩
  · simp only [List.cons.injEq, and_true] at h4
    subst h4
    exact ⟨[], none, 0, rfl, Nat.zero_le _, fun i hi => absurd hi (Nat.not_lt_zero i)⟩
  · simp only [List.cons.injEq, and_true] at h4
    subst h4
    have hex : ∀ i, i < len → ∃ t : PT, ∃ cs', W.cells? 0 (x.add (i * s)) s = some cs' ∧ PartAt W (· < W.heap.size) t ((cs'.drop f).take 6) := by
      intro i hi
      have h5 := hall i hi
      rw [hs, List.getElem?_eq_getElem (by omega)] at h5
      obtain ⟨cs', h6, h7⟩ := Option.bind_eq_some_iff.1 h5
      obtain ⟨t, ht⟩ := hel m cs' _ h7
      exact ⟨t, cs', h6, ht⟩
    obtain ⟨g, hg⟩ := Deep.choose_lt hex
    refine ⟨(List.range len).map g, some x, cap, by simp, by simp; omega, fun i hi => ?_⟩
    simp only [List.length_map, List.length_range] at hi
    obtain ⟨cs', h6, h7⟩ := hg i hi
    obtain ⟨_, hlen6, hget⟩ := World.cells?_some h6
    obtain ⟨a', c', hcs, _⟩ := h7.open
    have hx : x = ⟨x.block, x.off, none⟩ ∧ x.block < W.heap.size := by
      obtain ⟨cs0, k6, k7⟩ := hg 0 (by omega)
      obtain ⟨_, _, kget⟩ := World.cells?_some k6
      have g0 := kget 0 (by omega)
      have e0 : (x.add (0 * s)).add 0 = x := by simp [Addr.add]
      rw [e0] at g0
      have hsome : ∃ v, cs0[0]? = some v := by
        rw [List.getElem?_eq_getElem (by have := World.cells?_some k6; omega)]; exact ⟨_, rfl⟩
      obtain ⟨v, hv⟩ := hsome
      rw [hv] at g0
      exact ⟨cell_plainP g0, block_ltP g0⟩
    obtain ⟨b, o, hxb⟩ : ∃ b o, x = ⟨b, o, none⟩ := ⟨_, _, hx.1⟩
    subst hxb
    rw [hcs] at h7
    refine ⟨b, o, a', c', rfl, hx.2, fun j u hu => ?_, by simpa using h7⟩
    have hu' : (partCells (g i) a' c')[j]? = some u := by simpa using hu
    have hj : j < 6 := by have := (List.getElem?_eq_some_iff.1 hu').1; simpa [partCells] using this
    have gg := hget (f + j) (by omega)
    rw [add_plain, add_plain] at gg
    rw [Nat.add_assoc, Nat.add_assoc, ← Nat.add_assoc o, gg, ← hu', ← hcs, List.getElem?_take, if_pos hj, List.getElem?_drop]
theorem src_of (n : Nat) (cs : List Value) (y : DataW H × List MemPlace) (h : DataW.trod enc Tryz.prog W 0 (fun _ => true) true n 81 cs = some y) : ∃ t, PartAt W (· < W.heap.size) t ((cs.drop 1).take 6) := by
  obtain ⟨y0, y1, m, rfl, rfl, hl, t0, t1⟩ := structN2 Tryz.underlying81 h
  simp only [cellsPart] at t1
  exact part_of m _ _ t1
theorem bound_of (n : Nat) (cs : List Value) (y : DataW H × List MemPlace) (h : DataW.trod enc Tryz.prog W 0 (fun _ => true) true n 79 cs = some y) : ∃ t, PartAt W (· < W.heap.size) t ((cs.drop 2).take 6) := by
  obtain ⟨y0, y1, y2, m, rfl, rfl, hl, t0, t1, t2⟩ := structN3 Tryz.underlying79 h
  simp only [cellsPart] at t2
  exact part_of m _ _ t2
end
end Go.Proofs.YtinonofhladkpaaGreatDoor

/-! The law's size answers, whatever the op: the walk. -/
namespace Go.Proofs.YtinonofhladkpaaGreatDoor
open Go.RowKit Go.WideShapes Go.ChangeShapes Go.ChangeAt
set_option linter.unusedVariables false
/-- The cells of an op. -/
def opCells (kd : Int) (nm to tx ot : ByteArray) (p : PT) (pa : Option Addr) (pc : Nat) (q : PT) (qa : Option Addr) (qc : Nat) (ba : Option Addr) (bn bc : Nat) (st : Bool) (sx : ByteArray) (bk : Bool) (lm : Int) (la : Option Addr) (ln lc : Nat) : List Value :=
  [.int .i64 kd, .string nm, .string to, .string tx, .string ot, .int .u8 p.kind, .bool p.yes, .bool p.bel, .string p.mag, .string p.raw, .slice pa p.items.length pc,
   .int .u8 q.kind, .bool q.yes, .bool q.bel, .string q.mag, .string q.raw, .slice qa q.items.length qc, .slice ba bn bc, .bool st, .string sx, .bool bk, .int .i64 lm, .slice la ln lc]
section
variable {H : Type} {enc : TypeId × Value → H} {W : World}
theorem op_of {n : Nat} {cs : List Value} {y : DataW H × List MemPlace} (h : DataW.trod enc Tryz.prog W 0 (fun _ => true) true n 33 cs = some y) :
    ∃ kd nm to tx ot p pa pc q qa qc ba bc st sx bk lm la lc, ∃ (bs ls : List PT), cs = opCells kd nm to tx ot p pa pc q qa qc ba bs.length bc st sx bk lm la ls.length lc ∧ PartAt W (· < W.heap.size) p (partCells p pa pc) ∧ PartAt W (· < W.heap.size) q (partCells q qa qc) ∧
      PRow W (· < W.heap.size) bs ba 8 2 ∧ PRow W (· < W.heap.size) ls la 7 1 ∧ bs.length ≤ maxLen ∧ ls.length ≤ maxLen := by
  obtain ⟨y0, y1, y2, y3, y4, y5, y6, y7, m, rfl, rfl, hl, t0, t1, t2, t3, t4, t5, t6, t7⟩ := structN8 Tryz.underlying33 h
  rw [show Tryz.prog.cellsOf 33 = 23 by kernel_rfl] at hl
  obtain ⟨a0, a1, a2, a3, a4, a5, a6, a7, a8, a9, a10, a11, a12, a13, a14, a15, a16, a17, a18, a19, a20, a21, a22, rfl⟩ := lenN23 hl
  simp only [cellsPart, cellsStr, show Tryz.prog.cellsOf 3 = 1 by kernel_rfl, show Tryz.prog.cellsOf 30 = 11 by kernel_rfl, show Tryz.prog.cellsOf 31 = 1 by kernel_rfl, List.drop, List.take] at t0 t1 t2 t3 t4 t5 t6 t7
  obtain ⟨z0, z1, z2, z3, z4, z5, m', rfl, rfl, hl', u0, u1, u2, u3, u4, u5⟩ := structN6 Tryz.underlying30 t6
  simp only [cellsPart, cellsStr, cellsBool, show Tryz.prog.cellsOf 3 = 1 by kernel_rfl, show Tryz.prog.cellsOf 28 = 1 by kernel_rfl, List.drop, List.take] at u0 u1 u2 u3 u4 u5
  obtain ⟨kd, h0, _⟩ := DataW.trod_int Tryz.underlying3 t0
  obtain ⟨nm, h1, _⟩ := DataW.trod_string Tryz.underlying9 t1
  obtain ⟨to, h2, _⟩ := DataW.trod_string Tryz.underlying9 t2
  obtain ⟨tx, h3, _⟩ := DataW.trod_string Tryz.underlying9 t3
  obtain ⟨ot, h4, _⟩ := DataW.trod_string Tryz.underlying9 t4
  obtain ⟨p, hp⟩ := part_of _ _ _ t5
  obtain ⟨q, hq⟩ := part_of _ _ _ u0
  obtain ⟨pa, pc, e5, _⟩ := hp.open
  obtain ⟨qa, qc, e6, _⟩ := hq.open
  obtain ⟨bs, ba, bc, e7, hbl, hb⟩ := prow_of Tryz.underlying28 (by kernel_rfl : Tryz.prog.cellsOf 79 = 8) (f := 2) (by omega) bound_of u1
  obtain ⟨ls, la, lc, e8, hll, hl9⟩ := prow_of Tryz.underlying31 (by kernel_rfl : Tryz.prog.cellsOf 81 = 7) (f := 1) (by omega) src_of t7
  obtain ⟨st, h9, _⟩ := DataW.trod_bool Tryz.underlying4 u2
  obtain ⟨sx, h10, _⟩ := DataW.trod_string Tryz.underlying9 u3
  obtain ⟨bk, h11, _⟩ := DataW.trod_bool Tryz.underlying4 u4
  obtain ⟨lm, h12, _⟩ := DataW.trod_int Tryz.underlying3 u5
  refine ⟨kd, nm, to, tx, ot, p, pa, pc, q, qa, qc, ba, bc, st, sx, bk, lm, la, lc, bs, ls, ?_, e5 ▸ hp, e6 ▸ hq, hb, hl9, hbl, hll⟩
  simp only [partCells, List.cons.injEq, and_true] at h0 h1 h2 h3 h4 e5 e6 h9 h10 h11 h12
  obtain ⟨rfl, rfl, rfl, rfl, rfl, rfl⟩ := e5
  obtain ⟨rfl, rfl, rfl, rfl, rfl, rfl⟩ := e6
  subst h0 h1 h2 h3 h4 e7 e8 h9 h10 h11 h12
  rfl
end
theorem new_cells (w : World) (n : Nat) (cs : List Value) (T : TypeId) (hn : n = w.heap.size) : CellsAt (w.alloc (.cells cs.toArray T)) n 0 cs := fun i u hu => by
  subst hn
  rw [World.cell?_alloc_at _ _ _ _ (by simp)]
  simpa using hu
theorem keepC {w w' : World} {b o : Nat} {v : Value} (h : w.cell? ⟨b, o, none⟩ = some v) (hb : Below w.heap.size w w') : w'.cell? ⟨b, o, none⟩ = some v := (hb.cell (World.block_lt_of_cell? _ _ h)).trans h
theorem keepS {w0 w w' : World} {b : Nat} {v1 v2 v3 v4 v5 v6 v7 v8 v9 v10 v11 v12 v13 v14 v15 v16 v19 v17 v22 : Value} (h : w.cell? ⟨b, 1, none⟩ = some (v1) ∧ w.cell? ⟨b, 2, none⟩ = some (v2) ∧ w.cell? ⟨b, 3, none⟩ = some (v3) ∧ w.cell? ⟨b, 4, none⟩ = some (v4) ∧ w.cell? ⟨b, 5, none⟩ = some (v5) ∧ w.cell? ⟨b, 6, none⟩ = some (v6) ∧ w.cell? ⟨b, 7, none⟩ = some (v7) ∧ w.cell? ⟨b, 8, none⟩ = some (v8) ∧ w.cell? ⟨b, 9, none⟩ = some (v9) ∧ w.cell? ⟨b, 10, none⟩ = some (v10) ∧ w.cell? ⟨b, 11, none⟩ = some (v11) ∧ w.cell? ⟨b, 12, none⟩ = some (v12) ∧ w.cell? ⟨b, 13, none⟩ = some (v13) ∧ w.cell? ⟨b, 14, none⟩ = some (v14) ∧ w.cell? ⟨b, 15, none⟩ = some (v15) ∧ w.cell? ⟨b, 16, none⟩ = some (v16) ∧ w.cell? ⟨b, 19, none⟩ = some (v19) ∧ w.cell? ⟨b, 17, none⟩ = some (v17) ∧ w.cell? ⟨b, 22, none⟩ = some (v22) ∧ Below w0.heap.size w0 w ∧ w0.heap.size < w.heap.size) (hb : Below w.heap.size w w') : w'.cell? ⟨b, 1, none⟩ = some (v1) ∧ w'.cell? ⟨b, 2, none⟩ = some (v2) ∧ w'.cell? ⟨b, 3, none⟩ = some (v3) ∧ w'.cell? ⟨b, 4, none⟩ = some (v4) ∧ w'.cell? ⟨b, 5, none⟩ = some (v5) ∧ w'.cell? ⟨b, 6, none⟩ = some (v6) ∧ w'.cell? ⟨b, 7, none⟩ = some (v7) ∧ w'.cell? ⟨b, 8, none⟩ = some (v8) ∧ w'.cell? ⟨b, 9, none⟩ = some (v9) ∧ w'.cell? ⟨b, 10, none⟩ = some (v10) ∧ w'.cell? ⟨b, 11, none⟩ = some (v11) ∧ w'.cell? ⟨b, 12, none⟩ = some (v12) ∧ w'.cell? ⟨b, 13, none⟩ = some (v13) ∧ w'.cell? ⟨b, 14, none⟩ = some (v14) ∧ w'.cell? ⟨b, 15, none⟩ = some (v15) ∧ w'.cell? ⟨b, 16, none⟩ = some (v16) ∧ w'.cell? ⟨b, 19, none⟩ = some (v19) ∧ w'.cell? ⟨b, 17, none⟩ = some (v17) ∧ w'.cell? ⟨b, 22, none⟩ = some (v22) ∧ Below w0.heap.size w0 w' ∧ w0.heap.size < w'.heap.size :=
  ⟨keepC h.1 hb, keepC h.2.1 hb, keepC h.2.2.1 hb, keepC h.2.2.2.1 hb, keepC h.2.2.2.2.1 hb, keepC h.2.2.2.2.2.1 hb, keepC h.2.2.2.2.2.2.1 hb, keepC h.2.2.2.2.2.2.2.1 hb, keepC h.2.2.2.2.2.2.2.2.1 hb, keepC h.2.2.2.2.2.2.2.2.2.1 hb, keepC h.2.2.2.2.2.2.2.2.2.2.1 hb, keepC h.2.2.2.2.2.2.2.2.2.2.2.1 hb, keepC h.2.2.2.2.2.2.2.2.2.2.2.2.1 hb, keepC h.2.2.2.2.2.2.2.2.2.2.2.2.2.1 hb, keepC h.2.2.2.2.2.2.2.2.2.2.2.2.2.2.1 hb, keepC h.2.2.2.2.2.2.2.2.2.2.2.2.2.2.2.1 hb, keepC h.2.2.2.2.2.2.2.2.2.2.2.2.2.2.2.2.1 hb, keepC h.2.2.2.2.2.2.2.2.2.2.2.2.2.2.2.2.2.1 hb, keepC h.2.2.2.2.2.2.2.2.2.2.2.2.2.2.2.2.2.2.1 hb, h.2.2.2.2.2.2.2.2.2.2.2.2.2.2.2.2.2.2.2.1.trans (hb.mono (by have := h.2.2.2.2.2.2.2.2.2.2.2.2.2.2.2.2.2.2.2.2; omega)), by have := h.2.2.2.2.2.2.2.2.2.2.2.2.2.2.2.2.2.2.2.2; have := hb.size; omega⟩
set_option maxRecDepth 100000 in
set_option maxHeartbeats 4000000 in
theorem size_any (kd : Int) (nm to tx ot : ByteArray) (p : PT) (pa : Option Addr) (pc : Nat) (q : PT) (qa : Option Addr) (qc : Nat) (ba : Option Addr) (bc : Nat) (st : Bool) (sx : ByteArray) (bk : Bool) (lm : Int) (la : Option Addr) (lc : Nat) (bs ls : List PT) (w : World)
    (hp : PartAt w (· < w.heap.size) p (partCells p pa pc)) (hq : PartAt w (· < w.heap.size) q (partCells q qa qc)) (hb : PRow w (· < w.heap.size) bs ba 8 2) (hl : PRow w (· < w.heap.size) ls la 7 1) (hbl : bs.length ≤ maxLen) (hll : ls.length ≤ maxLen) :
    Calls Tryz.prog 5 #[.agg (opCells kd nm to tx ot p pa pc q qa qc ba bs.length bc st sx bk lm la ls.length lc).toArray] w (IntPost w) := by
  have HP := Lib.hid hp
  have HQ := Lib.hid hq
  have HBs := Lib.hid hb
  have HLs := Lib.hid hl
  have HC0 := Lib.hid (new_cells w w.heap.size (opCells kd nm to tx ot p pa pc q qa qc ba bs.length bc st sx bk lm la ls.length lc) 33 rfl)
  have HB0 := Lib.hid ((Below.refl w.heap.size w).alloc (Nat.le_refl _) (.cells (opCells kd nm to tx ot p pa pc q qa qc ba bs.length bc st sx bk lm la ls.length lc).toArray 33))
  have HD := Lib.hid (Deep_any p pa pc 0 _ ((hp.below HB0.out).wide (by simp)))
  clear hp hq hb hl
  unfold maxLen at hbl hll
  unfold opCells partCells at *
  go_enter Tryz.func5, Tryz.ntmps5
  go_wp2_with fail
  refine HD.out.mono ?_
  rintro e w1 ⟨n1, rfl, hb1⟩
  have hz1 : w.heap.size + 1 ≤ w1.heap.size := by have := hb1.size; simpa using this
  have HB1 := Lib.hid (HB0.out.trans (hb1.mono (by simp)))
  have HC1 := Lib.hid (CellsAt.keep HC0.out fun p hp => hb1.cell (by simp; omega))
  clear hb1 HB0 HC0 HD
  have c11 := HC1.out 11 _ rfl
  have c12 := HC1.out 12 _ rfl
  have c13 := HC1.out 13 _ rfl
  have c14 := HC1.out 14 _ rfl
  have c15 := HC1.out 15 _ rfl
  have c16 := HC1.out 16 _ rfl
  by_cases hn : 40 < n1
  · go_wp2_with fail
    go_ret
    exact ⟨_, rfl, HB1.out⟩
  · have HD := Lib.hid (Deep_any q qa qc 0 _ ((HQ.out.below HB1.out).wide (by omega)))
    unfold partCells at HD
    go_wp2_with fail
    refine HD.out.mono ?_
    rintro e w2 ⟨n2, rfl, hb2⟩
    have hz2 := hb2.size
    have HB2 := Lib.hid (HB1.out.trans (hb2.mono (by omega)))
    have HC2 := Lib.hid (HC1.out.keep fun p hp => hb2.cell (by omega))
    clear hb2 HB1 HC1 HD c11 c12 c13 c14 c15 c16
    by_cases hn2 : 40 < n2
    · go_wp2_with fail
      go_ret
      exact ⟨_, rfl, HB2.out⟩
    · have HS : (fun w' : World => w'.cell? ⟨w.heap.size, 1, none⟩ = some (.string nm) ∧ w'.cell? ⟨w.heap.size, 2, none⟩ = some (.string to) ∧ w'.cell? ⟨w.heap.size, 3, none⟩ = some (.string tx) ∧ w'.cell? ⟨w.heap.size, 4, none⟩ = some (.string ot) ∧ w'.cell? ⟨w.heap.size, 5, none⟩ = some (.int .u8 p.kind) ∧ w'.cell? ⟨w.heap.size, 6, none⟩ = some (.bool p.yes) ∧ w'.cell? ⟨w.heap.size, 7, none⟩ = some (.bool p.bel) ∧ w'.cell? ⟨w.heap.size, 8, none⟩ = some (.string p.mag) ∧ w'.cell? ⟨w.heap.size, 9, none⟩ = some (.string p.raw) ∧ w'.cell? ⟨w.heap.size, 10, none⟩ = some (.slice pa p.items.length pc) ∧ w'.cell? ⟨w.heap.size, 11, none⟩ = some (.int .u8 q.kind) ∧ w'.cell? ⟨w.heap.size, 12, none⟩ = some (.bool q.yes) ∧ w'.cell? ⟨w.heap.size, 13, none⟩ = some (.bool q.bel) ∧ w'.cell? ⟨w.heap.size, 14, none⟩ = some (.string q.mag) ∧ w'.cell? ⟨w.heap.size, 15, none⟩ = some (.string q.raw) ∧ w'.cell? ⟨w.heap.size, 16, none⟩ = some (.slice qa q.items.length qc) ∧ w'.cell? ⟨w.heap.size, 19, none⟩ = some (.string sx) ∧ w'.cell? ⟨w.heap.size, 17, none⟩ = some (.slice ba bs.length bc) ∧ w'.cell? ⟨w.heap.size, 22, none⟩ = some (.slice la ls.length lc) ∧ Below w.heap.size w w' ∧ w.heap.size < w'.heap.size) w2.drew := ⟨HC2.out 1 _ rfl, HC2.out 2 _ rfl, HC2.out 3 _ rfl, HC2.out 4 _ rfl, HC2.out 5 _ rfl, HC2.out 6 _ rfl, HC2.out 7 _ rfl, HC2.out 8 _ rfl, HC2.out 9 _ rfl, HC2.out 10 _ rfl, HC2.out 11 _ rfl, HC2.out 12 _ rfl, HC2.out 13 _ rfl, HC2.out 14 _ rfl, HC2.out 15 _ rfl, HC2.out 16 _ rfl, HC2.out 19 _ rfl, HC2.out 17 _ rfl, HC2.out 22 _ rfl, below_drewN HB2.out 1, (by show w.heap.size < w2.heap.size; omega)⟩
      have HWp := Lib.hid (fun (W' : World) (h : (fun w' : World => w'.cell? ⟨w.heap.size, 1, none⟩ = some (.string nm) ∧ w'.cell? ⟨w.heap.size, 2, none⟩ = some (.string to) ∧ w'.cell? ⟨w.heap.size, 3, none⟩ = some (.string tx) ∧ w'.cell? ⟨w.heap.size, 4, none⟩ = some (.string ot) ∧ w'.cell? ⟨w.heap.size, 5, none⟩ = some (.int .u8 p.kind) ∧ w'.cell? ⟨w.heap.size, 6, none⟩ = some (.bool p.yes) ∧ w'.cell? ⟨w.heap.size, 7, none⟩ = some (.bool p.bel) ∧ w'.cell? ⟨w.heap.size, 8, none⟩ = some (.string p.mag) ∧ w'.cell? ⟨w.heap.size, 9, none⟩ = some (.string p.raw) ∧ w'.cell? ⟨w.heap.size, 10, none⟩ = some (.slice pa p.items.length pc) ∧ w'.cell? ⟨w.heap.size, 11, none⟩ = some (.int .u8 q.kind) ∧ w'.cell? ⟨w.heap.size, 12, none⟩ = some (.bool q.yes) ∧ w'.cell? ⟨w.heap.size, 13, none⟩ = some (.bool q.bel) ∧ w'.cell? ⟨w.heap.size, 14, none⟩ = some (.string q.mag) ∧ w'.cell? ⟨w.heap.size, 15, none⟩ = some (.string q.raw) ∧ w'.cell? ⟨w.heap.size, 16, none⟩ = some (.slice qa q.items.length qc) ∧ w'.cell? ⟨w.heap.size, 19, none⟩ = some (.string sx) ∧ w'.cell? ⟨w.heap.size, 17, none⟩ = some (.slice ba bs.length bc) ∧ w'.cell? ⟨w.heap.size, 22, none⟩ = some (.slice la ls.length lc) ∧ Below w.heap.size w w' ∧ w.heap.size < w'.heap.size) W') => weight_any p pa pc W' ((HP.out.below h.2.2.2.2.2.2.2.2.2.2.2.2.2.2.2.2.2.2.2.1).wide (by have := h.2.2.2.2.2.2.2.2.2.2.2.2.2.2.2.2.2.2.2.2; omega)))
      have HWq := Lib.hid (fun (W' : World) (h : (fun w' : World => w'.cell? ⟨w.heap.size, 1, none⟩ = some (.string nm) ∧ w'.cell? ⟨w.heap.size, 2, none⟩ = some (.string to) ∧ w'.cell? ⟨w.heap.size, 3, none⟩ = some (.string tx) ∧ w'.cell? ⟨w.heap.size, 4, none⟩ = some (.string ot) ∧ w'.cell? ⟨w.heap.size, 5, none⟩ = some (.int .u8 p.kind) ∧ w'.cell? ⟨w.heap.size, 6, none⟩ = some (.bool p.yes) ∧ w'.cell? ⟨w.heap.size, 7, none⟩ = some (.bool p.bel) ∧ w'.cell? ⟨w.heap.size, 8, none⟩ = some (.string p.mag) ∧ w'.cell? ⟨w.heap.size, 9, none⟩ = some (.string p.raw) ∧ w'.cell? ⟨w.heap.size, 10, none⟩ = some (.slice pa p.items.length pc) ∧ w'.cell? ⟨w.heap.size, 11, none⟩ = some (.int .u8 q.kind) ∧ w'.cell? ⟨w.heap.size, 12, none⟩ = some (.bool q.yes) ∧ w'.cell? ⟨w.heap.size, 13, none⟩ = some (.bool q.bel) ∧ w'.cell? ⟨w.heap.size, 14, none⟩ = some (.string q.mag) ∧ w'.cell? ⟨w.heap.size, 15, none⟩ = some (.string q.raw) ∧ w'.cell? ⟨w.heap.size, 16, none⟩ = some (.slice qa q.items.length qc) ∧ w'.cell? ⟨w.heap.size, 19, none⟩ = some (.string sx) ∧ w'.cell? ⟨w.heap.size, 17, none⟩ = some (.slice ba bs.length bc) ∧ w'.cell? ⟨w.heap.size, 22, none⟩ = some (.slice la ls.length lc) ∧ Below w.heap.size w w' ∧ w.heap.size < w'.heap.size) W') => weight_any q qa qc W' ((HQ.out.below h.2.2.2.2.2.2.2.2.2.2.2.2.2.2.2.2.2.2.2.1).wide (by have := h.2.2.2.2.2.2.2.2.2.2.2.2.2.2.2.2.2.2.2.2; omega)))
      unfold partCells at HWp HWq
      clear HC2
      go_wp2_with fail
      go_region_held3 (fun w' : World => w'.cell? ⟨w.heap.size, 1, none⟩ = some (.string nm) ∧ w'.cell? ⟨w.heap.size, 2, none⟩ = some (.string to) ∧ w'.cell? ⟨w.heap.size, 3, none⟩ = some (.string tx) ∧ w'.cell? ⟨w.heap.size, 4, none⟩ = some (.string ot) ∧ w'.cell? ⟨w.heap.size, 5, none⟩ = some (.int .u8 p.kind) ∧ w'.cell? ⟨w.heap.size, 6, none⟩ = some (.bool p.yes) ∧ w'.cell? ⟨w.heap.size, 7, none⟩ = some (.bool p.bel) ∧ w'.cell? ⟨w.heap.size, 8, none⟩ = some (.string p.mag) ∧ w'.cell? ⟨w.heap.size, 9, none⟩ = some (.string p.raw) ∧ w'.cell? ⟨w.heap.size, 10, none⟩ = some (.slice pa p.items.length pc) ∧ w'.cell? ⟨w.heap.size, 11, none⟩ = some (.int .u8 q.kind) ∧ w'.cell? ⟨w.heap.size, 12, none⟩ = some (.bool q.yes) ∧ w'.cell? ⟨w.heap.size, 13, none⟩ = some (.bool q.bel) ∧ w'.cell? ⟨w.heap.size, 14, none⟩ = some (.string q.mag) ∧ w'.cell? ⟨w.heap.size, 15, none⟩ = some (.string q.raw) ∧ w'.cell? ⟨w.heap.size, 16, none⟩ = some (.slice qa q.items.length qc) ∧ w'.cell? ⟨w.heap.size, 19, none⟩ = some (.string sx) ∧ w'.cell? ⟨w.heap.size, 17, none⟩ = some (.slice ba bs.length bc) ∧ w'.cell? ⟨w.heap.size, 22, none⟩ = some (.slice la ls.length lc) ∧ Below w.heap.size w w' ∧ w.heap.size < w'.heap.size) (first | assumption | exact keepS (by assumption) (by assumption))
        (first | (go_at_call_of 26 (Value.agg #[.int .u8 p.kind, .bool p.yes, .bool p.bel, .string p.mag, .string p.raw, .slice pa p.items.length pc]); refine (HWp.out _ (by assumption)).mono ?_; rintro e w' ⟨n, rfl, hb⟩) | (go_at_call_of 26 (Value.agg #[.int .u8 q.kind, .bool q.yes, .bool q.bel, .string q.mag, .string q.raw, .slice qa q.items.length qc]); refine (HWq.out _ (by assumption)).mono ?_; rintro e w' ⟨n, rfl, hb⟩))
      rename _ ∧ _ => hS
      have HB3 := Lib.hid (hS.2.2.2.2.2.2.2.2.2.2.2.2.2.2.2.2.2.2.2.1)
      have hz3 := hS.2.2.2.2.2.2.2.2.2.2.2.2.2.2.2.2.2.2.2.2
      have HK3 := Lib.hid (And.intro (show w'.cell? ⟨w.heap.size, 17, none⟩ = some (.slice ba bs.length bc) from hS.2.2.2.2.2.2.2.2.2.2.2.2.2.2.2.2.2.1) (show w'.cell? ⟨w.heap.size, 22, none⟩ = some (.slice la ls.length lc) from hS.2.2.2.2.2.2.2.2.2.2.2.2.2.2.2.2.2.2.1))
      have k17 := HK3.out.1
      have k22 := HK3.out.2
      clear hS HS HWp HWq
      go_wp2_with fail
      go_loopw [3, 4] (fun n i wr => ∃ (k : Nat) (n' : Int), n = .int .i64 n' ∧ i = .int .i64 k ∧ k ≤ bs.length ∧ Hid (Below w.heap.size w wr) ∧ Hid (wr.cell? ⟨w.heap.size, 17, none⟩ = some (.slice ba bs.length bc) ∧ wr.cell? ⟨w.heap.size, 22, none⟩ = some (.slice la ls.length lc)) ∧ w.heap.size < wr.heap.size) (fun _ i _ => bs.length - (intOf i).toNat)
      case atStart => exact ⟨0, _, rfl, rfl, by omega, HB3, HK3, hz3⟩
      case round =>
        clear HB3 HK3 hz3 k17 k22
        obtain ⟨k, n', rfl, rfl, hk, HB, HK, hwz⟩ := hrel
        have k17 := HK.out.1
        have k22 := HK.out.2
        by_cases hlt : k < bs.length
        · by_cases hnn : n' ≤ 16777216
          · obtain ⟨b, o, a', c', rfl, hb, hc, hpa⟩ := (HBs.out.below HB.out) k hlt
            have HPA := Lib.hid (PartAt.wide hpa (by omega : w.heap.size ≤ wr.heap.size))
            have HC := Lib.hid hc
            have hblt : b < wr.heap.size := by have := hb; omega
            have HD := Lib.hid (Deep_any _ _ _ 0 _ HPA.out)
            have HW' := Lib.hid (weight_any bs[k] a' c')
            unfold partCells at HD HW'
            have d0 := HC.out 0 _ rfl
            have d1 := HC.out 1 _ rfl
            have d2 := HC.out 2 _ rfl
            have d3 := HC.out 3 _ rfl
            have d4 := HC.out 4 _ rfl
            have d5 := HC.out 5 _ rfl
            clear hpa hc
            go_wp2_with fail
            refine HD.out.mono ?_
            rintro e w3 ⟨n3, rfl, hb3⟩
            have hz3 := hb3.size
            have HB3 := Lib.hid (HB.out.trans (hb3.mono (by omega)))
            have HK3 := Lib.hid (And.intro (keepC HK.out.1 hb3) (keepC HK.out.2 hb3))
            have HPA3 := Lib.hid ((HPA.out.below hb3).wide hz3)
            have HC3 := Lib.hid (HC.out.keep fun p hp => hb3.cell (by omega))
            clear hb3 HB HK HPA HD HC k17 k22 d0 d1 d2 d3 d4 d5
            have k17 := HK3.out.1
            have k22 := HK3.out.2
            have d0 := HC3.out 0 _ rfl
            have d1 := HC3.out 1 _ rfl
            have d2 := HC3.out 2 _ rfl
            have d3 := HC3.out 3 _ rfl
            have d4 := HC3.out 4 _ rfl
            have d5 := HC3.out 5 _ rfl
            by_cases hd : 40 < n3
            · go_wp2_with fail
              go_ret
              exact ⟨_, rfl, HB3.out⟩
            · go_wp2_with fail
              refine (HW'.out _ HPA3.out).mono ?_
              rintro e w4 ⟨n4, rfl, hb4⟩
              have hz4 := hb4.size
              have HB4 := Lib.hid (HB3.out.trans (hb4.mono (by omega)))
              have HK4 := Lib.hid (And.intro (keepC HK3.out.1 hb4) (keepC HK3.out.2 hb4))
              clear hb4 HB3 HK3 HC3 d0 d1 d2 d3 d4 d5 k17 k22 HPA3
              go_wp2_with fail
              go_roundw
              case rel => exact ⟨k + 1, _, rfl, by go_num, by omega, HB4, HK4, by omega⟩
              case measure => simp [intOf]; omega
          · have hn' : 16777216 < n' := by omega
            clear hnn
            go_wp2_with fail
            have HB3 := HB
            have HK3 := HK
            have hz3 := hwz
            clear HB HK hwz
            clear k17 k22 hlt hn'
            repeat (rename _ < n' => hh; clear hh)
            go_loopw [3, 5] (fun n i wr => ∃ (k : Nat) (n' : Int), n = .int .i64 n' ∧ i = .int .i64 k ∧ k ≤ ls.length ∧ Hid (Below w.heap.size w wr) ∧ Hid (wr.cell? ⟨w.heap.size, 17, none⟩ = some (.slice ba bs.length bc) ∧ wr.cell? ⟨w.heap.size, 22, none⟩ = some (.slice la ls.length lc)) ∧ w.heap.size < wr.heap.size) (fun _ i _ => ls.length - (intOf i).toNat)
            case atStart => exact ⟨0, _, rfl, rfl, by omega, HB3, HK3, hz3⟩
            case round =>
              clear HB3 HK3 hz3
              obtain ⟨k, n', rfl, rfl, hk, HB, HK, hwz⟩ := hrel
              have k17 := HK.out.1
              have k22 := HK.out.2
              by_cases hlt : k < ls.length
              · by_cases hnn : n' ≤ 16777216
                · obtain ⟨b, o, a', c', rfl, hb, hc, hpa⟩ := (HLs.out.below HB.out) k hlt
                  have HPA := Lib.hid (PartAt.wide hpa (by omega : w.heap.size ≤ wr.heap.size))
                  have HC := Lib.hid hc
                  have hblt : b < wr.heap.size := by have := hb; omega
                  have HD := Lib.hid (Deep_any _ _ _ 0 _ HPA.out)
                  have HW' := Lib.hid (weight_any ls[k] a' c')
                  unfold partCells at HD HW'
                  have d0 := HC.out 0 _ rfl
                  have d1 := HC.out 1 _ rfl
                  have d2 := HC.out 2 _ rfl
                  have d3 := HC.out 3 _ rfl
                  have d4 := HC.out 4 _ rfl
                  have d5 := HC.out 5 _ rfl
                  clear hpa hc
                  go_wp2_with fail
                  refine HD.out.mono ?_
                  rintro e w3 ⟨n3, rfl, hb3⟩
                  have hz3 := hb3.size
                  have HB3 := Lib.hid (HB.out.trans (hb3.mono (by omega)))
                  have HK3 := Lib.hid (And.intro (keepC HK.out.1 hb3) (keepC HK.out.2 hb3))
                  have HPA3 := Lib.hid ((HPA.out.below hb3).wide hz3)
                  have HC3 := Lib.hid (HC.out.keep fun p hp => hb3.cell (by omega))
                  clear hb3 HB HK HPA HD HC k17 k22 d0 d1 d2 d3 d4 d5
                  have k17 := HK3.out.1
                  have k22 := HK3.out.2
                  have d0 := HC3.out 0 _ rfl
                  have d1 := HC3.out 1 _ rfl
                  have d2 := HC3.out 2 _ rfl
                  have d3 := HC3.out 3 _ rfl
                  have d4 := HC3.out 4 _ rfl
                  have d5 := HC3.out 5 _ rfl
                  by_cases hd : 40 < n3
                  · go_wp2_with fail
                    go_ret
                    exact ⟨_, rfl, HB3.out⟩
                  · go_wp2_with fail
                    refine (HW'.out _ HPA3.out).mono ?_
                    rintro e w4 ⟨n4, rfl, hb4⟩
                    have hz4 := hb4.size
                    have HB4 := Lib.hid (HB3.out.trans (hb4.mono (by omega)))
                    have HK4 := Lib.hid (And.intro (keepC HK3.out.1 hb4) (keepC HK3.out.2 hb4))
                    clear hb4 HB3 HK3 HC3 d0 d1 d2 d3 d4 d5 k17 k22 HPA3
                    go_wp2_with fail
                    go_roundw
                    case rel => exact ⟨k + 1, _, rfl, by go_num, by omega, HB4, HK4, by omega⟩
                    case measure => simp [intOf]; omega
                · have hn' : 16777216 < n' := by omega
                  clear hnn
                  go_wp2_with fail
                  go_ret
                  exact ⟨_, rfl, HB.out⟩
              · go_wp2_with fail
                go_ret
                exact ⟨_, rfl, HB.out⟩
        · go_wp2_with fail
          have HB3 := HB
          have HK3 := HK
          have hz3 := hwz
          clear HB HK hwz k17 k22 hlt
          go_loopw [3, 5] (fun n i wr => ∃ (k : Nat) (n' : Int), n = .int .i64 n' ∧ i = .int .i64 k ∧ k ≤ ls.length ∧ Hid (Below w.heap.size w wr) ∧ Hid (wr.cell? ⟨w.heap.size, 17, none⟩ = some (.slice ba bs.length bc) ∧ wr.cell? ⟨w.heap.size, 22, none⟩ = some (.slice la ls.length lc)) ∧ w.heap.size < wr.heap.size) (fun _ i _ => ls.length - (intOf i).toNat)
          case atStart => exact ⟨0, _, rfl, rfl, by omega, HB3, HK3, hz3⟩
          case round =>
            clear HB3 HK3 hz3
            obtain ⟨k, n', rfl, rfl, hk, HB, HK, hwz⟩ := hrel
            have k17 := HK.out.1
            have k22 := HK.out.2
            by_cases hlt : k < ls.length
            · by_cases hnn : n' ≤ 16777216
              · obtain ⟨b, o, a', c', rfl, hb, hc, hpa⟩ := (HLs.out.below HB.out) k hlt
                have HPA := Lib.hid (PartAt.wide hpa (by omega : w.heap.size ≤ wr.heap.size))
                have HC := Lib.hid hc
                have hblt : b < wr.heap.size := by have := hb; omega
                have HD := Lib.hid (Deep_any _ _ _ 0 _ HPA.out)
                have HW' := Lib.hid (weight_any ls[k] a' c')
                unfold partCells at HD HW'
                have d0 := HC.out 0 _ rfl
                have d1 := HC.out 1 _ rfl
                have d2 := HC.out 2 _ rfl
                have d3 := HC.out 3 _ rfl
                have d4 := HC.out 4 _ rfl
                have d5 := HC.out 5 _ rfl
                clear hpa hc
                go_wp2_with fail
                refine HD.out.mono ?_
                rintro e w3 ⟨n3, rfl, hb3⟩
                have hz3 := hb3.size
                have HB3 := Lib.hid (HB.out.trans (hb3.mono (by omega)))
                have HK3 := Lib.hid (And.intro (keepC HK.out.1 hb3) (keepC HK.out.2 hb3))
                have HPA3 := Lib.hid ((HPA.out.below hb3).wide hz3)
                have HC3 := Lib.hid (HC.out.keep fun p hp => hb3.cell (by omega))
                clear hb3 HB HK HPA HD HC k17 k22 d0 d1 d2 d3 d4 d5
                have k17 := HK3.out.1
                have k22 := HK3.out.2
                have d0 := HC3.out 0 _ rfl
                have d1 := HC3.out 1 _ rfl
                have d2 := HC3.out 2 _ rfl
                have d3 := HC3.out 3 _ rfl
                have d4 := HC3.out 4 _ rfl
                have d5 := HC3.out 5 _ rfl
                by_cases hd : 40 < n3
                · go_wp2_with fail
                  go_ret
                  exact ⟨_, rfl, HB3.out⟩
                · go_wp2_with fail
                  refine (HW'.out _ HPA3.out).mono ?_
                  rintro e w4 ⟨n4, rfl, hb4⟩
                  have hz4 := hb4.size
                  have HB4 := Lib.hid (HB3.out.trans (hb4.mono (by omega)))
                  have HK4 := Lib.hid (And.intro (keepC HK3.out.1 hb4) (keepC HK3.out.2 hb4))
                  clear hb4 HB3 HK3 HC3 d0 d1 d2 d3 d4 d5 k17 k22 HPA3
                  go_wp2_with fail
                  go_roundw
                  case rel => exact ⟨k + 1, _, rfl, by go_num, by omega, HB4, HK4, by omega⟩
                  case measure => simp [intOf]; omega
              · have hn' : 16777216 < n' := by omega
                clear hnn
                go_wp2_with fail
                go_ret
                exact ⟨_, rfl, HB.out⟩
            · go_wp2_with fail
              go_ret
              exact ⟨_, rfl, HB.out⟩
end Go.Proofs.YtinonofhladkpaaGreatDoor

/-! A box of many cells, read whole. -/
namespace Go.Proofs.YtinonofhladkpaaGreatDoor
set_option linter.unusedVariables false
open Ev
theorem load_row {P : Program} {t : TypeId} {info : TypeInfo} (ha : isAggB P t = some true) (hi : P.info? t = some info) {w : World} {b : Nat} {l : List Value} (hl : l.length = info.size) (h : CellsAt w b 0 l) : (Instr.loadAt t (.pointer (some ⟨b, 0, none⟩))).run P w = .ok (.agg l.toArray) w := by
  have hsa : ∀ w, (Instr.sureAddr (.pointer (some ⟨b, 0, none⟩))).run P w = .ok ⟨b, 0, none⟩ w := fun w => rfl
  have h1 := run_loadCells (P := P) w ⟨b, 0, none⟩ info.size (fun j => l.getD j undef) (fun j hj => by
    have := h j _ (List.getElem?_eq_getElem (by omega))
    rw [add_is]
    simpa [List.getD, List.getElem?_eq_getElem (show j < l.length by omega)] using this)
  have h2 : (List.range info.size).map (fun j => l.getD j undef) = l := by
    apply List.ext_getElem (by simp [hl])
    intro j h3 h4
    simp [List.getD, h4]
  rw [h2] at h1
  rw [Instr.loadAt, Sem.run_bind, hsa]
  simp only [Result.andThen]
  rw [loadVar, Sem.run_bind, run_isAgg ha]
  simp only [Result.andThen, if_true]
  rw [Sem.run_bind, run_sizeOf w hi]
  simp only [Result.andThen, Program.cellsOf, hi]
  rw [Sem.run_bind]
  simp only [Option.map_some, Option.getD_some]
  rw [h1]; rfl
theorem wp_load_row {P : Program} {t ty : TypeId} {x : Operand} {dst : Option Tmp} {pos : String} {after : Array Edge} {g : Option (Nat × Bool)} (ha : isAggB P t = some true) {a : Act} {w : World} {b : Nat} {l : List Value} (hs : (P.info? t).map (·.size) = some l.length)
    (hx : a.eval x = .pointer (some ⟨b, 0, none⟩)) (h : CellsAt w b 0 l) {K : Act → World → Prop} {Q : Exit → Act → World → Prop} (hk : K (a.put dst (.agg l.toArray)) w) : Oper.wp P { dst := dst, op := .load t x, type := ty, pos := pos, after := after, guard := g } a w K Q := by
  obtain ⟨info, hi, hl⟩ := Option.map_eq_some_iff.1 hs
  unfold Oper.wp
  have e : (execOp a.eval { dst := dst, op := .load t x, type := ty, pos := pos, after := after, guard := g }).run P w = .ok (.value (.agg l.toArray)) w := by
    show ((Instr.loadAt t (a.eval x)) >>= fun v => (pure (Next.value v) : Sem Next)).run P w = _
    rw [hx, Sem.run_bind, load_row ha hi hl.symm h]; rfl
  rw [e]; exact hk
end Go.Proofs.YtinonofhladkpaaGreatDoor
