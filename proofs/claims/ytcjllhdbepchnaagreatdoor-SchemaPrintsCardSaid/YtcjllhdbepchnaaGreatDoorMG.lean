/-
  Words of our own on memory: a slice that reads as a list of one-cell values; rows that a call owns.
-/
import Derived.Below
import Derived.RangeFuncBox
import Derived.RangeFuncNested
import Derived.Laws.OwnMore
import Derived.Deep.Draws
import Derived.Lib.Hide
import Derived.Test.YtcjllhdbepchnaaGreatDoorProg
import Derived.ProofKit
import Derived.OpenShut
import Derived.Deep.Slices
import Derived.Deep.Strs
import Derived.Test.YtcjllhdbepchnaaGreatDoorMF
import Derived.WalkKit
import Derived.Outline
import Derived.BigQuiet
import Derived.Deep.QuietTactic
import Derived.OwnWalk
import Derived.Maps.AppendAt
import Derived.Deep.AppendLies
import Derived.Handy
import Derived.Deep.RegionHeld3
import Derived.WalkLawsBesides
/-! Words of our own on memory: a slice that reads as a list of one-cell values; rows that a call owns. -/
namespace Go.Proofs.YtcjllhdbepchnaaGreatDoor
open Go.RowKit

theorem ret_bool {a b : Bool} (h : a = b) : Ending.returned (.bool a) = .returned (.bool b) := by rw [h]
theorem ret_int {k : IntKind} {a b : Int} (h : a = b) : Ending.returned (.int k a) = .returned (.int k b) := by rw [h]

/-- The cells at b, o on are vs. -/
def CellsAt (w : World) (b o : Nat) (vs : List Value) : Prop := ∀ i u, vs[i]? = some u → w.cell? ⟨b, o + i, none⟩ = some u
theorem CellsAt.keep {w w' : World} {b o : Nat} {vs : List Value} (h : CellsAt w b o vs) (hk : ∀ p : Addr, p.block = b → w'.cell? p = w.cell? p) : CellsAt w' b o vs := fun i u hu => (hk _ rfl).trans (h i u hu)
theorem CellsAt.at_ {w : World} {b o : Nat} {vs : List Value} (h : CellsAt w b o vs) {i : Nat} (hi : i < vs.length) : w.cell? ⟨b, o + i, none⟩ = some vs[i] := h i _ (List.getElem?_eq_getElem hi)
/-- The slice value v reads as the one-cell values vs, below block B. -/
def RowAt (w : World) (B : Nat) (v : Value) (vs : List Value) : Prop :=
  ∃ A c, v = .slice A vs.length c ∧ vs.length ≤ c ∧ (0 < vs.length → ∃ b o, A = some ⟨b, o, none⟩ ∧ b < B ∧ CellsAt w b o vs)
section
variable {w w' : World} {B B' : Nat} {v : Value} {vs : List Value}
theorem RowAt.nil (w : World) (B c : Nat) : RowAt w B (.slice none 0 c) [] := ⟨none, c, rfl, Nat.zero_le _, fun h => absurd h (by simp)⟩
theorem RowAt.keep (h : RowAt w B v vs) (hk : ∀ p : Addr, p.block < B → w'.cell? p = w.cell? p) : RowAt w' B v vs := by
  obtain ⟨A, c, e, hl, h⟩ := h
  refine ⟨A, c, e, hl, fun hp => ?_⟩
  obtain ⟨b, o, ea, hb, hc⟩ := h hp
  exact ⟨b, o, ea, hb, hc.keep fun p hp => hk p (by omega)⟩
theorem RowAt.below (h : RowAt w B v vs) (hb : Below B w w') : RowAt w' B v vs := h.keep fun _ hp => hb.cell hp
theorem RowAt.more (h : RowAt w B v vs) (hB : B ≤ B') : RowAt w B' v vs := by
  obtain ⟨A, c, e, hl, h⟩ := h
  refine ⟨A, c, e, hl, fun hp => ?_⟩
  obtain ⟨b, o, ea, hb, hc⟩ := h hp
  exact ⟨b, o, ea, by omega, hc⟩
theorem RowAt.drewN (h : RowAt w B v vs) (n : Nat) : RowAt (w.drewN n) B v vs := h.keep fun _ _ => rfl
theorem RowAt.alloc (h : RowAt w B v vs) (hB : B ≤ w.heap.size) (o : Obj) : RowAt (w.alloc o) B v vs := h.keep fun p hp => World.cell?_alloc_lt w o p (by omega)
theorem RowAt.setCell (h : RowAt w B v vs) {p : Addr} (hB : B ≤ p.block) (u : Value) : RowAt (w.setCell p u) B v vs :=
  h.keep fun q hq => World.cell?_setCell_other w p q u (fun e => by subst e; omega)
theorem RowAt.grown (h : RowAt w B v vs) {row : Option Nat} (hg : w.grownBy w' row) (hB : B ≤ w.heap.size) (hr : ∀ g, row = some g → B ≤ g) : RowAt w' B v vs :=
  h.keep fun p hp => World.cell?_of_block (hg.block p.block (by omega) (fun e => by have := hr _ e.symm; omega))
theorem RowAt.of_own {base : Nat} {e n : Nat} (h : w.ownsRow base e 1 v n vs) : RowAt w w.heap.size v vs := by
  have hlen : vs.length = n := by have := h.1; omega
  rcases h.2 with ⟨rfl, h0⟩ | ⟨g, cap, cur, rfl, hb, hg, hc, hm, hs, ht⟩
  · rw [h0] at hlen
    rw [List.eq_nil_of_length_eq_zero hlen]; exact RowAt.nil _ _ _
  · refine ⟨_, cap, by rw [hlen], by omega, fun _ => ⟨g, 0, rfl, (Array.getElem?_eq_some_iff.1 hg).1, fun i u hu => ?_⟩⟩
    have hi : i < n := by
      have := (List.getElem?_eq_some_iff.1 hu).1; omega
    rw [← ht, List.getElem?_take] at hu
    simp only [Nat.mul_one, hi, if_true] at hu
    simp [World.cell?, hg, ← hu]
theorem RowAt.len (h : RowAt w B v vs) : ∃ A c, v = .slice A vs.length c := by obtain ⟨A, c, e, _⟩ := h; exact ⟨A, c, e⟩
end
theorem row_ge {W : World} {n e size k : Nat} {v : Value} {xs : List Value} (h : W.ownsRow n e size v k xs) {g : Nat} (hg : v.ownBlock = some g) : n ≤ g := by
  rcases h.2 with ⟨rfl, _⟩ | ⟨g', cap, cur, rfl, hb, _, _⟩
  · simp [Value.ownBlock] at hg
  · obtain rfl : g' = g := by simpa [Value.ownBlock] using hg
    exact hb
theorem own_base {W : World} {n n' e size k : Nat} {v : Value} {xs : List Value} (h : W.ownsRow n e size v k xs) (hn : n' ≤ n) : W.ownsRow n' e size v k xs := by
  refine ⟨h.1, ?_⟩
  rcases h.2 with h0 | ⟨g, cap, cur, h1, hb, h2⟩
  · exact .inl h0
  · exact .inr ⟨g, cap, cur, h1, Nat.le_trans hn hb, h2⟩
theorem own_drewN {W : World} {n e size k : Nat} {v : Value} {xs : List Value} (h : W.ownsRow n e size v k xs) (q : Nat) : (W.drewN q).ownsRow n e size v k xs := h
/-- The numbers of a list, as values. -/
def ints (xs : List Int) : List Value := xs.map (Value.int .i64)
theorem ints_len (xs : List Int) : (ints xs).length = xs.length := by simp [ints]
theorem ints_get {xs : List Int} {i : Nat} (h : i < xs.length) : (ints xs)[i]? = some (.int .i64 xs[i]) := by simp [ints, h]
theorem RowAt.ints {w : World} {B : Nat} {v : Value} {xs : List Int} (h : RowAt w B v (ints xs)) :
    ∃ A c, v = .slice A xs.length c ∧ xs.length ≤ c ∧ (0 < xs.length → ∃ b o, A = some ⟨b, o, none⟩ ∧ b < B ∧ ∀ j (hj : j < xs.length), w.cell? ⟨b, o + j, none⟩ = some (.int .i64 xs[j])) := by
  obtain ⟨A, c, e, hl, h⟩ := h
  rw [ints_len] at e hl
  refine ⟨A, c, e, hl, fun hp => ?_⟩
  obtain ⟨b, o, ea, hb, hc⟩ := h (by rw [ints_len]; exact hp)
  exact ⟨b, o, ea, hb, fun j hj => hc j _ (ints_get hj)⟩
theorem below_drewN {B : Nat} {w w' : World} (h : Below B w w') (n : Nat) : Below B w (w'.drewN n) := by
  induction n with
  | zero => exact h
  | succ n ih => exact ih.drew
end Go.Proofs.YtcjllhdbepchnaaGreatDoor

/-! Parts as trees, and how they lie in memory. -/
namespace Go.Proofs.YtcjllhdbepchnaaGreatDoor
open Go.RowKit Go.ChangeShapes Go.WideShapes Go.ChangeAt
set_option linter.unusedVariables false
/-- A part, as a tree. -/
inductive PT where
  | mk (kind : Nat) (yes below : Bool) (mag raw : ByteArray) (items : List PT)
def PT.kind : PT → Nat | .mk k _ _ _ _ _ => k
def PT.yes : PT → Bool | .mk _ y _ _ _ _ => y
def PT.bel : PT → Bool | .mk _ _ b _ _ _ => b
def PT.mag : PT → ByteArray | .mk _ _ _ m _ _ => m
def PT.raw : PT → ByteArray | .mk _ _ _ _ r _ => r
def PT.items : PT → List PT | .mk _ _ _ _ _ l => l
instance : Inhabited PT := ⟨.mk 0 false false ⟨#[]⟩ ⟨#[]⟩ []⟩
/-- The six cells of a part. -/
def partCells (t : PT) (a : Option Addr) (c : Nat) : List Value := [.int .u8 t.kind, .bool t.yes, .bool t.bel, .string t.mag, .string t.raw, .slice a t.items.length c]
mutual
/-- Cells that read as a part, in blocks of S. -/
def PartAt (w : World) (S : Nat → Prop) : PT → List Value → Prop
  | .mk k y b m r l, cs => ∃ a c, cs = partCells (.mk k y b m r l) a c ∧ k < 256 ∧ m.size ≤ maxLen ∧ r.size ≤ maxLen ∧ l.length ≤ c ∧ c ≤ maxLen ∧ PartsAt w S l a
/-- Parts that lie one behind the other. -/
def PartsAt (w : World) (S : Nat → Prop) : List PT → Option Addr → Prop
  | [], _ => True
  | t :: l, a => ∃ b o cs, a = some ⟨b, o, none⟩ ∧ S b ∧ CellsAt w b o cs ∧ PartAt w S t cs ∧ PartsAt w S l (some ⟨b, o + 6, none⟩)
end
variable {w w' : World} {S S' : Nat → Prop}
mutual
theorem PartAt.keep (hk : ∀ p : Addr, S p.block → w'.cell? p = w.cell? p) : ∀ (t : PT) (cs : List Value), PartAt w S t cs → PartAt w' S t cs
  | .mk k y b m r l, cs, h => by
    obtain ⟨a, c, e, h1, h2, h3, h4, h5, h6⟩ := h
    exact ⟨a, c, e, h1, h2, h3, h4, h5, PartsAt.keep hk l a h6⟩
theorem PartsAt.keep (hk : ∀ p : Addr, S p.block → w'.cell? p = w.cell? p) : ∀ (l : List PT) (a : Option Addr), PartsAt w S l a → PartsAt w' S l a
  | [], _, _ => trivial
  | t :: l, a, h => by
    obtain ⟨b, o, cs, e, hb, hc, h1, h2⟩ := h
    exact ⟨b, o, cs, e, hb, hc.keep fun p hp => hk p (hp ▸ hb), PartAt.keep hk t cs h1, PartsAt.keep hk l _ h2⟩
end
mutual
theorem PartAt.more (hB : ∀ b, S b → S' b) : ∀ (t : PT) (cs : List Value), PartAt w S t cs → PartAt w S' t cs
  | .mk k y b m r l, cs, h => by
    obtain ⟨a, c, e, h1, h2, h3, h4, h5, h6⟩ := h
    exact ⟨a, c, e, h1, h2, h3, h4, h5, PartsAt.more hB l a h6⟩
theorem PartsAt.more (hB : ∀ b, S b → S' b) : ∀ (l : List PT) (a : Option Addr), PartsAt w S l a → PartsAt w S' l a
  | [], _, _ => trivial
  | t :: l, a, h => by
    obtain ⟨b, o, cs, e, hb, hc, h1, h2⟩ := h
    exact ⟨b, o, cs, e, hB b hb, hc, PartAt.more hB t cs h1, PartsAt.more hB l _ h2⟩
end
theorem PartAt.below {B : Nat} {t : PT} {cs : List Value} (h : PartAt w (· < B) t cs) (hb : Below B w w') : PartAt w' (· < B) t cs := PartAt.keep (fun _ hp => hb.cell hp) t cs h
theorem PartsAt.below {B : Nat} {l : List PT} {a : Option Addr} (h : PartsAt w (· < B) l a) (hb : Below B w w') : PartsAt w' (· < B) l a := PartsAt.keep (fun _ hp => hb.cell hp) l a h
/-- Opened. -/
theorem PartAt.open {t : PT} {cs : List Value} (h : PartAt w S t cs) : ∃ a c, cs = partCells t a c ∧ t.kind < 256 ∧ t.mag.size ≤ maxLen ∧ t.raw.size ≤ maxLen ∧ t.items.length ≤ c ∧ c ≤ maxLen ∧ PartsAt w S t.items a := by
  cases t; exact h
theorem PartAt.shut {t : PT} {a : Option Addr} {c : Nat} (h1 : t.kind < 256) (h2 : t.mag.size ≤ maxLen) (h3 : t.raw.size ≤ maxLen) (h4 : t.items.length ≤ c) (h5 : c ≤ maxLen) (h6 : PartsAt w S t.items a) : PartAt w S t (partCells t a c) := by
  cases t; exact ⟨a, c, rfl, h1, h2, h3, h4, h5, h6⟩
/-- The item at a place. -/
theorem PartsAt.get : ∀ {l : List PT} {a : Option Addr}, PartsAt w S l a → ∀ {i : Nat} (hi : i < l.length), ∃ b o a' c', a = some ⟨b, o, none⟩ ∧ S b ∧ CellsAt w b (o + i * 6) (partCells l[i] a' c') ∧ PartAt w S l[i] (partCells l[i] a' c')
  | [], _, _, i, hi => absurd hi (Nat.not_lt_zero i)
  | t :: l, a, h, i, hi => by
    obtain ⟨b, o, cs, e, hb, hc, h1, h2⟩ := h
    obtain ⟨a', c', rfl, _⟩ := h1.open
    cases i with
    | zero => exact ⟨b, o, a', c', e, hb, by simpa using hc, h1⟩
    | succ i =>
      have hi' : i < l.length := by simpa using hi
      obtain ⟨b', o', a2, c2, e', hb', hc', h1'⟩ := PartsAt.get h2 hi'
      simp only [Option.some.injEq, Addr.mk.injEq, and_true] at e'
      obtain ⟨rfl, rfl⟩ := e'
      refine ⟨b, o, a2, c2, e, hb, ?_, h1'⟩
      rw [show o + (i + 1) * 6 = o + 6 + i * 6 by omega]
      exact hc'
/-- Its cells, one by one. -/
theorem PartsAt.cells {l : List PT} {a : Option Addr} (h : PartsAt w S l a) {i : Nat} (hi : i < l.length) : ∃ b o a' c', a = some ⟨b, o, none⟩ ∧ S b ∧ w.cell? ⟨b, o + i * 6, none⟩ = some (.int .u8 l[i].kind) ∧ w.cell? ⟨b, o + i * 6 + 1, none⟩ = some (.bool l[i].yes) ∧
    w.cell? ⟨b, o + i * 6 + 2, none⟩ = some (.bool l[i].bel) ∧ w.cell? ⟨b, o + i * 6 + 3, none⟩ = some (.string l[i].mag) ∧ w.cell? ⟨b, o + i * 6 + 4, none⟩ = some (.string l[i].raw) ∧ w.cell? ⟨b, o + i * 6 + 5, none⟩ = some (.slice a' l[i].items.length c') ∧
    PartAt w S l[i] (partCells l[i] a' c') := by
  obtain ⟨b, o, a', c', e, hb, hc, h1⟩ := h.get hi
  exact ⟨b, o, a', c', e, hb, hc 0 _ rfl, hc 1 _ rfl, hc 2 _ rfl, hc 3 _ rfl, hc 4 _ rfl, hc 5 _ rfl, h1⟩
/-- Built of its items. -/
theorem PartsAt.of_get : ∀ {l : List PT} {b o : Nat}, (l = [] ∨ S b) → (∀ i (hi : i < l.length), ∃ cs, CellsAt w b (o + i * 6) cs ∧ PartAt w S l[i] cs) → PartsAt w S l (some ⟨b, o, none⟩)
  | [], _, _, _, _ => trivial
  | t :: l, b, o, hb, h => by
    have hb' : S b := hb.resolve_left (by simp)
    obtain ⟨cs, h1, h2⟩ := h 0 (by simp)
    refine ⟨b, o, cs, rfl, hb', by simpa using h1, by simpa using h2, PartsAt.of_get (.inr hb') fun i hi => ?_⟩
    obtain ⟨cs, h1, h2⟩ := h (i + 1) (by simpa using hi)
    exact ⟨cs, by rw [show o + 6 + i * 6 = o + (i + 1) * 6 by omega]; exact h1, by simpa using h2⟩
mutual
/-- What holds of a part if it holds of its items holds of all. -/
theorem PT.all {M : PT → Prop} (h : ∀ t : PT, (∀ x ∈ t.items, M x) → M t) : ∀ t, M t
  | .mk k y b m r l => h _ (PT.allL h l)
theorem PT.allL {M : PT → Prop} (h : ∀ t : PT, (∀ x ∈ t.items, M x) → M t) : ∀ (l : List PT), ∀ x ∈ l, M x
  | [], x, hx => by cases hx
  | t :: l, x, hx => (List.mem_cons.1 hx).elim (fun e => e ▸ PT.all h t) (fun hx => PT.allL h l x hx)
end
end Go.Proofs.YtcjllhdbepchnaaGreatDoor

/-! A part that is handed in, opened. -/
namespace Go.Proofs.YtcjllhdbepchnaaGreatDoor
open Go.RowKit Go.ChangeShapes Go.WideShapes Go.ChangeAt
set_option linter.unusedVariables false
theorem cellsPart : Tryz.prog.cellsOf 30 = 6 := by kernel_rfl
theorem cellsKind : Tryz.prog.cellsOf 25 = 1 := by kernel_rfl
theorem cellsBool : Tryz.prog.cellsOf 4 = 1 := by kernel_rfl
theorem cellsNum : Tryz.prog.cellsOf 27 = 2 := by kernel_rfl
theorem cellsStr : Tryz.prog.cellsOf 9 = 1 := by kernel_rfl
theorem cellsParts : Tryz.prog.cellsOf 28 = 1 := by kernel_rfl
theorem len2 {α : Type} {l : List α} (h : l.length = 2) : ∃ a b, l = [a, b] := by
  match l, h with | [a, b], _ => exact ⟨a, b, rfl⟩
theorem len6 {α : Type} {l : List α} (h : l.length = 6) : ∃ a b c d e f, l = [a, b, c, d, e, f] := by
  match l, h with | [a, b, c, d, e, f], _ => exact ⟨a, b, c, d, e, f, rfl⟩
theorem cell_plainP {w : World} {p : Addr} {v : Value} (h : w.cell? p = some v) : p = ⟨p.block, p.off, none⟩ := by
  have := World.cell?_spot h
  cases p with | mk b o s => simp only at this; subst this; rfl
theorem block_ltP {w : World} {p : Addr} {u : Value} (h : w.cell? p = some u) : p.block < w.heap.size := by
  unfold World.cell? at h
  split at h
  · rename_i hh; exact (Array.getElem?_eq_some_iff.1 hh).1
  · cases h
section
variable {H : Type} {enc : TypeId × Value → H} {W : World}
theorem trod_struct2n {P : Program} {t : TypeId} {f0 f1 : Field} {fuel : Nat} {cs : List Value} {x : DataW H × List MemPlace} (ht : P.underlying t = some (.struct #[f0, f1])) (h : DataW.trod enc P W 0 (fun _ => true) true fuel t cs = some x) :
    ∃ y0 y1 n, fuel = n + 1 ∧ cs.length = P.cellsOf t ∧ DataW.trod enc P W 0 (fun _ => true) true n f0.type ((cs.drop f0.offset).take (P.cellsOf f0.type)) = some y0 ∧ DataW.trod enc P W 0 (fun _ => true) true n f1.type ((cs.drop f1.offset).take (P.cellsOf f1.type)) = some y1 := by
  obtain ⟨xs, n, e, rfl, hl, hlen, hf⟩ := DataW.trod_struct ht h
  match xs, hlen with
  | [y0, y1], _ => exact ⟨y0, y1, n, e, hl, by simpa using hf 0 f0 rfl, by simpa using hf 1 f1 rfl⟩
theorem trod_struct5n {P : Program} {t : TypeId} {f0 f1 f2 f3 f4 : Field} {fuel : Nat} {cs : List Value} {x : DataW H × List MemPlace} (ht : P.underlying t = some (.struct #[f0, f1, f2, f3, f4])) (h : DataW.trod enc P W 0 (fun _ => true) true fuel t cs = some x) :
    ∃ y0 y1 y2 y3 y4 n, fuel = n + 1 ∧ cs.length = P.cellsOf t ∧ DataW.trod enc P W 0 (fun _ => true) true n f0.type ((cs.drop f0.offset).take (P.cellsOf f0.type)) = some y0 ∧ DataW.trod enc P W 0 (fun _ => true) true n f1.type ((cs.drop f1.offset).take (P.cellsOf f1.type)) = some y1 ∧
      DataW.trod enc P W 0 (fun _ => true) true n f2.type ((cs.drop f2.offset).take (P.cellsOf f2.type)) = some y2 ∧ DataW.trod enc P W 0 (fun _ => true) true n f3.type ((cs.drop f3.offset).take (P.cellsOf f3.type)) = some y3 ∧ DataW.trod enc P W 0 (fun _ => true) true n f4.type ((cs.drop f4.offset).take (P.cellsOf f4.type)) = some y4 := by
  obtain ⟨xs, n, e, rfl, hl, hlen, hf⟩ := DataW.trod_struct ht h
  match xs, hlen with
  | [y0, y1, y2, y3, y4], _ => exact ⟨y0, y1, y2, y3, y4, n, e, hl, by simpa using hf 0 f0 rfl, by simpa using hf 1 f1 rfl, by simpa using hf 2 f2 rfl, by simpa using hf 3 f3 rfl, by simpa using hf 4 f4 rfl⟩
theorem trod_num {n : Nat} {cs : List Value} {y : DataW H × List MemPlace} (h : DataW.trod enc Tryz.prog W 0 (fun _ => true) true n 27 cs = some y) : ∃ (b : Bool) (m : ByteArray), cs = [.bool b, .string m] ∧ m.size ≤ maxLen := by
  obtain ⟨x0, x1, k, rfl, hl, f0, f1⟩ := trod_struct2n Tryz.underlying27 h
  rw [cellsNum] at hl
  obtain ⟨c0, c1, rfl⟩ := len2 hl
  simp only [cellsBool, cellsStr, List.drop, List.take] at f0 f1
  obtain ⟨b, hb, _⟩ := DataW.trod_bool Tryz.underlying4 f0
  obtain ⟨m, hm, _, hw⟩ := DataW.trod_string Tryz.underlying9 f1
  simp only [List.cons.injEq, and_true] at hb hm
  subst hb hm
  exact ⟨b, m, rfl, hw⟩
theorem part_of : ∀ (n : Nat) (cs : List Value) (y : DataW H × List MemPlace), DataW.trod enc Tryz.prog W 0 (fun _ => true) true n 30 cs = some y → ∃ t, PartAt W (· < W.heap.size) t cs := by
  intro n
  induction n using Nat.strongRecOn with
  | _ n ih =>
    intro cs y h
    obtain ⟨x0, x1, x2, x3, x4, k, rfl, hl, f0, f1, f2, f3, f4⟩ := trod_struct5n Tryz.underlying30 h
    rw [cellsPart] at hl
    obtain ⟨c0, c1, c2, c3, c4, c5, rfl⟩ := len6 hl
    simp only [cellsKind, cellsBool, cellsNum, cellsStr, cellsParts, List.drop, List.take] at f0 f1 f2 f3 f4
    obtain ⟨kd, h0, _, hwf⟩ := DataW.trod_int Tryz.underlying25 f0
    obtain ⟨yes, h1, _⟩ := DataW.trod_bool Tryz.underlying4 f1
    obtain ⟨bel, mag, h2, hm⟩ := trod_num f2
    obtain ⟨raw, h3, _, hr⟩ := DataW.trod_string Tryz.underlying9 f3
    simp only [List.cons.injEq, and_true] at h0 h1 h2 h3
    obtain ⟨rfl, rfl⟩ := h2
    subst h0 h1 h3
    have hk : 0 ≤ kd ∧ kd < 256 := by
      have h9 : IntKind.u8.min ≤ kd ∧ kd ≤ IntKind.u8.max := by simpa [Lit.wf] using hwf
      exact ⟨h9.1, by have := h9.2; rw [show IntKind.u8.max = 255 from rfl] at this; omega⟩
    obtain ⟨k0, rfl⟩ := Int.eq_ofNat_of_zero_le hk.1
    rcases DataW.trod_slice Tryz.underlying28 f4 with ⟨h4, _⟩ | ⟨x, len, cap, elems, rest, m, hmk, h4, _, _, hlc, hcm, helen, hall, _⟩
    · simp only [List.cons.injEq, and_true] at h4
      subst h4
      exact ⟨.mk k0 yes bel mag raw [], none, 0, rfl, by omega, hm, hr, Nat.le_refl _, Nat.zero_le _, trivial⟩
    · simp only [List.cons.injEq, and_true] at h4
      subst h4
      have hex : ∀ i, i < len → ∃ t : PT, ∃ cs', W.cells? 0 (x.add (i * 6)) 6 = some cs' ∧ PartAt W (· < W.heap.size) t cs' := by
        intro i hi
        have h5 := hall i hi
        rw [cellsPart, List.getElem?_eq_getElem (by omega)] at h5
        obtain ⟨cs', h6, h7⟩ := Option.bind_eq_some_iff.1 h5
        obtain ⟨t, ht⟩ := ih m (by omega) cs' _ h7
        exact ⟨t, cs', h6, ht⟩
      obtain ⟨f, hfs⟩ := Deep.choose_lt hex
      have hlen' : ((List.range len).map f).length = len := by simp
      have hrow : PartsAt W (· < W.heap.size) ((List.range len).map f) (some x) := by
        by_cases h0 : len = 0
        · subst h0; trivial
        · have hx : x = ⟨x.block, x.off, none⟩ ∧ x.block < W.heap.size := by
            obtain ⟨cs', h6, h7⟩ := hfs 0 (by omega)
            obtain ⟨a', c', rfl, _⟩ := h7.open
            obtain ⟨_, _, hget⟩ := World.cells?_some h6
            have g0 := hget 0 (by omega)
            have e0 : (x.add (0 * 6)).add 0 = x := by simp [Addr.add]
            rw [e0] at g0
            exact ⟨cell_plainP g0, block_ltP g0⟩
          obtain ⟨b, o, hxb⟩ : ∃ b o, x = ⟨b, o, none⟩ := ⟨_, _, hx.1⟩
          subst hxb
          refine PartsAt.of_get (.inr hx.2) fun i hi => ?_
          rw [hlen'] at hi
          obtain ⟨cs', h6, h7⟩ := hfs i hi
          refine ⟨cs', fun j u hu => ?_, by simpa using h7⟩
          obtain ⟨_, hlen6, hget⟩ := World.cells?_some h6
          have hj : j < 6 := by have := (List.getElem?_eq_some_iff.1 hu).1; omega
          have g := hget j hj
          rw [add_plain, add_plain] at g
          rw [g, hu]
      have := PartAt.shut (t := .mk k0 yes bel mag raw ((List.range len).map f)) (a := some x) (c := cap) (by show k0 < 256; omega) hm hr (by show ((List.range len).map f).length ≤ cap; omega) hcm hrow
      refine ⟨.mk k0 yes bel mag raw ((List.range len).map f), ?_⟩
      simpa [partCells, PT.kind, PT.yes, PT.bel, PT.mag, PT.raw, PT.items] using this
end
end Go.Proofs.YtcjllhdbepchnaaGreatDoor

/-! Fields as trees, and how they lie in memory. -/
namespace Go.Proofs.YtcjllhdbepchnaaGreatDoor
open Go.RowKit Go.ChangeShapes Go.WideShapes Go.ChangeAt
set_option linter.unusedVariables false
/-- What a field says, but for its fields. -/
structure FS where
  name : ByteArray
  kind : Nat
  down : Bool
  nulls : Nat
  bnd : Bool
  lb : Bool
  lm : ByteArray
  hb : Bool
  hm : ByteArray
  most : Int
  st : Int
  sh : Bool
  ba : Bool
/-- A field, as a tree. -/
inductive FT where
  | mk (s : FS) (fields : List FT)
def FT.s : FT → FS | .mk s _ => s
def FT.fields : FT → List FT | .mk _ l => l
def FS.zero : FS := ⟨⟨#[]⟩, 0, false, 0, false, false, ⟨#[]⟩, false, ⟨#[]⟩, 0, 0, false, false⟩
instance : Inhabited FT := ⟨.mk .zero []⟩
/-- The cells ahead of the fields. -/
def FS.cells (s : FS) : List Value := [.string s.name, .int .u8 s.kind, .bool s.down, .int .u8 s.nulls, .bool s.bnd, .bool s.lb, .string s.lm, .bool s.hb, .string s.hm, .int .i64 s.most, .int .i64 s.st, .bool s.sh, .bool s.ba]
/-- What is known of them. -/
def FS.ok (s : FS) : Prop := s.name.size ≤ 140737488351232 ∧ s.kind < 256 ∧ s.nulls < 256 ∧ s.lm.size ≤ 140737488351232 ∧ s.hm.size ≤ 140737488351232 ∧ -9223372036854775808 ≤ s.most ∧ s.most ≤ 9223372036854775807 ∧ -9223372036854775808 ≤ s.st ∧ s.st ≤ 9223372036854775807
/-- The fourteen cells of a field. -/
def fieldCells (t : FT) (a : Option Addr) (c : Nat) : List Value := [.string t.s.name, .int .u8 t.s.kind, .bool t.s.down, .int .u8 t.s.nulls, .bool t.s.bnd, .bool t.s.lb, .string t.s.lm, .bool t.s.hb, .string t.s.hm, .int .i64 t.s.most, .int .i64 t.s.st, .bool t.s.sh, .bool t.s.ba, .slice a t.fields.length c]
theorem fieldCells_len (t : FT) (a : Option Addr) (c : Nat) : (fieldCells t a c).length = 14 := rfl
mutual
/-- Cells that read as a field, in blocks of S. -/
def FieldAt (w : World) (S : Nat → Prop) : FT → List Value → Prop
  | .mk s l, cs => ∃ a c, cs = fieldCells (.mk s l) a c ∧ s.ok ∧ l.length ≤ c ∧ c ≤ 140737488351232 ∧ FieldsAt w S l a
/-- Fields that lie one behind the other. -/
def FieldsAt (w : World) (S : Nat → Prop) : List FT → Option Addr → Prop
  | [], _ => True
  | t :: l, a => ∃ b o cs, a = some ⟨b, o, none⟩ ∧ S b ∧ CellsAt w b o cs ∧ FieldAt w S t cs ∧ FieldsAt w S l (some ⟨b, o + 14, none⟩)
end
variable {w w' : World} {S S' : Nat → Prop}
mutual
theorem FieldAt.keep (hk : ∀ p : Addr, S p.block → w'.cell? p = w.cell? p) : ∀ (t : FT) (cs : List Value), FieldAt w S t cs → FieldAt w' S t cs
  | .mk s l, cs, h => by
    obtain ⟨a, c, e, h1, h4, h5, h6⟩ := h
    exact ⟨a, c, e, h1, h4, h5, FieldsAt.keep hk l a h6⟩
theorem FieldsAt.keep (hk : ∀ p : Addr, S p.block → w'.cell? p = w.cell? p) : ∀ (l : List FT) (a : Option Addr), FieldsAt w S l a → FieldsAt w' S l a
  | [], _, _ => trivial
  | t :: l, a, h => by
    obtain ⟨b, o, cs, e, hb, hc, h1, h2⟩ := h
    exact ⟨b, o, cs, e, hb, hc.keep fun p hp => hk p (hp ▸ hb), FieldAt.keep hk t cs h1, FieldsAt.keep hk l _ h2⟩
end
mutual
theorem FieldAt.more (hB : ∀ b, S b → S' b) : ∀ (t : FT) (cs : List Value), FieldAt w S t cs → FieldAt w S' t cs
  | .mk s l, cs, h => by
    obtain ⟨a, c, e, h1, h4, h5, h6⟩ := h
    exact ⟨a, c, e, h1, h4, h5, FieldsAt.more hB l a h6⟩
theorem FieldsAt.more (hB : ∀ b, S b → S' b) : ∀ (l : List FT) (a : Option Addr), FieldsAt w S l a → FieldsAt w S' l a
  | [], _, _ => trivial
  | t :: l, a, h => by
    obtain ⟨b, o, cs, e, hb, hc, h1, h2⟩ := h
    exact ⟨b, o, cs, e, hB b hb, hc, FieldAt.more hB t cs h1, FieldsAt.more hB l _ h2⟩
end
theorem FieldAt.below {B : Nat} {t : FT} {cs : List Value} (h : FieldAt w (· < B) t cs) (hb : Below B w w') : FieldAt w' (· < B) t cs := FieldAt.keep (fun _ hp => hb.cell hp) t cs h
theorem FieldsAt.below {B : Nat} {l : List FT} {a : Option Addr} (h : FieldsAt w (· < B) l a) (hb : Below B w w') : FieldsAt w' (· < B) l a := FieldsAt.keep (fun _ hp => hb.cell hp) l a h
theorem FieldAt.wide {B B' : Nat} {t : FT} {cs : List Value} (h : FieldAt w (· < B) t cs) (hB : B ≤ B') : FieldAt w (· < B') t cs := FieldAt.more (fun b hb => Nat.lt_of_lt_of_le hb hB) _ _ h
theorem FieldsAt.wide {B B' : Nat} {l : List FT} {a : Option Addr} (h : FieldsAt w (· < B) l a) (hB : B ≤ B') : FieldsAt w (· < B') l a := FieldsAt.more (fun b hb => Nat.lt_of_lt_of_le hb hB) _ _ h
/-- Opened. -/
theorem FieldAt.open {t : FT} {cs : List Value} (h : FieldAt w S t cs) : ∃ a c, cs = fieldCells t a c ∧ t.s.ok ∧ t.fields.length ≤ c ∧ c ≤ 140737488351232 ∧ FieldsAt w S t.fields a := by
  cases t; exact h
theorem FieldAt.shut {t : FT} {a : Option Addr} {c : Nat} (h1 : t.s.ok) (h4 : t.fields.length ≤ c) (h5 : c ≤ 140737488351232) (h6 : FieldsAt w S t.fields a) : FieldAt w S t (fieldCells t a c) := by
  cases t; exact ⟨a, c, rfl, h1, h4, h5, h6⟩
/-- The field at a place. -/
theorem FieldsAt.get : ∀ {l : List FT} {a : Option Addr}, FieldsAt w S l a → ∀ {i : Nat} (hi : i < l.length), ∃ b o a' c', a = some ⟨b, o, none⟩ ∧ S b ∧ CellsAt w b (o + i * 14) (fieldCells l[i] a' c') ∧ FieldAt w S l[i] (fieldCells l[i] a' c')
  | [], _, _, i, hi => absurd hi (Nat.not_lt_zero i)
  | t :: l, a, h, i, hi => by
    obtain ⟨b, o, cs, e, hb, hc, h1, h2⟩ := h
    obtain ⟨a', c', rfl, _⟩ := h1.open
    cases i with
    | zero => exact ⟨b, o, a', c', e, hb, by simpa using hc, h1⟩
    | succ i =>
      have hi' : i < l.length := by simpa using hi
      obtain ⟨b', o', a2, c2, e', hb', hc', h1'⟩ := FieldsAt.get h2 hi'
      simp only [Option.some.injEq, Addr.mk.injEq, and_true] at e'
      obtain ⟨rfl, rfl⟩ := e'
      refine ⟨b, o, a2, c2, e, hb, ?_, h1'⟩
      rw [show o + (i + 1) * 14 = o + 14 + i * 14 by omega]
      exact hc'
/-- Built of its fields. -/
theorem FieldsAt.of_get : ∀ {l : List FT} {b o : Nat}, (l = [] ∨ S b) → (∀ i (hi : i < l.length), ∃ cs, CellsAt w b (o + i * 14) cs ∧ FieldAt w S l[i] cs) → FieldsAt w S l (some ⟨b, o, none⟩)
  | [], _, _, _, _ => trivial
  | t :: l, b, o, hb, h => by
    have hb' : S b := hb.resolve_left (by simp)
    obtain ⟨cs, h1, h2⟩ := h 0 (by simp)
    refine ⟨b, o, cs, rfl, hb', by simpa using h1, by simpa using h2, FieldsAt.of_get (.inr hb') fun i hi => ?_⟩
    obtain ⟨cs, h1, h2⟩ := h (i + 1) (by simpa using hi)
    exact ⟨cs, by rw [show o + 14 + i * 14 = o + (i + 1) * 14 by omega]; exact h1, by simpa using h2⟩
mutual
theorem FT.all {M : FT → Prop} (h : ∀ t : FT, (∀ x ∈ t.fields, M x) → M t) : ∀ t, M t
  | .mk s l => h _ (FT.allL h l)
theorem FT.allL {M : FT → Prop} (h : ∀ t : FT, (∀ x ∈ t.fields, M x) → M t) : ∀ (l : List FT), ∀ x ∈ l, M x
  | [], x, hx => by cases hx
  | t :: l, x, hx => (List.mem_cons.1 hx).elim (fun e => e ▸ FT.all h t) (fun hx => FT.allL h l x hx)
end
end Go.Proofs.YtcjllhdbepchnaaGreatDoor

/-! Words that the walks share. -/
namespace Go.Proofs.YtcjllhdbepchnaaGreatDoor
open Go.RowKit Go.WideShapes
set_option linter.unusedVariables false
/-- A cell of a number. -/
def IntCell (w : World) (L : Nat) (l : Int) : Prop := w.heap[L]? = some (.cells #[.int .i64 l] 3 (0, 0))
theorem IntCell.at_ {w : World} {L : Nat} {l : Int} (h : IntCell w L l) : w.cell? ⟨L, 0, none⟩ = some (.int .i64 l) := by
  simp [World.cell?, show w.heap[L]? = _ from h]
theorem IntCell.free {w : World} {L : Nat} {l : Int} (h : IntCell w L l) (o : Nat) : w.frozen? ⟨L, o, none⟩ = false := by
  simp [World.frozen?, show w.heap[L]? = _ from h]
theorem IntCell.set {w : World} {L : Nat} {l : Int} (h : IntCell w L l) (l' : Int) : IntCell (w.setCell ⟨L, 0, none⟩ (.int .i64 l')) L l' := by
  have hl := (Array.getElem?_eq_some_iff.1 h).1
  unfold IntCell at *
  simp [World.setCell, Array.getElem?_modify, h]
theorem IntCell.alloc {w : World} {L : Nat} {l : Int} (h : IntCell w L l) (o : Obj) : IntCell (w.alloc o) L l := by
  have hl := (Array.getElem?_eq_some_iff.1 h).1
  unfold IntCell at *
  rw [Below.heap_alloc w o L hl]; exact h
theorem IntCell.lt {w : World} {L : Nat} {l : Int} (h : IntCell w L l) : L < w.heap.size := (Array.getElem?_eq_some_iff.1 h).1
theorem new_part (w : World) (n : Nat) (t : PT) (a : Option Addr) (c : Nat) (T : TypeId) (hn : n = w.heap.size) : CellsAt (w.alloc (.cells (partCells t a c).toArray T)) n 0 (partCells t a c) := fun i u hu => by
  subst hn
  rw [World.cell?_alloc_at _ _ _ _ (by simp)]
  simpa using hu
theorem grown_below {w w' : World} {g B : Nat} (h : w.grownBy w' (some g)) (hB : B ≤ w.heap.size) (hg : B ≤ g) : Below B w w' := (Below.refl B w).grown h hB (fun j e => by cases e; exact hg)
def IntPost (w : World) (e : Ending) (w' : World) : Prop := ∃ n, e = .returned (.int .i64 n) ∧ Below w.heap.size w w'
def Ret (v : Value) (w : World) (e : Ending) (w' : World) : Prop := e = .returned v ∧ Below w.heap.size w w'
theorem PartAt.wide {w : World} {B B' : Nat} {t : PT} {cs : List Value} (h : PartAt w (· < B) t cs) (hB : B ≤ B') : PartAt w (· < B') t cs := PartAt.more (fun b hb => Nat.lt_of_lt_of_le hb hB) _ _ h
theorem PartsAt.wide {w : World} {B B' : Nat} {l : List PT} {a : Option Addr} (h : PartsAt w (· < B) l a) (hB : B ≤ B') : PartsAt w (· < B') l a := PartsAt.more (fun b hb => Nat.lt_of_lt_of_le hb hB) _ _ h
end Go.Proofs.YtcjllhdbepchnaaGreatDoor

/-! What parts are, reckoned: how deep, whether they may be. -/
namespace Go.Proofs.YtcjllhdbepchnaaGreatDoor
set_option linter.unusedVariables false
mutual
/-- Is a part deeper than so many tuples? -/
def PT.deeper : PT → Nat → Bool
  | .mk k _ _ _ _ l, n => if k = 7 then (match n with | 0 => true | n + 1 => PT.deeperL l n) else false
def PT.deeperL : List PT → Nat → Bool
  | [], _ => false
  | t :: l, n => PT.deeper t n || PT.deeperL l n
end
mutual
/-- How deep is a part? -/
def PT.depth : PT → Nat
  | .mk k _ _ _ _ l => if k = 7 then PT.depthL l + 1 else 0
def PT.depthL : List PT → Nat
  | [] => 0
  | t :: l => max (PT.depth t) (PT.depthL l)
end
mutual
theorem PT.deeper_depth : ∀ (t : PT) (n : Nat), t.deeper n = decide (n < t.depth)
  | .mk k _ _ _ _ l, n => by
    simp only [PT.deeper, PT.depth]
    by_cases hk : k = 7
    · simp only [hk, if_true]
      cases n with
      | zero => simp
      | succ n => show PT.deeperL l n = _; rw [PT.deeperL_depth l n]; simp
    · simp [hk]
theorem PT.deeperL_depth : ∀ (l : List PT) (n : Nat), PT.deeperL l n = decide (n < PT.depthL l)
  | [], n => by simp [PT.deeperL, PT.depthL]
  | t :: l, n => by
    simp only [PT.deeperL, PT.depthL, PT.deeper_depth t n, PT.deeperL_depth l n]
    rw [← Bool.decide_or]; exact decide_eq_decide.2 (by omega)
end
theorem PT.depthL_le {l : List PT} {n : Nat} : PT.depthL l ≤ n ↔ ∀ x ∈ l, x.depth ≤ n := by
  induction l with
  | nil => simp [PT.depthL]
  | cons t l ih => simp only [PT.depthL, List.forall_mem_cons, ← ih]; omega
theorem PT.deeperL_iff {l : List PT} {n : Nat} : PT.deeperL l n = false ↔ ∀ x ∈ l, x.deeper n = false := by
  induction l with
  | nil => simp [PT.deeperL]
  | cons t l ih => simp [PT.deeperL, ih]
/-- May a number be? -/
def numOk (below : Bool) (mag : ByteArray) : Bool := decide (mag.size ≤ 255) && !(below && mag.size == 0) && (mag.size == 0 || mag[0]! != 0)
mutual
/-- May a part be? -/
def PT.may : PT → Bool
  | .mk k y b m r l => (k == 1 || !y) && (k == 2 || (!b && m.size == 0)) && (k == 7 || l.isEmpty) &&
    (if k = 0 ∨ k = 1 then r.size == 0 else if k = 2 then r.size == 0 && numOk b m else if k = 4 then r.size == 16 else if k = 3 ∨ k = 5 ∨ k = 6 then decide (r.size ≤ 65536) else if k = 7 then r.size == 0 && decide (l.length ≤ 1024) && PT.mayL l else false)
def PT.mayL : List PT → Bool
  | [] => true
  | t :: l => PT.may t && PT.mayL l
end
theorem PT.mayL_iff {l : List PT} : PT.mayL l = true ↔ ∀ x ∈ l, x.may = true := by
  induction l with
  | nil => simp [PT.mayL]
  | cons t l ih => simp [PT.mayL, ih]
end Go.Proofs.YtcjllhdbepchnaaGreatDoor

/-! nat.Check and ref02.Check: may a number be? -/
namespace Go.Proofs.YtcjllhdbepchnaaGreatDoor
open Go.RowKit Go.WideShapes
set_option linter.unusedVariables false
/-- The number of what is wrong with a number. -/
def numWhy (b : Bool) (m : ByteArray) : Int := if 255 < m.size then 21 else if numOk b m then 0 else 20
theorem numWhy_ok (b : Bool) (m : ByteArray) : (numWhy b m == 0) = numOk b m := by
  unfold numWhy
  by_cases h : 255 < m.size
  · rw [if_pos h]; simp [numOk]; omega
  · rw [if_neg h]; cases numOk b m <;> simp
theorem numWhy_long {b : Bool} {m : ByteArray} (h : 255 < m.size) : numWhy b m = 21 := if_pos h
theorem numWhy_nil (b : Bool) : numWhy b ⟨#[]⟩ = if b then 20 else 0 := by cases b <;> rfl
theorem numWhy_zero {b : Bool} {m : ByteArray} (h : ¬ 255 < m.size) (h0 : 0 < m.size) (hz : ((m[0].toNat : Int) == 0) = true) : numWhy b m = 20 := by
  unfold numWhy
  have hz' : m[0] = 0 := by have h1 : (m[0].toNat : Int) = 0 := by simpa using hz
                            exact UInt8.toNat_inj.1 (by simpa using h1)
  have : numOk b m = false := by
    have hne : (m.size == 0) = false := beq_eq_false_iff_ne.2 (by omega)
    simp [numOk, getElem!_pos m 0 h0, hz', hne]
  rw [if_neg h, this]; rfl
theorem numWhy_good {b : Bool} {m : ByteArray} (h : ¬ 255 < m.size) (h0 : 0 < m.size) (hz : ((m[0].toNat : Int) == 0) = false) : numWhy b m = 0 := by
  unfold numWhy
  have hz' : m[0] ≠ 0 := by intro e; rw [e] at hz; simp at hz
  have : numOk b m = true := by
    have hne : (m.size == 0) = false := beq_eq_false_iff_ne.2 (by omega)
    simp [numOk, getElem!_pos m 0 h0, hz', hne]; omega
  rw [if_neg h, this]; rfl
theorem ba_nil {m : ByteArray} (h : m.size = 0) : m = ⟨#[]⟩ := by
  cases m with | mk d => congr 1; exact Array.eq_empty_of_size_eq_zero h
theorem toList_ne {m : ByteArray} (h : 0 < m.size) : m.toList.isEmpty = false := by
  rw [ByteArray.toList_eq]
  cases m with | mk d => cases d with | mk l => cases l with
    | nil => simp [ByteArray.size] at h
    | cons a l => rfl
theorem ret_int' {w w' : World} {a b : Int} (h : a = b) (hb : Below w.heap.size w w') : Ret (.int .i64 b) w (.returned (.int .i64 a)) w' := ⟨by rw [h], hb⟩
set_option maxRecDepth 100000 in
set_option maxHeartbeats 1000000 in
theorem natCheck_any (b : Bool) (m : ByteArray) (w : World) (hm : m.size ≤ maxLen) :
    Calls Tryz.prog 67 #[.agg #[.bool b, .string m]] w (Ret (.int .i64 (numWhy b m)) w) := by
  unfold maxLen at hm
  have HB := Lib.hid ((Below.refl w.heap.size w).alloc (Nat.le_refl _) (.cells #[.bool b, .string m] 27))
  by_cases h1 : 255 < m.size
  · go_enter Tryz.func67, Tryz.ntmps67
    go_wp2_with fail
    go_ret
    exact ret_int' (numWhy_long h1).symm HB.out
  · by_cases h0 : m.size = 0
    · obtain rfl := ba_nil h0
      cases b with
      | true =>
        go_enter Tryz.func67, Tryz.ntmps67
        go_wp2_with fail
        go_ret
        exact ret_int' rfl HB.out
      | false =>
        go_enter Tryz.func67, Tryz.ntmps67
        go_wp2_with fail
        go_ret
        exact ret_int' rfl HB.out
    · have hp : 0 < m.size := by omega
      have hne := toList_ne hp
      have hne2 : ¬ m = ByteArray.empty := by rintro rfl; simp at hp
      have hs0 : ((m.size : Int) == 0) = false := beq_eq_false_iff_ne.2 (by omega)
      clear h0
      cases hz : ((m[0].toNat : Int) == 0) with
      | true =>
        have HZ := Lib.hid (numWhy_zero (b := b) h1 hp hz)
        go_enter Tryz.func67, Tryz.ntmps67
        go_wp2_with fail
        go_ret
        exact ret_int' HZ.out.symm HB.out
      | false =>
        have HZ := Lib.hid (numWhy_good (b := b) h1 hp hz)
        go_enter Tryz.func67, Tryz.ntmps67
        go_wp2_with fail
        go_ret
        exact ret_int' HZ.out.symm HB.out
set_option maxRecDepth 100000 in
set_option maxHeartbeats 1000000 in
theorem refNatCheck_any (b : Bool) (m : ByteArray) (w : World) (hm : m.size ≤ maxLen) :
    Calls Tryz.prog 66 #[.agg #[.bool b, .string m]] w (Ret (.int .i64 (numWhy b m)) w) := by
  unfold maxLen at hm
  have HB := Lib.hid ((Below.refl w.heap.size w).alloc (Nat.le_refl _) (.cells #[.bool b, .string m] 27))
  by_cases h1 : 255 < m.size
  · go_enter Tryz.func66, Tryz.ntmps66
    go_wp2_with fail
    go_ret
    exact ret_int' (numWhy_long h1).symm HB.out
  · by_cases h0 : m.size = 0
    · obtain rfl := ba_nil h0
      cases b with
      | true =>
        go_enter Tryz.func66, Tryz.ntmps66
        go_wp2_with fail
        go_ret
        exact ret_int' rfl HB.out
      | false =>
        go_enter Tryz.func66, Tryz.ntmps66
        go_wp2_with fail
        go_ret
        exact ret_int' rfl HB.out
    · have hp : 0 < m.size := by omega
      have hne := toList_ne hp
      have hne2 : ¬ m = ByteArray.empty := by rintro rfl; simp at hp
      have hs0 : ((m.size : Int) == 0) = false := beq_eq_false_iff_ne.2 (by omega)
      clear h0
      cases hz : ((m[0].toNat : Int) == 0) with
      | true =>
        have HZ := Lib.hid (numWhy_zero (b := b) h1 hp hz)
        go_enter Tryz.func66, Tryz.ntmps66
        go_wp2_with fail
        go_ret
        exact ret_int' HZ.out.symm HB.out
      | false =>
        have HZ := Lib.hid (numWhy_good (b := b) h1 hp hz)
        go_enter Tryz.func66, Tryz.ntmps66
        go_wp2_with fail
        go_ret
        exact ret_int' HZ.out.symm HB.out
end Go.Proofs.YtcjllhdbepchnaaGreatDoor

/-! What may be said of a schema, in plain words. -/
namespace Go.Proofs.YtcjllhdbepchnaaGreatDoor
set_option linter.unusedVariables false
/-- How two texts of bytes stand. -/
def cmpL : List UInt8 → List UInt8 → Int
  | [], [] => 0
  | [], _ :: _ => -1
  | _ :: _, [] => 1
  | a :: l, b :: r => if a.toNat < b.toNat then -1 else if b.toNat < a.toNat then 1 else cmpL l r
/-- How two magnitudes stand. -/
def magCmp (a b : ByteArray) : Int := if a.size < b.size then -1 else if b.size < a.size then 1 else cmpL a.data.toList b.data.toList
/-- How two numbers that may be stand. -/
def numLess (x : Bool) (a : ByteArray) (y : Bool) (b : ByteArray) : Int :=
  if x && y then magCmp b a else if x then -1 else if y then 1 else magCmp a b
/-- What is wrong with one of two numbers. -/
def numWhy2 (x : Bool) (a : ByteArray) (y : Bool) (b : ByteArray) : Int := if numWhy x a ≠ 0 then numWhy x a else numWhy y b
/-- The order that is told of two numbers. -/
def numCmp (x : Bool) (a : ByteArray) (y : Bool) (b : ByteArray) : Int := if numWhy2 x a y b ≠ 0 then 0 else numLess x a y b
theorem cmpL_swap : ∀ (a b : List UInt8), cmpL b a = -cmpL a b
  | [], [] => rfl
  | [], _ :: _ => rfl
  | _ :: _, [] => rfl
  | a :: l, b :: r => by
    unfold cmpL
    by_cases h1 : a.toNat < b.toNat
    · rw [if_neg (by omega), if_pos h1, if_pos h1]; rfl
    · by_cases h2 : b.toNat < a.toNat
      · rw [if_pos h2, if_neg h1, if_pos h2]
      · rw [if_neg h2, if_neg h1, if_neg h1, if_neg h2]; exact cmpL_swap l r
theorem magCmp_swap (a b : ByteArray) : magCmp b a = -magCmp a b := by
  unfold magCmp
  by_cases h1 : a.size < b.size
  · rw [if_neg (by omega), if_pos h1, if_pos h1]; rfl
  · by_cases h2 : b.size < a.size
    · rw [if_pos h2, if_neg h1, if_pos h2]
    · rw [if_neg h2, if_neg h1, if_neg h1, if_neg h2]; exact cmpL_swap _ _
/-- May a text be a field's name? -/
def smallB (c : UInt8) : Bool := decide (97 ≤ c.toNat) && decide (c.toNat ≤ 122)
def nameB (c : UInt8) : Bool := smallB c || (decide (48 ≤ c.toNat) && decide (c.toNat ≤ 57)) || c.toNat == 45
def nameOk (s : ByteArray) : Bool := match s.data.toList with
  | [] => false
  | c :: r => decide (s.size ≤ 16) && smallB c && r.all nameB
/-- Does a field say what may not be? -/
def FT.odd (t : FT) : Bool :=
  if t.s.kind < 1 || 7 < t.s.kind || 2 < t.s.nulls then true
  else if (t.s.kind != 2 && (t.s.bnd || t.s.lb || t.s.lm.size != 0 || t.s.hb || t.s.hm.size != 0)) || (t.s.kind != 3 && t.s.kind != 5 && t.s.most != 0) || (t.s.kind != 6 && (t.s.st != 0 || t.s.sh || t.s.ba)) || (t.s.kind != 7 && t.fields.length != 0) then true
  else if t.s.kind = 2 then
    if t.s.bnd then decide (numWhy2 t.s.lb t.s.lm t.s.hb t.s.hm ≠ 0) || decide (0 < numCmp t.s.lb t.s.lm t.s.hb t.s.hm)
    else t.s.lb || t.s.lm.size != 0 || t.s.hb || t.s.hm.size != 0
  else if t.s.kind = 6 then decide (t.s.st < 1) || decide (4 < t.s.st) || (t.s.st == 4 && !t.s.sh)
  else decide (t.s.most < 0) || decide (65536 < t.s.most)
mutual
/-- Goes through a field and those within it: how many were gone through; what is wrong, and where. -/
def FT.walk (ahead : List FT) (path : List Nat) (i n : Nat) : FT → Nat × Option (Int × List Nat)
  | .mk s l =>
    if 64 < n + 1 then (n + 1, some (116, path ++ [i]))
    else if 16 < path.length + 1 then (n + 1, some (114, path ++ [i]))
    else if !nameOk s.name then (n + 1, some (111, path ++ [i]))
    else if ahead.any fun x => x.s.name == s.name then (n + 1, some (112, path ++ [i]))
    else if (FT.mk s l).odd then (n + 1, some (113, path ++ [i]))
    else if s.kind = 7 ∧ l.length = 0 then (n + 1, some (115, path ++ [i]))
    else FT.walkL [] (path ++ [i]) 0 (n + 1) l
def FT.walkL (ahead : List FT) (path : List Nat) (i n : Nat) : List FT → Nat × Option (Int × List Nat)
  | [] => (n, none)
  | t :: r => match FT.walk ahead path i n t with
    | (m, some e) => (m, some e)
    | (m, none) => FT.walkL (ahead ++ [t]) path (i + 1) m r
end
/-- What is wrong with a schema; 0: nothing. -/
def schemaWhy (limit : Int) (l : List FT) : Int × List Nat :=
  if limit < 1 ∨ 65536 < limit then (113, [])
  else if l.length = 0 then (115, [])
  else match (FT.walkL [] [] 0 0 l).2 with
    | some e => e
    | none => (0, [])
end Go.Proofs.YtcjllhdbepchnaaGreatDoor

/-! nat.Compare and ref02.Compare: how two numbers stand. -/
namespace Go.Proofs.YtcjllhdbepchnaaGreatDoor
open Go.RowKit Go.WideShapes
set_option linter.unusedVariables false
theorem len_toList (a : ByteArray) : a.data.toList.length = a.size := by cases a; simp [ByteArray.size]
theorem cmpL_drop {a b : ByteArray} {k : Nat} (ha : k < a.size) (hb : k < b.size) : cmpL (a.data.toList.drop k) (b.data.toList.drop k) = if a[k].toNat < b[k].toNat then -1 else if b[k].toNat < a[k].toNat then 1 else cmpL (a.data.toList.drop (k + 1)) (b.data.toList.drop (k + 1)) := by
  have h1 : k < a.data.toList.length := by simpa using ha
  have h2 : k < b.data.toList.length := by simpa using hb
  rw [List.drop_eq_getElem_cons h1, List.drop_eq_getElem_cons h2]
  rfl
set_option maxRecDepth 100000 in
set_option maxHeartbeats 1000000 in
theorem magnitudes_any (a b : ByteArray) (w : World) (ha : a.size ≤ 9223372036854775807) (hb : b.size ≤ 9223372036854775807) :
    Calls Tryz.prog 121 #[.string a, .string b] w (Ret (.int .i64 (magCmp a b)) w) := by
  have HB0 := Lib.hid (Below.refl w.heap.size w)
  by_cases h1 : a.size < b.size
  · have HM := Lib.hid (show magCmp a b = -1 from if_pos h1)
    go_enter Tryz.func121, Tryz.ntmps121
    go_wp2_with fail
    go_ret
    exact ret_int' HM.out.symm HB0.out
  · by_cases h2 : b.size < a.size
    · have HM := Lib.hid (show magCmp a b = 1 by unfold magCmp; rw [if_neg h1, if_pos h2])
      go_enter Tryz.func121, Tryz.ntmps121
      go_wp2_with fail
      go_ret
      exact ret_int' HM.out.symm HB0.out
    · have HM := Lib.hid (show magCmp a b = cmpL (a.data.toList.drop 0) (b.data.toList.drop 0) by unfold magCmp; rw [if_neg h1, if_neg h2]; rfl)
      have hab : a.size ≤ b.size := by omega
      have hba : b.size ≤ a.size := by omega
      clear h1 h2
      go_enter Tryz.func121, Tryz.ntmps121
      go_wp2_with fail
      go_loopw [5] (fun i wr => ∃ k : Nat, i = .int .i64 k ∧ k ≤ a.size ∧ Hid (Below w.heap.size w wr) ∧ Hid (magCmp a b = cmpL (a.data.toList.drop k) (b.data.toList.drop k))) (fun i _ => a.size - (intOf i).toNat)
      case atStart => exact ⟨0, rfl, by omega, HB0, HM⟩
      case round =>
        clear HM HB0
        obtain ⟨k, rfl, hk, HB, HM⟩ := hrel
        by_cases hlt : k < a.size
        · have hkb : k < b.size := by omega
          have HD := Lib.hid (cmpL_drop hlt hkb)
          by_cases c1 : a[k].toNat < b[k].toNat
          · have c1I : decide (a[k].toNat < b[k].toNat) = true := by simp; omega
            have HE := Lib.hid (show magCmp a b = -1 by rw [HM.out, HD.out, if_pos c1])
            clear c1 HD HM
            go_wp2_with fail
            go_quiet (fail)
            have HB2 := Lib.hid (below_drewN HB.out nq)
            go_wp2_with fail
            go_ret
            exact ret_int' HE.out.symm HB2.out
          · have c1I : decide (a[k].toNat < b[k].toNat) = false := by simp; omega
            by_cases c2 : b[k].toNat < a[k].toNat
            · have c2I : decide (b[k].toNat < a[k].toNat) = true := by simp; omega
              have HE := Lib.hid (show magCmp a b = 1 by rw [HM.out, HD.out, if_neg c1, if_pos c2])
              clear c1 c2 HD HM
              go_wp2_with fail
              go_quiet (fail)
              have HB2 := Lib.hid (below_drewN HB.out nq)
              go_wp2_with fail
              go_quiet (fail)
              have HB3 := Lib.hid (below_drewN HB2.out nq)
              go_wp2_with fail
              go_ret
              exact ret_int' HE.out.symm HB3.out
            · have c2I : decide (b[k].toNat < a[k].toNat) = false := by simp; omega
              have HE := Lib.hid (show magCmp a b = _ by rw [HM.out, HD.out, if_neg c1, if_neg c2])
              clear c1 c2 HD HM
              go_wp2_with fail
              go_quiet (fail)
              have HB2 := Lib.hid (below_drewN HB.out nq)
              go_wp2_with fail
              go_quiet (fail)
              go_wp2_with fail
              exact ⟨⟨k + 1, by go_num, by omega, Lib.hid (below_drewN HB.out _), HE⟩, by simp [intOf]; omega⟩
        · obtain rfl : k = a.size := by omega
          have HE := Lib.hid (show magCmp a b = 0 by
            rw [HM.out, List.drop_eq_nil_of_le (by rw [len_toList]; exact Nat.le_refl _), List.drop_eq_nil_of_le (by rw [len_toList]; exact hba)]; rfl)
          clear HM
          go_wp2_with fail
          go_ret
          exact ret_int' HE.out.symm HB.out
theorem numLess_eq (x : Bool) (a : ByteArray) (y : Bool) (b : ByteArray) : numLess x a y b = if x && !y then -1 else if !x && y then 1 else if x then -magCmp a b else magCmp a b := by
  unfold numLess
  rw [magCmp_swap a b]
  cases x <;> cases y <;> rfl
theorem magCmp_range (a b : ByteArray) : -1 ≤ magCmp a b ∧ magCmp a b ≤ 1 := by
  have h : ∀ (l r : List UInt8), -1 ≤ cmpL l r ∧ cmpL l r ≤ 1 := by
    intro l
    induction l with
    | nil => intro r; cases r <;> (unfold cmpL; omega)
    | cons a l ih =>
      intro r
      cases r with
      | nil => unfold cmpL; omega
      | cons b r =>
        unfold cmpL
        have := ih r
        split
        · omega
        · split
          · omega
          · exact this
  unfold magCmp
  have := h a.data.toList b.data.toList
  split
  · omega
  · split
    · omega
    · exact this
set_option maxRecDepth 100000 in
set_option maxHeartbeats 1000000 in
theorem less_any (x : Bool) (a : ByteArray) (y : Bool) (b : ByteArray) (w : World) (ha : a.size ≤ 9223372036854775807) (hb : b.size ≤ 9223372036854775807) :
    Calls Tryz.prog 102 #[.agg #[.bool x, .string a], .agg #[.bool y, .string b]] w (Ret (.int .i64 (numLess x a y b)) w) := by
  have HL := Lib.hid (numLess_eq x a y b)
  have HM := Lib.hid (fun w => magnitudes_any a b w ha hb)
  have hR := magCmp_range a b
  obtain ⟨m, hm⟩ : ∃ m, m = magCmp a b := ⟨_, rfl⟩
  rw [← hm] at HL HM hR
  have HB0 := Lib.hid (fun o o2 => ((Below.refl w.heap.size w).alloc (Nat.le_refl _) o).alloc (by simp : w.heap.size ≤ (w.alloc o).heap.size) o2)
  clear hm
  cases x <;> cases y
  all_goals (
    simp only [Bool.not_true, Bool.not_false, Bool.and_true, Bool.and_false, if_true, Bool.false_eq_true, if_false] at HL
    go_enter Tryz.func102, Tryz.ntmps102
    go_wp2_with fail)
  all_goals first
    | (go_ret; exact ret_int' HL.out.symm (HB0.out _ _))
    | (refine (HM.out _).mono ?_
       rintro e w2 ⟨rfl, hb2⟩
       have HB2 := Lib.hid ((HB0.out _ _).trans (hb2.mono (by simp; omega)))
       have c0 := hb2.cell (p := ⟨w.heap.size, 0, none⟩) (by simp; omega)
       simp [go_sem] at c0
       clear hb2 HM
       go_wp2_with fail
       go_ret
       exact ret_int' HL.out.symm HB2.out)
theorem numWhy2_fst {x : Bool} {a : ByteArray} {y : Bool} {b : ByteArray} (h : ¬ numWhy x a = 0) : numWhy2 x a y b = numWhy x a ∧ numCmp x a y b = 0 := by
  have h1 : numWhy2 x a y b = numWhy x a := if_pos h
  exact ⟨h1, by unfold numCmp; rw [h1, if_pos h]⟩
theorem numWhy2_snd {x : Bool} {a : ByteArray} {y : Bool} {b : ByteArray} (h : numWhy x a = 0) (h2 : ¬ numWhy y b = 0) : numWhy2 x a y b = numWhy y b ∧ numCmp x a y b = 0 := by
  have h1 : numWhy2 x a y b = numWhy y b := by unfold numWhy2; rw [if_neg (by simpa using h)]
  exact ⟨h1, by unfold numCmp; rw [h1, if_pos h2]⟩
theorem numWhy2_ok {x : Bool} {a : ByteArray} {y : Bool} {b : ByteArray} (h : numWhy x a = 0) (h2 : numWhy y b = 0) : numWhy2 x a y b = 0 ∧ numCmp x a y b = numLess x a y b := by
  have h1 : numWhy2 x a y b = 0 := by unfold numWhy2; rw [if_neg (by simpa using h), h2]
  exact ⟨h1, by unfold numCmp; rw [h1]; simp⟩
/-- The order, and what is wrong. -/
def CmpPost (x : Bool) (a : ByteArray) (y : Bool) (b : ByteArray) (w : World) (e : Ending) (w' : World) : Prop := e = .returned (.tuple #[.int .i64 (numCmp x a y b), .int .i64 (numWhy2 x a y b)]) ∧ Below w.heap.size w w'
theorem CmpPost.of {x : Bool} {a : ByteArray} {y : Bool} {b : ByteArray} {w w' : World} {n m : Int} (h1 : numWhy2 x a y b = m) (h2 : numCmp x a y b = n) (hb : Below w.heap.size w w') : CmpPost x a y b w (.returned (.tuple #[.int .i64 n, .int .i64 m])) w' := by
  subst h1 h2; exact ⟨rfl, hb⟩
def NBox (w : World) (T : Nat) (x : Bool) (a : ByteArray) : Prop := w.heap[T]? = some (.cells #[.bool x, .string a] 27 (0, 0))
theorem NBox.new (w : World) (T : Nat) (x : Bool) (a : ByteArray) (hT : T = w.heap.size) : NBox (w.alloc (.cells #[.bool x, .string a] 27)) T x a := by subst hT; exact World.alloc_heap_new w _
theorem NBox.cells {w : World} {T : Nat} {x : Bool} {a : ByteArray} (h : NBox w T x a) : w.cell? ⟨T, 0, none⟩ = some (.bool x) ∧ w.cell? ⟨T, 1, none⟩ = some (.string a) := by simp [World.cell?, show w.heap[T]? = _ from h]
theorem NBox.below {w w' : World} {B T : Nat} {x : Bool} {a : ByteArray} (h : NBox w T x a) (hb : Below B w w') (hT : T < B) : NBox w' T x a := (hb.block T hT).trans h
set_option maxRecDepth 100000 in
set_option maxHeartbeats 1000000 in
theorem refCmp_any (x : Bool) (a : ByteArray) (y : Bool) (b : ByteArray) (w : World) (ha : a.size ≤ 9223372036854775807) (hb : b.size ≤ 9223372036854775807) :
    Calls Tryz.prog 72 #[.agg #[.bool x, .string a], .agg #[.bool y, .string b]] w (CmpPost x a y b w) := by
  have HC1 := Lib.hid (fun w => refNatCheck_any x a w (by unfold maxLen; omega))
  have HC2 := Lib.hid (fun w => refNatCheck_any y b w (by unfold maxLen; omega))
  have HL := Lib.hid (fun w => less_any x a y b w ha hb)
  have HF := Lib.hid (@numWhy2_fst x a y b)
  have HS := Lib.hid (@numWhy2_snd x a y b)
  have HO := Lib.hid (@numWhy2_ok x a y b)
  have HB0 := Lib.hid (fun o o2 => ((Below.refl w.heap.size w).alloc (Nat.le_refl _) o).alloc (by simp : w.heap.size ≤ (w.alloc o).heap.size) o2)
  have HX0 := Lib.hid (fun o2 => (NBox.new w w.heap.size x a rfl).below ((Below.refl _ _).alloc (Nat.le_refl _) o2) (by simp))
  have HY0 := Lib.hid (fun o => NBox.new (w.alloc o) (w.heap.size + 1) y b (by simp))
  go_enter Tryz.func72, Tryz.ntmps72
  go_wp2_with fail
  refine (HC1.out _).mono ?_
  rintro e w2 ⟨rfl, hb2⟩
  have HB2 := Lib.hid ((HB0.out _ _).trans (hb2.mono (by simp; omega)))
  have HX2 := Lib.hid ((HX0.out _).below hb2 (by simp; omega))
  have HY2 := Lib.hid ((HY0.out _).below hb2 (by simp))
  have hz2 := hb2.size
  simp only [World.size_alloc] at hz2
  clear hb2 HC1 HB0 HX0 HY0
  obtain ⟨y0, y1⟩ := HY2.out.cells
  by_cases h1 : numWhy x a = 0
  · have h1b : (numWhy x a != 0) = false := by simp [h1]
    have H1 := Lib.hid h1
    clear h1
    go_wp2_with fail
    refine (HC2.out _).mono ?_
    rintro e w3 ⟨rfl, hb3⟩
    have HB3 := Lib.hid (HB2.out.trans (hb3.mono (by omega)))
    have HX3 := Lib.hid (HX2.out.below hb3 (by omega))
    have HY3 := Lib.hid (HY2.out.below hb3 (by omega))
    have hz3 := hb3.size
    clear hb3 HC2 HB2 HX2 HY2 y0 y1
    obtain ⟨y0, y1⟩ := HY3.out.cells
    obtain ⟨x0, x1⟩ := HX3.out.cells
    by_cases h2 : numWhy y b = 0
    · have h2b : (numWhy y b != 0) = false := by simp [h2]
      have H2 := Lib.hid h2
      clear h2
      go_wp2_with fail
      refine (HL.out _).mono ?_
      rintro e w4 ⟨rfl, hb4⟩
      have HB4 := Lib.hid (HB3.out.trans (hb4.mono (by omega)))
      clear hb4
      go_wp2_with fail
      go_ret2
      exact .of (HO.out H1.out H2.out).1 (HO.out H1.out H2.out).2 HB4.out
    · have h2b : (numWhy y b != 0) = true := by simp [h2]
      have H2 := Lib.hid h2
      clear h2
      go_wp2_with fail
      go_ret2
      exact .of (HS.out H1.out H2.out).1 (HS.out H1.out H2.out).2 HB3.out
  · have h1b : (numWhy x a != 0) = true := by simp [h1]
    have H1 := Lib.hid h1
    clear h1
    go_wp2_with fail
    go_ret2
    exact .of (HF.out H1.out).1 (HF.out H1.out).2 HB2.out
end Go.Proofs.YtcjllhdbepchnaaGreatDoor

/-! nat.Compare: how two numbers stand. -/
namespace Go.Proofs.YtcjllhdbepchnaaGreatDoor
open Go.RowKit Go.WideShapes
set_option linter.unusedVariables false
theorem cmpL_less : ∀ (l r : List UInt8), cmpL l r = if Op.bytesLess l r then -1 else if l == r then 0 else 1
  | [], [] => rfl
  | [], _ :: _ => rfl
  | _ :: _, [] => rfl
  | a :: l, b :: r => by
    unfold cmpL Op.bytesLess
    by_cases h1 : a.toNat < b.toNat
    · simp [UInt8.lt_iff_toNat_lt, h1]
    · by_cases h2 : b.toNat < a.toNat
      · have hne : a ≠ b := fun e => by subst e; omega
        simp [UInt8.lt_iff_toNat_lt, h1, h2, hne]
      · have he : a = b := UInt8.toNat_inj.1 (by omega)
        subst he
        rw [if_neg h1, if_neg h2, cmpL_less l r]
        simp
set_option maxRecDepth 100000 in
set_option maxHeartbeats 1000000 in
theorem order_any (a b : ByteArray) (w : World) (ha : a.size ≤ 9223372036854775807) (hb : b.size ≤ 9223372036854775807) :
    Calls Tryz.prog 100 #[.string a, .string b] w (Ret (.int .i64 (magCmp a b)) w) := by
  have HB0 := Lib.hid (Below.refl w.heap.size w)
  by_cases h1 : a.size < b.size
  · have HM := Lib.hid (show magCmp a b = -1 from if_pos h1)
    go_enter Tryz.func100, Tryz.ntmps100
    go_wp2
    go_ret
    exact ret_int' HM.out.symm HB0.out
  · by_cases h2 : b.size < a.size
    · have HM := Lib.hid (show magCmp a b = 1 by unfold magCmp; rw [if_neg h1, if_pos h2])
      go_enter Tryz.func100, Tryz.ntmps100
      go_wp2
      go_ret
      exact ret_int' HM.out.symm HB0.out
    · have HM := Lib.hid (show magCmp a b = if Op.bytesLess a.toList b.toList then -1 else if a.toList == b.toList then 0 else 1 by
        unfold magCmp
        rw [if_neg h1, if_neg h2, cmpL_less, ByteArray.toList_eq, ByteArray.toList_eq])
      cases hl : Op.bytesLess a.toList b.toList with
      | true =>
        have HE := Lib.hid (show magCmp a b = -1 by rw [HM.out, hl]; rfl)
        clear HM
        go_enter Tryz.func100, Tryz.ntmps100
        go_wp2
        go_ret
        exact ret_int' HE.out.symm HB0.out
      | false =>
        cases he : a.toList == b.toList with
        | true =>
          have HE := Lib.hid (show magCmp a b = 0 by rw [HM.out, hl, he]; rfl)
          clear HM
          go_enter Tryz.func100, Tryz.ntmps100
          go_wp2
          go_ret
          exact ret_int' HE.out.symm HB0.out
        | false =>
          have HE := Lib.hid (show magCmp a b = 1 by rw [HM.out, hl, he]; rfl)
          clear HM
          go_enter Tryz.func100, Tryz.ntmps100
          go_wp2
          go_ret
          exact ret_int' HE.out.symm HB0.out
set_option maxRecDepth 100000 in
set_option maxHeartbeats 1000000 in
theorem natCmp_any (x : Bool) (a : ByteArray) (y : Bool) (b : ByteArray) (w : World) (ha : a.size ≤ 9223372036854775807) (hb : b.size ≤ 9223372036854775807) :
    Calls Tryz.prog 69 #[.agg #[.bool x, .string a], .agg #[.bool y, .string b]] w (CmpPost x a y b w) := by
  have HC1 := Lib.hid (fun w => natCheck_any x a w (by unfold maxLen; omega))
  have HC2 := Lib.hid (fun w => natCheck_any y b w (by unfold maxLen; omega))
  have HO1 := Lib.hid (fun w => order_any a b w ha hb)
  have HO2 := Lib.hid (fun w => order_any b a w hb ha)
  have HF := Lib.hid (@numWhy2_fst x a y b)
  have HS := Lib.hid (@numWhy2_snd x a y b)
  have HO := Lib.hid (@numWhy2_ok x a y b)
  have HB0 := Lib.hid (fun o o2 => ((Below.refl w.heap.size w).alloc (Nat.le_refl _) o).alloc (by simp : w.heap.size ≤ (w.alloc o).heap.size) o2)
  have HX0 := Lib.hid (fun o2 => (NBox.new w w.heap.size x a rfl).below ((Below.refl _ _).alloc (Nat.le_refl _) o2) (by simp))
  have HY0 := Lib.hid (fun o => NBox.new (w.alloc o) (w.heap.size + 1) y b (by simp))
  go_enter Tryz.func69, Tryz.ntmps69
  go_wp2_with fail
  refine (HC1.out _).mono ?_
  rintro e w2 ⟨rfl, hb2⟩
  have HB2 := Lib.hid ((HB0.out _ _).trans (hb2.mono (by simp; omega)))
  have HX2 := Lib.hid ((HX0.out _).below hb2 (by simp; omega))
  have HY2 := Lib.hid ((HY0.out _).below hb2 (by simp))
  have hz2 := hb2.size
  simp only [World.size_alloc] at hz2
  clear hb2 HC1 HB0 HX0 HY0
  obtain ⟨y0, y1⟩ := HY2.out.cells
  by_cases h1 : numWhy x a = 0
  · have h1b : (numWhy x a != 0) = false := by simp [h1]
    have H1 := Lib.hid h1
    clear h1
    go_wp2_with fail
    refine (HC2.out _).mono ?_
    rintro e w3 ⟨rfl, hb3⟩
    have HB3 := Lib.hid (HB2.out.trans (hb3.mono (by omega)))
    have HX3 := Lib.hid (HX2.out.below hb3 (by omega))
    have HY3 := Lib.hid (HY2.out.below hb3 (by omega))
    have hz3 := hb3.size
    clear hb3 HC2 HB2 HX2 HY2 y0 y1
    obtain ⟨y0, y1⟩ := HY3.out.cells
    obtain ⟨x0, x1⟩ := HX3.out.cells
    by_cases h2 : numWhy y b = 0
    · have h2b : (numWhy y b != 0) = false := by simp [h2]
      have H2 := Lib.hid (HO.out H1.out h2)
      clear h2
      cases x <;> cases y
      all_goals (
        simp only [numLess, Bool.and_self, Bool.and_true, Bool.and_false, if_true, Bool.false_eq_true, if_false] at H2
        go_wp2_with fail)
      · refine (HO1.out _).mono ?_
        rintro e w4 ⟨rfl, hb4⟩
        have HB4 := Lib.hid (HB3.out.trans (hb4.mono (by omega)))
        clear hb4
        go_wp2_with fail
        go_ret2
        exact .of H2.out.1 H2.out.2 HB4.out
      · go_ret2
        exact .of H2.out.1 H2.out.2 HB3.out
      · go_ret2
        exact .of H2.out.1 H2.out.2 HB3.out
      · refine (HO2.out _).mono ?_
        rintro e w4 ⟨rfl, hb4⟩
        have HB4 := Lib.hid (HB3.out.trans (hb4.mono (by omega)))
        clear hb4
        go_wp2_with fail
        go_ret2
        exact .of H2.out.1 H2.out.2 HB4.out
    · have h2b : (numWhy y b != 0) = true := by simp [h2]
      have H2 := Lib.hid h2
      clear h2
      go_wp2_with fail
      go_ret2
      exact .of (HS.out H1.out H2.out).1 (HS.out H1.out H2.out).2 HB3.out
  · have h1b : (numWhy x a != 0) = true := by simp [h1]
    have H1 := Lib.hid h1
    clear h1
    go_wp2_with fail
    go_ret2
    exact .of (HF.out H1.out).1 (HF.out H1.out).2 HB2.out
end Go.Proofs.YtcjllhdbepchnaaGreatDoor
