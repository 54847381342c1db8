/-
  Words of our own on memory: a slice that reads as a list of one-cell values; rows that a call owns.
-/
import Derived.Below
import Derived.RangeFuncBox
import Derived.RangeFuncNested
import Derived.Laws.OwnMore
import Derived.Deep.Draws
import Derived.Lib.Hide
import Derived.Test.YtjgicjgpahnmaaaDoorProg
import Derived.ProofKit
import Derived.OpenShut
import Derived.Deep.Slices
import Derived.Deep.Strs
import Derived.WalkKit
import Derived.Outline
import Derived.BigQuiet
import Derived.Deep.QuietTactic
import Derived.OwnWalk
import Derived.Maps.AppendAt
import Derived.Deep.AppendLies
import Derived.Handy
import Derived.Deep.RegionHeld3
import Derived.WalkLawsBesides
/-! Words of our own on memory: a slice that reads as a list of one-cell values; rows that a call owns. -/
namespace Go.Proofs.YtjgicjgpahnmaaaDoor
open Go.RowKit

theorem ret_bool {a b : Bool} (h : a = b) : Ending.returned (.bool a) = .returned (.bool b) := by rw [h]
theorem ret_int {k : IntKind} {a b : Int} (h : a = b) : Ending.returned (.int k a) = .returned (.int k b) := by rw [h]

/-- The cells at b, o on are vs. -/
def CellsAt (w : World) (b o : Nat) (vs : List Value) : Prop := ∀ i u, vs[i]? = some u → w.cell? ⟨b, o + i, none⟩ = some u
theorem CellsAt.keep {w w' : World} {b o : Nat} {vs : List Value} (h : CellsAt w b o vs) (hk : ∀ p : Addr, p.block = b → w'.cell? p = w.cell? p) : CellsAt w' b o vs := fun i u hu => (hk _ rfl).trans (h i u hu)
theorem CellsAt.at_ {w : World} {b o : Nat} {vs : List Value} (h : CellsAt w b o vs) {i : Nat} (hi : i < vs.length) : w.cell? ⟨b, o + i, none⟩ = some vs[i] := h i _ (List.getElem?_eq_getElem hi)
/-- The slice value v reads as the one-cell values vs, below block B. -/
def RowAt (w : World) (B : Nat) (v : Value) (vs : List Value) : Prop :=
  ∃ A c, v = .slice A vs.length c ∧ vs.length ≤ c ∧ (0 < vs.length → ∃ b o, A = some ⟨b, o, none⟩ ∧ b < B ∧ CellsAt w b o vs)
section
variable {w w' : World} {B B' : Nat} {v : Value} {vs : List Value}
theorem RowAt.nil (w : World) (B c : Nat) : RowAt w B (.slice none 0 c) [] := ⟨none, c, rfl, Nat.zero_le _, fun h => absurd h (by simp)⟩
theorem RowAt.keep (h : RowAt w B v vs) (hk : ∀ p : Addr, p.block < B → w'.cell? p = w.cell? p) : RowAt w' B v vs := by
  obtain ⟨A, c, e, hl, h⟩ := h
  refine ⟨A, c, e, hl, fun hp => ?_⟩
  obtain ⟨b, o, ea, hb, hc⟩ := h hp
  exact ⟨b, o, ea, hb, hc.keep fun p hp => hk p (by omega)⟩
theorem RowAt.below (h : RowAt w B v vs) (hb : Below B w w') : RowAt w' B v vs := h.keep fun _ hp => hb.cell hp
theorem RowAt.more (h : RowAt w B v vs) (hB : B ≤ B') : RowAt w B' v vs := by
  obtain ⟨A, c, e, hl, h⟩ := h
  refine ⟨A, c, e, hl, fun hp => ?_⟩
  obtain ⟨b, o, ea, hb, hc⟩ := h hp
  exact ⟨b, o, ea, by omega, hc⟩
theorem RowAt.drewN (h : RowAt w B v vs) (n : Nat) : RowAt (w.drewN n) B v vs := h.keep fun _ _ => rfl
theorem RowAt.alloc (h : RowAt w B v vs) (hB : B ≤ w.heap.size) (o : Obj) : RowAt (w.alloc o) B v vs := h.keep fun p hp => World.cell?_alloc_lt w o p (by omega)
theorem RowAt.setCell (h : RowAt w B v vs) {p : Addr} (hB : B ≤ p.block) (u : Value) : RowAt (w.setCell p u) B v vs :=
  h.keep fun q hq => World.cell?_setCell_other w p q u (fun e => by subst e; omega)
theorem RowAt.grown (h : RowAt w B v vs) {row : Option Nat} (hg : w.grownBy w' row) (hB : B ≤ w.heap.size) (hr : ∀ g, row = some g → B ≤ g) : RowAt w' B v vs :=
  h.keep fun p hp => World.cell?_of_block (hg.block p.block (by omega) (fun e => by have := hr _ e.symm; omega))
theorem RowAt.of_own {base : Nat} {e n : Nat} (h : w.ownsRow base e 1 v n vs) : RowAt w w.heap.size v vs := by
  have hlen : vs.length = n := by have := h.1; omega
  rcases h.2 with ⟨rfl, h0⟩ | ⟨g, cap, cur, rfl, hb, hg, hc, hm, hs, ht⟩
  · rw [h0] at hlen
    rw [List.eq_nil_of_length_eq_zero hlen]; exact RowAt.nil _ _ _
  · refine ⟨_, cap, by rw [hlen], by omega, fun _ => ⟨g, 0, rfl, (Array.getElem?_eq_some_iff.1 hg).1, fun i u hu => ?_⟩⟩
    have hi : i < n := by
      have := (List.getElem?_eq_some_iff.1 hu).1; omega
    rw [← ht, List.getElem?_take] at hu
    simp only [Nat.mul_one, hi, if_true] at hu
    simp [World.cell?, hg, ← hu]
theorem RowAt.len (h : RowAt w B v vs) : ∃ A c, v = .slice A vs.length c := by obtain ⟨A, c, e, _⟩ := h; exact ⟨A, c, e⟩
end
theorem row_ge {W : World} {n e size k : Nat} {v : Value} {xs : List Value} (h : W.ownsRow n e size v k xs) {g : Nat} (hg : v.ownBlock = some g) : n ≤ g := by
  rcases h.2 with ⟨rfl, _⟩ | ⟨g', cap, cur, rfl, hb, _, _⟩
  · simp [Value.ownBlock] at hg
  · obtain rfl : g' = g := by simpa [Value.ownBlock] using hg
    exact hb
theorem own_base {W : World} {n n' e size k : Nat} {v : Value} {xs : List Value} (h : W.ownsRow n e size v k xs) (hn : n' ≤ n) : W.ownsRow n' e size v k xs := by
  refine ⟨h.1, ?_⟩
  rcases h.2 with h0 | ⟨g, cap, cur, h1, hb, h2⟩
  · exact .inl h0
  · exact .inr ⟨g, cap, cur, h1, Nat.le_trans hn hb, h2⟩
theorem own_drewN {W : World} {n e size k : Nat} {v : Value} {xs : List Value} (h : W.ownsRow n e size v k xs) (q : Nat) : (W.drewN q).ownsRow n e size v k xs := h
/-- The numbers of a list, as values. -/
def ints (xs : List Int) : List Value := xs.map (Value.int .i64)
theorem ints_len (xs : List Int) : (ints xs).length = xs.length := by simp [ints]
theorem ints_get {xs : List Int} {i : Nat} (h : i < xs.length) : (ints xs)[i]? = some (.int .i64 xs[i]) := by simp [ints, h]
theorem RowAt.ints {w : World} {B : Nat} {v : Value} {xs : List Int} (h : RowAt w B v (ints xs)) :
    ∃ A c, v = .slice A xs.length c ∧ xs.length ≤ c ∧ (0 < xs.length → ∃ b o, A = some ⟨b, o, none⟩ ∧ b < B ∧ ∀ j (hj : j < xs.length), w.cell? ⟨b, o + j, none⟩ = some (.int .i64 xs[j])) := by
  obtain ⟨A, c, e, hl, h⟩ := h
  rw [ints_len] at e hl
  refine ⟨A, c, e, hl, fun hp => ?_⟩
  obtain ⟨b, o, ea, hb, hc⟩ := h (by rw [ints_len]; exact hp)
  exact ⟨b, o, ea, hb, fun j hj => hc j _ (ints_get hj)⟩
theorem below_drewN {B : Nat} {w w' : World} (h : Below B w w') (n : Nat) : Below B w (w'.drewN n) := by
  induction n with
  | zero => exact h
  | succ n ih => exact ih.drew
end Go.Proofs.YtjgicjgpahnmaaaDoor

/-! Parts as trees, and how they lie in memory. -/
namespace Go.Proofs.YtjgicjgpahnmaaaDoor
open Go.RowKit Go.ChangeShapes Go.WideShapes Go.ChangeAt
set_option linter.unusedVariables false
/-- A part, as a tree. -/
inductive PT where
  | mk (kind : Nat) (yes below : Bool) (mag raw : ByteArray) (items : List PT)
def PT.kind : PT → Nat | .mk k _ _ _ _ _ => k
def PT.yes : PT → Bool | .mk _ y _ _ _ _ => y
def PT.bel : PT → Bool | .mk _ _ b _ _ _ => b
def PT.mag : PT → ByteArray | .mk _ _ _ m _ _ => m
def PT.raw : PT → ByteArray | .mk _ _ _ _ r _ => r
def PT.items : PT → List PT | .mk _ _ _ _ _ l => l
instance : Inhabited PT := ⟨.mk 0 false false ⟨#[]⟩ ⟨#[]⟩ []⟩
/-- The six cells of a part. -/
def partCells (t : PT) (a : Option Addr) (c : Nat) : List Value := [.int .u8 t.kind, .bool t.yes, .bool t.bel, .string t.mag, .string t.raw, .slice a t.items.length c]
mutual
/-- Cells that read as a part, in blocks of S. -/
def PartAt (w : World) (S : Nat → Prop) : PT → List Value → Prop
  | .mk k y b m r l, cs => ∃ a c, cs = partCells (.mk k y b m r l) a c ∧ k < 256 ∧ m.size ≤ maxLen ∧ r.size ≤ maxLen ∧ l.length ≤ c ∧ c ≤ maxLen ∧ PartsAt w S l a
/-- Parts that lie one behind the other. -/
def PartsAt (w : World) (S : Nat → Prop) : List PT → Option Addr → Prop
  | [], _ => True
  | t :: l, a => ∃ b o cs, a = some ⟨b, o, none⟩ ∧ S b ∧ CellsAt w b o cs ∧ PartAt w S t cs ∧ PartsAt w S l (some ⟨b, o + 6, none⟩)
end
variable {w w' : World} {S S' : Nat → Prop}
mutual
theorem PartAt.keep (hk : ∀ p : Addr, S p.block → w'.cell? p = w.cell? p) : ∀ (t : PT) (cs : List Value), PartAt w S t cs → PartAt w' S t cs
  | .mk k y b m r l, cs, h => by
    obtain ⟨a, c, e, h1, h2, h3, h4, h5, h6⟩ := h
    exact ⟨a, c, e, h1, h2, h3, h4, h5, PartsAt.keep hk l a h6⟩
theorem PartsAt.keep (hk : ∀ p : Addr, S p.block → w'.cell? p = w.cell? p) : ∀ (l : List PT) (a : Option Addr), PartsAt w S l a → PartsAt w' S l a
  | [], _, _ => trivial
  | t :: l, a, h => by
    obtain ⟨b, o, cs, e, hb, hc, h1, h2⟩ := h
    exact ⟨b, o, cs, e, hb, hc.keep fun p hp => hk p (hp ▸ hb), PartAt.keep hk t cs h1, PartsAt.keep hk l _ h2⟩
end
mutual
theorem PartAt.more (hB : ∀ b, S b → S' b) : ∀ (t : PT) (cs : List Value), PartAt w S t cs → PartAt w S' t cs
  | .mk k y b m r l, cs, h => by
    obtain ⟨a, c, e, h1, h2, h3, h4, h5, h6⟩ := h
    exact ⟨a, c, e, h1, h2, h3, h4, h5, PartsAt.more hB l a h6⟩
theorem PartsAt.more (hB : ∀ b, S b → S' b) : ∀ (l : List PT) (a : Option Addr), PartsAt w S l a → PartsAt w S' l a
  | [], _, _ => trivial
  | t :: l, a, h => by
    obtain ⟨b, o, cs, e, hb, hc, h1, h2⟩ := h
    exact ⟨b, o, cs, e, hB b hb, hc, PartAt.more hB t cs h1, PartsAt.more hB l _ h2⟩
end
theorem PartAt.below {B : Nat} {t : PT} {cs : List Value} (h : PartAt w (· < B) t cs) (hb : Below B w w') : PartAt w' (· < B) t cs := PartAt.keep (fun _ hp => hb.cell hp) t cs h
theorem PartsAt.below {B : Nat} {l : List PT} {a : Option Addr} (h : PartsAt w (· < B) l a) (hb : Below B w w') : PartsAt w' (· < B) l a := PartsAt.keep (fun _ hp => hb.cell hp) l a h
/-- Opened. -/
theorem PartAt.open {t : PT} {cs : List Value} (h : PartAt w S t cs) : ∃ a c, cs = partCells t a c ∧ t.kind < 256 ∧ t.mag.size ≤ maxLen ∧ t.raw.size ≤ maxLen ∧ t.items.length ≤ c ∧ c ≤ maxLen ∧ PartsAt w S t.items a := by
  cases t; exact h
theorem PartAt.shut {t : PT} {a : Option Addr} {c : Nat} (h1 : t.kind < 256) (h2 : t.mag.size ≤ maxLen) (h3 : t.raw.size ≤ maxLen) (h4 : t.items.length ≤ c) (h5 : c ≤ maxLen) (h6 : PartsAt w S t.items a) : PartAt w S t (partCells t a c) := by
  cases t; exact ⟨a, c, rfl, h1, h2, h3, h4, h5, h6⟩
/-- The item at a place. -/
theorem PartsAt.get : ∀ {l : List PT} {a : Option Addr}, PartsAt w S l a → ∀ {i : Nat} (hi : i < l.length), ∃ b o a' c', a = some ⟨b, o, none⟩ ∧ S b ∧ CellsAt w b (o + i * 6) (partCells l[i] a' c') ∧ PartAt w S l[i] (partCells l[i] a' c')
  | [], _, _, i, hi => absurd hi (Nat.not_lt_zero i)
  | t :: l, a, h, i, hi => by
    obtain ⟨b, o, cs, e, hb, hc, h1, h2⟩ := h
    obtain ⟨a', c', rfl, _⟩ := h1.open
    cases i with
    | zero => exact ⟨b, o, a', c', e, hb, by simpa using hc, h1⟩
    | succ i =>
      have hi' : i < l.length := by simpa using hi
      obtain ⟨b', o', a2, c2, e', hb', hc', h1'⟩ := PartsAt.get h2 hi'
      simp only [Option.some.injEq, Addr.mk.injEq, and_true] at e'
      obtain ⟨rfl, rfl⟩ := e'
      refine ⟨b, o, a2, c2, e, hb, ?_, h1'⟩
      rw [show o + (i + 1) * 6 = o + 6 + i * 6 by omega]
      exact hc'
/-- Its cells, one by one. -/
theorem PartsAt.cells {l : List PT} {a : Option Addr} (h : PartsAt w S l a) {i : Nat} (hi : i < l.length) : ∃ b o a' c', a = some ⟨b, o, none⟩ ∧ S b ∧ w.cell? ⟨b, o + i * 6, none⟩ = some (.int .u8 l[i].kind) ∧ w.cell? ⟨b, o + i * 6 + 1, none⟩ = some (.bool l[i].yes) ∧
    w.cell? ⟨b, o + i * 6 + 2, none⟩ = some (.bool l[i].bel) ∧ w.cell? ⟨b, o + i * 6 + 3, none⟩ = some (.string l[i].mag) ∧ w.cell? ⟨b, o + i * 6 + 4, none⟩ = some (.string l[i].raw) ∧ w.cell? ⟨b, o + i * 6 + 5, none⟩ = some (.slice a' l[i].items.length c') ∧
    PartAt w S l[i] (partCells l[i] a' c') := by
  obtain ⟨b, o, a', c', e, hb, hc, h1⟩ := h.get hi
  exact ⟨b, o, a', c', e, hb, hc 0 _ rfl, hc 1 _ rfl, hc 2 _ rfl, hc 3 _ rfl, hc 4 _ rfl, hc 5 _ rfl, h1⟩
/-- Built of its items. -/
theorem PartsAt.of_get : ∀ {l : List PT} {b o : Nat}, (l = [] ∨ S b) → (∀ i (hi : i < l.length), ∃ cs, CellsAt w b (o + i * 6) cs ∧ PartAt w S l[i] cs) → PartsAt w S l (some ⟨b, o, none⟩)
  | [], _, _, _, _ => trivial
  | t :: l, b, o, hb, h => by
    have hb' : S b := hb.resolve_left (by simp)
    obtain ⟨cs, h1, h2⟩ := h 0 (by simp)
    refine ⟨b, o, cs, rfl, hb', by simpa using h1, by simpa using h2, PartsAt.of_get (.inr hb') fun i hi => ?_⟩
    obtain ⟨cs, h1, h2⟩ := h (i + 1) (by simpa using hi)
    exact ⟨cs, by rw [show o + 6 + i * 6 = o + (i + 1) * 6 by omega]; exact h1, by simpa using h2⟩
mutual
/-- What holds of a part if it holds of its items holds of all. -/
theorem PT.all {M : PT → Prop} (h : ∀ t : PT, (∀ x ∈ t.items, M x) → M t) : ∀ t, M t
  | .mk k y b m r l => h _ (PT.allL h l)
theorem PT.allL {M : PT → Prop} (h : ∀ t : PT, (∀ x ∈ t.items, M x) → M t) : ∀ (l : List PT), ∀ x ∈ l, M x
  | [], x, hx => by cases hx
  | t :: l, x, hx => (List.mem_cons.1 hx).elim (fun e => e ▸ PT.all h t) (fun hx => PT.allL h l x hx)
end
end Go.Proofs.YtjgicjgpahnmaaaDoor

/-! A part that is handed in, opened. -/
namespace Go.Proofs.YtjgicjgpahnmaaaDoor
open Go.RowKit Go.ChangeShapes Go.WideShapes Go.ChangeAt
set_option linter.unusedVariables false
theorem cellsPart : Tryd.prog.cellsOf 30 = 6 := by kernel_rfl
theorem cellsKind : Tryd.prog.cellsOf 25 = 1 := by kernel_rfl
theorem cellsBool : Tryd.prog.cellsOf 4 = 1 := by kernel_rfl
theorem cellsNum : Tryd.prog.cellsOf 27 = 2 := by kernel_rfl
theorem cellsStr : Tryd.prog.cellsOf 9 = 1 := by kernel_rfl
theorem cellsParts : Tryd.prog.cellsOf 28 = 1 := by kernel_rfl
theorem len2 {α : Type} {l : List α} (h : l.length = 2) : ∃ a b, l = [a, b] := by
  match l, h with | [a, b], _ => exact ⟨a, b, rfl⟩
theorem len6 {α : Type} {l : List α} (h : l.length = 6) : ∃ a b c d e f, l = [a, b, c, d, e, f] := by
  match l, h with | [a, b, c, d, e, f], _ => exact ⟨a, b, c, d, e, f, rfl⟩
theorem cell_plainP {w : World} {p : Addr} {v : Value} (h : w.cell? p = some v) : p = ⟨p.block, p.off, none⟩ := by
  have := World.cell?_spot h
  cases p with | mk b o s => simp only at this; subst this; rfl
theorem block_ltP {w : World} {p : Addr} {u : Value} (h : w.cell? p = some u) : p.block < w.heap.size := by
  unfold World.cell? at h
  split at h
  · rename_i hh; exact (Array.getElem?_eq_some_iff.1 hh).1
  · cases h
section
variable {H : Type} {enc : TypeId × Value → H} {W : World}
theorem trod_struct2n {P : Program} {t : TypeId} {f0 f1 : Field} {fuel : Nat} {cs : List Value} {x : DataW H × List MemPlace} (ht : P.underlying t = some (.struct #[f0, f1])) (h : DataW.trod enc P W 0 (fun _ => true) true fuel t cs = some x) :
    ∃ y0 y1 n, fuel = n + 1 ∧ cs.length = P.cellsOf t ∧ DataW.trod enc P W 0 (fun _ => true) true n f0.type ((cs.drop f0.offset).take (P.cellsOf f0.type)) = some y0 ∧ DataW.trod enc P W 0 (fun _ => true) true n f1.type ((cs.drop f1.offset).take (P.cellsOf f1.type)) = some y1 := by
  obtain ⟨xs, n, e, rfl, hl, hlen, hf⟩ := DataW.trod_struct ht h
  match xs, hlen with
  | [y0, y1], _ => exact ⟨y0, y1, n, e, hl, by simpa using hf 0 f0 rfl, by simpa using hf 1 f1 rfl⟩
theorem trod_struct5n {P : Program} {t : TypeId} {f0 f1 f2 f3 f4 : Field} {fuel : Nat} {cs : List Value} {x : DataW H × List MemPlace} (ht : P.underlying t = some (.struct #[f0, f1, f2, f3, f4])) (h : DataW.trod enc P W 0 (fun _ => true) true fuel t cs = some x) :
    ∃ y0 y1 y2 y3 y4 n, fuel = n + 1 ∧ cs.length = P.cellsOf t ∧ DataW.trod enc P W 0 (fun _ => true) true n f0.type ((cs.drop f0.offset).take (P.cellsOf f0.type)) = some y0 ∧ DataW.trod enc P W 0 (fun _ => true) true n f1.type ((cs.drop f1.offset).take (P.cellsOf f1.type)) = some y1 ∧
      DataW.trod enc P W 0 (fun _ => true) true n f2.type ((cs.drop f2.offset).take (P.cellsOf f2.type)) = some y2 ∧ DataW.trod enc P W 0 (fun _ => true) true n f3.type ((cs.drop f3.offset).take (P.cellsOf f3.type)) = some y3 ∧ DataW.trod enc P W 0 (fun _ => true) true n f4.type ((cs.drop f4.offset).take (P.cellsOf f4.type)) = some y4 := by
  obtain ⟨xs, n, e, rfl, hl, hlen, hf⟩ := DataW.trod_struct ht h
  match xs, hlen with
  | [y0, y1, y2, y3, y4], _ => exact ⟨y0, y1, y2, y3, y4, n, e, hl, by simpa using hf 0 f0 rfl, by simpa using hf 1 f1 rfl, by simpa using hf 2 f2 rfl, by simpa using hf 3 f3 rfl, by simpa using hf 4 f4 rfl⟩
theorem trod_num {n : Nat} {cs : List Value} {y : DataW H × List MemPlace} (h : DataW.trod enc Tryd.prog W 0 (fun _ => true) true n 27 cs = some y) : ∃ (b : Bool) (m : ByteArray), cs = [.bool b, .string m] ∧ m.size ≤ maxLen := by
  obtain ⟨x0, x1, k, rfl, hl, f0, f1⟩ := trod_struct2n Tryd.underlying27 h
  rw [cellsNum] at hl
  obtain ⟨c0, c1, rfl⟩ := len2 hl
  simp only [cellsBool, cellsStr, List.drop, List.take] at f0 f1
  obtain ⟨b, hb, _⟩ := DataW.trod_bool Tryd.underlying4 f0
  obtain ⟨m, hm, _, hw⟩ := DataW.trod_string Tryd.underlying9 f1
  simp only [List.cons.injEq, and_true] at hb hm
  subst hb hm
  exact ⟨b, m, rfl, hw⟩
theorem part_of : ∀ (n : Nat) (cs : List Value) (y : DataW H × List MemPlace), DataW.trod enc Tryd.prog W 0 (fun _ => true) true n 30 cs = some y → ∃ t, PartAt W (· < W.heap.size) t cs := by
  intro n
  induction n using Nat.strongRecOn with
  | _ n ih =>
    intro cs y h
    obtain ⟨x0, x1, x2, x3, x4, k, rfl, hl, f0, f1, f2, f3, f4⟩ := trod_struct5n Tryd.underlying30 h
    rw [cellsPart] at hl
    obtain ⟨c0, c1, c2, c3, c4, c5, rfl⟩ := len6 hl
    simp only [cellsKind, cellsBool, cellsNum, cellsStr, cellsParts, List.drop, List.take] at f0 f1 f2 f3 f4
    obtain ⟨kd, h0, _, hwf⟩ := DataW.trod_int Tryd.underlying25 f0
    obtain ⟨yes, h1, _⟩ := DataW.trod_bool Tryd.underlying4 f1
    obtain ⟨bel, mag, h2, hm⟩ := trod_num f2
    obtain ⟨raw, h3, _, hr⟩ := DataW.trod_string Tryd.underlying9 f3
    simp only [List.cons.injEq, and_true] at h0 h1 h2 h3
    obtain ⟨rfl, rfl⟩ := h2
    subst h0 h1 h3
    have hk : 0 ≤ kd ∧ kd < 256 := by
      have h9 : IntKind.u8.min ≤ kd ∧ kd ≤ IntKind.u8.max := by simpa [Lit.wf] using hwf
      exact ⟨h9.1, by have := h9.2; rw [show IntKind.u8.max = 255 from rfl] at this; omega⟩
    obtain ⟨k0, rfl⟩ := Int.eq_ofNat_of_zero_le hk.1
    rcases DataW.trod_slice Tryd.underlying28 f4 with ⟨h4, _⟩ | ⟨x, len, cap, elems, rest, m, hmk, h4, _, _, hlc, hcm, helen, hall, _⟩
    · simp only [List.cons.injEq, and_true] at h4
      subst h4
      exact ⟨.mk k0 yes bel mag raw [], none, 0, rfl, by omega, hm, hr, Nat.le_refl _, Nat.zero_le _, trivial⟩
    · simp only [List.cons.injEq, and_true] at h4
      subst h4
      have hex : ∀ i, i < len → ∃ t : PT, ∃ cs', W.cells? 0 (x.add (i * 6)) 6 = some cs' ∧ PartAt W (· < W.heap.size) t cs' := by
        intro i hi
        have h5 := hall i hi
        rw [cellsPart, List.getElem?_eq_getElem (by omega)] at h5
        obtain ⟨cs', h6, h7⟩ := Option.bind_eq_some_iff.1 h5
        obtain ⟨t, ht⟩ := ih m (by omega) cs' _ h7
        exact ⟨t, cs', h6, ht⟩
      obtain ⟨f, hfs⟩ := Deep.choose_lt hex
      have hlen' : ((List.range len).map f).length = len := by simp
      have hrow : PartsAt W (· < W.heap.size) ((List.range len).map f) (some x) := by
        by_cases h0 : len = 0
        · subst h0; trivial
        · have hx : x = ⟨x.block, x.off, none⟩ ∧ x.block < W.heap.size := by
            obtain ⟨cs', h6, h7⟩ := hfs 0 (by omega)
            obtain ⟨a', c', rfl, _⟩ := h7.open
            obtain ⟨_, _, hget⟩ := World.cells?_some h6
            have g0 := hget 0 (by omega)
            have e0 : (x.add (0 * 6)).add 0 = x := by simp [Addr.add]
            rw [e0] at g0
            exact ⟨cell_plainP g0, block_ltP g0⟩
          obtain ⟨b, o, hxb⟩ : ∃ b o, x = ⟨b, o, none⟩ := ⟨_, _, hx.1⟩
          subst hxb
          refine PartsAt.of_get (.inr hx.2) fun i hi => ?_
          rw [hlen'] at hi
          obtain ⟨cs', h6, h7⟩ := hfs i hi
          refine ⟨cs', fun j u hu => ?_, by simpa using h7⟩
          obtain ⟨_, hlen6, hget⟩ := World.cells?_some h6
          have hj : j < 6 := by have := (List.getElem?_eq_some_iff.1 hu).1; omega
          have g := hget j hj
          rw [add_plain, add_plain] at g
          rw [g, hu]
      have := PartAt.shut (t := .mk k0 yes bel mag raw ((List.range len).map f)) (a := some x) (c := cap) (by show k0 < 256; omega) hm hr (by show ((List.range len).map f).length ≤ cap; omega) hcm hrow
      refine ⟨.mk k0 yes bel mag raw ((List.range len).map f), ?_⟩
      simpa [partCells, PT.kind, PT.yes, PT.bel, PT.mag, PT.raw, PT.items] using this
end
end Go.Proofs.YtjgicjgpahnmaaaDoor

/-! What parts are, reckoned: how deep, whether they may be. -/
namespace Go.Proofs.YtjgicjgpahnmaaaDoor
set_option linter.unusedVariables false
mutual
/-- Is a part deeper than so many tuples? -/
def PT.deeper : PT → Nat → Bool
  | .mk k _ _ _ _ l, n => if k = 7 then (match n with | 0 => true | n + 1 => PT.deeperL l n) else false
def PT.deeperL : List PT → Nat → Bool
  | [], _ => false
  | t :: l, n => PT.deeper t n || PT.deeperL l n
end
mutual
/-- How deep is a part? -/
def PT.depth : PT → Nat
  | .mk k _ _ _ _ l => if k = 7 then PT.depthL l + 1 else 0
def PT.depthL : List PT → Nat
  | [] => 0
  | t :: l => max (PT.depth t) (PT.depthL l)
end
mutual
theorem PT.deeper_depth : ∀ (t : PT) (n : Nat), t.deeper n = decide (n < t.depth)
  | .mk k _ _ _ _ l, n => by
    simp only [PT.deeper, PT.depth]
    by_cases hk : k = 7
    · simp only [hk, if_true]
      cases n with
      | zero => simp
      | succ n => show PT.deeperL l n = _; rw [PT.deeperL_depth l n]; simp
    · simp [hk]
theorem PT.deeperL_depth : ∀ (l : List PT) (n : Nat), PT.deeperL l n = decide (n < PT.depthL l)
  | [], n => by simp [PT.deeperL, PT.depthL]
  | t :: l, n => by
    simp only [PT.deeperL, PT.depthL, PT.deeper_depth t n, PT.deeperL_depth l n]
    rw [← Bool.decide_or]; exact decide_eq_decide.2 (by omega)
end
theorem PT.depthL_le {l : List PT} {n : Nat} : PT.depthL l ≤ n ↔ ∀ x ∈ l, x.depth ≤ n := by
  induction l with
  | nil => simp [PT.depthL]
  | cons t l ih => simp only [PT.depthL, List.forall_mem_cons, ← ih]; omega
theorem PT.deeperL_iff {l : List PT} {n : Nat} : PT.deeperL l n = false ↔ ∀ x ∈ l, x.deeper n = false := by
  induction l with
  | nil => simp [PT.deeperL]
  | cons t l ih => simp [PT.deeperL, ih]
/-- May a number be? -/
def numOk (below : Bool) (mag : ByteArray) : Bool := decide (mag.size ≤ 255) && !(below && mag.size == 0) && (mag.size == 0 || mag[0]! != 0)
mutual
/-- May a part be? -/
def PT.may : PT → Bool
  | .mk k y b m r l => (k == 1 || !y) && (k == 2 || (!b && m.size == 0)) && (k == 7 || l.isEmpty) &&
    (if k = 0 ∨ k = 1 then r.size == 0 else if k = 2 then r.size == 0 && numOk b m else if k = 4 then r.size == 16 else if k = 3 ∨ k = 5 ∨ k = 6 then decide (r.size ≤ 65536) else if k = 7 then r.size == 0 && decide (l.length ≤ 1024) && PT.mayL l else false)
def PT.mayL : List PT → Bool
  | [] => true
  | t :: l => PT.may t && PT.mayL l
end
theorem PT.mayL_iff {l : List PT} : PT.mayL l = true ↔ ∀ x ∈ l, x.may = true := by
  induction l with
  | nil => simp [PT.mayL]
  | cons t l ih => simp [PT.mayL, ih]
end Go.Proofs.YtjgicjgpahnmaaaDoor

/-! A struct that is read, field by field. -/
namespace Go.Proofs.YtjgicjgpahnmaaaDoor
set_option linter.unusedVariables false
section
variable {H : Type} {enc : TypeId × Value → H} {W : World}
theorem structN2 {P : Program} {t : TypeId} {f0 f1 : Field} {fuel : Nat} {cs : List Value} {x : DataW H × List MemPlace} (ht : P.underlying t = some (.struct #[f0, f1])) (h : DataW.trod enc P W 0 (fun _ => true) true fuel t cs = some x) :
    ∃ y0 y1 n, fuel = n + 1 ∧ x = (.agg [y0.1, y1.1], y0.2 ++ (y1.2)) ∧ cs.length = P.cellsOf t ∧ DataW.trod enc P W 0 (fun _ => true) true n f0.type ((cs.drop f0.offset).take (P.cellsOf f0.type)) = some y0 ∧ DataW.trod enc P W 0 (fun _ => true) true n f1.type ((cs.drop f1.offset).take (P.cellsOf f1.type)) = some y1 := by
  obtain ⟨xs, n, e, rfl, hl, hlen, hf⟩ := DataW.trod_struct ht h
  match xs, hlen with
  | [y0, y1], _ => exact ⟨y0, y1, n, e, by simp, hl, by simpa using hf 0 f0 rfl, by simpa using hf 1 f1 rfl⟩
theorem structN3 {P : Program} {t : TypeId} {f0 f1 f2 : Field} {fuel : Nat} {cs : List Value} {x : DataW H × List MemPlace} (ht : P.underlying t = some (.struct #[f0, f1, f2])) (h : DataW.trod enc P W 0 (fun _ => true) true fuel t cs = some x) :
    ∃ y0 y1 y2 n, fuel = n + 1 ∧ x = (.agg [y0.1, y1.1, y2.1], y0.2 ++ (y1.2 ++ (y2.2))) ∧ cs.length = P.cellsOf t ∧ DataW.trod enc P W 0 (fun _ => true) true n f0.type ((cs.drop f0.offset).take (P.cellsOf f0.type)) = some y0 ∧ DataW.trod enc P W 0 (fun _ => true) true n f1.type ((cs.drop f1.offset).take (P.cellsOf f1.type)) = some y1 ∧ DataW.trod enc P W 0 (fun _ => true) true n f2.type ((cs.drop f2.offset).take (P.cellsOf f2.type)) = some y2 := by
  obtain ⟨xs, n, e, rfl, hl, hlen, hf⟩ := DataW.trod_struct ht h
  match xs, hlen with
  | [y0, y1, y2], _ => exact ⟨y0, y1, y2, n, e, by simp, hl, by simpa using hf 0 f0 rfl, by simpa using hf 1 f1 rfl, by simpa using hf 2 f2 rfl⟩
theorem structN4 {P : Program} {t : TypeId} {f0 f1 f2 f3 : Field} {fuel : Nat} {cs : List Value} {x : DataW H × List MemPlace} (ht : P.underlying t = some (.struct #[f0, f1, f2, f3])) (h : DataW.trod enc P W 0 (fun _ => true) true fuel t cs = some x) :
    ∃ y0 y1 y2 y3 n, fuel = n + 1 ∧ x = (.agg [y0.1, y1.1, y2.1, y3.1], y0.2 ++ (y1.2 ++ (y2.2 ++ (y3.2)))) ∧ cs.length = P.cellsOf t ∧ DataW.trod enc P W 0 (fun _ => true) true n f0.type ((cs.drop f0.offset).take (P.cellsOf f0.type)) = some y0 ∧ DataW.trod enc P W 0 (fun _ => true) true n f1.type ((cs.drop f1.offset).take (P.cellsOf f1.type)) = some y1 ∧ DataW.trod enc P W 0 (fun _ => true) true n f2.type ((cs.drop f2.offset).take (P.cellsOf f2.type)) = some y2 ∧ DataW.trod enc P W 0 (fun _ => true) true n f3.type ((cs.drop f3.offset).take (P.cellsOf f3.type)) = some y3 := by
  obtain ⟨xs, n, e, rfl, hl, hlen, hf⟩ := DataW.trod_struct ht h
  match xs, hlen with
  | [y0, y1, y2, y3], _ => exact ⟨y0, y1, y2, y3, n, e, by simp, hl, by simpa using hf 0 f0 rfl, by simpa using hf 1 f1 rfl, by simpa using hf 2 f2 rfl, by simpa using hf 3 f3 rfl⟩
theorem structN5 {P : Program} {t : TypeId} {f0 f1 f2 f3 f4 : Field} {fuel : Nat} {cs : List Value} {x : DataW H × List MemPlace} (ht : P.underlying t = some (.struct #[f0, f1, f2, f3, f4])) (h : DataW.trod enc P W 0 (fun _ => true) true fuel t cs = some x) :
    ∃ y0 y1 y2 y3 y4 n, fuel = n + 1 ∧ x = (.agg [y0.1, y1.1, y2.1, y3.1, y4.1], y0.2 ++ (y1.2 ++ (y2.2 ++ (y3.2 ++ (y4.2))))) ∧ cs.length = P.cellsOf t ∧ DataW.trod enc P W 0 (fun _ => true) true n f0.type ((cs.drop f0.offset).take (P.cellsOf f0.type)) = some y0 ∧ DataW.trod enc P W 0 (fun _ => true) true n f1.type ((cs.drop f1.offset).take (P.cellsOf f1.type)) = some y1 ∧ DataW.trod enc P W 0 (fun _ => true) true n f2.type ((cs.drop f2.offset).take (P.cellsOf f2.type)) = some y2 ∧ DataW.trod enc P W 0 (fun _ => true) true n f3.type ((cs.drop f3.offset).take (P.cellsOf f3.type)) = some y3 ∧ DataW.trod enc P W 0 (fun _ => true) true n f4.type ((cs.drop f4.offset).take (P.cellsOf f4.type)) = some y4 := by
  obtain ⟨xs, n, e, rfl, hl, hlen, hf⟩ := DataW.trod_struct ht h
  match xs, hlen with
  | [y0, y1, y2, y3, y4], _ => exact ⟨y0, y1, y2, y3, y4, n, e, by simp, hl, by simpa using hf 0 f0 rfl, by simpa using hf 1 f1 rfl, by simpa using hf 2 f2 rfl, by simpa using hf 3 f3 rfl, by simpa using hf 4 f4 rfl⟩
theorem structN6 {P : Program} {t : TypeId} {f0 f1 f2 f3 f4 f5 : Field} {fuel : Nat} {cs : List Value} {x : DataW H × List MemPlace} (ht : P.underlying t = some (.struct #[f0, f1, f2, f3, f4, f5])) (h : DataW.trod enc P W 0 (fun _ => true) true fuel t cs = some x) :
    ∃ y0 y1 y2 y3 y4 y5 n, fuel = n + 1 ∧ x = (.agg [y0.1, y1.1, y2.1, y3.1, y4.1, y5.1], y0.2 ++ (y1.2 ++ (y2.2 ++ (y3.2 ++ (y4.2 ++ (y5.2)))))) ∧ cs.length = P.cellsOf t ∧ DataW.trod enc P W 0 (fun _ => true) true n f0.type ((cs.drop f0.offset).take (P.cellsOf f0.type)) = some y0 ∧ DataW.trod enc P W 0 (fun _ => true) true n f1.type ((cs.drop f1.offset).take (P.cellsOf f1.type)) = some y1 ∧ DataW.trod enc P W 0 (fun _ => true) true n f2.type ((cs.drop f2.offset).take (P.cellsOf f2.type)) = some y2 ∧ DataW.trod enc P W 0 (fun _ => true) true n f3.type ((cs.drop f3.offset).take (P.cellsOf f3.type)) = some y3 ∧ DataW.trod enc P W 0 (fun _ => true) true n f4.type ((cs.drop f4.offset).take (P.cellsOf f4.type)) = some y4 ∧ DataW.trod enc P W 0 (fun _ => true) true n f5.type ((cs.drop f5.offset).take (P.cellsOf f5.type)) = some y5 := by
  obtain ⟨xs, n, e, rfl, hl, hlen, hf⟩ := DataW.trod_struct ht h
  match xs, hlen with
  | [y0, y1, y2, y3, y4, y5], _ => exact ⟨y0, y1, y2, y3, y4, y5, n, e, by simp, hl, by simpa using hf 0 f0 rfl, by simpa using hf 1 f1 rfl, by simpa using hf 2 f2 rfl, by simpa using hf 3 f3 rfl, by simpa using hf 4 f4 rfl, by simpa using hf 5 f5 rfl⟩
theorem structN8 {P : Program} {t : TypeId} {f0 f1 f2 f3 f4 f5 f6 f7 : Field} {fuel : Nat} {cs : List Value} {x : DataW H × List MemPlace} (ht : P.underlying t = some (.struct #[f0, f1, f2, f3, f4, f5, f6, f7])) (h : DataW.trod enc P W 0 (fun _ => true) true fuel t cs = some x) :
    ∃ y0 y1 y2 y3 y4 y5 y6 y7 n, fuel = n + 1 ∧ x = (.agg [y0.1, y1.1, y2.1, y3.1, y4.1, y5.1, y6.1, y7.1], y0.2 ++ (y1.2 ++ (y2.2 ++ (y3.2 ++ (y4.2 ++ (y5.2 ++ (y6.2 ++ (y7.2)))))))) ∧ cs.length = P.cellsOf t ∧ DataW.trod enc P W 0 (fun _ => true) true n f0.type ((cs.drop f0.offset).take (P.cellsOf f0.type)) = some y0 ∧ DataW.trod enc P W 0 (fun _ => true) true n f1.type ((cs.drop f1.offset).take (P.cellsOf f1.type)) = some y1 ∧ DataW.trod enc P W 0 (fun _ => true) true n f2.type ((cs.drop f2.offset).take (P.cellsOf f2.type)) = some y2 ∧ DataW.trod enc P W 0 (fun _ => true) true n f3.type ((cs.drop f3.offset).take (P.cellsOf f3.type)) = some y3 ∧ DataW.trod enc P W 0 (fun _ => true) true n f4.type ((cs.drop f4.offset).take (P.cellsOf f4.type)) = some y4 ∧ DataW.trod enc P W 0 (fun _ => true) true n f5.type ((cs.drop f5.offset).take (P.cellsOf f5.type)) = some y5 ∧ DataW.trod enc P W 0 (fun _ => true) true n f6.type ((cs.drop f6.offset).take (P.cellsOf f6.type)) = some y6 ∧ DataW.trod enc P W 0 (fun _ => true) true n f7.type ((cs.drop f7.offset).take (P.cellsOf f7.type)) = some y7 := by
  obtain ⟨xs, n, e, rfl, hl, hlen, hf⟩ := DataW.trod_struct ht h
  match xs, hlen with
  | [y0, y1, y2, y3, y4, y5, y6, y7], _ => exact ⟨y0, y1, y2, y3, y4, y5, y6, y7, n, e, by simp, hl, by simpa using hf 0 f0 rfl, by simpa using hf 1 f1 rfl, by simpa using hf 2 f2 rfl, by simpa using hf 3 f3 rfl, by simpa using hf 4 f4 rfl, by simpa using hf 5 f5 rfl, by simpa using hf 6 f6 rfl, by simpa using hf 7 f7 rfl⟩
theorem structN10 {P : Program} {t : TypeId} {f0 f1 f2 f3 f4 f5 f6 f7 f8 f9 : Field} {fuel : Nat} {cs : List Value} {x : DataW H × List MemPlace} (ht : P.underlying t = some (.struct #[f0, f1, f2, f3, f4, f5, f6, f7, f8, f9])) (h : DataW.trod enc P W 0 (fun _ => true) true fuel t cs = some x) :
    ∃ y0 y1 y2 y3 y4 y5 y6 y7 y8 y9 n, fuel = n + 1 ∧ x = (.agg [y0.1, y1.1, y2.1, y3.1, y4.1, y5.1, y6.1, y7.1, y8.1, y9.1], y0.2 ++ (y1.2 ++ (y2.2 ++ (y3.2 ++ (y4.2 ++ (y5.2 ++ (y6.2 ++ (y7.2 ++ (y8.2 ++ (y9.2)))))))))) ∧ cs.length = P.cellsOf t ∧ DataW.trod enc P W 0 (fun _ => true) true n f0.type ((cs.drop f0.offset).take (P.cellsOf f0.type)) = some y0 ∧ DataW.trod enc P W 0 (fun _ => true) true n f1.type ((cs.drop f1.offset).take (P.cellsOf f1.type)) = some y1 ∧ DataW.trod enc P W 0 (fun _ => true) true n f2.type ((cs.drop f2.offset).take (P.cellsOf f2.type)) = some y2 ∧ DataW.trod enc P W 0 (fun _ => true) true n f3.type ((cs.drop f3.offset).take (P.cellsOf f3.type)) = some y3 ∧ DataW.trod enc P W 0 (fun _ => true) true n f4.type ((cs.drop f4.offset).take (P.cellsOf f4.type)) = some y4 ∧ DataW.trod enc P W 0 (fun _ => true) true n f5.type ((cs.drop f5.offset).take (P.cellsOf f5.type)) = some y5 ∧ DataW.trod enc P W 0 (fun _ => true) true n f6.type ((cs.drop f6.offset).take (P.cellsOf f6.type)) = some y6 ∧ DataW.trod enc P W 0 (fun _ => true) true n f7.type ((cs.drop f7.offset).take (P.cellsOf f7.type)) = some y7 ∧ DataW.trod enc P W 0 (fun _ => true) true n f8.type ((cs.drop f8.offset).take (P.cellsOf f8.type)) = some y8 ∧ DataW.trod enc P W 0 (fun _ => true) true n f9.type ((cs.drop f9.offset).take (P.cellsOf f9.type)) = some y9 := by
  obtain ⟨xs, n, e, rfl, hl, hlen, hf⟩ := DataW.trod_struct ht h
  match xs, hlen with
  | [y0, y1, y2, y3, y4, y5, y6, y7, y8, y9], _ => exact ⟨y0, y1, y2, y3, y4, y5, y6, y7, y8, y9, n, e, by simp, hl, by simpa using hf 0 f0 rfl, by simpa using hf 1 f1 rfl, by simpa using hf 2 f2 rfl, by simpa using hf 3 f3 rfl, by simpa using hf 4 f4 rfl, by simpa using hf 5 f5 rfl, by simpa using hf 6 f6 rfl, by simpa using hf 7 f7 rfl, by simpa using hf 8 f8 rfl, by simpa using hf 9 f9 rfl⟩
end
theorem lenN2 {α : Type} {l : List α} (h : l.length = 2) : ∃ a0 a1, l = [a0, a1] := by
  match l, h with | [a0, a1], _ => exact ⟨a0, a1, rfl⟩
theorem lenN3 {α : Type} {l : List α} (h : l.length = 3) : ∃ a0 a1 a2, l = [a0, a1, a2] := by
  match l, h with | [a0, a1, a2], _ => exact ⟨a0, a1, a2, rfl⟩
theorem lenN4 {α : Type} {l : List α} (h : l.length = 4) : ∃ a0 a1 a2 a3, l = [a0, a1, a2, a3] := by
  match l, h with | [a0, a1, a2, a3], _ => exact ⟨a0, a1, a2, a3, rfl⟩
theorem lenN5 {α : Type} {l : List α} (h : l.length = 5) : ∃ a0 a1 a2 a3 a4, l = [a0, a1, a2, a3, a4] := by
  match l, h with | [a0, a1, a2, a3, a4], _ => exact ⟨a0, a1, a2, a3, a4, rfl⟩
theorem lenN6 {α : Type} {l : List α} (h : l.length = 6) : ∃ a0 a1 a2 a3 a4 a5, l = [a0, a1, a2, a3, a4, a5] := by
  match l, h with | [a0, a1, a2, a3, a4, a5], _ => exact ⟨a0, a1, a2, a3, a4, a5, rfl⟩
theorem lenN8 {α : Type} {l : List α} (h : l.length = 8) : ∃ a0 a1 a2 a3 a4 a5 a6 a7, l = [a0, a1, a2, a3, a4, a5, a6, a7] := by
  match l, h with | [a0, a1, a2, a3, a4, a5, a6, a7], _ => exact ⟨a0, a1, a2, a3, a4, a5, a6, a7, rfl⟩
theorem lenN10 {α : Type} {l : List α} (h : l.length = 10) : ∃ a0 a1 a2 a3 a4 a5 a6 a7 a8 a9, l = [a0, a1, a2, a3, a4, a5, a6, a7, a8, a9] := by
  match l, h with | [a0, a1, a2, a3, a4, a5, a6, a7, a8, a9], _ => exact ⟨a0, a1, a2, a3, a4, a5, a6, a7, a8, a9, rfl⟩
theorem lenN11 {α : Type} {l : List α} (h : l.length = 11) : ∃ a0 a1 a2 a3 a4 a5 a6 a7 a8 a9 a10, l = [a0, a1, a2, a3, a4, a5, a6, a7, a8, a9, a10] := by
  match l, h with | [a0, a1, a2, a3, a4, a5, a6, a7, a8, a9, a10], _ => exact ⟨a0, a1, a2, a3, a4, a5, a6, a7, a8, a9, a10, rfl⟩
theorem lenN20 {α : Type} {l : List α} (h : l.length = 20) : ∃ a0 a1 a2 a3 a4 a5 a6 a7 a8 a9 a10 a11 a12 a13 a14 a15 a16 a17 a18 a19, l = [a0, a1, a2, a3, a4, a5, a6, a7, a8, a9, a10, a11, a12, a13, a14, a15, a16, a17, a18, a19] := by
  match l, h with | [a0, a1, a2, a3, a4, a5, a6, a7, a8, a9, a10, a11, a12, a13, a14, a15, a16, a17, a18, a19], _ => exact ⟨a0, a1, a2, a3, a4, a5, a6, a7, a8, a9, a10, a11, a12, a13, a14, a15, a16, a17, a18, a19, rfl⟩
theorem lenN23 {α : Type} {l : List α} (h : l.length = 23) : ∃ a0 a1 a2 a3 a4 a5 a6 a7 a8 a9 a10 a11 a12 a13 a14 a15 a16 a17 a18 a19 a20 a21 a22, l = [a0, a1, a2, a3, a4, a5, a6, a7, a8, a9, a10, a11, a12, a13, a14, a15, a16, a17, a18, a19, a20, a21, a22] := by
  match l, h with | [a0, a1, a2, a3, a4, a5, a6, a7, a8, a9, a10, a11, a12, a13, a14, a15, a16, a17, a18, a19, a20, a21, a22], _ => exact ⟨a0, a1, a2, a3, a4, a5, a6, a7, a8, a9, a10, a11, a12, a13, a14, a15, a16, a17, a18, a19, a20, a21, a22, rfl⟩
end Go.Proofs.YtjgicjgpahnmaaaDoor

/-! dovetailkeep.Deep: it answers, whatever the part. -/
namespace Go.Proofs.YtjgicjgpahnmaaaDoor
open Go.RowKit Go.WideShapes
/-- A cell of a number. -/
def IntCell (w : World) (L : Nat) (l : Int) : Prop := w.heap[L]? = some (.cells #[.int .i64 l] 3 (0, 0))
theorem IntCell.at_ {w : World} {L : Nat} {l : Int} (h : IntCell w L l) : w.cell? ⟨L, 0, none⟩ = some (.int .i64 l) := by
  simp [World.cell?, show w.heap[L]? = _ from h]
theorem IntCell.free {w : World} {L : Nat} {l : Int} (h : IntCell w L l) (o : Nat) : w.frozen? ⟨L, o, none⟩ = false := by
  simp [World.frozen?, show w.heap[L]? = _ from h]
theorem IntCell.set {w : World} {L : Nat} {l : Int} (h : IntCell w L l) (l' : Int) : IntCell (w.setCell ⟨L, 0, none⟩ (.int .i64 l')) L l' := by
  have hl := (Array.getElem?_eq_some_iff.1 h).1
  unfold IntCell at *
  simp [World.setCell, Array.getElem?_modify, h]
theorem IntCell.alloc {w : World} {L : Nat} {l : Int} (h : IntCell w L l) (o : Obj) : IntCell (w.alloc o) L l := by
  have hl := (Array.getElem?_eq_some_iff.1 h).1
  unfold IntCell at *
  rw [Below.heap_alloc w o L hl]; exact h
theorem IntCell.lt {w : World} {L : Nat} {l : Int} (h : IntCell w L l) : L < w.heap.size := (Array.getElem?_eq_some_iff.1 h).1
theorem new_part (w : World) (n : Nat) (t : PT) (a : Option Addr) (c : Nat) (T : TypeId) (hn : n = w.heap.size) : CellsAt (w.alloc (.cells (partCells t a c).toArray T)) n 0 (partCells t a c) := fun i u hu => by
  subst hn
  rw [World.cell?_alloc_at _ _ _ _ (by simp)]
  simpa using hu
def DeepPost (L : Nat) (w : World) (e : Ending) (w' : World) : Prop := ∃ n l', e = .returned (.int .i64 n) ∧ IntCell w' L l' ∧ w.grownBy w' (some L)
set_option maxRecDepth 100000 in
set_option maxHeartbeats 4000000 in
theorem deep_any : ∀ (t : PT) (a : Option Addr) (c : Nat) (x l : Int) (L B : Nat) (w : World), PartAt w (· < B) t (partCells t a c) → B ≤ L → IntCell w L l →
    Calls Tryd.prog 39 #[.agg (partCells t a c).toArray, .int .i64 x, .pointer (some ⟨L, 0, none⟩)] w (DeepPost L w) := by
  refine PT.all fun t ih => ?_
  intro a c x l L B w hp hBL hL
  obtain ⟨a1, c1, e1, hk, hm, hr, hlc, hcm, hits⟩ := hp.open
  obtain ⟨rfl, rfl⟩ : a1 = a ∧ c1 = c := by simpa [partCells, eq_comm] using e1
  have HI := Lib.hid hits
  have HIH := Lib.hid ih
  have HL := Lib.hid hL
  have hc := hL.at_
  have hf := hL.free 0
  have hLlt : L < w.heap.size := (Array.getElem?_eq_some_iff.1 hL).1
  clear hits ih hp e1 hL
  have hlen : t.items.length ≤ 9223372036854775807 := by unfold maxLen at hcm; omega
  unfold partCells
  have HB2 := Lib.hid ((grownBy_setCell' w L (.int .i64 (wrap64 (l - 1)))).trans (World.grownBy_alloc (w.setCell ⟨L, 0, none⟩ (.int .i64 (wrap64 (l - 1)))) (.cells #[.int .u8 t.kind, .bool t.yes, .bool t.bel, .string t.mag, .string t.raw, .slice a1 t.items.length c1] 30) _))
  have HP2 := Lib.hid (new_part (w.setCell ⟨L, 0, none⟩ (.int .i64 (wrap64 (l - 1)))) w.heap.size t a1 c1 30 (by simp))
  have HL2 := Lib.hid ((HL.out.set (wrap64 (l - 1))).alloc (.cells #[.int .u8 t.kind, .bool t.yes, .bool t.bel, .string t.mag, .string t.raw, .slice a1 t.items.length c1] 30))
  by_cases hx : 40 < x
  · go_enter Tryd.func39, Tryd.ntmps39
    go_wp2_with fail
    go_ret
    exact ⟨_, _, rfl, HL2.out, HB2.out⟩
  · by_cases hn : wrap64 (l - 1) < 0
    · go_enter Tryd.func39, Tryd.ntmps39
      go_wp2_with fail
      go_ret
      exact ⟨_, _, rfl, HL2.out, HB2.out⟩
    · go_enter Tryd.func39, Tryd.ntmps39
      go_wp2_with fail
      go_loopw [7, 8] (fun n i wr => ∃ (k : Nat) (n' l' : Int), n = .int .i64 n' ∧ i = .int .i64 k ∧ k ≤ t.items.length ∧ Hid (IntCell wr L l') ∧ Hid (w.grownBy wr (some L)) ∧ Hid (CellsAt wr w.heap.size 0 (partCells t a1 c1)) ∧ w.heap.size < wr.heap.size) (fun _ i _ => t.items.length - (intOf i).toNat)
      case atStart => exact ⟨0, _, _, rfl, rfl, by omega, HL2, HB2, HP2, by simp⟩
      case round =>
        clear HL2 HB2 HP2
        obtain ⟨k, n', l', rfl, rfl, hk, HL', HB, HP, hwz⟩ := hrel
        have hp5 := HP.out 5 _ rfl
        have hp0 := HP.out 0 _ rfl
        have hL := HL'.out.at_
        have hLf := HL'.out.free 0
        by_cases hlt : k < t.items.length
        · obtain ⟨b, o, a', c', rfl, hb, k0, k1, k2, k3, k4, k5, hpa⟩ := (PartsAt.keep (fun p hp => HB.out.cell_far p (by omega) (by simp; omega)) _ _ HI.out).cells hlt
          have HR := Lib.hid (HIH.out t.items[k] (List.getElem_mem hlt) a' c' (wrap64 (x + 1)) l' L B wr hpa hBL HL'.out)
          clear hpa
          go_wp2_with fail
          refine HR.out.mono ?_
          rintro e w' ⟨n2, l2, rfl, hL2, hg2⟩
          have HB' := Lib.hid (HB.out.trans hg2)
          have HP' := Lib.hid (HP.out.keep fun p hp => hg2.cell_far p (by omega) (by simp; omega))
          have hz' := hg2.size
          have hL2a := hL2.at_
          have HL2 := Lib.hid hL2
          clear hL hLf hL2 hg2 HR k0 k1 k2 k3 k4 k5 hp0 hp5 HP HB HL'
          have hp5 := HP'.out 5 _ rfl
          have hp0 := HP'.out 0 _ rfl
          by_cases hd : n' < n2
          · by_cases hneg : l2 < 0
            · go_wp2_with fail
              go_ret
              exact ⟨_, _, rfl, HL2.out, HB'.out⟩
            · go_wp2_with fail
              go_roundw
              case rel => exact ⟨k + 1, _, _, rfl, by go_num, by omega, HL2, HB', HP', by omega⟩
              case measure => simp [intOf]; omega
          · by_cases hneg : l2 < 0
            · go_wp2_with fail
              go_ret
              exact ⟨_, _, rfl, HL2.out, HB'.out⟩
            · go_wp2_with fail
              go_roundw
              case rel => exact ⟨k + 1, _, _, rfl, by go_num, by omega, HL2, HB', HP', by omega⟩
              case measure => simp [intOf]; omega
        · by_cases h7 : t.kind = 7
          · go_wp2_with fail
            go_ret
            exact ⟨_, _, rfl, HL'.out, HB.out⟩
          · by_cases hz : t.items.length = 0
            · go_wp2_with fail
              go_ret
              exact ⟨_, _, rfl, HL'.out, HB.out⟩
            · go_wp2_with fail
              go_ret
              exact ⟨_, _, rfl, HL'.out, HB.out⟩
end Go.Proofs.YtjgicjgpahnmaaaDoor

/-! dovetailkeep.Deep answers, whatever the part. -/
namespace Go.Proofs.YtjgicjgpahnmaaaDoor
open Go.RowKit Go.WideShapes
theorem grown_below {w w' : World} {g B : Nat} (h : w.grownBy w' (some g)) (hB : B ≤ w.heap.size) (hg : B ≤ g) : Below B w w' := (Below.refl B w).grown h hB (fun j e => by cases e; exact hg)
def IntPost (w : World) (e : Ending) (w' : World) : Prop := ∃ n, e = .returned (.int .i64 n) ∧ Below w.heap.size w w'
set_option maxRecDepth 100000 in
set_option maxHeartbeats 1000000 in
theorem Deep_any (t : PT) (a : Option Addr) (c : Nat) (x : Int) (w : World) (hp : PartAt w (· < w.heap.size) t (partCells t a c)) :
    Calls Tryd.prog 21 #[.agg (partCells t a c).toArray, .int .i64 x] w (IntPost w) := by
  have HP := Lib.hid hp
  obtain ⟨W1, hW1⟩ : ∃ W1, W1 = w.alloc (.cells (partCells t a c).toArray 30) := ⟨_, rfl⟩
  obtain ⟨W2, hW2⟩ : ∃ W2, W2 = W1.alloc (.cells #[.int .i64 16777216] 3) := ⟨_, rfl⟩
  have hz1 : W1.heap.size = w.heap.size + 1 := by rw [hW1]; simp
  have hI : IntCell W2 (w.heap.size + 1) 16777216 := by
    unfold IntCell; rw [hW2, ← hz1]; exact World.alloc_heap_new W1 _
  have hB : Below w.heap.size w W2 := by
    rw [hW2]; refine Below.alloc ?_ (by omega) _; rw [hW1]; exact (Below.refl _ _).alloc (Nat.le_refl _) _
  have HR := Lib.hid (deep_any t a c x 16777216 (w.heap.size + 1) w.heap.size W2 (PartAt.below hp hB) (by omega) hI)
  have HB := Lib.hid hB
  rw [hW2, hW1] at HR HB
  clear hp hI hB hW1 hW2 hz1
  unfold partCells at *
  go_enter Tryd.func21, Tryd.ntmps21
  go_wp2_with fail
  refine HR.out.mono ?_
  rintro e w' ⟨n, l', rfl, _, hg⟩
  have hb : Below w.heap.size w w' := HB.out.trans (grown_below hg (by simp; omega) (by omega))
  clear HR HB hg
  go_wp2_with fail
  go_ret
  exact ⟨_, rfl, hb⟩
end Go.Proofs.YtjgicjgpahnmaaaDoor

/-! The law's weight and vast answer, whatever is handed in. -/
namespace Go.Proofs.YtjgicjgpahnmaaaDoor
open Go.RowKit Go.WideShapes
set_option maxRecDepth 100000 in
set_option maxHeartbeats 4000000 in
theorem weight_any : ∀ (t : PT) (a : Option Addr) (c : Nat) (w : World), PartAt w (· < w.heap.size) t (partCells t a c) →
    Calls Tryd.prog 12 #[.agg (partCells t a c).toArray] w (IntPost w) := by
  refine PT.all fun t ih => ?_
  intro a c w hp
  obtain ⟨a1, c1, e1, hk, hm, hr, hlc, hcm, hits⟩ := hp.open
  obtain ⟨rfl, rfl⟩ : a1 = a ∧ c1 = c := by simpa [partCells, eq_comm] using e1
  have HI := Lib.hid hits
  have HIH := Lib.hid ih
  have hlen : t.items.length ≤ 9223372036854775807 := by unfold maxLen at hcm; omega
  clear hits ih hp e1
  unfold partCells
  have HB2 := Lib.hid ((Below.refl w.heap.size w).alloc (Nat.le_refl _) (.cells #[.int .u8 t.kind, .bool t.yes, .bool t.bel, .string t.mag, .string t.raw, .slice a1 t.items.length c1] 30))
  have HP2 := Lib.hid (new_part w w.heap.size t a1 c1 30 rfl)
  go_enter Tryd.func12, Tryd.ntmps12
  go_wp2_with fail
  go_loopw [3, 4] (fun n i wr => ∃ (k : Nat) (n' : Int), n = .int .i64 n' ∧ i = .int .i64 k ∧ k ≤ t.items.length ∧ Hid (Below w.heap.size w wr) ∧ Hid (CellsAt wr w.heap.size 0 (partCells t a1 c1)) ∧ w.heap.size < wr.heap.size) (fun _ i _ => t.items.length - (intOf i).toNat)
  case atStart => exact ⟨0, _, rfl, rfl, by omega, HB2, HP2, by simp⟩
  case round =>
    clear HB2 HP2
    obtain ⟨k, n', rfl, rfl, hk, HB, HP, hwz⟩ := hrel
    have hp5 := HP.out 5 _ rfl
    by_cases hlt : k < t.items.length
    · by_cases hn : n' ≤ 16777216
      · obtain ⟨b, o, a', c', rfl, hb, k0, k1, k2, k3, k4, k5, hpa⟩ := (HI.out.below HB.out).cells hlt
        have HR := Lib.hid (HIH.out t.items[k] (List.getElem_mem hlt) a' c' wr (PartAt.more (fun b hb => by have := hb; omega) _ _ hpa))
        clear hpa
        go_wp2_with fail
        refine HR.out.mono ?_
        rintro e w' ⟨n2, rfl, hg2⟩
        have HB' := Lib.hid (HB.out.trans (hg2.mono (by omega)))
        have HP' := Lib.hid (HP.out.keep fun p hp => hg2.cell (by omega))
        have hz' := hg2.size
        clear hg2 HR k0 k1 k2 k3 k4 k5 hp5 HP HB
        go_wp2_with fail
        go_roundw
        case rel => exact ⟨k + 1, _, rfl, by go_num, by omega, HB', HP', by omega⟩
        case measure => simp [intOf]; omega
      · go_wp2_with fail
        go_ret
        exact ⟨_, rfl, HB.out⟩
    · go_wp2_with fail
      go_ret
      exact ⟨_, rfl, HB.out⟩
end Go.Proofs.YtjgicjgpahnmaaaDoor

/-! Sources in memory; the law's vast answers, whatever is handed in. -/
namespace Go.Proofs.YtjgicjgpahnmaaaDoor
open Go.RowKit Go.WideShapes Go.ChangeShapes Go.ChangeAt
set_option linter.unusedVariables false
/-- Sources that lie one behind the other. -/
def SrcsAt (w : World) (S : Nat → Prop) (l : List (Int × PT)) (a : Option Addr) : Prop :=
  ∀ i (hi : i < l.length), ∃ b o a' c', a = some ⟨b, o, none⟩ ∧ S b ∧ CellsAt w b (o + i * 7) (.int .i64 l[i].1 :: partCells l[i].2 a' c') ∧ PartAt w S l[i].2 (partCells l[i].2 a' c')
section
variable {w w' : World} {S S' : Nat → Prop} {l : List (Int × PT)} {a : Option Addr}
theorem SrcsAt.keep (hk : ∀ p : Addr, S p.block → w'.cell? p = w.cell? p) (h : SrcsAt w S l a) : SrcsAt w' S l a := fun i hi => by
  obtain ⟨b, o, a', c', e, hb, hc, hp⟩ := h i hi
  exact ⟨b, o, a', c', e, hb, hc.keep fun p hp => hk p (hp ▸ hb), PartAt.keep hk _ _ hp⟩
theorem SrcsAt.more (hS : ∀ b, S b → S' b) (h : SrcsAt w S l a) : SrcsAt w S' l a := fun i hi => by
  obtain ⟨b, o, a', c', e, hb, hc, hp⟩ := h i hi
  exact ⟨b, o, a', c', e, hS b hb, hc, PartAt.more hS _ _ hp⟩
theorem SrcsAt.below {B : Nat} (h : SrcsAt w (· < B) l a) (hb : Below B w w') : SrcsAt w' (· < B) l a := h.keep fun _ hp => hb.cell hp
theorem SrcsAt.cells (h : SrcsAt w S l a) {i : Nat} (hi : i < l.length) : ∃ b o a' c', a = some ⟨b, o, none⟩ ∧ S b ∧ w.cell? ⟨b, o + i * 7, none⟩ = some (.int .i64 l[i].1) ∧ w.cell? ⟨b, o + i * 7 + 1, none⟩ = some (.int .u8 l[i].2.kind) ∧ w.cell? ⟨b, o + i * 7 + 2, none⟩ = some (.bool l[i].2.yes) ∧
    w.cell? ⟨b, o + i * 7 + 3, none⟩ = some (.bool l[i].2.bel) ∧ w.cell? ⟨b, o + i * 7 + 4, none⟩ = some (.string l[i].2.mag) ∧ w.cell? ⟨b, o + i * 7 + 5, none⟩ = some (.string l[i].2.raw) ∧ w.cell? ⟨b, o + i * 7 + 6, none⟩ = some (.slice a' l[i].2.items.length c') ∧
    PartAt w S l[i].2 (partCells l[i].2 a' c') := by
  obtain ⟨b, o, a', c', e, hb, hc, h1⟩ := h i hi
  exact ⟨b, o, a', c', e, hb, hc 0 _ rfl, hc 1 _ rfl, hc 2 _ rfl, hc 3 _ rfl, hc 4 _ rfl, hc 5 _ rfl, hc 6 _ rfl, h1⟩
end
def BoolPost (w : World) (e : Ending) (w' : World) : Prop := ∃ b, e = .returned (.bool b) ∧ Below w.heap.size w w'
theorem PartAt.wide {w : World} {B B' : Nat} {t : PT} {cs : List Value} (h : PartAt w (· < B) t cs) (hB : B ≤ B') : PartAt w (· < B') t cs := PartAt.more (fun b hb => Nat.lt_of_lt_of_le hb hB) _ _ h
theorem PartsAt.wide {w : World} {B B' : Nat} {l : List PT} {a : Option Addr} (h : PartsAt w (· < B) l a) (hB : B ≤ B') : PartsAt w (· < B') l a := PartsAt.more (fun b hb => Nat.lt_of_lt_of_le hb hB) _ _ h
set_option maxRecDepth 100000 in
set_option maxHeartbeats 4000000 in
theorem vast_any (l : List (Int × PT)) (A : Option Addr) (C : Nat) (t : PT) (a : Option Addr) (c : Nat) (w : World) (hl : SrcsAt w (· < w.heap.size) l A) (hp : PartAt w (· < w.heap.size) t (partCells t a c)) (hlen : l.length ≤ 9223372036854775807) :
    Calls Tryd.prog 7 #[.slice A l.length C, .agg (partCells t a c).toArray] w (BoolPost w) := by
  have HL := Lib.hid hl
  have HD := Lib.hid (Deep_any t a c 0)
  have HW := Lib.hid (weight_any t a c)
  have HP := Lib.hid hp
  clear hl hp
  have HB0 := Lib.hid ((Below.refl w.heap.size w).alloc (Nat.le_refl _) (.cells (partCells t a c).toArray 30))
  have HP0 := Lib.hid (new_part w w.heap.size t a c 30 rfl)
  unfold partCells at HB0
  unfold partCells
  go_enter Tryd.func7, Tryd.ntmps7
  go_wp2_with fail
  refine (HD.out _ ((HP.out.below HB0.out).wide (by simp))).mono ?_
  rintro e w1 ⟨n1, rfl, hb1⟩
  have hz1 : w.heap.size + 1 ≤ w1.heap.size := by have := hb1.size; simpa using this
  have HB1 := Lib.hid (HB0.out.trans (hb1.mono (by simp)))
  have HP1 := Lib.hid (show CellsAt w1 w.heap.size 0 (partCells t a c) from CellsAt.keep HP0.out fun p hp => hb1.cell (by simp; omega))
  clear hb1 HB0 HP0 HD
  have p0 := HP1.out 0 _ rfl
  have p1 := HP1.out 1 _ rfl
  have p2 := HP1.out 2 _ rfl
  have p3 := HP1.out 3 _ rfl
  have p4 := HP1.out 4 _ rfl
  have p5 := HP1.out 5 _ rfl
  by_cases hn : 40 < n1
  · go_wp2_with fail
    go_ret
    exact ⟨_, rfl, HB1.out⟩
  · go_wp2_with fail
    refine (HW.out _ ((HP.out.below HB1.out).wide (by omega))).mono ?_
    rintro e w2 ⟨n2, rfl, hb2⟩
    have hz2 := hb2.size
    have HB2 := Lib.hid (HB1.out.trans (hb2.mono (by omega)))
    have HP2 := Lib.hid (HP1.out.keep fun p hp => hb2.cell (by omega))
    clear hb2 HB1 HP1 p0 p1 p2 p3 p4 p5
    go_wp2_with fail
    go_loopw [5, 6] (fun n i wr => ∃ (k : Nat) (n' : Int), n = .int .i64 n' ∧ i = .int .i64 k ∧ k ≤ l.length ∧ Hid (Below w.heap.size w wr) ∧ Hid (CellsAt wr w.heap.size 0 (partCells t a c)) ∧ w.heap.size < wr.heap.size) (fun _ i _ => l.length - (intOf i).toNat)
    case atStart => exact ⟨0, _, rfl, rfl, by omega, HB2, HP2, by omega⟩
    case round =>
      clear HB2 HP2
      obtain ⟨k, n', rfl, rfl, hk, HB, HP', hwz⟩ := hrel
      by_cases hlt : k < l.length
      · by_cases hn : n' ≤ 16777216
        · obtain ⟨b, o, a', c', rfl, hb, k0, k1, k2, k3, k4, k5, k6, hpa⟩ := (HL.out.below HB.out).cells hlt
          have HPA := Lib.hid (PartAt.wide hpa (by omega : w.heap.size ≤ wr.heap.size))
          have HD := Lib.hid (Deep_any _ _ _ 0 _ HPA.out)
          have HW' := Lib.hid (weight_any l[k].2 a' c')
          unfold partCells at HD HW'
          clear hpa
          go_wp2_with fail
          refine HD.out.mono ?_
          rintro e w3 ⟨n3, rfl, hb3⟩
          have hz3 := hb3.size
          have HB3 := Lib.hid (HB.out.trans (hb3.mono (by omega)))
          have HP3 := Lib.hid (HP'.out.keep fun p hp => hb3.cell (by omega))
          have HPA3 := Lib.hid ((HPA.out.below hb3).wide hz3)
          have k0 := (hb3.cell (p := ⟨b, o + k * 7, none⟩) (by simp only; omega)).trans k0
          have k1 := (hb3.cell (p := ⟨b, o + k * 7 + 1, none⟩) (by simp only; omega)).trans k1
          have k2 := (hb3.cell (p := ⟨b, o + k * 7 + 2, none⟩) (by simp only; omega)).trans k2
          have k3 := (hb3.cell (p := ⟨b, o + k * 7 + 3, none⟩) (by simp only; omega)).trans k3
          have k4 := (hb3.cell (p := ⟨b, o + k * 7 + 4, none⟩) (by simp only; omega)).trans k4
          have k5 := (hb3.cell (p := ⟨b, o + k * 7 + 5, none⟩) (by simp only; omega)).trans k5
          have k6 := (hb3.cell (p := ⟨b, o + k * 7 + 6, none⟩) (by simp only; omega)).trans k6
          clear hb3 HB HP' HPA HD
          by_cases hd : 40 < n3
          · go_wp2_with fail
            go_ret
            exact ⟨_, rfl, HB3.out⟩
          · go_wp2_with fail
            refine (HW'.out _ HPA3.out).mono ?_
            rintro e w4 ⟨n4, rfl, hb4⟩
            have hz4 := hb4.size
            have HB4 := Lib.hid (HB3.out.trans (hb4.mono (by omega)))
            have HP4 := Lib.hid (HP3.out.keep fun p hp => hb4.cell (by omega))
            clear hb4 HB3 HP3 k0 k1 k2 k3 k4 k5 k6 HPA3
            go_wp2_with fail
            go_roundw
            case rel => exact ⟨k + 1, _, rfl, by go_num, by omega, HB4, HP4, by omega⟩
            case measure => simp [intOf]; omega
        · have hn' : 16777216 < n' := by omega
          clear hn
          go_wp2_with fail
          go_ret
          exact ⟨_, rfl, HB.out⟩
      · have p0 := HP'.out 0 _ rfl
        have p1 := HP'.out 1 _ rfl
        have p2 := HP'.out 2 _ rfl
        have p3 := HP'.out 3 _ rfl
        have p4 := HP'.out 4 _ rfl
        have p5 := HP'.out 5 _ rfl
        obtain rfl : k = l.length := by omega
        by_cases hn : 16777216 < n'
        · go_wp2_with fail
          go_ret
          exact ⟨_, rfl, HB.out⟩
        · by_cases hm : 4000 < l.length
          · go_wp2_with fail
            go_ret
            exact ⟨_, rfl, HB.out⟩
          · go_wp2_with fail
            refine (HW.out _ ((HP.out.below HB.out).wide (by omega))).mono ?_
            rintro e w2 ⟨n2, rfl, hb2⟩
            have HB2 := Lib.hid (HB.out.trans (hb2.mono (by omega)))
            clear hb2 HB HP' p0 p1 p2 p3 p4 p5
            go_wp2_with fail
            go_ret
            exact ⟨_, rfl, HB2.out⟩
end Go.Proofs.YtjgicjgpahnmaaaDoor

/-! ref09.Deeper and value.deep: is a part deeper than so many tuples? -/
namespace Go.Proofs.YtjgicjgpahnmaaaDoor
open Go.RowKit Go.WideShapes
set_option linter.unusedVariables false
def Ret (v : Value) (w : World) (e : Ending) (w' : World) : Prop := e = .returned v ∧ Below w.heap.size w w'
theorem PT.deeper_not {t : PT} (h : ¬ t.kind = 7) (n : Nat) : t.deeper n = false := by
  cases t; simp only [PT.kind] at h; simp [PT.deeper, h]
theorem PT.deeper_zero {t : PT} (h : t.kind = 7) : t.deeper 0 = true := by
  cases t; simp only [PT.kind] at h; simp [PT.deeper, h]
theorem PT.deeper_succ {t : PT} (h : t.kind = 7) (n : Nat) : t.deeper (n + 1) = PT.deeperL t.items n := by
  cases t; simp only [PT.kind] at h; simp [PT.deeper, PT.items, h]
theorem PT.deeperL_at {l : List PT} {n k : Nat} (hk : k < l.length) (h : l[k].deeper n = true) : PT.deeperL l n = true := by
  cases hd : PT.deeperL l n with
  | true => rfl
  | false => exact absurd (PT.deeperL_iff.1 hd l[k] (List.getElem_mem hk)) (by rw [h]; simp)
theorem PT.deeperL_none {l : List PT} {n : Nat} (h : ∀ j (hj : j < l.length), l[j].deeper n = false) : PT.deeperL l n = false :=
  PT.deeperL_iff.2 fun x hx => by obtain ⟨j, hj, rfl⟩ := List.getElem_of_mem hx; exact h j hj
set_option maxRecDepth 100000 in
set_option maxHeartbeats 4000000 in
theorem Deeper_any : ∀ (t : PT) (a : Option Addr) (c n : Nat) (x : Int) (w : World), x = (n : Int) → n ≤ 1000 → PartAt w (· < w.heap.size) t (partCells t a c) →
    Calls Tryd.prog 22 #[.agg (partCells t a c).toArray, .int .i64 x] w (Ret (.bool (t.deeper n)) w) := by
  refine PT.all fun t ih => ?_
  intro a c n x w hx hn hp
  obtain ⟨a1, c1, e1, hk, hm, hr, hlc, hcm, hits⟩ := hp.open
  obtain ⟨rfl, rfl⟩ : a1 = a ∧ c1 = c := by simpa [partCells, eq_comm] using e1
  have HI := Lib.hid hits
  have HIH := Lib.hid ih
  have hlen : t.items.length ≤ 9223372036854775807 := by unfold maxLen at hcm; omega
  clear hits ih hp e1
  unfold partCells
  have HB2 := Lib.hid ((Below.refl w.heap.size w).alloc (Nat.le_refl _) (.cells #[.int .u8 t.kind, .bool t.yes, .bool t.bel, .string t.mag, .string t.raw, .slice a1 t.items.length c1] 30))
  have HP2 := Lib.hid (new_part w w.heap.size t a1 c1 30 rfl)
  by_cases h7 : t.kind = 7
  · have hb7 : ((t.kind : Int) == 7) = true := by simp [h7]
    cases n with
    | zero =>
      rw [PT.deeper_zero h7]
      clear h7
      have hx1 : x < 1 := by omega
      clear hx
      go_enter Tryd.func22, Tryd.ntmps22
      go_wp2_with fail
      go_ret
      exact ⟨rfl, HB2.out⟩
    | succ n =>
      rw [PT.deeper_succ h7]
      clear h7
      have hx1 : 1 ≤ x := by omega
      have hx2 : x ≤ 1000 := by omega
      have HX := Lib.hid hx
      clear hx
      go_enter Tryd.func22, Tryd.ntmps22
      go_wp2_with fail
      have HX1 := Lib.hid hx1
      clear hb7 hx1
      repeat (rename (_ : Bool) = false => hh; clear hh)
      go_loopw [5] (fun i wr => ∃ (k : Nat), i = .int .i64 k ∧ k ≤ t.items.length ∧ Hid (∀ j (hj : j < t.items.length), j < k → t.items[j].deeper n = false) ∧ Hid (Below w.heap.size w wr) ∧ Hid (CellsAt wr w.heap.size 0 (partCells t a1 c1)) ∧ w.heap.size < wr.heap.size) (fun i _ => t.items.length - (intOf i).toNat)
      case atStart => exact ⟨0, rfl, by omega, Lib.hid (fun j _ hj => absurd hj (Nat.not_lt_zero j)), HB2, HP2, by simp⟩
      case round =>
        clear HB2 HP2
        obtain ⟨k, rfl, hk, HN, HB, HP, hwz⟩ := hrel
        have hp5 := HP.out 5 _ rfl
        by_cases hlt : k < t.items.length
        · obtain ⟨b, o, a', c', rfl, hb, k0, k1, k2, k3, k4, k5, hpa⟩ := (HI.out.below HB.out).cells hlt
          have HR := Lib.hid (HIH.out t.items[k] (List.getElem_mem hlt) a' c' n (x - 1) wr (by have := HX.out; omega) (by have := HX.out; have := HX1.out; omega) (hpa.wide (by omega)))
          clear hpa
          go_wp2_with fail
          refine HR.out.mono ?_
          rintro e w' ⟨rfl, hg2⟩
          have HB' := Lib.hid (HB.out.trans (hg2.mono (by omega)))
          have HP' := Lib.hid (HP.out.keep fun p hp => hg2.cell (by omega))
          have hz' := hg2.size
          clear hg2 HR k0 k1 k2 k3 k4 k5 hp5 HP HB
          cases hd : t.items[k].deeper n with
          | true =>
            go_wp2_with fail
            go_ret
            exact ⟨ret_bool (PT.deeperL_at hlt hd).symm, HB'.out⟩
          | false =>
            go_wp2_with fail
            go_roundw
            case rel => exact ⟨k + 1, by go_num, by omega, Lib.hid (fun j hj hjk => (Nat.lt_succ_iff_lt_or_eq.1 hjk).elim (fun h => HN.out j hj h) (fun h => by subst h; exact hd)), HB', HP', by omega⟩
            case measure => simp [intOf]; omega
        · go_wp2_with fail
          go_ret
          exact ⟨ret_bool (PT.deeperL_none fun j hj => HN.out j hj (by omega)).symm, HB.out⟩
  · rw [PT.deeper_not h7]
    have hb7 : ((t.kind : Int) == 7) = false := by simp; omega
    clear h7
    go_enter Tryd.func22, Tryd.ntmps22
    go_wp2_with fail
    go_ret
    exact ⟨rfl, HB2.out⟩
end Go.Proofs.YtjgicjgpahnmaaaDoor

/-! value.deep: is a part deeper than so many tuples? -/
namespace Go.Proofs.YtjgicjgpahnmaaaDoor
open Go.RowKit Go.WideShapes
set_option linter.unusedVariables false
set_option maxRecDepth 100000 in
set_option maxHeartbeats 400000 in
theorem vdeep_any : ∀ (t : PT) (a : Option Addr) (c n : Nat) (x : Int) (w : World), x = (n : Int) → n ≤ 1000 → PartAt w (· < w.heap.size) t (partCells t a c) →
    Calls Tryd.prog 24 #[.agg (partCells t a c).toArray, .int .i64 x] w (Ret (.bool (t.deeper n)) w) := by
  refine PT.all fun t ih => ?_
  intro a c n x w hx hn hp
  obtain ⟨a1, c1, e1, hk, hm, hr, hlc, hcm, hits⟩ := hp.open
  obtain ⟨rfl, rfl⟩ : a1 = a ∧ c1 = c := by simpa [partCells, eq_comm] using e1
  have HI := Lib.hid hits
  have HIH := Lib.hid ih
  have hlen : t.items.length ≤ 9223372036854775807 := by unfold maxLen at hcm; omega
  clear hits ih hp e1
  unfold partCells
  have HB2 := Lib.hid ((Below.refl w.heap.size w).alloc (Nat.le_refl _) (.cells #[.int .u8 t.kind, .bool t.yes, .bool t.bel, .string t.mag, .string t.raw, .slice a1 t.items.length c1] 30))
  have HP2 := Lib.hid (new_part w w.heap.size t a1 c1 30 rfl)
  by_cases h7 : t.kind = 7
  · have hb7 : ((t.kind : Int) == 7) = true := by simp [h7]
    cases n with
    | zero =>
      rw [PT.deeper_zero h7]
      clear h7
      obtain rfl : x = 0 := by omega
      clear hx
      go_enter Tryd.func24, Tryd.ntmps24
      go_wp2_with fail
      go_ret
      exact ⟨rfl, HB2.out⟩
    | succ n =>
      rw [PT.deeper_succ h7]
      clear h7
      have hx1 : (x == 0) = false := by simp; omega
      have hx2 : x ≤ 1000 := by omega
      have HX := Lib.hid hx
      clear hx
      go_enter Tryd.func24, Tryd.ntmps24
      go_wp2_with fail
      have HX1 := Lib.hid hx1
      try clear hb7
      try clear hx1
      repeat (rename (_ : Bool) = false => hh; clear hh)
      try clear hb7
      try clear hx1
      repeat (rename (_ : Bool) = false => hh; clear hh)
      go_loopw [15] (fun i wr => ∃ (k : Nat), i = .int .i64 k ∧ k ≤ t.items.length ∧ Hid (∀ j (hj : j < t.items.length), j < k → t.items[j].deeper n = false) ∧ Hid (Below w.heap.size w wr) ∧ w.heap.size < wr.heap.size) (fun i _ => t.items.length - (intOf i).toNat)
      case atStart => exact ⟨0, rfl, by omega, Lib.hid (fun j _ hj => absurd hj (Nat.not_lt_zero j)), HB2, by simp⟩
      case round =>
        clear HB2 HP2
        obtain ⟨k, rfl, hk, HN, HB, hwz⟩ := hrel
        by_cases hlt : k < t.items.length
        · have hx3 : 1 ≤ x := by have := HX.out; omega
          obtain ⟨b, o, a', c', rfl, hb, k0, k1, k2, k3, k4, k5, hpa⟩ := (HI.out.below HB.out).cells hlt
          have HB1 := Lib.hid (HB.out.alloc (by omega) (.cells (partCells t.items[k] a' c').toArray 30))
          have HR := Lib.hid (HIH.out t.items[k] (List.getElem_mem hlt) a' c' n (x - 1) _ (by have := HX.out; omega) (by omega) ((hpa.below (B := w.heap.size) ((Below.refl _ _).alloc (by omega) (.cells (partCells t.items[k] a' c').toArray 30))).wide (by simp; omega)))
          unfold partCells at HR HB1
          clear hpa
          go_wp2_with fail
          refine HR.out.mono ?_
          rintro e w' ⟨rfl, hg2⟩
          have HB' := Lib.hid (HB1.out.trans (hg2.mono (by simp; omega)))
          have hz' : wr.heap.size + 1 ≤ w'.heap.size := by have := hg2.size; simpa using this
          clear hx3 hg2 HR k0 k1 k2 k3 k4 k5 HB HB1
          cases hd : t.items[k].deeper n with
          | true =>
            go_wp2_with fail
            go_ret
            exact ⟨ret_bool (PT.deeperL_at hlt hd).symm, HB'.out⟩
          | false =>
            go_wp2_with fail
            go_roundw
            case rel => exact ⟨k + 1, by go_num, by omega, Lib.hid (fun j hj hjk => (Nat.lt_succ_iff_lt_or_eq.1 hjk).elim (fun h => HN.out j hj h) (fun h => by subst h; exact hd)), HB', by omega⟩
            case measure => simp [intOf]; omega
        · go_wp2_with fail
          go_ret
          exact ⟨ret_bool (PT.deeperL_none fun j hj => HN.out j hj (by omega)).symm, HB.out⟩
  · rw [PT.deeper_not h7]
    have hb7 : ((t.kind : Int) == 7) = false := by simp; omega
    clear h7
    go_enter Tryd.func24, Tryd.ntmps24
    go_wp2_with fail
    go_ret
    exact ⟨rfl, HB2.out⟩
end Go.Proofs.YtjgicjgpahnmaaaDoor

/-! nat.Check and ref02.Check: may a number be? -/
namespace Go.Proofs.YtjgicjgpahnmaaaDoor
open Go.RowKit Go.WideShapes
set_option linter.unusedVariables false
/-- The number of what is wrong with a number. -/
def numWhy (b : Bool) (m : ByteArray) : Int := if 255 < m.size then 21 else if numOk b m then 0 else 20
theorem numWhy_ok (b : Bool) (m : ByteArray) : (numWhy b m == 0) = numOk b m := by
  unfold numWhy
  by_cases h : 255 < m.size
  · rw [if_pos h]; simp [numOk]; omega
  · rw [if_neg h]; cases numOk b m <;> simp
theorem numWhy_long {b : Bool} {m : ByteArray} (h : 255 < m.size) : numWhy b m = 21 := if_pos h
theorem numWhy_nil (b : Bool) : numWhy b ⟨#[]⟩ = if b then 20 else 0 := by cases b <;> rfl
theorem numWhy_zero {b : Bool} {m : ByteArray} (h : ¬ 255 < m.size) (h0 : 0 < m.size) (hz : ((m[0].toNat : Int) == 0) = true) : numWhy b m = 20 := by
  unfold numWhy
  have hz' : m[0] = 0 := by have h1 : (m[0].toNat : Int) = 0 := by simpa using hz
                            exact UInt8.toNat_inj.1 (by simpa using h1)
  have : numOk b m = false := by
    have hne : (m.size == 0) = false := beq_eq_false_iff_ne.2 (by omega)
    simp [numOk, getElem!_pos m 0 h0, hz', hne]
  rw [if_neg h, this]; rfl
theorem numWhy_good {b : Bool} {m : ByteArray} (h : ¬ 255 < m.size) (h0 : 0 < m.size) (hz : ((m[0].toNat : Int) == 0) = false) : numWhy b m = 0 := by
  unfold numWhy
  have hz' : m[0] ≠ 0 := by intro e; rw [e] at hz; simp at hz
  have : numOk b m = true := by
    have hne : (m.size == 0) = false := beq_eq_false_iff_ne.2 (by omega)
    simp [numOk, getElem!_pos m 0 h0, hz', hne]; omega
  rw [if_neg h, this]; rfl
theorem ba_nil {m : ByteArray} (h : m.size = 0) : m = ⟨#[]⟩ := by
  cases m with | mk d => congr 1; exact Array.eq_empty_of_size_eq_zero h
theorem toList_ne {m : ByteArray} (h : 0 < m.size) : m.toList.isEmpty = false := by
  rw [ByteArray.toList_eq]
  cases m with | mk d => cases d with | mk l => cases l with
    | nil => simp [ByteArray.size] at h
    | cons a l => rfl
theorem ret_int' {w w' : World} {a b : Int} (h : a = b) (hb : Below w.heap.size w w') : Ret (.int .i64 b) w (.returned (.int .i64 a)) w' := ⟨by rw [h], hb⟩
set_option maxRecDepth 100000 in
set_option maxHeartbeats 1000000 in
theorem natCheck_any (b : Bool) (m : ByteArray) (w : World) (hm : m.size ≤ maxLen) :
    Calls Tryd.prog 41 #[.agg #[.bool b, .string m]] w (Ret (.int .i64 (numWhy b m)) w) := by
  unfold maxLen at hm
  have HB := Lib.hid ((Below.refl w.heap.size w).alloc (Nat.le_refl _) (.cells #[.bool b, .string m] 27))
  by_cases h1 : 255 < m.size
  · go_enter Tryd.func41, Tryd.ntmps41
    go_wp2_with fail
    go_ret
    exact ret_int' (numWhy_long h1).symm HB.out
  · by_cases h0 : m.size = 0
    · obtain rfl := ba_nil h0
      cases b with
      | true =>
        go_enter Tryd.func41, Tryd.ntmps41
        go_wp2_with fail
        go_ret
        exact ret_int' rfl HB.out
      | false =>
        go_enter Tryd.func41, Tryd.ntmps41
        go_wp2_with fail
        go_ret
        exact ret_int' rfl HB.out
    · have hp : 0 < m.size := by omega
      have hne := toList_ne hp
      have hne2 : ¬ m = ByteArray.empty := by rintro rfl; simp at hp
      have hs0 : ((m.size : Int) == 0) = false := beq_eq_false_iff_ne.2 (by omega)
      clear h0
      cases hz : ((m[0].toNat : Int) == 0) with
      | true =>
        have HZ := Lib.hid (numWhy_zero (b := b) h1 hp hz)
        go_enter Tryd.func41, Tryd.ntmps41
        go_wp2_with fail
        go_ret
        exact ret_int' HZ.out.symm HB.out
      | false =>
        have HZ := Lib.hid (numWhy_good (b := b) h1 hp hz)
        go_enter Tryd.func41, Tryd.ntmps41
        go_wp2_with fail
        go_ret
        exact ret_int' HZ.out.symm HB.out
set_option maxRecDepth 100000 in
set_option maxHeartbeats 1000000 in
theorem refNatCheck_any (b : Bool) (m : ByteArray) (w : World) (hm : m.size ≤ maxLen) :
    Calls Tryd.prog 40 #[.agg #[.bool b, .string m]] w (Ret (.int .i64 (numWhy b m)) w) := by
  unfold maxLen at hm
  have HB := Lib.hid ((Below.refl w.heap.size w).alloc (Nat.le_refl _) (.cells #[.bool b, .string m] 27))
  by_cases h1 : 255 < m.size
  · go_enter Tryd.func40, Tryd.ntmps40
    go_wp2_with fail
    go_ret
    exact ret_int' (numWhy_long h1).symm HB.out
  · by_cases h0 : m.size = 0
    · obtain rfl := ba_nil h0
      cases b with
      | true =>
        go_enter Tryd.func40, Tryd.ntmps40
        go_wp2_with fail
        go_ret
        exact ret_int' rfl HB.out
      | false =>
        go_enter Tryd.func40, Tryd.ntmps40
        go_wp2_with fail
        go_ret
        exact ret_int' rfl HB.out
    · have hp : 0 < m.size := by omega
      have hne := toList_ne hp
      have hne2 : ¬ m = ByteArray.empty := by rintro rfl; simp at hp
      have hs0 : ((m.size : Int) == 0) = false := beq_eq_false_iff_ne.2 (by omega)
      clear h0
      cases hz : ((m[0].toNat : Int) == 0) with
      | true =>
        have HZ := Lib.hid (numWhy_zero (b := b) h1 hp hz)
        go_enter Tryd.func40, Tryd.ntmps40
        go_wp2_with fail
        go_ret
        exact ret_int' HZ.out.symm HB.out
      | false =>
        have HZ := Lib.hid (numWhy_good (b := b) h1 hp hz)
        go_enter Tryd.func40, Tryd.ntmps40
        go_wp2_with fail
        go_ret
        exact ret_int' HZ.out.symm HB.out
end Go.Proofs.YtjgicjgpahnmaaaDoor
