/-
  Words of our own on memory: a slice that reads as a list of one-cell values; rows that a call owns.
-/
import Derived.Below
import Derived.RangeFuncBox
import Derived.RangeFuncNested
import Derived.Laws.OwnMore
import Derived.Deep.Draws
import Derived.Lib.Hide
import Derived.Test.YtdidepaldppcjaaProg
namespace Go.Proofs.Ytdidepaldppcjaa
open Go.RowKit

theorem ret_bool {a b : Bool} (h : a = b) : Ending.returned (.bool a) = .returned (.bool b) := by rw [h]
theorem ret_int {k : IntKind} {a b : Int} (h : a = b) : Ending.returned (.int k a) = .returned (.int k b) := by rw [h]

/-- The cells at b, o on are vs. -/
def CellsAt (w : World) (b o : Nat) (vs : List Value) : Prop := ∀ i u, vs[i]? = some u → w.cell? ⟨b, o + i, none⟩ = some u
theorem CellsAt.keep {w w' : World} {b o : Nat} {vs : List Value} (h : CellsAt w b o vs) (hk : ∀ p : Addr, p.block = b → w'.cell? p = w.cell? p) : CellsAt w' b o vs := fun i u hu => (hk _ rfl).trans (h i u hu)
theorem CellsAt.at_ {w : World} {b o : Nat} {vs : List Value} (h : CellsAt w b o vs) {i : Nat} (hi : i < vs.length) : w.cell? ⟨b, o + i, none⟩ = some vs[i] := h i _ (List.getElem?_eq_getElem hi)
/-- The slice value v reads as the one-cell values vs, below block B. -/
def RowAt (w : World) (B : Nat) (v : Value) (vs : List Value) : Prop :=
  ∃ A c, v = .slice A vs.length c ∧ vs.length ≤ c ∧ (0 < vs.length → ∃ b o, A = some ⟨b, o, none⟩ ∧ b < B ∧ CellsAt w b o vs)
section
variable {w w' : World} {B B' : Nat} {v : Value} {vs : List Value}
theorem RowAt.nil (w : World) (B c : Nat) : RowAt w B (.slice none 0 c) [] := ⟨none, c, rfl, Nat.zero_le _, fun h => absurd h (by simp)⟩
theorem RowAt.keep (h : RowAt w B v vs) (hk : ∀ p : Addr, p.block < B → w'.cell? p = w.cell? p) : RowAt w' B v vs := by
  obtain ⟨A, c, e, hl, h⟩ := h
  refine ⟨A, c, e, hl, fun hp => ?_⟩
  obtain ⟨b, o, ea, hb, hc⟩ := h hp
  exact ⟨b, o, ea, hb, hc.keep fun p hp => hk p (by omega)⟩
theorem RowAt.below (h : RowAt w B v vs) (hb : Below B w w') : RowAt w' B v vs := h.keep fun _ hp => hb.cell hp
theorem RowAt.more (h : RowAt w B v vs) (hB : B ≤ B') : RowAt w B' v vs := by
  obtain ⟨A, c, e, hl, h⟩ := h
  refine ⟨A, c, e, hl, fun hp => ?_⟩
  obtain ⟨b, o, ea, hb, hc⟩ := h hp
  exact ⟨b, o, ea, by omega, hc⟩
theorem RowAt.drewN (h : RowAt w B v vs) (n : Nat) : RowAt (w.drewN n) B v vs := h.keep fun _ _ => rfl
theorem RowAt.alloc (h : RowAt w B v vs) (hB : B ≤ w.heap.size) (o : Obj) : RowAt (w.alloc o) B v vs := h.keep fun p hp => World.cell?_alloc_lt w o p (by omega)
theorem RowAt.setCell (h : RowAt w B v vs) {p : Addr} (hB : B ≤ p.block) (u : Value) : RowAt (w.setCell p u) B v vs :=
  h.keep fun q hq => World.cell?_setCell_other w p q u (fun e => by subst e; omega)
theorem RowAt.grown (h : RowAt w B v vs) {row : Option Nat} (hg : w.grownBy w' row) (hB : B ≤ w.heap.size) (hr : ∀ g, row = some g → B ≤ g) : RowAt w' B v vs :=
  h.keep fun p hp => World.cell?_of_block (hg.block p.block (by omega) (fun e => by have := hr _ e.symm; omega))
theorem RowAt.of_own {base : Nat} {e n : Nat} (h : w.ownsRow base e 1 v n vs) : RowAt w w.heap.size v vs := by
  have hlen : vs.length = n := by have := h.1; omega
  rcases h.2 with ⟨rfl, h0⟩ | ⟨g, cap, cur, rfl, hb, hg, hc, hm, hs, ht⟩
  · rw [h0] at hlen
    rw [List.eq_nil_of_length_eq_zero hlen]; exact RowAt.nil _ _ _
  · refine ⟨_, cap, by rw [hlen], by omega, fun _ => ⟨g, 0, rfl, (Array.getElem?_eq_some_iff.1 hg).1, fun i u hu => ?_⟩⟩
    have hi : i < n := by
      have := (List.getElem?_eq_some_iff.1 hu).1; omega
    rw [← ht, List.getElem?_take] at hu
    simp only [Nat.mul_one, hi, if_true] at hu
    simp [World.cell?, hg, ← hu]
theorem RowAt.len (h : RowAt w B v vs) : ∃ A c, v = .slice A vs.length c := by obtain ⟨A, c, e, _⟩ := h; exact ⟨A, c, e⟩
end
theorem row_ge {W : World} {n e size k : Nat} {v : Value} {xs : List Value} (h : W.ownsRow n e size v k xs) {g : Nat} (hg : v.ownBlock = some g) : n ≤ g := by
  rcases h.2 with ⟨rfl, _⟩ | ⟨g', cap, cur, rfl, hb, _, _⟩
  · simp [Value.ownBlock] at hg
  · obtain rfl : g' = g := by simpa [Value.ownBlock] using hg
    exact hb
theorem own_base {W : World} {n n' e size k : Nat} {v : Value} {xs : List Value} (h : W.ownsRow n e size v k xs) (hn : n' ≤ n) : W.ownsRow n' e size v k xs := by
  refine ⟨h.1, ?_⟩
  rcases h.2 with h0 | ⟨g, cap, cur, h1, hb, h2⟩
  · exact .inl h0
  · exact .inr ⟨g, cap, cur, h1, Nat.le_trans hn hb, h2⟩
theorem own_drewN {W : World} {n e size k : Nat} {v : Value} {xs : List Value} (h : W.ownsRow n e size v k xs) (q : Nat) : (W.drewN q).ownsRow n e size v k xs := h
/-- The numbers of a list, as values. -/
def ints (xs : List Int) : List Value := xs.map (Value.int .i64)
theorem ints_len (xs : List Int) : (ints xs).length = xs.length := by simp [ints]
theorem ints_get {xs : List Int} {i : Nat} (h : i < xs.length) : (ints xs)[i]? = some (.int .i64 xs[i]) := by simp [ints, h]
theorem RowAt.ints {w : World} {B : Nat} {v : Value} {xs : List Int} (h : RowAt w B v (ints xs)) :
    ∃ A c, v = .slice A xs.length c ∧ xs.length ≤ c ∧ (0 < xs.length → ∃ b o, A = some ⟨b, o, none⟩ ∧ b < B ∧ ∀ j (hj : j < xs.length), w.cell? ⟨b, o + j, none⟩ = some (.int .i64 xs[j])) := by
  obtain ⟨A, c, e, hl, h⟩ := h
  rw [ints_len] at e hl
  refine ⟨A, c, e, hl, fun hp => ?_⟩
  obtain ⟨b, o, ea, hb, hc⟩ := h (by rw [ints_len]; exact hp)
  exact ⟨b, o, ea, hb, fun j hj => hc j _ (ints_get hj)⟩
theorem below_drewN {B : Nat} {w w' : World} (h : Below B w w') (n : Nat) : Below B w (w'.drewN n) := by
  induction n with
  | zero => exact h
  | succ n ih => exact ih.drew
end Go.Proofs.Ytdidepaldppcjaa
