/-
  Sources written over, one by one; what may be may be written over.
-/
import Derived.Test.YtjgicjgpahnmaaaDoorKS
import Derived.Test.YtjgicjgpahnmaaaDoorKX
import Derived.Test.YtjgicjgpahnmaaaDoorKQ
namespace Go.Proofs.YtjgicjgpahnmaaaDoor
open Go.RowKit Go.WideShapes
set_option linter.unusedVariables false
/-- A part with room that may be may be written over. -/
theorem RmAt.wide_may {w : World} {S : Nat → Prop} {M : Bool} : ∀ (t : PT) (a : Option Addr) (c : Nat), t.may = true → RmAt w S M t (partCells t a c) → Wide w S t.count (.slice a t.items.length c) := by
  refine PT.all fun t ih => ?_
  intro a c hmay h
  obtain ⟨a1, c1, e1, h1, h2, h3, h4, h5, h6, h7⟩ := h.open
  obtain ⟨rfl, rfl⟩ : a1 = a ∧ c1 = c := by simpa [partCells, eq_comm] using e1
  have hall : t.items.length ≤ 1024 ∧ ∀ x ∈ t.items, x.may = true := by
    by_cases h7 : t.kind = 7
    · exact PT.may_items hmay h7
    · obtain ⟨k, y, b, m, r, l⟩ := t
      obtain ⟨h, _⟩ := may_flat h7 hmay
      subst h
      exact ⟨Nat.zero_le _, fun x hx => by cases hx⟩
  rw [PT.count_eq]
  rcases h6 with ⟨rfl, rfl, _⟩ | ⟨g, cur, rfl, hS, hg, hs, _⟩
  · left
    rw [show t.items.length = 0 by omega]
  · refine .inr ⟨g, _, _, cur, rfl, h4, h5, by omega, hS, hg, hs, fun i hi => ?_⟩
    obtain ⟨b, o, a', c', e, hc, hr⟩ := h7.get hi
    simp only [Option.some.injEq, Addr.mk.injEq, and_true] at e
    obtain ⟨rfl, rfl⟩ := e
    exact ⟨_, _, _, _, _, _, by simpa [partCells] using hc, (ih _ (List.getElem_mem hi) a' c' (hall.2 _ (List.getElem_mem hi)) hr).le (PT.countL_mem (List.getElem_mem hi))⟩
/-- Sources whose parts may be written over, from the k-th on. -/
def LentW (S : Nat → Prop) (g k : Nat) (L : List (Int × PT)) (w : World) : Prop := (∃ cur, w.heap[g]? = some (.cells cur 39 (0, 0)) ∧ cur.size = (L.length + 2) * 7) ∧
  ∀ i (hi : i < L.length), k ≤ i → ∃ a' c' d, CellsAt w g (i * 7) (srcCells L[i] a' c') ∧ Wide w S d (.slice a' L[i].2.items.length c')
section
variable {S : Nat → Prop} {g k B : Nat} {L : List (Int × PT)} {w w' w0 : World}
theorem LentW.start (h : SLRow w g L.length L.length 2 L) (hsm : ∀ i (hi : i < L.length), Small L[i].2) : LentW (fun b => g < b ∧ b < w.heap.size) g 0 L w :=
  ⟨h.blk, fun i hi _ => by
    obtain ⟨a', c', h1, h2⟩ := h.it i hi hi
    exact ⟨a', c', _, h1, RmAt.wide _ _ _ (hsm i hi) h2⟩⟩
theorem LentW.lt (h : LentW S g k L w) : g < w.heap.size := by obtain ⟨⟨cur, h1, _⟩, _⟩ := h; exact (Array.getElem?_eq_some_iff.1 h1).1
theorem LentW.below (h : LentW S g k L w) (hS : ∀ b, S b → b < w.heap.size) (hb : Below w.heap.size w w') : LentW S g k L w' :=
  ⟨by obtain ⟨⟨cur, h1, h2⟩, _⟩ := h; exact ⟨cur, (hb.block g (Array.getElem?_eq_some_iff.1 h1).1).trans h1, h2⟩,
   fun i hi hk => by
    obtain ⟨a', c', d, h1, h2⟩ := h.2 i hi hk
    exact ⟨a', c', d, h1.keep fun p hp => hb.cell (by rw [hp]; exact h.lt), h2.keep fun b hb' => hb.block b (hS b hb')⟩⟩
theorem LentW.cells (h : LentW S g k L w) (hk : k < L.length) : ∃ a' c' d, w.cell? ⟨g, k * 7, none⟩ = some (.int .i64 L[k].1) ∧ w.cell? ⟨g, k * 7 + 1, none⟩ = some (.int .u8 L[k].2.kind) ∧ w.cell? ⟨g, k * 7 + 2, none⟩ = some (.bool L[k].2.yes) ∧
    w.cell? ⟨g, k * 7 + 3, none⟩ = some (.bool L[k].2.bel) ∧ w.cell? ⟨g, k * 7 + 4, none⟩ = some (.string L[k].2.mag) ∧ w.cell? ⟨g, k * 7 + 5, none⟩ = some (.string L[k].2.raw) ∧ w.cell? ⟨g, k * 7 + 6, none⟩ = some (.slice a' L[k].2.items.length c') ∧
    Wide w S d (.slice a' L[k].2.items.length c') := by
  obtain ⟨a', c', d, hc, h1⟩ := h.2 k hk (Nat.le_refl _)
  exact ⟨a', c', d, hc 0 _ rfl, hc 1 _ rfl, hc 2 _ rfl, hc 3 _ rfl, hc 4 _ rfl, hc 5 _ rfl, hc 6 _ rfl, h1⟩
/-- So many are written over. -/
structure WrI (S : Nat → Prop) (B g k : Nat) (L : List (Int × PT)) (w0 w : World) : Prop where
  bel : Below B w0 w
  old : ∀ b, b < w0.heap.size → ¬ S b → b ≠ g → w.heap[b]? = w0.heap[b]?
  lw : LentW S g k L w
theorem WrI.start (h : LentW S g 0 L w) : WrI S B g 0 L w w := ⟨Below.refl _ _, fun _ _ _ _ => rfl, h⟩
theorem WrI.put (h : WrI S B g k L w0 w) (hp : Puts S B w w') (hg : ¬ S g) : WrI S B g k L w0 w' :=
  ⟨h.bel.trans hp.bel, fun b hb hS hne => (hp.old b (Nat.lt_of_lt_of_le hb h.bel.size) hS).trans (h.old b hb hS hne), by
    have hgh := hp.old g h.lw.lt hg
    refine ⟨?_, fun i hi hk => ?_⟩
    · obtain ⟨cur, h1, h2⟩ := h.lw.1
      exact ⟨cur, hgh.trans h1, h2⟩
    · obtain ⟨a', c', d, h1, h2⟩ := h.lw.2 i hi hk
      exact ⟨a', c', d, h1.keep fun p hp' => cell_of_heap (hp' ▸ hgh), hp.wide d _ h2⟩⟩
theorem WrI.field (h : WrI S B g k L w0 w) (hB : B ≤ g) (hg : ¬ S g) (v : Value) : WrI S B g (k + 1) L w0 (w.setCell ⟨g, k * 7, none⟩ v) :=
  ⟨h.bel.setCell hB v, fun b hb hS hne => (Below.heap_setCell w _ v b hne).trans (h.old b hb hS hne), by
    refine ⟨setCells_blk g 39 _ [v] (k * 7) w h.lw.1, fun i hi hk => ?_⟩
    obtain ⟨a', c', d, h1, h2⟩ := h.lw.2 i hi (by omega)
    exact ⟨a', c', d, h1.apart g (k * 7) [v] (.inr (.inr (by simp; omega))), h2.keep fun b hb => Below.heap_setCell w _ v b (fun e => hg (by simp only at e; subst e; exact hb))⟩⟩
end
theorem Picked.one {t : PT} {l : List (Int × PT)} {its its' : List PT} (h : Picked t l its) (h' : Picked t l its') : its = its' := by
  refine List.ext_getElem (h.1.trans h'.1.symm) fun i h1 h2 => ?_
  have e1 := h.2 i (by rw [← h.1]; exact h1) h1
  have e2 := h'.2 i (by rw [← h.1]; exact h1) h2
  rw [e1] at e2
  injection e2
end Go.Proofs.YtjgicjgpahnmaaaDoor
