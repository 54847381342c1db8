/-
  A table's entries in memory.
-/
import Derived.Test.YtccaaniepeohbaaGreatDoorKD
import Derived.Below
namespace Go.Proofs.YtccaaniepeohbaaGreatDoor
open Go.RowKit Go.WideShapes
set_option linter.unusedVariables false
/-- Elements of m cells that a slice shows. -/
def RowM (w : World) (B : Nat) (v : Value) (n : Nat) (vs : List Value) : Prop :=
  ∃ A c, v = .slice A n c ∧ n ≤ c ∧ n ≤ 140737488351232 ∧ (0 < n → ∃ b o, A = some ⟨b, o, none⟩ ∧ b < B ∧ CellsAt w b o vs)
def EL.cells (e : EL) : List Value := [.bool e.v, .int .i64 e.p, .int .i64 e.s, .int .i64 e.t]
def elsCells (l : List EL) : List Value := l.flatMap EL.cells
def intCells (l : List Int) : List Value := l.map (.int .i64)
/-- Numbers that fit their kind. -/
def EL.ok (e : EL) : Prop := (-9223372036854775808 ≤ e.p ∧ e.p ≤ 9223372036854775807) ∧ (-9223372036854775808 ≤ e.s ∧ e.s ≤ 9223372036854775807) ∧ (-9223372036854775808 ≤ e.t ∧ e.t ≤ 9223372036854775807)
def ptOk (p : Int) : Prop := -9223372036854775808 ≤ p ∧ p ≤ 9223372036854775807
/-- An entry's two lists. -/
def EntAt (w : World) (B : Nat) (x : EN) (v1 v2 : Value) : Prop := RowM w B v1 x.pts.length (intCells x.pts) ∧ RowM w B v2 x.els.length (elsCells x.els)
def EntriesAt (w : World) (B : Nat) (l : List EN) (A : Option Addr) : Prop :=
  0 < l.length → ∃ b o, A = some ⟨b, o, none⟩ ∧ b < B ∧ ∀ i (h : i < l.length), ∃ v1 v2, w.cell? ⟨b, o + 2 * i, none⟩ = some v1 ∧ w.cell? ⟨b, o + 2 * i + 1, none⟩ = some v2 ∧ EntAt w B l[i] v1 v2
section
variable {w w' : World} {B B' n : Nat} {v v1 v2 : Value} {vs : List Value} {x : EN} {l : List EN} {A : Option Addr}
theorem RowM.keep (h : RowM w B v n vs) (hk : ∀ p : Addr, p.block < B → w'.cell? p = w.cell? p) : RowM w' B v n vs := by
  obtain ⟨A, c, e, h1, h2, h3⟩ := h
  refine ⟨A, c, e, h1, h2, fun h0 => ?_⟩
  obtain ⟨b, o, ea, hb, hc⟩ := h3 h0
  exact ⟨b, o, ea, hb, hc.keep fun p hp => hk p (by rw [hp]; exact hb)⟩
theorem RowM.more (h : RowM w B v n vs) (hB : B ≤ B') : RowM w B' v n vs := by
  obtain ⟨A, c, e, h1, h2, h3⟩ := h
  refine ⟨A, c, e, h1, h2, fun h0 => ?_⟩
  obtain ⟨b, o, ea, hb, hc⟩ := h3 h0
  exact ⟨b, o, ea, by omega, hc⟩
theorem RowM.below (h : RowM w B v n vs) (hb : Below B w w') : RowM w' B v n vs := h.keep fun _ hp => hb.cell hp
theorem EntAt.keep (h : EntAt w B x v1 v2) (hk : ∀ p : Addr, p.block < B → w'.cell? p = w.cell? p) : EntAt w' B x v1 v2 := ⟨h.1.keep hk, h.2.keep hk⟩
theorem EntAt.more (h : EntAt w B x v1 v2) (hB : B ≤ B') : EntAt w B' x v1 v2 := ⟨h.1.more hB, h.2.more hB⟩
theorem EntAt.below (h : EntAt w B x v1 v2) (hb : Below B w w') : EntAt w' B x v1 v2 := h.keep fun _ hp => hb.cell hp
theorem EntriesAt.keep (h : EntriesAt w B l A) (hk : ∀ p : Addr, p.block < B → w'.cell? p = w.cell? p) : EntriesAt w' B l A := fun h0 => by
  obtain ⟨b, o, ea, hb, h1⟩ := h h0
  refine ⟨b, o, ea, hb, fun i hi => ?_⟩
  obtain ⟨v1, v2, g1, g2, g3⟩ := h1 i hi
  exact ⟨v1, v2, (hk _ hb).trans g1, (hk _ hb).trans g2, g3.keep hk⟩
theorem EntriesAt.more (h : EntriesAt w B l A) (hB : B ≤ B') : EntriesAt w B' l A := fun h0 => by
  obtain ⟨b, o, ea, hb, h1⟩ := h h0
  refine ⟨b, o, ea, by omega, fun i hi => ?_⟩
  obtain ⟨v1, v2, g1, g2, g3⟩ := h1 i hi
  exact ⟨v1, v2, g1, g2, g3.more hB⟩
theorem EntriesAt.below (h : EntriesAt w B l A) (hb : Below B w w') : EntriesAt w' B l A := h.keep fun _ hp => hb.cell hp
theorem EntriesAt.get (h : EntriesAt w B l A) {i : Nat} (hi : i < l.length) : ∃ b o v1 v2, A = some ⟨b, o, none⟩ ∧ b < B ∧ w.cell? ⟨b, o + 2 * i, none⟩ = some v1 ∧ w.cell? ⟨b, o + 2 * i + 1, none⟩ = some v2 ∧ EntAt w B l[i] v1 v2 := by
  obtain ⟨b, o, ea, hb, h1⟩ := h (by omega)
  obtain ⟨v1, v2, g1, g2, g3⟩ := h1 i hi
  exact ⟨b, o, v1, v2, ea, hb, g1, g2, g3⟩
/-- A point. -/
theorem RowM.int {ps : List Int} (h : RowM w B v ps.length (intCells ps)) {k : Nat} (hk : k < ps.length) : ∃ b o c, v = .slice (some ⟨b, o, none⟩) ps.length c ∧ b < B ∧ w.cell? ⟨b, o + k, none⟩ = some (.int .i64 ps[k]) := by
  obtain ⟨A, c, e, h1, h2, h3⟩ := h
  obtain ⟨b, o, ea, hb, hc⟩ := h3 (by omega)
  exact ⟨b, o, c, by rw [e, ea], hb, hc k _ (by simp [intCells, hk])⟩
theorem elsCells_at : ∀ {l : List EL} {k j : Nat} (hk : k < l.length), j < 4 → (elsCells l)[4 * k + j]? = (l[k].cells)[j]?
  | e :: r, 0, j, hk, hj => by
    rw [elsCells, List.flatMap_cons, List.getElem?_append_left (by simp [EL.cells]; omega)]
    simp
  | e :: r, k + 1, j, hk, hj => by
    have hk' : k < r.length := by simpa using hk
    rw [elsCells, List.flatMap_cons, List.getElem?_append_right (by simp [EL.cells]; omega)]
    have : 4 * (k + 1) + j - e.cells.length = 4 * k + j := by simp [EL.cells]; omega
    rw [this]
    exact elsCells_at (l := r) hk' hj
/-- An element. -/
theorem RowM.el {es : List EL} (h : RowM w B v es.length (elsCells es)) {k : Nat} (hk : k < es.length) : ∃ b o c, v = .slice (some ⟨b, o, none⟩) es.length c ∧ b < B ∧ w.cell? ⟨b, o + k * 4, none⟩ = some (.bool es[k].v) ∧ w.cell? ⟨b, o + k * 4 + 1, none⟩ = some (.int .i64 es[k].p) ∧ w.cell? ⟨b, o + k * 4 + 2, none⟩ = some (.int .i64 es[k].s) ∧ w.cell? ⟨b, o + k * 4 + 3, none⟩ = some (.int .i64 es[k].t) := by
  obtain ⟨A, c, e, h1, h2, h3⟩ := h
  obtain ⟨b, o, ea, hb, hc⟩ := h3 (by omega)
  have h9 : ∀ j u, j < 4 → es[k].cells[j]? = some u → w.cell? ⟨b, o + k * 4 + j, none⟩ = some u := fun j u hj hu => by
    have := hc (4 * k + j) u (by rw [elsCells_at hk hj, hu])
    rwa [show o + (4 * k + j) = o + k * 4 + j by omega] at this
  exact ⟨b, o, c, by rw [e, ea], hb, h9 0 _ (by omega) rfl, h9 1 _ (by omega) rfl, h9 2 _ (by omega) rfl, h9 3 _ (by omega) rfl⟩
end
end Go.Proofs.YtccaaniepeohbaaGreatDoor
