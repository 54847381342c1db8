/-
  append onto a row of one's own: its old cells stay as they were, wherever the new row lies.
-/
import Derived.Deep.AppendLies
import Derived.Laws.OwnMore
import Derived.Lib.Builder
import Derived.Below
import Derived.WalkKit
import Derived.BigQuiet
import Derived.Deep.QuietTactic
namespace Go.Proofs.Ytdidepaldppcjaa
open Go.RowKit
section
variable {P : Program} (w : World)
theorem run_append_keeps (t ty : TypeId) (base : Nat) (e : TypeId) (i : TypeInfo) (z : Value) (bytes : Nat) (ht : P.underlying t = some (.slice e)) (hi : P.info? e = some i) (hz : i.zero = some z)
    (hsize : i.size = 1) (hby : i.bytes = bytes) (hzs : z.cells.size = 1)
    (v : Value) (n : Nat) (xs : List Value) (hown : w.ownsRow base e 1 v n xs)
    (ad : Addr) (c : Nat) (u : Value) (hnews : w.cell? ad = some u) (h1 : u.oneCell' = true)
    (h63 : n + 1 ≤ maxLen) (hbytes : (n + 1) * bytes ≤ 140737488355328) (hbase : base ≤ w.heap.size) :
    ∃ g cap w', (Builtin.append_ #[t, t] ty #[v, .slice (some ad) 1 c]).run P w = .ok (.slice (some ⟨g, 0, none⟩) (n + 1) cap) w' ∧
      w'.ownsRow base e 1 (.slice (some ⟨g, 0, none⟩) (n + 1) cap) (n + 1) (xs ++ [u]) ∧ w.grownBy w' v.ownBlock ∧ (v.ownBlock = some g ∨ g = w.heap.size) ∧ g < w'.heap.size ∧
      (∀ g0, v.ownBlock = some g0 → ∀ j x, xs[j]? = some x → w'.cell? ⟨g0, j, none⟩ = some x) := by
  have hn : ∀ j x, [u][j]? = some x → w.cell? (ad.add j) = some x := fun j x hj => by
    cases j with
    | zero => simp at hj; subst hj; simpa [Addr.add] using hnews
    | succ j => simp at hj
  have h1' : ∀ x ∈ [u], x.oneCell' = true := fun x hx => by simp at hx; subst hx; exact h1
  obtain ⟨g, cap, w', hr, h2, h3, h4, h5⟩ := run_append_lies (P := P) w t ty base e i z 1 bytes ht hi hz hsize hby hzs (by omega) v n xs hown ad 1 c [u] (by simp) hn h1' (by omega) h63 hbytes hbase _ rfl
  refine ⟨g, cap, w', hr, h2, h3, h4, h5, fun g0 hg0 j x hx => ?_⟩
  have hjn : j < n := by have := (List.getElem?_eq_some_iff.1 hx).1; have := hown.1; omega
  by_cases hg : g = g0
  · subst hg
    rw [h2.cellAt j (by omega), List.getElem?_append_left (List.getElem?_eq_some_iff.1 hx).1]
    exact hx
  · have hgs : g = w.heap.size := by
      rcases h4 with h4 | h4
      · rw [hg0] at h4; injection h4 with h4; exact absurd h4.symm hg
      · exact h4
    have hold := hown.cells hg0 j x hx
    rw [Go.WideShapes.add_plain, Nat.zero_add] at hold
    rcases hown.2 with ⟨rfl, _⟩ | ⟨g', cap', cur, rfl, hb, hgg, hnc, hcm, hcs, htake⟩
    · simp [Value.ownBlock] at hg0
    · simp [Value.ownBlock] at hg0
      subst hg0
      by_cases hroom : n + 1 ≤ cap'
      · have hq := run_append_room (P := P) w t ty e i ht hi g' n cap' cur hgg ad 1 c [u] (by simp [hsize]) hn h1' hroom (by rw [hsize]; simp; omega)
        rw [hq] at hr
        injection hr with hr _
        injection hr with hr
        injection hr with hr
        injection hr with hr
        exact absurd hr.symm hg
      · have hq := run_append_grow (P := P) w t ty e i z ht hi hz ⟨g', 0, none⟩ n cap' xs (by rw [hsize]; exact hown.1) (hown.cells rfl) ad 1 c [u] (by simp [hsize]) hn (by omega) (by unfold maxLen at h63; omega) (growslice_fits (by omega) (by rw [hby]; exact hbytes))
        rw [hq] at hr
        injection hr with _ hr
        subst hr
        have hlt : g' < w.heap.size := (Array.getElem?_eq_some_iff.1 hgg).1
        rw [World.cell?_alloc_lt _ _ _ hlt]
        exact hold
theorem wpList_append_keeps {ops : Array Oper} {rest : List Oper} {o : Oper} {a : Act} {Q : Exit → Act → World → Prop} (hgd : o.guard = none) (s x : Operand) (t : TypeId)
    (ho : o.op = .call { callee := .builtin .append, args := #[s, x], argTypes := #[t, t] })
    (base : Nat) (e : TypeId) (i : TypeInfo) (z : Value) (bytes : Nat) (ht : P.underlying t = some (.slice e)) (hi : P.info? e = some i) (hz : i.zero = some z)
    (hsize : i.size = 1) (hby : i.bytes = bytes) (hzs : z.cells.size = 1)
    (v : Value) (n : Nat) (xs : List Value) (hs : a.eval s = v) (hown : w.ownsRow base e 1 v n xs)
    (ad : Addr) (c : Nat) (u : Value) (hx : a.eval x = .slice (some ad) 1 c) (hnews : w.cell? ad = some u) (h1 : u.oneCell' = true)
    (h63 : n + 1 ≤ maxLen) (hbytes : (n + 1) * bytes ≤ 140737488355328) (hbase : base ≤ w.heap.size)
    (h : ∀ g cap w', w'.ownsRow base e 1 (.slice (some ⟨g, 0, none⟩) (n + 1) cap) (n + 1) (xs ++ [u]) → w.grownBy w' v.ownBlock → (v.ownBlock = some g ∨ g = w.heap.size) → g < w'.heap.size →
      (∀ g0, v.ownBlock = some g0 → ∀ j x, xs[j]? = some x → w'.cell? ⟨g0, j, none⟩ = some x) → wpList P ops Q rest (a.put o.dst (.slice (some ⟨g, 0, none⟩) (n + 1) cap)) w') : wpList P ops Q (o :: rest) a w := by
  refine wpList_plain hgd fun _ hK => ?_
  obtain ⟨g, cap, w', hr, h2, h3, h4, h5, h6⟩ := run_append_keeps (P := P) w t o.type base e i z bytes ht hi hz hsize hby hzs v n xs hown ad c u hnews h1 h63 hbytes hbase
  unfold Oper.wp execOp
  simp only [ho, resolve, invoke, builtin, Sem.run_bind, Sem.run_pure, Result.andThen_ok, List.map_toArray, List.map_cons, List.map_nil, hs, hx, hr]
  exact hK _ _ (h g cap w' h2 h3 h4 h5 h6)
end
/-- Rows of different kinds lie in different blocks. -/
theorem row_kinds {w : World} {b b' : Nat} {e e' : TypeId} {v v' : Value} {n n' : Nat} {xs xs' : List Value} (h : w.ownsRow b e 1 v n xs) (h' : w.ownsRow b' e' 1 v' n' xs') (hne : e ≠ e') : ∀ g, v.ownBlock = some g → v'.ownBlock ≠ some g := by
  intro g hg hg'
  rcases h.2 with ⟨rfl, _⟩ | ⟨g1, cap, cur, rfl, _, hgg, _⟩
  · simp [Value.ownBlock] at hg
  · rcases h'.2 with ⟨rfl, _⟩ | ⟨g2, cap', cur', rfl, _, hgg', _⟩
    · simp [Value.ownBlock] at hg'
    · simp [Value.ownBlock] at hg hg'
      subst hg hg'
      rw [hgg] at hgg'
      simp at hgg'
      exact hne hgg'.2
theorem grown_refl (w : World) (r : Option Nat) : w.grownBy w r := ⟨rfl, rfl, rfl, Nat.le_refl _, fun _ _ _ => rfl⟩
theorem grown_drewN (w : World) (n : Nat) (r : Option Nat) : w.grownBy (w.drewN n) r := by
  induction n with
  | zero => exact grown_refl w r
  | succ n ih => exact ⟨ih.os, ih.tape, ih.output, ih.size, ih.block⟩
theorem grown_trans {a b c : World} {r s : Option Nat} (h : a.grownBy b r) (k : b.grownBy c s) (hs : s = r ∨ ∀ g, s = some g → a.heap.size ≤ g) : a.grownBy c r :=
  ⟨k.os.trans h.os, k.tape.trans h.tape, k.output.trans h.output, Nat.le_trans h.size k.size, fun j hj hr => by
    rw [k.block j (Nat.lt_of_lt_of_le hj h.size) (fun e => by
      rcases hs with hs | hs
      · rw [hs] at e; exact hr e
      · have := hs j e.symm; omega), h.block j hj hr]⟩
theorem grown_setCell (w : World) (a : Addr) (u : Value) : w.grownBy (w.setCell a u) (some a.block) :=
  ⟨rfl, rfl, rfl, by simp, fun k _ hk => Below.heap_setCell w a u k (fun e => hk (by rw [e]))⟩
/-- A row that is one's own, by another world in which its block is as it was. -/
theorem own_block {w w' : World} {base : Nat} {e : TypeId} {v : Value} {n : Nat} {xs : List Value} (h : w.ownsRow base e 1 v n xs) (hb : ∀ g, v.ownBlock = some g → w'.heap[g]? = w.heap[g]?) : w'.ownsRow base e 1 v n xs := by
  refine ⟨h.1, ?_⟩
  rcases h.2 with hn | ⟨g, cap, cur, rfl, hb', hgg, rest⟩
  · exact .inl hn
  · exact .inr ⟨g, cap, cur, rfl, hb', (hb g rfl).trans hgg, rest⟩
theorem own_below {w w' : World} {base B : Nat} {e : TypeId} {v : Value} {n : Nat} {xs : List Value} (h : w.ownsRow base e 1 v n xs) (hb : Below B w w') (hB : w.heap.size ≤ B) : w'.ownsRow base e 1 v n xs :=
  own_block h fun g hg => hb.block g (by have := (h.lt g hg).2; omega)
end Go.Proofs.Ytdidepaldppcjaa
