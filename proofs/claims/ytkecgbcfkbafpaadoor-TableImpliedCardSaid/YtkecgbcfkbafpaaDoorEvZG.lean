/-
  Arguments that nothing is known of, and what they read as afterwards.
-/
import Derived.Carry
import Derived.Test.YtkecgbcfkbafpaaDoorEvZF
namespace Go.Proofs.YtkecgbcfkbafpaaDoor.Ev
set_option linter.unusedSectionVars false
variable [Sig]
open Go.RowKit
set_option linter.unusedSimpArgs false

variable {P : Program}

def opqT (P : Program) (t : TypeId) : Bool :=
  match P.underlying t with
  | some (.slice _) | some (.int _) => true
  | _ => false
theorem opq_ok {t : TypeId} {v : Value} {w : World} {r : Reach} {b : Nat} (ht : opqT P t = true) (h : Value.okWide P w r b t v) : opqOK v = true := by
  unfold opqT at ht
  unfold Value.okWide at h
  split at ht
  · rename_i e hu
    rw [hu] at h
    simp only at h
    unfold Cell.okWide at h
    rw [hu] at h
    cases v <;> first | rfl | (exfalso; simp [Cell.ok, hu] at h)
  · rename_i k hu
    rw [hu] at h
    simp only at h
    unfold Cell.okWide at h
    rw [hu] at h
    cases v <;> first | rfl | (exfalso; simp [Cell.ok, hu] at h)
  · cases ht
def rowed (P : Program) (ts : List TypeId) : Bool := ts.all fun t => P.readableRec t && decide (t < P.types.size)
/-- Arguments read as they did, where the world has at most new blocks. -/
theorem trodAll_below {H : Type} {enc : TypeId × Value → H} (hl : laidOutB P = true) {W W' : World} (hb : Below W.heap.size W W') : ∀ (ts : List TypeId) (vs : List Value) (ds : List (DataW H)) (ps : List MemPlace), rowed P ts = true →
    DataW.TrodAll enc P W 0 (fun _ => true) true ts vs ds ps → (∀ x ∈ ps, x.block < W.heap.size) → DataW.TrodAll enc P W' 0 (fun b => decide (b < W.heap.size)) true ts vs ds ps := by
  intro ts
  induction ts with
  | nil => intro vs ds ps _ h _; cases vs <;> cases ds <;> first | exact h | exact h.elim
  | cons t ts ih =>
    intro vs ds ps hr h hlt
    simp only [rowed, List.all_cons, Bool.and_eq_true, decide_eq_true_eq] at hr
    cases vs with
    | nil => cases ds <;> exact h.elim
    | cons v vs =>
      cases ds with
      | nil => exact h.elim
      | cons d ds =>
        obtain ⟨p, q, h1, h2, rfl⟩ := h
        exact ⟨p, q, Below.trod hl hr.1.1 hr.1.2 h1 hb fun x hx => hlt x (List.mem_append_left _ hx), ih vs ds q (by simpa [rowed] using hr.2) h2 fun x hx => hlt x (List.mem_append_right _ hx), rfl⟩
end Go.Proofs.YtkecgbcfkbafpaaDoor.Ev
