/-
  The law's look at the package; a part that may be has no text that is too long.
-/
import Derived.Test.YtcjllhdbepchnaaGreatDoorLU
import Derived.Test.YtcjllhdbepchnaaGreatDoorLX
import Derived.Test.YtcjllhdbepchnaaGreatDoorLY
namespace Go.Proofs.YtcjllhdbepchnaaGreatDoor
open Go.RowKit Go.WideShapes Ev
set_option linter.unusedVariables false
theorem awake12_ran : isTrue (evCall2 (fun _ _ _ => none) Tryz.prog 100000 60 8 [] ⟨baseW, 64, 0⟩) = true := by kernel_rfl
theorem awake12_any {w w' : World} (h : laidMetH Tryz.prog Rows.schemaChecksRow.laid w) (hb : Below w.heap.size w w') : Calls Tryz.prog 8 #[] w' (Ret (.bool true) w') :=
  true_full (plainly_of plainT) mixedT _ _ _ (HR.at_later (base_hr h) hb) .nil awake12_ran
theorem RawOk.of_may : ∀ t : PT, t.may = true → t.kind < 256 → RawOk t := by
  refine PT.all fun t ih => ?_
  intro h hk
  obtain ⟨k, y, b, m, r, l⟩ := t
  have h9 := h
  simp only [PT.may, Bool.and_eq_true] at h
  have hr : r.size ≤ 65536 := by
    have h4 := h.2
    split at h4
    · simp at h4; rw [h4]; exact Nat.zero_le _
    split at h4
    · simp at h4; rw [h4.1]; exact Nat.zero_le _
    split at h4
    · simp at h4; omega
    split at h4
    · simpa using h4
    split at h4
    · simp at h4; rw [h4.1.1]; exact Nat.zero_le _
    · cases h4
  refine .mk (by simp only [PT.raw]; omega) fun x hx => ?_
  by_cases h7 : k = 7
  · have h8 := (PT.may_items h9 (by simpa [PT.kind] using h7)).2 x hx
    exact ih x hx h8 (by
      have h5 := h8
      obtain ⟨k', _, _, _, _, _⟩ := x
      simp only [PT.may, Bool.and_eq_true] at h5
      have h6 := h5.2
      simp only [PT.kind]
      split at h6
      · omega
      split at h6
      · omega
      split at h6
      · omega
      split at h6
      · omega
      split at h6
      · omega
      · cases h6)
  · have := h.1.2
    simp only [PT.items] at hx
    simp [h7] at this
    rw [this] at hx
    cases hx
end Go.Proofs.YtcjllhdbepchnaaGreatDoor
