/-
  errors.Is of a fault and its number; the laws' Is and Why.
-/
import Derived.Test.YtjgicjgpahnmaaaDoorKS
namespace Go.Proofs.YtjgicjgpahnmaaaDoor
open Go.RowKit Go.WideShapes Ev
set_option linter.unusedVariables false
/-- A fault in memory. -/
def FaultAt (w : World) (Tb : Nat) (code at_ n : Int) : Prop := w.heap[Tb]? = some (.cells #[.int .i64 code, .int .i64 at_, .slice none 0 0, errV n] 68 (0, 0))
theorem FaultAt.cells {w : World} {Tb : Nat} {code at_ n : Int} (h : FaultAt w Tb code at_ n) : w.cell? ⟨Tb, 0, none⟩ = some (.int .i64 code) ∧ w.cell? ⟨Tb, 1, none⟩ = some (.int .i64 at_) ∧ w.cell? ⟨Tb, 2, none⟩ = some (.slice none 0 0) ∧ w.cell? ⟨Tb, 3, none⟩ = some (errV n) := by
  simp [World.cell?, show w.heap[Tb]? = _ from h]
theorem FaultAt.below {w w' : World} {B Tb : Nat} {code at_ n : Int} (h : FaultAt w Tb code at_ n) (hb : Below B w w') (hT : Tb < B) : FaultAt w' Tb code at_ n := (hb.block Tb hT).trans h
theorem FaultAt.lt {w : World} {Tb : Nat} {code at_ n : Int} (h : FaultAt w Tb code at_ n) : Tb < w.heap.size := (Array.getElem?_eq_some_iff.1 h).1
noncomputable def isMem (code : Int) : T AObj := baseW.set 48 (.cells (T.leaf.fill 0 [.int .i64 code, .chan (some 1), .chan (some 2), .chan (some 3)]) 4 68 false)
theorem is_ran4 : isTrue (evCall2 (fun _ _ _ => none) Tryd.prog 100000 60 37 [.iface 66 (.pointer (some ⟨48, 0, none⟩)), .iface 32 (.int .i64 4)] ⟨isMem 4, 64, 0⟩) = true := by kernel_rfl
theorem is_ran180 : isTrue (evCall2 (fun _ _ _ => none) Tryd.prog 100000 60 37 [.iface 66 (.pointer (some ⟨48, 0, none⟩)), .iface 32 (.int .i64 180)] ⟨isMem 180, 64, 0⟩) = true := by kernel_rfl
theorem isE_ran90 : isTrue (evCall2 (fun _ _ _ => none) Tryd.prog 100000 60 37 [.iface 32 (.int .i64 90), .iface 32 (.int .i64 90)] ⟨baseW, 64, 0⟩) = true := by kernel_rfl
theorem isE_ran91 : isTrue (evCall2 (fun _ _ _ => none) Tryd.prog 100000 60 37 [.iface 32 (.int .i64 91), .iface 32 (.int .i64 91)] ⟨baseW, 64, 0⟩) = true := by kernel_rfl
theorem errV_opq (n : Int) : opqOK (errV n) = true := by unfold errV; split <;> rfl
set_option maxRecDepth 100000 in
theorem isMem_hr {w0 w : World} {Tb : Nat} {code at_ n : Int} (h : laidMetH Tryd.prog Rows.rekeyGoesUptoRow.laid w0) (hb0 : Below w0.heap.size w0 w) (hw0 : w0.heap.size ≤ Tb) (hF : FaultAt w Tb code at_ n) : HR Tryd.prog w (EL Tb) (isMem code) 64 w := by
  have h1 := EL_base h Tb
  have hlt : ∀ i o, baseW.get i = some o → i < 48 := fun i o ho => by
    obtain ⟨b, r, k1, _⟩ := (base_hr h).born i o ho rfl
    simp only [E0] at k1
    split at k1
    · assumption
    · cases k1
  have hgl : ∀ i, i < 48 → i < w0.heap.size ∨ baseW.get i = none := fun i hi => by
    cases hg : baseW.get i with
    | none => exact .inr rfl
    | some o =>
      obtain ⟨b, r, k1, k2, _⟩ := h1.born i o hg rfl
      have : b = i := by have := h1.glob i hi; rw [this] at k1; injection k1 with k1; exact k1.symm
      subst this
      exact .inl (Array.getElem?_eq_some_iff.1 k2).1
  have hget : ∀ i o, (isMem code).get i = some o → (i = 48 ∧ o = .cells (T.leaf.fill 0 [.int .i64 code, .chan (some 1), .chan (some 2), .chan (some 3)]) 4 68 false) ∨ (i ≠ 48 ∧ baseW.get i = some o) := fun i o ho => by
    unfold isMem at ho
    rw [T.get_set _ _ _ (by omega)] at ho
    split at ho
    · injection ho with ho; exact .inl ⟨by assumption, ho.symm⟩
    · exact .inr ⟨by assumption, ho⟩
  refine ⟨Below.refl _ _, fun i b e => ⟨(h1.dom i b e).1, fun h64 => by have := (h1.dom i b e).1; omega⟩, h1.glob, fun i j o o' b g1 g2 e1 e2 => ?_, fun i hp => absurd hp Bool.false_ne_true, fun i o ho hp => ?_⟩
  · rcases hget i o g1 with ⟨rfl, _⟩ | ⟨hi, g1'⟩ <;> rcases hget j o' g2 with ⟨rfl, _⟩ | ⟨hj, g2'⟩
    · rfl
    · have hj48 := hlt j o' g2'
      rcases hgl j hj48 with h9 | h9
      · rw [h1.glob j hj48] at e2
        injection e2 with e2
        simp only [EL] at e1
        simp at e1
        omega
      · rw [h9] at g2'; cases g2'
    · have hi48 := hlt i o g1'
      rcases hgl i hi48 with h9 | h9
      · rw [h1.glob i hi48] at e1
        injection e1 with e1
        simp only [EL] at e2
        simp at e2
        omega
      · rw [h9] at g1'; cases g1'
    · exact h1.inj i j o o' b g1' g2' e1 e2
  · rcases hget i o ho with ⟨rfl, rfl⟩ | ⟨hi, g1⟩
    · refine ⟨Tb, _, by simp [EL], hF, #[.int .i64 code, .int .i64 at_, .slice none 0 0, errV n], ⟨_, _, fun h64 => by omega, fun h64 => by omega, rfl⟩, by simp [sizeOk, EL], fun j v hj hv => ?_⟩
      rw [T.get_fill _ _ _ _ (by show 0 + 4 ≤ _; omega), if_pos ⟨Nat.zero_le _, by show j < 0 + 4; omega⟩] at hv
      rcases j with _ | _ | _ | _ | j
      · simp at hv; subst hv; exact ⟨_, rfl, .int _ _⟩
      · simp at hv; subst hv; exact ⟨_, rfl, .opq 1 rfl⟩
      · simp at hv; subst hv; exact ⟨_, rfl, .opq 2 rfl⟩
      · simp at hv; subst hv; exact ⟨_, rfl, .opq 3 (errV_opq n)⟩
      · omega
    · obtain ⟨b, r, k1, k2, k3⟩ := h1.born i o g1 hp
      exact ⟨b, r, k1, by rw [hb0.block b (Array.getElem?_eq_some_iff.1 k2).1]; exact k2, k3⟩
theorem true_full {P : Program} {w : World} {E : Env} {H : T AObj} (hP : Plainly P) (hm : P.follows .mixedOrders = true) (steps n : Nat) (f : FuncId) {l : List Value} {args : Array Value} (h0 : HR P w E H 64 w) (hv : VRL E l args.toList) (he : isTrue (evCall2 (fun _ _ _ => none) P steps n f l ⟨H, 64, 0⟩) = true) :
    Calls P f args w (Ret (.bool true) w) := by
  obtain ⟨m, hr⟩ := isTrue_ok he
  refine Calls.mono (call_full hP hm steps n f h0 hv hr) fun e w' ⟨E', v', _, k2, k3, k4⟩ => ?_
  cases k4
  exact ⟨k3, k2.below⟩
theorem is_any {w0 w : World} {Tb : Nat} {code at_ n : Int} (h : laidMetH Tryd.prog Rows.rekeyGoesUptoRow.laid w0) (hb0 : Below w0.heap.size w0 w) (hw0 : w0.heap.size ≤ Tb) (hF : FaultAt w Tb code at_ n) (hc : code = 4 ∨ code = 180) :
    Calls Tryd.prog 37 #[.iface 66 (.pointer (some ⟨Tb, 0, none⟩)), .iface 32 (.int .i64 code)] w (Ret (.bool true) w) := by
  have h1 := isMem_hr h hb0 hw0 hF
  rcases hc with rfl | rfl
  · exact true_full (plainly_of plainT) mixedT _ _ _ h1 (.cons (.iface _ (.ptr 0 (by simp [EL]))) (.cons (.iface _ (.int _ _)) .nil)) is_ran4
  · exact true_full (plainly_of plainT) mixedT _ _ _ h1 (.cons (.iface _ (.ptr 0 (by simp [EL]))) (.cons (.iface _ (.int _ _)) .nil)) is_ran180
theorem isE_any {w0 w : World} {n : Int} (h : laidMetH Tryd.prog Rows.rekeyGoesUptoRow.laid w0) (hb0 : Below w0.heap.size w0 w) (hn : n = 90 ∨ n = 91) :
    Calls Tryd.prog 37 #[.iface 32 (.int .i64 n), .iface 32 (.int .i64 n)] w (Ret (.bool true) w) := by
  rcases hn with rfl | rfl
  · exact true_full (plainly_of plainT) mixedT _ _ _ (HR.at_later (base_hr h) hb0) (.cons (.iface _ (.int _ _)) (.cons (.iface _ (.int _ _)) .nil)) isE_ran90
  · exact true_full (plainly_of plainT) mixedT _ _ _ (HR.at_later (base_hr h) hb0) (.cons (.iface _ (.int _ _)) (.cons (.iface _ (.int _ _)) .nil)) isE_ran91
end Go.Proofs.YtjgicjgpahnmaaaDoor
