/-
  What the law SpaceNil asks of its call is met. No conditions.
-/
import Derived.Test.YtinonofhladkpaaGreatDoorRows
import Derived.Test.YtinonofhladkpaaGreatDoorCards
import Derived.Test.YtinonofhladkpaaGreatDoorTie
import Derived.Test.YtinonofhladkpaaGreatDoorJW
import Derived.Test.YtinonofhladkpaaGreatDoorJS
import Derived.Test.YtinonofhladkpaaGreatDoorJE
import Derived.WalkKit
import Derived.ProofKit
import Derived.OpenShut
import Derived.LaidLaws
import Derived.LaidHandle
import Derived.LaidMore
import Derived.Lay
import Derived.SevenTiedAt
import Derived.Stop.Joined
import Derived.ChangeOld
import Derived.Below
namespace Go.Proofs.YtinonofhladkpaaGreatDoor.spaceNil
open Go.ChangeShapes Go.WideShapes Go.ChangeAt Go.RowKit
set_option linter.unusedVariables false
theorem own : ownKnob Tryz.prog.godebug = none := by kernel_rfl
theorem laidOut : laidOutB Tryz.prog = true := by kernel_rfl
def zeroOp : List Value := opCells 0 ⟨#[]⟩ ⟨#[]⟩ ⟨#[]⟩ ⟨#[]⟩ ⟨0, false, false, ⟨#[]⟩, ⟨#[]⟩, []⟩ none 0 ⟨0, false, false, ⟨#[]⟩, ⟨#[]⟩, []⟩ none 0 none 0 0 false ⟨#[]⟩ false 0 none 0 0
set_option maxRecDepth 100000 in
theorem lifted (os : Os) (started : os.Started) (H : Type) (enc : TypeId × Value → H) :
    ReturnsInHanded {} Tryz.checked os 3 .any (fun w args => (Rows.spaceNilSpec.pre enc Tryz.prog Tryz.f3 [] false w args ∧ laidMetH Tryz.prog Rows.spaceNilRow.laid w) ∧ sizedMet enc Tryz.prog Tryz.f3 (OpenSpec.ofChange Rows.spaceNilSpec) false w args)
      (Rows.spaceNilSpec.post enc Tryz.prog Tryz.f3 false true false false) := by
  refine returnsInHanded_of_change_and (C := Tryz.checked) (X := fun w _ => laidMetH Tryz.prog Rows.spaceNilRow.laid w) (fun _ _ _ hh h => h.of_heap hh) own started (by kernel_rfl) Tryz.func3
    (ChangeSpec.witness_shaped (enc := enc) (C := Tryz.checked) (os := os) (X := fun w _ => laidMetH Tryz.prog Rows.spaceNilRow.laid w) false (Ev.handWorld Tryz.prog os Rows.spaceNilRow.laid) #[.agg zeroOp.toArray] 12 (Ev.handWorld_os _ _ _)
      (World.shaped_of_ZipB (by kernel_rfl) (by kernel_rfl)) (by kernel_rfl) (by kernel_rfl) (by kernel_rfl)
      (Ev.hand_met _ (by kernel_rfl) (by kernel_rfl) (by kernel_rfl))) ?_
  intro W base args ds gs before hval0 hW _ _ hL _
  have hval : ∀ (j : Nat) t v, Tryz.f3.params[j]? = some t → args[j]? = some v → Value.okWide Tryz.prog W .any base t v := hval0
  have hW' := hW
  obtain ⟨p, q, hA0, hV, rfl, hfz, hnd⟩ := hW
  have hA : DataW.TrodAll enc Tryz.prog W 0 (fun _ => true) true Tryz.f3.params.toList args.toList ds p := hA0
  rw [Tryz.params3] at hA hval
  obtain ⟨v0, vs0, d0, ds0, p0, q0, hargs, rfl, rfl, h0, r0⟩ := trodAll_cons hA
  obtain ⟨rfl, rfl, rfl⟩ := trodAll_nil r0
  obtain rfl : args = #[v0] := by cases args; simp_all
  obtain ⟨rfl, rfl⟩ := trodVars_none hV
  obtain ⟨⟨cs⟩, rfl, _⟩ := okWide_struct Tryz.underlying33 (hval 0 33 v0 rfl rfl)
  have lt0 : ∀ x ∈ p0, x.block < W.heap.size := by obtain ⟨m, hm⟩ := h0; exact DataW.trod_lt m _ _ _ hm
  have h00 := h0
  obtain ⟨m, hm⟩ := h00
  obtain ⟨kd, nm, to, tx, ot, pp, pa, pc, qq, qa, qc, ba, bc, st, sx, bk, lm, la, lc, bs, ls, rfl, k1, k2, k3, k4, k5, k6⟩ := op_of (cs := cs) hm
  clear hA0 hval0
  refine (nil_walk kd nm to tx ot pp pa pc qq qa qc ba bc st sx bk lm la lc bs ls W k1 k2 k3 k4 k5 k6 (fun w' hb => spaceNilA.awake_any hL hb) hL).mono fun e W' ⟨he, bel⟩ => ?_
  subst he
  exact ⟨_, rfl, _, _, _, [], _, [], hW', trodAll_mk1 (shut_bool Tryz.underlying4 _), (trodAll_cons_mk (Below.trod laidOut (by kernel_rfl) (of_decide_eq_true (by kernel_rfl)) h0 bel lt0) trodAll_mk0), rfl, bel.frame _, fun h => by cases h⟩
end Go.Proofs.YtinonofhladkpaaGreatDoor.spaceNil
