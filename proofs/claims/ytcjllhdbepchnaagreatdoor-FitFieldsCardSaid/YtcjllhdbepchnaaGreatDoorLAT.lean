/-
  The law FitFields answers true, for every input, and changes nothing. No other conditions.
-/
import Derived.Test.YtcjllhdbepchnaaGreatDoorRows
import Derived.Test.YtcjllhdbepchnaaGreatDoorCards
import Derived.Test.YtcjllhdbepchnaaGreatDoorTie
import Derived.Test.YtcjllhdbepchnaaGreatDoorLAR
import Derived.Test.YtcjllhdbepchnaaGreatDoorLAS
import Derived.WalkKit
import Derived.ProofKit
import Derived.OpenShut
import Derived.LaidLaws
import Derived.LaidHandle
import Derived.LaidMore
import Derived.Lay
import Derived.SevenTiedAt
import Derived.Stop.Joined
import Derived.ChangeOld
import Derived.Below
namespace Go.Proofs.YtcjllhdbepchnaaGreatDoor.fitFields
open Go.ChangeShapes Go.WideShapes Go.ChangeAt Go.RowKit
set_option linter.unusedVariables false

theorem own : ownKnob Tryz.prog.godebug = none := by kernel_rfl
set_option maxRecDepth 100000 in
theorem contract (H : Type) (enc : TypeId × Value → H) (W : World) (base : Nat) (args : Array Value) (ds gs : List (DataW H)) (before : List MemPlace)
    (hval0 : ∀ (j : Nat) t v, Tryz.f4.params[j]? = some t → args[j]? = some v → Value.okWide Tryz.prog W .any base t v)
    (hW : DataW.Whole enc Tryz.prog Tryz.f4.params.toList Rows.fitFieldsSpec.vars false W args.toList ds gs before) (hL : laidMetH Tryz.prog Rows.fitFieldsRow.laid W)
    (hwt : (DataW.weightsEach Tryz.prog (Tryz.f4.params.toList ++ Rows.fitFieldsSpec.plain.varTypes Tryz.prog) (ds ++ gs)).all (· ≤ reachBytes) = true) :
    Calls Tryz.prog 4 args W fun e W' => ∃ v, e = .returned v ∧ Rows.fitFieldsSpec.post enc Tryz.prog Tryz.f4 false true false false W args v W' := by
  have hval : ∀ (j : Nat) t v, Tryz.f4.params[j]? = some t → args[j]? = some v → Value.okWide Tryz.prog W .any base t v := hval0
  have hW' := hW
  obtain ⟨p, q, hA0, hV, rfl, hfz, hnd⟩ := hW
  have hA : DataW.TrodAll enc Tryz.prog W 0 (fun _ => true) true Tryz.f4.params.toList args.toList ds p := hA0
  rw [Tryz.params4] at hA hval hwt
  obtain ⟨v0, vs0, d0, ds0, p0, q0, hargs, rfl, rfl, h0, r0⟩ := trodAll_cons hA
  obtain ⟨v2, vs2, d2, ds2, p2, q2, hargs2, rfl, rfl, h2, r2⟩ := trodAll_cons r0
  subst hargs2
  obtain ⟨rfl, rfl, rfl⟩ := trodAll_nil r2
  obtain rfl : args = #[v0, v2] := by cases args; simp_all
  obtain ⟨rfl, rfl⟩ := trodVars_none hV
  simp only [List.append_nil] at hW'
  have hlt : ∀ x ∈ p0 ++ (p2 ++ []), x.block < W.heap.size := fun x hx => hW'.lt x (by simpa using hx)
  obtain ⟨⟨cs0⟩, rfl, _⟩ := okWide_struct Tryz.underlying57 (hval 0 _ v0 rfl rfl)
  obtain ⟨⟨cs⟩, rfl, _⟩ := okWide_struct Tryz.underlying30 (hval 1 _ v2 rfl rfl)
  obtain ⟨n0, g0⟩ := h0
  obtain ⟨n2, g2⟩ := h2
  obtain ⟨t0, ht0⟩ := field_of n0 cs0 _ g0 (fun q hq => by
    have h9 := List.all_eq_true.1 hwt q (by
      show q ∈ DataW.weightsEach Tryz.prog (57 :: _) (d0 :: _)
      rw [DataW.weightsEach]
      exact List.mem_append_left _ hq)
    exact of_decide_eq_true h9)
  obtain ⟨a0, c0, e0, hok, hl0, hc0, hf0⟩ := ht0.open
  subst e0
  obtain ⟨t, ht⟩ := part_of _ _ _ g2
  obtain ⟨a, c, e, _⟩ := ht.open
  simp only [Value.cells] at e ht
  subst e
  refine (fitFields_any hL t0 t a0 c0 a c hok hl0 hc0 hf0 ht).mono fun e W' ⟨he, bel⟩ => ?_
  subst he
  exact ⟨_, rfl, _, _, _, [], _, [], hW', trodAll_mk1 (shut_bool Tryz.underlying4 _), Ev.trodAll_below (by kernel_rfl) bel _ _ _ _ (by kernel_rfl) hA0 hlt, rfl, bel.frame _, fun h => by cases h⟩
/-- The witness's arguments: nothing. -/
def zeroArgs : Array Value := #[.agg #[.string ⟨#[]⟩, .int .u8 0, .bool false, .int .u8 0, .bool false, .bool false, .string ⟨#[]⟩, .bool false, .string ⟨#[]⟩, .int .i64 0, .int .i64 0, .bool false, .bool false, .slice none 0 0], .agg #[.int .u8 0, .bool false, .bool false, .string ⟨#[]⟩, .string ⟨#[]⟩, .slice none 0 0]]
set_option maxRecDepth 100000 in
theorem lifted (os : Os) (started : os.Started) (H : Type) (enc : TypeId × Value → H) :
    ReturnsInHanded {} Tryz.checked os 4 .any (fun w args => (Rows.fitFieldsSpec.pre enc Tryz.prog Tryz.f4 [] false w args ∧ laidMetH Tryz.prog Rows.fitFieldsRow.laid w) ∧ sizedMet enc Tryz.prog Tryz.f4 (OpenSpec.ofChange Rows.fitFieldsSpec) false w args)
      (Rows.fitFieldsSpec.post enc Tryz.prog Tryz.f4 false true false false) := by
  refine returnsInHanded_of_change_and (C := Tryz.checked) (X := fun w _ => laidMetH Tryz.prog Rows.fitFieldsRow.laid w) (fun _ _ _ hh h => h.of_heap hh) own started (by kernel_rfl) Tryz.func4
    (ChangeSpec.witness_shaped (enc := enc) (C := Tryz.checked) (os := os) (X := fun w _ => laidMetH Tryz.prog Rows.fitFieldsRow.laid w) false (Ev.handWorld Tryz.prog os Rows.fitFieldsRow.laid) zeroArgs 12 (Ev.handWorld_os _ _ _)
      (World.shaped_of_ZipB (by kernel_rfl) (by kernel_rfl)) (by kernel_rfl) (by kernel_rfl) (by kernel_rfl)
      (Ev.hand_met _ (by kernel_rfl) (by kernel_rfl) (by kernel_rfl))) ?_
  intro W base args ds gs before hval0 hW _ hwt hL _
  exact contract H enc W base args ds gs before hval0 hW hL hwt
theorem over : Rows.fitFieldsRow.holds Tryz.pinned (OpenSpec.ofChange Rows.fitFieldsSpec) :=
  OpenClaim.holds_of_wide 4 Tryz.f4 rfl rfl rfl rfl rfl rfl rfl ⟨rfl, rfl, rfl, rfl, rfl⟩ rfl rfl rfl rfl rfl (by kernel_rfl) Tryz.func4 (by kernel_rfl)
    (of_decide_eq_true (by kernel_rfl)) (by unfold Func.isWrapper; first | (rw [if_pos (by decide +kernel)]; kernel_rfl) | (rw [if_neg (by decide +kernel)]; exact ⟨rfl, rfl⟩))
    (fun os started H enc _ => lifted os started H enc)
/-- The statement. -/
theorem proved : Rows.FitFieldsCardSaid :=
  Claim7.holds_tied_plain_at .later [] _ _ _ _
    over (fun _ h => by cases h) (by kernel_rfl) (fun _ h => by cases h) fitFields_row_tie rfl ⟨rfl, rfl⟩ (by kernel_rfl) rfl
    (fun f fn hf hfn => by
      obtain rfl : f = 4 := Option.some.inj ((show Tryz.prog.funcNamed "dovetail/dovetaillaw12.FitFields" = some 4 by kernel_rfl).symm.trans hf) |>.symm
      obtain rfl : fn = Tryz.f4 := (Option.some.inj (Tryz.func4.symm.trans hfn)).symm
      exact ⟨by kernel_rfl, fun j t ht => by
        rw [Tryz.params4] at ht
        match j with
        | 0 =>
          obtain rfl : t = 57 := by simpa using ht.symm
          exact (show Tryz.prog.wantsStandIn 57 = false by kernel_rfl)
        | 1 =>
          obtain rfl : t = 30 := by simpa using ht.symm
          exact (show Tryz.prog.wantsStandIn 30 = false by kernel_rfl)
        | j + 2 => simp at ht⟩)
    (by kernel_rfl)
#print axioms proved
end Go.Proofs.YtcjllhdbepchnaaGreatDoor.fitFields
