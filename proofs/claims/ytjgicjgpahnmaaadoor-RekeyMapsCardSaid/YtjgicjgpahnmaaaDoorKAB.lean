/-
  The law RekeyMaps answers true, for every input, and changes nothing. No other conditions.
-/
import Derived.Test.YtjgicjgpahnmaaaDoorRows
import Derived.Test.YtjgicjgpahnmaaaDoorCards
import Derived.Test.YtjgicjgpahnmaaaDoorTie
import Derived.Test.YtjgicjgpahnmaaaDoorKZ
import Derived.Test.YtjgicjgpahnmaaaDoorKAA
import Derived.WalkKit
import Derived.ProofKit
import Derived.OpenShut
import Derived.LaidLaws
import Derived.LaidHandle
import Derived.LaidMore
import Derived.Lay
import Derived.SevenTiedAt
import Derived.Stop.Joined
import Derived.ChangeOld
import Derived.Deep.DeepHandedRow
import Derived.JoinedOf
import Derived.JoinedCond
namespace Go.Proofs.YtjgicjgpahnmaaaDoor.rekeyMaps
open Go.ChangeShapes Go.WideShapes Go.ChangeAt Go.RowKit
set_option linter.unusedVariables false

theorem own : ownKnob Tryd.prog.godebug = none := by kernel_rfl
set_option maxRecDepth 100000 in
theorem contract (H : Type) (enc : TypeId × Value → H) (W : World) (base : Nat) (args : Array Value) (ds gs : List (DataW H)) (before : List MemPlace)
    (hval0 : ∀ (j : Nat) t v, Tryd.f5.params[j]? = some t → args[j]? = some v → Value.okWide Tryd.prog W .any base t v)
    (hW : DataW.Whole enc Tryd.prog Tryd.f5.params.toList Rows.rekeyMapsSpec.vars false W args.toList ds gs before) (hL : laidMetH Tryd.prog Rows.rekeyMapsRow.laid W) :
    Calls Tryd.prog 5 args W fun e W' => ∃ v, e = .returned v ∧ Rows.rekeyMapsSpec.post enc Tryd.prog Tryd.f5 false true false false W args v W' := by
  have hval : ∀ (j : Nat) t v, Tryd.f5.params[j]? = some t → args[j]? = some v → Value.okWide Tryd.prog W .any base t v := hval0
  have hW' := hW
  obtain ⟨p, q, hA0, hV, rfl, hfz, hnd⟩ := hW
  have hA : DataW.TrodAll enc Tryd.prog W 0 (fun _ => true) true Tryd.f5.params.toList args.toList ds p := hA0
  rw [Tryd.params5] at hA hval
  obtain ⟨v0, vs0, d0, ds0, p0, q0, hargs, rfl, rfl, h0, r0⟩ := trodAll_cons hA
  obtain ⟨v2, vs2, d2, ds2, p2, q2, hargs2, rfl, rfl, h2, r2⟩ := trodAll_cons r0
  subst hargs2
  obtain ⟨rfl, rfl, rfl⟩ := trodAll_nil r2
  obtain rfl : args = #[v0, v2] := by cases args; simp_all
  obtain ⟨rfl, rfl⟩ := trodVars_none hV
  simp only [List.append_nil] at hW'
  have hlt : ∀ x ∈ p0 ++ (p2 ++ []), x.block < W.heap.size := fun x hx => hW'.lt x (by simpa using hx)
  have s0 := slice_one Tryd.underlying23 (hval 0 _ v0 rfl rfl)
  obtain ⟨⟨cs⟩, rfl, _⟩ := okWide_struct Tryd.underlying30 (hval 1 _ v2 rfl rfl)
  obtain ⟨n0, g0⟩ := h0
  obtain ⟨n2, g2⟩ := h2
  rw [s0] at g0
  obtain ⟨L, A, C, rfl, hLl, hL1⟩ := srcs_of _ _ _ g0
  obtain ⟨t, ht⟩ := part_of _ _ _ g2
  obtain ⟨a, c, e, _⟩ := ht.open
  simp only [Value.cells] at e ht
  subst e
  have hw : 0 < W.heap.size := by
    obtain ⟨v, hc, _⟩ := none_met hL
    exact Nat.lt_of_le_of_lt (Nat.zero_le _) (block_ltP hc)
  refine (maps_any L A C t a c W hL hw hL1 hLl ht).mono fun e W' ⟨he, bel⟩ => ?_
  subst he
  exact ⟨_, rfl, _, _, _, [], _, [], hW', trodAll_mk1 (shut_bool Tryd.underlying4 _), Ev.trodAll_below (by kernel_rfl) bel _ _ _ _ (by kernel_rfl) hA0 hlt, rfl, bel.frame _, fun h => by cases h⟩
/-- The witness's arguments: nothing. -/
def zeroArgs : Array Value := #[.slice none 0 0, .agg #[.int .u8 0, .bool false, .bool false, .string ⟨#[]⟩, .string ⟨#[]⟩, .slice none 0 0]]
theorem door_met (os : Os) (args : Array Value) : laidMetH Tryd.prog Rows.rekeyMapsRow.laid ((World.doorLaid Tryd.prog 400 os).forCall (fun _ _ => 0) ⟨#[], args, []⟩).memory :=
  laidMetH_of_parts3 (fuel := 8) (laidMet_of_run' 8 (by kernel_rfl) (by kernel_rfl)) (by kernel_rfl) (by kernel_rfl)
set_option maxRecDepth 100000 in
theorem lifted (os : Os) (started : os.Started) (H : Type) (enc : TypeId × Value → H) :
    ReturnsInHanded {} Tryd.checked os 5 .any (fun w args => (Rows.rekeyMapsSpec.pre enc Tryd.prog Tryd.f5 [] false w args ∧ laidMetH Tryd.prog Rows.rekeyMapsRow.laid w) ∧ sizedMet enc Tryd.prog Tryd.f5 (OpenSpec.ofChange Rows.rekeyMapsSpec) false w args)
      (Rows.rekeyMapsSpec.post enc Tryd.prog Tryd.f5 false true false false) := by
  refine returnsInHanded_of_change_and (C := Tryd.checked) (X := fun w _ => laidMetH Tryd.prog Rows.rekeyMapsRow.laid w) (fun _ _ _ hh h => h.of_heap hh) own started (by kernel_rfl) Tryd.func5
    (ChangeSpec.witness_shaped (enc := enc) (C := Tryd.checked) (os := os) (X := fun w _ => laidMetH Tryd.prog Rows.rekeyMapsRow.laid w) false (World.doorLaid Tryd.prog 400 os) zeroArgs 12 rfl
      (World.shaped_of_RefB (by kernel_rfl) (by kernel_rfl)) (by kernel_rfl) (by kernel_rfl) (by kernel_rfl)
      (door_met os _)) ?_
  intro W base args ds gs before hval0 hW _ _ hL _
  exact contract H enc W base args ds gs before hval0 hW hL
theorem over : Rows.rekeyMapsRow.holds Tryd.pinned (OpenSpec.ofChange Rows.rekeyMapsSpec) :=
  OpenClaim.holds_of_wide 5 Tryd.f5 rfl rfl rfl rfl rfl rfl rfl ⟨rfl, rfl, rfl, rfl, rfl⟩ rfl rfl rfl rfl rfl (by kernel_rfl) Tryd.func5 (by kernel_rfl)
    (of_decide_eq_true (by kernel_rfl)) (by unfold Func.isWrapper; first | (rw [if_pos (by decide +kernel)]; kernel_rfl) | (rw [if_neg (by decide +kernel)]; exact ⟨rfl, rfl⟩))
    (fun os started H enc _ => lifted os started H enc)
/-- The statement. -/
theorem proved : Rows.RekeyMapsCardSaid :=
  Claim7.holds_tied_plain_at .later [] _ _ _ _
    over (fun _ h => by cases h) (by kernel_rfl) (fun _ h => by cases h) rekeyMaps_row_tie rfl ⟨rfl, rfl⟩ (by kernel_rfl) rfl
    (fun f fn hf hfn => by
      obtain rfl : f = 5 := Option.some.inj ((show Tryd.prog.funcNamed "dovetail/dovetaillaw18.RekeyMaps" = some 5 by kernel_rfl).symm.trans hf) |>.symm
      obtain rfl : fn = Tryd.f5 := (Option.some.inj (Tryd.func5.symm.trans hfn)).symm
      exact ⟨by kernel_rfl, fun j t ht => by
        rw [Tryd.params5] at ht
        match j with
        | 0 =>
          obtain rfl : t = 23 := by simpa using ht.symm
          exact (show Tryd.prog.wantsStandIn 23 = false by kernel_rfl)
        | 1 =>
          obtain rfl : t = 30 := by simpa using ht.symm
          exact (show Tryd.prog.wantsStandIn 30 = false by kernel_rfl)
        | j + 2 => simp at ht⟩)
    (by kernel_rfl)
#print axioms proved
end Go.Proofs.YtjgicjgpahnmaaaDoor.rekeyMaps
