/-
  The law UcdNil answers true, for every input, and changes nothing. No conditions.
-/
import Derived.Test.YthlfmpkbdcimkaaGreatDoorRows
import Derived.Test.YthlfmpkbdcimkaaGreatDoorCards
import Derived.Test.YthlfmpkbdcimkaaGreatDoorTie
import Derived.Test.YthlfmpkbdcimkaaGreatDoorEvZG
import Derived.Test.YthlfmpkbdcimkaaGreatDoorUcdOSteps
import Derived.WalkKit
import Derived.ProofKit
import Derived.OpenShut
import Derived.LaidLaws
import Derived.LaidHandle
import Derived.LaidMore
import Derived.Lay
import Derived.SevenTiedAt
import Derived.Stop.Joined
namespace Go.Proofs.YthlfmpkbdcimkaaGreatDoor.ucdNil
open Go.ChangeShapes Go.WideShapes Go.ChangeAt Go.RowKit
set_option linter.unusedVariables false

theorem own : ownKnob Tryz.prog.godebug = none := by kernel_rfl
theorem plain : Ev.plainB Tryz.prog = true := by kernel_rfl
theorem mixed : Tryz.prog.follows .mixedOrders = true := by kernel_rfl
theorem ran : Ev.isTrue (Ev.evCall2 (sums4) Tryz.prog 100000 60 5 [.chan (some 0)] ⟨Ev.laidMem Tryz.prog (Rows.ucdNilRow.laid.filter fun x => x.2.handleName?.isNone), 64, 0⟩) = true := by kernel_rfl
theorem walk {w : World} (h : laidMetH Tryz.prog Rows.ucdNilRow.laid w) (v0 : Value) (h0 : Ev.opqOK v0 = true) : Calls Tryz.prog 5 #[v0] w fun e w' => e = .returned (.bool true) ∧ Below w.heap.size w w' :=
  Ev.laid_call plain mixed h (sums4_ok _) 100000 60 5 (.cons (.opq 0 h0) .nil) ran
set_option maxRecDepth 100000 in
theorem lifted (os : Os) (started : os.Started) (H : Type) (enc : TypeId × Value → H) :
    ReturnsInHanded {} Tryz.checked os 5 .any (fun w args => (Rows.ucdNilSpec.pre enc Tryz.prog Tryz.f5 [] false w args ∧ laidMetH Tryz.prog Rows.ucdNilRow.laid w) ∧ sizedMet enc Tryz.prog Tryz.f5 (OpenSpec.ofChange Rows.ucdNilSpec) false w args)
      (Rows.ucdNilSpec.post enc Tryz.prog Tryz.f5 false true false false) := by
  refine returnsInHanded_of_change_and (C := Tryz.checked) (X := fun w _ => laidMetH Tryz.prog Rows.ucdNilRow.laid w) (fun _ _ _ hh h => h.of_heap hh) own started (by kernel_rfl) Tryz.func5
    (ChangeSpec.witness_shaped (enc := enc) (C := Tryz.checked) (os := os) (X := fun w _ => laidMetH Tryz.prog Rows.ucdNilRow.laid w) false (World.laidAll Tryz.prog os Rows.ucdNilRow.laid) #[.int .i64 0] 8 (World.laidAll_os _ _ _)
      (World.shaped_of_ZipB (by kernel_rfl) (by kernel_rfl)) (by kernel_rfl) (by kernel_rfl) (by kernel_rfl)
      (by rw [MakeChecks.laidMetH_plain _ _ _ (by kernel_rfl)]; exact laidMet_laidAll _ (by kernel_rfl) (by kernel_rfl))) ?_
  intro W base args ds gs before hval0 hW _ _ hL _
  have hval : ∀ (j : Nat) t v, Tryz.f5.params[j]? = some t → args[j]? = some v → Value.okWide Tryz.prog W .any base t v := hval0
  have hW' := hW
  obtain ⟨p, q, hA0, hV, rfl, hfz, hnd⟩ := hW
  have hA : DataW.TrodAll enc Tryz.prog W 0 (fun _ => true) true Tryz.f5.params.toList args.toList ds p := hA0
  rw [Tryz.params5] at hA hval
  obtain ⟨v0, d0, rfl, rfl, h0⟩ := trodAll_one hA
  obtain ⟨rfl, rfl⟩ := trodVars_none hV
  have o0 : Ev.opqOK v0 = true := Ev.opq_ok (by kernel_rfl) (hval 0 _ v0 rfl rfl)
  simp only [List.append_nil] at hW'
  have hlt : ∀ x ∈ p, x.block < W.heap.size := fun x hx => hW'.lt x (by simpa using hx)
  refine (walk hL v0 o0).mono fun e W' ⟨he, bel⟩ => ?_
  subst he
  exact ⟨_, rfl, _, _, _, [], _, [], hW', trodAll_mk1 (shut_bool Tryz.underlying4 _), Ev.trodAll_below (by kernel_rfl) bel _ _ _ _ (by kernel_rfl) hA0 hlt, rfl, bel.frame _, fun h => by cases h⟩
theorem over : Rows.ucdNilRow.holds Tryz.pinned (OpenSpec.ofChange Rows.ucdNilSpec) :=
  OpenClaim.holds_of_wide 5 Tryz.f5 rfl rfl rfl rfl rfl rfl rfl ⟨rfl, rfl, rfl, rfl, rfl⟩ rfl rfl rfl rfl rfl (by kernel_rfl) Tryz.func5 (by kernel_rfl)
    (of_decide_eq_true (by kernel_rfl)) (by unfold Func.isWrapper; first | (rw [if_pos (by decide +kernel)]; kernel_rfl) | (rw [if_neg (by decide +kernel)]; exact ⟨rfl, rfl⟩))
    (fun os started H enc _ => lifted os started H enc)
/-- The statement. -/
theorem proved : Rows.UcdNilCardSaid :=
  Claim7.holds_tied_plain_at .later [] [.data, .data, .data, .data, .sentinel, .sentinel, .pinned, .pinned] true (true, "e60dc2c1fcfee98deea33c706efd017490578705b79f662e4dd7dedfdb44edbc") true
    over (fun _ h => by cases h) (by kernel_rfl) (fun _ h => by cases h) ucdNil_row_tie rfl ⟨rfl, rfl⟩ (by kernel_rfl) rfl
    (fun f fn hf hfn => by
      obtain rfl : f = 5 := Option.some.inj ((show Tryz.prog.funcNamed "dovetail/dovetaillaw04.UcdNil" = some 5 by kernel_rfl).symm.trans hf) |>.symm
      obtain rfl : fn = Tryz.f5 := (Option.some.inj (Tryz.func5.symm.trans hfn)).symm
      exact ⟨by kernel_rfl, fun j t ht => by
        have hm : t ∈ Tryz.f5.params.toList := Array.mem_toList_iff.2 (Array.mem_of_getElem? ht)
        have hall : (Tryz.f5.params.toList.all fun u => !Tryz.prog.wantsStandIn u) = true := by kernel_rfl
        exact (show Tryz.prog.wantsStandIn t = false by simpa using List.all_eq_true.1 hall t hm)⟩)
    (by kernel_rfl)
#print axioms proved
end Go.Proofs.YthlfmpkbdcimkaaGreatDoor.ucdNil
