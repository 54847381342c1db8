/-
  The law TableImplied answers true, for every input, and changes nothing. No conditions.
-/
import Derived.Test.YtkecgbcfkbafpaaDoorRows
import Derived.Test.YtkecgbcfkbafpaaDoorCards
import Derived.Test.YtkecgbcfkbafpaaDoorTie
import Derived.Test.YtkecgbcfkbafpaaDoorEvZG
import Derived.Test.YtkecgbcfkbafpaaDoorSymW
import Derived.WalkKit
import Derived.ProofKit
import Derived.OpenShut
import Derived.LaidLaws
import Derived.LaidHandle
import Derived.LaidMore
import Derived.Lay
import Derived.SevenTiedAt
import Derived.Stop.Joined
namespace Go.Proofs.YtkecgbcfkbafpaaDoor.tableImplied
open Go.ChangeShapes Go.WideShapes Go.ChangeAt Go.RowKit
set_option linter.unusedVariables false

theorem own : ownKnob Tryd.prog.godebug = none := by kernel_rfl
theorem plain : Ev.plainB Tryd.prog = true := by kernel_rfl
theorem mixed : Tryd.prog.follows .mixedOrders = true := by kernel_rfl
theorem walk {w : World} (h : laidMetH Tryd.prog Rows.tableImpliedRow.laid w) (p q : Int) (hp : -9223372036854775808 ≤ p ∧ p ≤ 9223372036854775807) (hq : -9223372036854775808 ≤ q ∧ q ≤ 9223372036854775807) :
    Calls Tryd.prog 3 #[.int .i64 p, .int .i64 q] w fun e w' => e = .returned (.bool true) ∧ Below w.heap.size w w' := by
  obtain ⟨c, hc, r⟩ := all_good hp hq
  letI : Ev.Sig := Ev.sigOf c p q hc
  have e0 : Ev.symVal p q 0 = p := by simp [Ev.symVal, Ev.sform, Ev.varOf]
  have e1 : Ev.symVal p q 1 = q := by simp [Ev.symVal, Ev.sform, Ev.varOf]
  have s0 : Ev.VR Ev.E0 (.float .f32 0) (.int .i64 (Ev.symVal p q 0)) := Ev.VR.sym (E := Ev.E0) 0
  have s1 : Ev.VR Ev.E0 (.float .f32 1) (.int .i64 (Ev.symVal p q 1)) := Ev.VR.sym (E := Ev.E0) 1
  have v0 : Ev.VR Ev.E0 (.float .f32 0) (.int .i64 p) := e0 ▸ s0
  have v1 : Ev.VR Ev.E0 (.float .f32 1) (.int .i64 q) := e1 ▸ s1
  exact Ev.laid_call plain mixed h (Ev.memo_ok plain mixed h (fun w => Ev.no_sums) (awake c p q hc)) 100000 60 3 (.cons v0 (.cons v1 .nil)) r
set_option maxRecDepth 100000 in
theorem lifted (os : Os) (started : os.Started) (H : Type) (enc : TypeId × Value → H) :
    ReturnsInHanded {} Tryd.checked os 3 .any (fun w args => (Rows.tableImpliedSpec.pre enc Tryd.prog Tryd.f3 [] false w args ∧ laidMetH Tryd.prog Rows.tableImpliedRow.laid w) ∧ sizedMet enc Tryd.prog Tryd.f3 (OpenSpec.ofChange Rows.tableImpliedSpec) false w args)
      (Rows.tableImpliedSpec.post enc Tryd.prog Tryd.f3 false true false false) := by
  refine returnsInHanded_of_change_and (C := Tryd.checked) (X := fun w _ => laidMetH Tryd.prog Rows.tableImpliedRow.laid w) (fun _ _ _ hh h => h.of_heap hh) own started (by kernel_rfl) Tryd.func3
    (ChangeSpec.witness_shaped (enc := enc) (C := Tryd.checked) (os := os) (X := fun w _ => laidMetH Tryd.prog Rows.tableImpliedRow.laid w) false (World.laidAll Tryd.prog os Rows.tableImpliedRow.laid) #[.int .i64 0, .int .i64 0] 8 (World.laidAll_os _ _ _)
      (World.shaped_of_ZipB (by kernel_rfl) (by kernel_rfl)) (by kernel_rfl) (by kernel_rfl) (by kernel_rfl)
      (by rw [MakeChecks.laidMetH_plain _ _ _ (by kernel_rfl)]; exact laidMet_laidAll _ (by kernel_rfl) (by kernel_rfl))) ?_
  intro W base args ds gs before hval0 hW _ _ hL _
  have hval : ∀ (j : Nat) t v, Tryd.f3.params[j]? = some t → args[j]? = some v → Value.okWide Tryd.prog W .any base t v := hval0
  have hW' := hW
  obtain ⟨p, q, hA0, hV, rfl, hfz, hnd⟩ := hW
  have hA : DataW.TrodAll enc Tryd.prog W 0 (fun _ => true) true Tryd.f3.params.toList args.toList ds p := hA0
  rw [Tryd.params3] at hA hval
  letI : Ev.Sig := Ev.noSig
  obtain ⟨v0, v1, d0, d1, p0, p1, rfl, rfl, rfl, h0, h1⟩ := trodAll_two hA
  obtain ⟨rfl, rfl⟩ := trodVars_none hV
  obtain ⟨a0, rfl, rfl, rfl, b0⟩ := open_int Tryd.underlying3 (hval 0 _ v0 rfl rfl) h0
  obtain ⟨a1, rfl, rfl, rfl, b1⟩ := open_int Tryd.underlying3 (hval 1 _ v1 rfl rfl) h1
  simp only [List.append_nil] at hW'
  have hlt : ∀ x ∈ ([] : List MemPlace), x.block < W.heap.size := fun x hx => by cases hx
  refine (walk hL a0 a1 (bounds_i64 b0) (bounds_i64 b1)).mono fun e W' ⟨he, bel⟩ => ?_
  subst he
  exact ⟨_, rfl, _, _, _, [], _, [], hW', trodAll_mk1 (shut_bool Tryd.underlying4 _), Ev.trodAll_below (by kernel_rfl) bel _ _ _ _ (by kernel_rfl) hA0 hlt, rfl, bel.frame _, fun h => by cases h⟩
theorem over : Rows.tableImpliedRow.holds Tryd.pinned (OpenSpec.ofChange Rows.tableImpliedSpec) :=
  OpenClaim.holds_of_wide 3 Tryd.f3 rfl rfl rfl rfl rfl rfl rfl ⟨rfl, rfl, rfl, rfl, rfl⟩ rfl rfl rfl rfl rfl (by kernel_rfl) Tryd.func3 (by kernel_rfl)
    (of_decide_eq_true (by kernel_rfl)) (by unfold Func.isWrapper; first | (rw [if_pos (by decide +kernel)]; kernel_rfl) | (rw [if_neg (by decide +kernel)]; exact ⟨rfl, rfl⟩))
    (fun os started H enc _ => lifted os started H enc)
/-- The statement. -/
theorem proved : Rows.TableImpliedCardSaid :=
  Claim7.holds_tied_plain_at .later [] [.data, .data, .data, .data, .sentinel, .sentinel, .pinned, .pinned] true (true, "a23b67ab3cf9aee0f8decfcbf96bfa8f3ccaa60c8c87e0928b6c09ff31f2e2c7") true
    over (fun _ h => by cases h) (by kernel_rfl) (fun _ h => by cases h) tableImplied_row_tie rfl ⟨rfl, rfl⟩ (by kernel_rfl) rfl
    (fun f fn hf hfn => by
      obtain rfl : f = 3 := Option.some.inj ((show Tryd.prog.funcNamed "dovetail/dovetaillaw06.TableImplied" = some 3 by kernel_rfl).symm.trans hf) |>.symm
      obtain rfl : fn = Tryd.f3 := (Option.some.inj (Tryd.func3.symm.trans hfn)).symm
      exact ⟨by kernel_rfl, fun j t ht => by
        have hm : t ∈ Tryd.f3.params.toList := Array.mem_toList_iff.2 (Array.mem_of_getElem? ht)
        have hall : (Tryd.f3.params.toList.all fun u => !Tryd.prog.wantsStandIn u) = true := by kernel_rfl
        exact (show Tryd.prog.wantsStandIn t = false by simpa using List.all_eq_true.1 hall t hm)⟩)
    (by kernel_rfl)
#print axioms proved
end Go.Proofs.YtkecgbcfkbafpaaDoor.tableImplied
