/-
  The law WeighNames answers true, for every input (it has none), and changes nothing. No conditions.
-/
import Derived.Test.YtcefmmgmaebffaaGreatDoorRows
import Derived.Test.YtcefmmgmaebffaaGreatDoorCards
import Derived.Test.YtcefmmgmaebffaaGreatDoorTie
import Derived.Test.YtcefmmgmaebffaaGreatDoorEvZE
import Derived.Test.YtcefmmgmaebffaaGreatDoorEvUtfP
import Derived.Test.YtcefmmgmaebffaaGreatDoorEvMemo
import Derived.WalkKit
import Derived.ProofKit
import Derived.OpenShut
import Derived.LaidLaws
import Derived.LaidHandle
import Derived.LaidMore
import Derived.Lay
import Derived.SevenTiedAt
import Derived.Stop.Joined
namespace Go.Proofs.YtcefmmgmaebffaaGreatDoor.weighNames
open Go.ChangeShapes Go.WideShapes Go.ChangeAt Go.RowKit
set_option linter.unusedVariables false

theorem own : ownKnob Tryz.prog.godebug = none := by kernel_rfl
theorem plain : Ev.plainB Tryz.prog = true := by kernel_rfl
theorem mixed : Tryz.prog.follows .mixedOrders = true := by kernel_rfl
/-- Calls whose answers are reckoned out beforehand. -/
def tbl : Ev.Memo := [
  (51, [.string ⟨#[49, 48, 48, 48]⟩], .tuple ⟨[.int .i64 4096, .bool true]⟩),
  (51, [.string ⟨#[48, 48, 50, 48]⟩], .tuple ⟨[.int .i64 32, .bool true]⟩),
  (51, [.string ⟨#[48, 48, 48, 50]⟩], .tuple ⟨[.int .i64 2, .bool true]⟩),
  (51, [.string ⟨#[48, 48, 48, 56]⟩], .tuple ⟨[.int .i64 8, .bool true]⟩),
  (51, [.string ⟨#[49, 48, 48, 49]⟩], .tuple ⟨[.int .i64 4097, .bool true]⟩),
  (51, [.string ⟨#[48, 50, 48, 57]⟩], .tuple ⟨[.int .i64 521, .bool true]⟩),
  (51, [.string ⟨#[48, 48, 48, 48]⟩], .tuple ⟨[.int .i64 0, .bool true]⟩),
  (51, [.string ⟨#[48, 48, 50, 52]⟩], .tuple ⟨[.int .i64 36, .bool true]⟩),
  (30, [.int .i64 97], .string ⟨#[48, 48, 54, 49]⟩),
  (30, [.int .i64 65], .string ⟨#[48, 48, 52, 49]⟩),
  (30, [.int .i64 98], .string ⟨#[48, 48, 54, 50]⟩),
  (30, [.int .i64 32], .string ⟨#[48, 48, 50, 48]⟩),
  (30, [.int .i64 769], .string ⟨#[48, 51, 48, 49]⟩),
  (24, [.string ⟨#[48, 51, 48, 49]⟩], .int .i64 769),
  (24, [.string ⟨#[48, 48, 69, 49]⟩], .int .i64 225),
  (24, [.string ⟨#[48, 48, 54, 49]⟩], .int .i64 97)]
theorem tblok : tbl.all (Ev.memoOne Tryz.prog Rows.weighNamesRow.laid (Ev.utfSum 33 3) 100000 60) = true := by kernel_rfl
theorem ran : Ev.isTrue (Ev.evCall2 (Ev.memoSum tbl (Ev.utfSum 33 3)) Tryz.prog 100000 60 3 [] ⟨Ev.laidMem Tryz.prog (Rows.weighNamesRow.laid.filter fun x => x.2.handleName?.isNone), 64, 0⟩) = true := by kernel_rfl
theorem walk {w : World} (h : laidMetH Tryz.prog Rows.weighNamesRow.laid w) : Calls Tryz.prog 3 #[] w fun e w' => e = .returned (.bool true) ∧ Below w.heap.size w w' :=
  Ev.laid_true plain mixed h (Ev.memo_ok plain mixed h (fun _ => Ev.utfSum_ok) tblok) 100000 60 3 ran
set_option maxRecDepth 100000 in
theorem lifted (os : Os) (started : os.Started) (H : Type) (enc : TypeId × Value → H) :
    ReturnsInHanded {} Tryz.checked os 3 .any (fun w args => (Rows.weighNamesSpec.pre enc Tryz.prog Tryz.f3 [] false w args ∧ laidMetH Tryz.prog Rows.weighNamesRow.laid w) ∧ sizedMet enc Tryz.prog Tryz.f3 (OpenSpec.ofChange Rows.weighNamesSpec) false w args)
      (Rows.weighNamesSpec.post enc Tryz.prog Tryz.f3 false true false false) := by
  refine returnsInHanded_of_change_and (C := Tryz.checked) (X := fun w _ => laidMetH Tryz.prog Rows.weighNamesRow.laid w) (fun _ _ _ hh h => h.of_heap hh) own started (by kernel_rfl) Tryz.func3
    (ChangeSpec.witness_shaped (enc := enc) (C := Tryz.checked) (os := os) (X := fun w _ => laidMetH Tryz.prog Rows.weighNamesRow.laid w) false (World.laidAll Tryz.prog os Rows.weighNamesRow.laid) #[] 8 (World.laidAll_os _ _ _)
      (World.shaped_of_ZipB (by kernel_rfl) (by kernel_rfl)) (by kernel_rfl) (by kernel_rfl) (by kernel_rfl)
      (by rw [MakeChecks.laidMetH_plain _ _ _ (by kernel_rfl)]; exact laidMet_laidAll _ (by kernel_rfl) (by kernel_rfl))) ?_
  intro W base args ds gs before hval0 hW _ _ hL _
  have hval : ∀ (j : Nat) t v, Tryz.f3.params[j]? = some t → args[j]? = some v → Value.okWide Tryz.prog W .any base t v := hval0
  have hW' := hW
  obtain ⟨p, q, hA0, hV, rfl, hfz, hnd⟩ := hW
  have hA : DataW.TrodAll enc Tryz.prog W 0 (fun _ => true) true Tryz.f3.params.toList args.toList ds p := hA0
  rw [Tryz.params3] at hA hval
  obtain ⟨rfl, rfl, rfl⟩ := trodAll_none hA
  obtain ⟨rfl, rfl⟩ := trodVars_none hV
  clear hA0 hval0
  simp only [List.append_nil] at hW'
  refine (walk hL).mono fun e W' ⟨he, bel⟩ => ?_
  subst he
  exact ⟨_, rfl, _, _, _, [], _, [], hW', trodAll_mk1 (shut_bool Tryz.underlying4 _), trodAll_mk0, rfl, bel.frame _, fun h => by cases h⟩
theorem over : Rows.weighNamesRow.holds Tryz.pinned (OpenSpec.ofChange Rows.weighNamesSpec) :=
  OpenClaim.holds_of_wide 3 Tryz.f3 rfl rfl rfl rfl rfl rfl rfl ⟨rfl, rfl, rfl, rfl, rfl⟩ rfl rfl rfl rfl rfl (by kernel_rfl) Tryz.func3 (by kernel_rfl)
    (of_decide_eq_true (by kernel_rfl)) (by unfold Func.isWrapper; first | (rw [if_pos (by decide +kernel)]; kernel_rfl) | (rw [if_neg (by decide +kernel)]; exact ⟨rfl, rfl⟩))
    (fun os started H enc _ => lifted os started H enc)
/-- The statement. -/
theorem proved : Rows.WeighNamesCardSaid :=
  Claim7.holds_tied_plain_at .later [] [.data, .data, .data, .data, .sentinel, .sentinel, .pinned, .pinned] true (true, "944ea9215c97dda54051db52c0e34463731e2b43d1b7dc6d4e6d2120f1ab7141") true
    over (fun _ h => by cases h) (by kernel_rfl) (fun _ h => by cases h) weighNames_row_tie rfl ⟨rfl, rfl⟩ (by kernel_rfl) rfl
    (fun f fn hf hfn => by
      obtain rfl : f = 3 := Option.some.inj ((show Tryz.prog.funcNamed "dovetail/dovetaillaw08.WeighNames" = some 3 by kernel_rfl).symm.trans hf) |>.symm
      obtain rfl : fn = Tryz.f3 := (Option.some.inj (Tryz.func3.symm.trans hfn)).symm
      exact ⟨by kernel_rfl, fun j t ht => by
        rw [Tryz.params3] at ht
        simp at ht⟩)
    (by kernel_rfl)
#print axioms proved
end Go.Proofs.YtcefmmgmaebffaaGreatDoor.weighNames
