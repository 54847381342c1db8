/-
  The law UcdAgain answers true, for every input, and changes nothing. No other conditions.
-/
import Derived.Test.YtccaaniepeohbaaGreatDoorRows
import Derived.Test.YtccaaniepeohbaaGreatDoorCards
import Derived.Test.YtccaaniepeohbaaGreatDoorTie
import Derived.Test.YtccaaniepeohbaaGreatDoorKAX
import Derived.Test.YtccaaniepeohbaaGreatDoorKAZ
import Derived.Test.YtccaaniepeohbaaGreatDoorKAK
import Derived.WalkKit
import Derived.ProofKit
import Derived.OpenShut
import Derived.LaidLaws
import Derived.LaidHandle
import Derived.LaidMore
import Derived.Lay
import Derived.SevenTiedAt
import Derived.Stop.Joined
import Derived.ChangeOld
import Derived.Below
import Derived.Shelf.Vars
namespace Go.Proofs.YtccaaniepeohbaaGreatDoor.ucdAgain
open Go.ChangeShapes Go.WideShapes Go.ChangeAt Go.RowKit
set_option linter.unusedVariables false

theorem own : ownKnob Tryz.prog.godebug = none := by kernel_rfl
set_option maxRecDepth 100000 in
theorem contract (H : Type) (enc : TypeId × Value → H) (W : World) (base : Nat) (args : Array Value) (ds gs : List (DataW H)) (before : List MemPlace)
    (hval0 : ∀ (j : Nat) t v, Tryz.f4.params[j]? = some t → args[j]? = some v → Value.okWide Tryz.prog W .any base t v)
    (hW : DataW.Whole enc Tryz.prog Tryz.f4.params.toList Rows.ucdAgainSpec.vars false W args.toList ds gs before) (hL : laidMetH Tryz.prog Rows.ucdAgainRow.laid W)
    (hwt : (DataW.weightsEach Tryz.prog (Tryz.f4.params.toList ++ Rows.ucdAgainSpec.plain.varTypes Tryz.prog) (ds ++ gs)).all (· ≤ reachBytes) = true) (hMax : ∃ m, W.cell? ⟨lays146_ren.g 1, 0, none⟩ = some (.int .i64 m)) :
    Calls Tryz.prog 4 args W fun e W' => ∃ v, e = .returned v ∧ Rows.ucdAgainSpec.post enc Tryz.prog Tryz.f4 false true false false W args v W' := by
  have hval : ∀ (j : Nat) t v, Tryz.f4.params[j]? = some t → args[j]? = some v → Value.okWide Tryz.prog W .any base t v := hval0
  have hW' := hW
  obtain ⟨p, q, hA0, hV, rfl, hfz, hnd⟩ := hW
  have hA : DataW.TrodAll enc Tryz.prog W 0 (fun _ => true) true Tryz.f4.params.toList args.toList ds p := hA0
  rw [Tryz.params4] at hA hval hwt
  obtain ⟨v0, vs0, d0, ds0, p0, q0, hargs, rfl, rfl, h0, r0⟩ := trodAll_cons hA
  obtain ⟨rfl, rfl, rfl⟩ := trodAll_nil r0
  obtain rfl : args = #[v0] := by cases args; simp_all
  obtain ⟨rfl, rfl⟩ := trodVars_none hV
  simp only [List.append_nil] at hW'
  have hlt : ∀ x ∈ p0 ++ [], x.block < W.heap.size := fun x hx => hW'.lt x (by simpa using hx)
  have s0 := slice_one Tryz.underlying22 (hval 0 _ v0 rfl rfl)
  obtain ⟨n0, g0⟩ := h0
  rw [s0] at g0
  obtain ⟨l, A, C, rfl, hl1, hl2, hf⟩ := marks_of g0 (fun q hq => by
    have h9 := List.all_eq_true.1 hwt q (by
      show q ∈ DataW.weightsEach Tryz.prog (22 :: _) (d0 :: _)
      rw [DataW.weightsEach]
      exact List.mem_append_left _ hq)
    exact of_decide_eq_true h9)
  obtain ⟨m, hm⟩ := hMax
  refine (again_any hL m hm l A C hf hl1 hl2).mono fun e W' ⟨he, bel⟩ => ?_
  subst he
  exact ⟨_, rfl, _, _, _, [], _, [], hW', trodAll_mk1 (shut_bool Tryz.underlying4 _), Ev.trodAll_below (by kernel_rfl) bel _ _ _ _ (by kernel_rfl) hA0 hlt, rfl, bel.frame _, fun h => by cases h⟩
/-- The witness's arguments: nothing. -/
def zeroArgs : Array Value := #[.slice none 0 0]
set_option maxRecDepth 100000 in
theorem lifted (os : Os) (started : os.Started) (H : Type) (enc : TypeId × Value → H) :
    ReturnsInHanded {} Tryz.checked os 4 .any (fun w args => (Rows.ucdAgainSpec.pre enc Tryz.prog Tryz.f4 [] false w args ∧ laidMetH Tryz.prog Rows.ucdAgainRow.laid w) ∧ sizedMet enc Tryz.prog Tryz.f4 (OpenSpec.ofChange Rows.ucdAgainSpec) false w args)
      (Rows.ucdAgainSpec.post enc Tryz.prog Tryz.f4 false true false false) := by
  refine returnsInHanded_of_calls (C := Tryz.checked) own started (by kernel_rfl)
    (ChangeSpec.witness_shaped (enc := enc) (C := Tryz.checked) (os := os) (X := fun w _ => laidMetH Tryz.prog Rows.ucdAgainRow.laid w) false (Ev.handWorld Tryz.prog os Rows.ucdAgainRow.laid) zeroArgs 12 (Ev.handWorld_os _ _ _)
      (World.shaped_of_ZipB (by kernel_rfl) (by kernel_rfl)) (by kernel_rfl) (by kernel_rfl) (by kernel_rfl)
      (Ev.hand_met _ (by kernel_rfl) (by kernel_rfl) (by kernel_rfl))) ?_
  intro w tape i _ hsh _ hok hpre hholds
  obtain ⟨_, _, _, fn', hfn', _, _, _, _, hval⟩ := hok
  have e : fn' = Tryz.f4 := Option.some.inj (hfn'.symm.trans Tryz.func4)
  subst e
  obtain ⟨⟨⟨ds, gs, before, hw, hc⟩, hx⟩, hz⟩ := hpre
  have hw' := DataW.Whole.of_heap (w' := w.forCall tape i) (by rfl) hw
  have hmax : ∃ m, (w.forCall tape i).cell? ⟨lays146_ren.g 1, 0, none⟩ = some (.int .i64 m) :=
    Go.Proofs.cell_of_shapedOpen_int (zero := #[.int .i64 0]) (t := 3) hsh (of_decide_eq_true (by kernel_rfl)) (by kernel_rfl) rfl (by kernel_rfl) (by kernel_rfl) Tryz.underlying3
  refine (contract H enc (w.forCall tape i) w.heap.size i.args ds gs before hval hw' (hx.of_heap (by rfl)) (hz.weights hw) hmax).mono fun e W' ⟨v, he, hp⟩ => ?_
  subst he
  exact ChangeSpec.post_blind hp
theorem over : Rows.ucdAgainRow.holds Tryz.pinned (OpenSpec.ofChange Rows.ucdAgainSpec) :=
  OpenClaim.holds_of_wide 4 Tryz.f4 rfl rfl rfl rfl rfl rfl rfl ⟨rfl, rfl, rfl, rfl, rfl⟩ rfl rfl rfl rfl rfl (by kernel_rfl) Tryz.func4 (by kernel_rfl)
    (of_decide_eq_true (by kernel_rfl)) (by unfold Func.isWrapper; first | (rw [if_pos (by decide +kernel)]; kernel_rfl) | (rw [if_neg (by decide +kernel)]; exact ⟨rfl, rfl⟩))
    (fun os started H enc _ => lifted os started H enc)
/-- The statement. -/
theorem proved : Rows.UcdAgainCardSaid :=
  Claim7.holds_tied_plain_at .later [] _ _ _ _
    over (fun _ h => by cases h) (by kernel_rfl) (fun _ h => by cases h) ucdAgain_row_tie rfl ⟨rfl, rfl⟩ (by kernel_rfl) rfl
    (fun f fn hf hfn => by
      obtain rfl : f = 4 := Option.some.inj ((show Tryz.prog.funcNamed "dovetail/dovetaillaw04.UcdAgain" = some 4 by kernel_rfl).symm.trans hf) |>.symm
      obtain rfl : fn = Tryz.f4 := (Option.some.inj (Tryz.func4.symm.trans hfn)).symm
      exact ⟨by kernel_rfl, fun j t ht => by
        rw [Tryz.params4] at ht
        match j with
        | 0 =>
          obtain rfl : t = 22 := by simpa using ht.symm
          exact (show Tryz.prog.wantsStandIn 22 = false by kernel_rfl)
        | j + 1 => simp at ht⟩)
    (by kernel_rfl)
#print axioms proved
end Go.Proofs.YtccaaniepeohbaaGreatDoor.ucdAgain
