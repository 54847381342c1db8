/-
  The law MatchNil answers true, for every input, and changes nothing. No other conditions.
-/
import Derived.Test.YtlkdjdcnbcegeaaGreatDoorRows
import Derived.Test.YtlkdjdcnbcegeaaGreatDoorCards
import Derived.Test.YtlkdjdcnbcegeaaGreatDoorTie
import Derived.Test.YtlkdjdcnbcegeaaGreatDoorKAS
import Derived.Test.YtlkdjdcnbcegeaaGreatDoorKBA
import Derived.Test.YtlkdjdcnbcegeaaGreatDoorKAM
import Derived.WalkKit
import Derived.ProofKit
import Derived.OpenShut
import Derived.LaidLaws
import Derived.LaidHandle
import Derived.LaidMore
import Derived.Lay
import Derived.SevenTiedAt
import Derived.Stop.Joined
import Derived.ChangeOld
import Derived.Below
import Derived.Shelf.Vars
namespace Go.Proofs.YtlkdjdcnbcegeaaGreatDoor.matchNil
open Go.ChangeShapes Go.WideShapes Go.ChangeAt Go.RowKit
set_option linter.unusedVariables false

theorem cellsTexts : Tryz.prog.cellsOf 23 = 2 := by kernel_rfl
theorem cellsStrM : Tryz.prog.cellsOf 9 = 1 := by kernel_rfl
theorem texts_of {H : Type} {enc : TypeId × Value → H} {W : World} {n : Nat} {cs : List Value} {y : DataW H × List MemPlace} (h : DataW.trod enc Tryz.prog W 0 (fun _ => true) true n 23 cs = some y) : ∃ S1 S2 : ByteArray, cs = [.string S1, .string S2] := by
  obtain ⟨x0, x1, k, rfl, rfl, hl, f0, f1⟩ := structN2 Tryz.underlying23 h
  rw [cellsTexts] at hl
  obtain ⟨c0, c1, rfl⟩ := lenN2 hl
  simp only [cellsStrM, List.drop, List.take] at f0 f1
  obtain ⟨s0, h0, e0, _⟩ := DataW.trod_string Tryz.underlying9 f0
  obtain ⟨s1, h1, e1, _⟩ := DataW.trod_string Tryz.underlying9 f1
  simp only [List.cons.injEq, and_true] at h0 h1
  subst h0 h1
  exact ⟨s0, s1, rfl⟩
theorem own : ownKnob Tryz.prog.godebug = none := by kernel_rfl
set_option maxRecDepth 100000 in
theorem contract (H : Type) (enc : TypeId × Value → H) (W : World) (base : Nat) (args : Array Value) (ds gs : List (DataW H)) (before : List MemPlace)
    (hval0 : ∀ (j : Nat) t v, Tryz.f5.params[j]? = some t → args[j]? = some v → Value.okWide Tryz.prog W .any base t v)
    (hW : DataW.Whole enc Tryz.prog Tryz.f5.params.toList Rows.matchNilSpec.vars false W args.toList ds gs before) (hL : laidMetH Tryz.prog Rows.matchNilRow.laid W)
    (hwt : (DataW.weightsEach Tryz.prog (Tryz.f5.params.toList ++ Rows.matchNilSpec.plain.varTypes Tryz.prog) (ds ++ gs)).all (· ≤ reachBytes) = true) (hMax : ∃ m, W.cell? ⟨lays146_ren.g 1, 0, none⟩ = some (.int .i64 m)) :
    Calls Tryz.prog 5 args W fun e W' => ∃ v, e = .returned v ∧ Rows.matchNilSpec.post enc Tryz.prog Tryz.f5 false true false false W args v W' := by
  have hval : ∀ (j : Nat) t v, Tryz.f5.params[j]? = some t → args[j]? = some v → Value.okWide Tryz.prog W .any base t v := hval0
  have hW' := hW
  obtain ⟨p, q, hA0, hV, rfl, hfz, hnd⟩ := hW
  have hA : DataW.TrodAll enc Tryz.prog W 0 (fun _ => true) true Tryz.f5.params.toList args.toList ds p := hA0
  rw [Tryz.params5] at hA hval hwt
  obtain ⟨v0, vs0, d0, ds0, p0, q0, hargs, rfl, rfl, h0, r0⟩ := trodAll_cons hA
  obtain ⟨v1, vs1, d1, ds1, p1, q1, hargs1, rfl, rfl, h1, r1⟩ := trodAll_cons r0
  subst hargs1
  obtain ⟨rfl, rfl, rfl⟩ := trodAll_nil r1
  obtain rfl : args = #[v0, v1] := by cases args; simp_all
  obtain ⟨rfl, rfl⟩ := trodVars_none hV
  simp only [List.append_nil] at hW'
  have hlt : ∀ x ∈ p0 ++ (p1 ++ []), x.block < W.heap.size := fun x hx => hW'.lt x (by simpa using hx)
  obtain ⟨⟨cs⟩, rfl, _⟩ := okWide_struct Tryz.underlying23 (hval 0 _ v0 rfl rfl)
  obtain ⟨A1, n1, c1, rfl⟩ := okWide_slice Tryz.underlying24 (hval 1 _ v1 rfl rfl)
  obtain ⟨n0, g0⟩ := h0
  obtain ⟨S1, S2, hcs⟩ := texts_of (cs := cs) g0
  subst hcs
  obtain ⟨m, hm⟩ := hMax
  refine (law_any S1 S2 A1 n1 c1 W (all_here hL ⟨m, hm⟩) (awake_here hL)).mono fun e W' ⟨he, bel⟩ => ?_
  subst he
  exact ⟨_, rfl, _, _, _, [], _, [], hW', trodAll_mk1 (shut_bool Tryz.underlying4 _), Ev.trodAll_below (by kernel_rfl) bel _ _ _ _ (by kernel_rfl) hA0 hlt, rfl, bel.frame _, fun h => by cases h⟩
/-- The witness's arguments: nothing. -/
def zeroArgs : Array Value := #[.agg #[.string ⟨#[]⟩, .string ⟨#[]⟩], .slice none 0 0]
set_option maxRecDepth 100000 in
theorem lifted (os : Os) (started : os.Started) (H : Type) (enc : TypeId × Value → H) :
    ReturnsInHanded {} Tryz.checked os 5 .any (fun w args => (Rows.matchNilSpec.pre enc Tryz.prog Tryz.f5 [] false w args ∧ laidMetH Tryz.prog Rows.matchNilRow.laid w) ∧ sizedMet enc Tryz.prog Tryz.f5 (OpenSpec.ofChange Rows.matchNilSpec) false w args)
      (Rows.matchNilSpec.post enc Tryz.prog Tryz.f5 false true false false) := by
  refine returnsInHanded_of_calls (C := Tryz.checked) own started (by kernel_rfl)
    (ChangeSpec.witness_shaped (enc := enc) (C := Tryz.checked) (os := os) (X := fun w _ => laidMetH Tryz.prog Rows.matchNilRow.laid w) false (Ev.handWorld Tryz.prog os Rows.matchNilRow.laid) zeroArgs 12 (Ev.handWorld_os _ _ _)
      (World.shaped_of_ZipB (by kernel_rfl) (by kernel_rfl)) (by kernel_rfl) (by kernel_rfl) (by kernel_rfl)
      (Ev.hand_met _ (by kernel_rfl) (by kernel_rfl) (by kernel_rfl))) ?_
  intro w tape i _ hsh _ hok hpre hholds
  obtain ⟨_, _, _, fn', hfn', _, _, _, _, hval⟩ := hok
  have e : fn' = Tryz.f5 := Option.some.inj (hfn'.symm.trans Tryz.func5)
  subst e
  obtain ⟨⟨⟨ds, gs, before, hw, hc⟩, hx⟩, hz⟩ := hpre
  have hw' := DataW.Whole.of_heap (w' := w.forCall tape i) (by rfl) hw
  have hmax : ∃ m, (w.forCall tape i).cell? ⟨lays146_ren.g 1, 0, none⟩ = some (.int .i64 m) :=
    Go.Proofs.cell_of_shapedOpen_int (zero := #[.int .i64 0]) (t := 3) hsh (of_decide_eq_true (by kernel_rfl)) (by kernel_rfl) rfl (by kernel_rfl) (by kernel_rfl) Tryz.underlying3
  refine (contract H enc (w.forCall tape i) w.heap.size i.args ds gs before hval hw' (hx.of_heap (by rfl)) (hz.weights hw) hmax).mono fun e W' ⟨v, he, hp⟩ => ?_
  subst he
  exact ChangeSpec.post_blind hp
theorem over : Rows.matchNilRow.holds Tryz.pinned (OpenSpec.ofChange Rows.matchNilSpec) :=
  OpenClaim.holds_of_wide 5 Tryz.f5 rfl rfl rfl rfl rfl rfl rfl ⟨rfl, rfl, rfl, rfl, rfl⟩ rfl rfl rfl rfl rfl (by kernel_rfl) Tryz.func5 (by kernel_rfl)
    (of_decide_eq_true (by kernel_rfl)) (by unfold Func.isWrapper; first | (rw [if_pos (by decide +kernel)]; kernel_rfl) | (rw [if_neg (by decide +kernel)]; exact ⟨rfl, rfl⟩))
    (fun os started H enc _ => lifted os started H enc)
/-- The statement. -/
theorem proved : Rows.MatchNilCardSaid :=
  Claim7.holds_tied_plain_at .later [] _ _ _ _
    over (fun _ h => by cases h) (by kernel_rfl) (fun _ h => by cases h) matchNil_row_tie rfl ⟨rfl, rfl⟩ (by kernel_rfl) rfl
    (fun f fn hf hfn => by
      obtain rfl : f = 5 := Option.some.inj ((show Tryz.prog.funcNamed "dovetail/dovetaillaw07.MatchNil" = some 5 by kernel_rfl).symm.trans hf) |>.symm
      obtain rfl : fn = Tryz.f5 := (Option.some.inj (Tryz.func5.symm.trans hfn)).symm
      exact ⟨by kernel_rfl, fun j t ht => by
        rw [Tryz.params5] at ht
        match j with
        | 0 =>
          obtain rfl : t = 23 := by simpa using ht.symm
          exact (show Tryz.prog.wantsStandIn 23 = false by kernel_rfl)
        | 1 =>
          obtain rfl : t = 24 := by simpa using ht.symm
          exact (show Tryz.prog.wantsStandIn 24 = false by kernel_rfl)
        | j + 2 => simp at ht⟩)
    (by kernel_rfl)
#print axioms proved
end Go.Proofs.YtlkdjdcnbcegeaaGreatDoor.matchNil
