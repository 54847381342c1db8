/-
  The law SchemaPrints answers true, for every input, and changes nothing. No other conditions.
-/
import Derived.Test.YtcjllhdbepchnaaGreatDoorRows
import Derived.Test.YtcjllhdbepchnaaGreatDoorCards
import Derived.Test.YtcjllhdbepchnaaGreatDoorTie
import Derived.Test.YtcjllhdbepchnaaGreatDoorMAX
import Derived.Test.YtcjllhdbepchnaaGreatDoorMAY
import Derived.WalkKit
import Derived.ProofKit
import Derived.OpenShut
import Derived.LaidLaws
import Derived.LaidHandle
import Derived.LaidMore
import Derived.Lay
import Derived.SevenTiedAt
import Derived.Stop.Joined
import Derived.ChangeOld
import Derived.Below
namespace Go.Proofs.YtcjllhdbepchnaaGreatDoor.schemaPrints
open Go.ChangeShapes Go.WideShapes Go.ChangeAt Go.RowKit
set_option linter.unusedVariables false

theorem own : ownKnob Tryz.prog.godebug = none := by kernel_rfl
theorem cellsSchema : Tryz.prog.cellsOf 24 = 2 := by kernel_rfl
theorem schema_of {H : Type} {enc : TypeId × Value → H} {W : World} {n : Nat} {cs : List Value} {y : DataW H × List MemPlace} (h : DataW.trod enc Tryz.prog W 0 (fun _ => true) true n 24 cs = some y) (hw : ∀ q ∈ DataW.weights Tryz.prog 24 y.1, q ≤ 140737488351232) :
    ∃ (limit : Int) (l : List FT) (A : Option Addr) (C : Nat), cs = [.int .i64 limit, .slice A l.length C] ∧ l.length ≤ C ∧ C ≤ 140737488351232 ∧ FieldsAt W (· < W.heap.size) l A := by
  obtain ⟨x0, x1, k, rfl, rfl, hl, f0, f1⟩ := structN2 Tryz.underlying24 h
  rw [cellsSchema] at hl
  obtain ⟨c0, c1, rfl⟩ := lenN2 hl
  simp only [cellsIntF, cellsFields, List.drop, List.take] at f0 f1
  obtain ⟨z, h0, _, _⟩ := DataW.trod_int Tryz.underlying3 f0
  simp only [List.cons.injEq, and_true] at h0
  subst h0
  simp only [DataW.weights, Tryz.underlying24, List.map, DataW.weightsEach, List.append_nil, List.mem_append] at hw
  obtain ⟨l, A, C, rfl, h1, h2, h3⟩ := fields_of _ _ _ f1 (fun q hq => hw q (.inr hq))
  exact ⟨z, l, A, C, rfl, h1, h2, h3⟩
set_option maxRecDepth 100000 in
theorem contract (H : Type) (enc : TypeId × Value → H) (W : World) (base : Nat) (args : Array Value) (ds gs : List (DataW H)) (before : List MemPlace)
    (hval0 : ∀ (j : Nat) t v, Tryz.f7.params[j]? = some t → args[j]? = some v → Value.okWide Tryz.prog W .any base t v)
    (hW : DataW.Whole enc Tryz.prog Tryz.f7.params.toList Rows.schemaPrintsSpec.vars false W args.toList ds gs before) (hL : laidMetH Tryz.prog Rows.schemaPrintsRow.laid W)
    (hwt : (DataW.weightsEach Tryz.prog (Tryz.f7.params.toList ++ Rows.schemaPrintsSpec.plain.varTypes Tryz.prog) (ds ++ gs)).all (· ≤ reachBytes) = true) :
    Calls Tryz.prog 7 args W fun e W' => ∃ v, e = .returned v ∧ Rows.schemaPrintsSpec.post enc Tryz.prog Tryz.f7 false true false false W args v W' := by
  have hval : ∀ (j : Nat) t v, Tryz.f7.params[j]? = some t → args[j]? = some v → Value.okWide Tryz.prog W .any base t v := hval0
  have hW' := hW
  obtain ⟨p, q, hA0, hV, rfl, hfz, hnd⟩ := hW
  have hA : DataW.TrodAll enc Tryz.prog W 0 (fun _ => true) true Tryz.f7.params.toList args.toList ds p := hA0
  rw [Tryz.params7] at hA hval hwt
  obtain ⟨v0, vs0, d0, ds0, p0, q0, hargs, rfl, rfl, h0, r0⟩ := trodAll_cons hA
  obtain ⟨rfl, rfl, rfl⟩ := trodAll_nil r0
  obtain rfl : args = #[v0] := by cases args; simp_all
  obtain ⟨rfl, rfl⟩ := trodVars_none hV
  simp only [List.append_nil] at hW'
  have hlt : ∀ x ∈ p0 ++ [], x.block < W.heap.size := fun x hx => hW'.lt x (by simpa using hx)
  obtain ⟨⟨cs⟩, rfl, _⟩ := okWide_struct Tryz.underlying24 (hval 0 _ v0 rfl rfl)
  obtain ⟨n0, g0⟩ := h0
  obtain ⟨limit, l, A, C, hcs, hl1, hl2, hf⟩ := schema_of (cs := cs) g0 (fun q hq => by
    have h9 := List.all_eq_true.1 hwt q (by
      show q ∈ DataW.weightsEach Tryz.prog (24 :: _) (d0 :: _)
      rw [DataW.weightsEach]
      exact List.mem_append_left _ hq)
    exact of_decide_eq_true h9)
  subst hcs
  refine (law_any hL limit l A C hf hl1 hl2).mono fun e W' ⟨he, bel⟩ => ?_
  subst he
  exact ⟨_, rfl, _, _, _, [], _, [], hW', trodAll_mk1 (shut_bool Tryz.underlying4 _), Ev.trodAll_below (by kernel_rfl) bel _ _ _ _ (by kernel_rfl) hA0 hlt, rfl, bel.frame _, fun h => by cases h⟩
/-- The witness's arguments: nothing. -/
def zeroArgs : Array Value := #[.agg #[.int .i64 0, .slice none 0 0]]
set_option maxRecDepth 100000 in
theorem lifted (os : Os) (started : os.Started) (H : Type) (enc : TypeId × Value → H) :
    ReturnsInHanded {} Tryz.checked os 7 .any (fun w args => (Rows.schemaPrintsSpec.pre enc Tryz.prog Tryz.f7 [] false w args ∧ laidMetH Tryz.prog Rows.schemaPrintsRow.laid w) ∧ sizedMet enc Tryz.prog Tryz.f7 (OpenSpec.ofChange Rows.schemaPrintsSpec) false w args)
      (Rows.schemaPrintsSpec.post enc Tryz.prog Tryz.f7 false true false false) := by
  refine returnsInHanded_of_change_and (C := Tryz.checked) (X := fun w _ => laidMetH Tryz.prog Rows.schemaPrintsRow.laid w) (fun _ _ _ hh h => h.of_heap hh) own started (by kernel_rfl) Tryz.func7
    (ChangeSpec.witness_shaped (enc := enc) (C := Tryz.checked) (os := os) (X := fun w _ => laidMetH Tryz.prog Rows.schemaPrintsRow.laid w) false (Ev.handWorld Tryz.prog os Rows.schemaPrintsRow.laid) zeroArgs 12 (Ev.handWorld_os _ _ _)
      (World.shaped_of_ZipB (by kernel_rfl) (by kernel_rfl)) (by kernel_rfl) (by kernel_rfl) (by kernel_rfl)
      (Ev.hand_met _ (by kernel_rfl) (by kernel_rfl) (by kernel_rfl))) ?_
  intro W base args ds gs before hval0 hW _ hwt hL _
  exact contract H enc W base args ds gs before hval0 hW hL hwt
theorem over : Rows.schemaPrintsRow.holds Tryz.pinned (OpenSpec.ofChange Rows.schemaPrintsSpec) :=
  OpenClaim.holds_of_wide 7 Tryz.f7 rfl rfl rfl rfl rfl rfl rfl ⟨rfl, rfl, rfl, rfl, rfl⟩ rfl rfl rfl rfl rfl (by kernel_rfl) Tryz.func7 (by kernel_rfl)
    (of_decide_eq_true (by kernel_rfl)) (by unfold Func.isWrapper; first | (rw [if_pos (by decide +kernel)]; kernel_rfl) | (rw [if_neg (by decide +kernel)]; exact ⟨rfl, rfl⟩))
    (fun os started H enc _ => lifted os started H enc)
/-- The statement. -/
theorem proved : Rows.SchemaPrintsCardSaid :=
  Claim7.holds_tied_plain_at .later [] _ _ _ _
    over (fun _ h => by cases h) (by kernel_rfl) (fun _ h => by cases h) schemaPrints_row_tie rfl ⟨rfl, rfl⟩ (by kernel_rfl) rfl
    (fun f fn hf hfn => by
      obtain rfl : f = 7 := Option.some.inj ((show Tryz.prog.funcNamed "dovetail/dovetaillaw11.SchemaPrints" = some 7 by kernel_rfl).symm.trans hf) |>.symm
      obtain rfl : fn = Tryz.f7 := (Option.some.inj (Tryz.func7.symm.trans hfn)).symm
      exact ⟨by kernel_rfl, fun j t ht => by
        rw [Tryz.params7] at ht
        match j with
        | 0 =>
          obtain rfl : t = 24 := by simpa using ht.symm
          exact (show Tryz.prog.wantsStandIn 24 = false by kernel_rfl)
        | j + 1 => simp at ht⟩)
    (by kernel_rfl)
#print axioms proved
end Go.Proofs.YtcjllhdbepchnaaGreatDoor.schemaPrints
