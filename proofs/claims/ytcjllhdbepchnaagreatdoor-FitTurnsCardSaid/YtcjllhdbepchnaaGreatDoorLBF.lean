/-
  The law FitTurns answers true, for every input, and changes nothing. No other conditions.
-/
import Derived.Test.YtcjllhdbepchnaaGreatDoorRows
import Derived.Test.YtcjllhdbepchnaaGreatDoorCards
import Derived.Test.YtcjllhdbepchnaaGreatDoorTie
import Derived.Test.YtcjllhdbepchnaaGreatDoorLBB
import Derived.Test.YtcjllhdbepchnaaGreatDoorLBC
import Derived.Test.YtcjllhdbepchnaaGreatDoorLBD
import Derived.Test.YtcjllhdbepchnaaGreatDoorLBE
import Derived.Test.YtcjllhdbepchnaaGreatDoorLAU
import Derived.WalkKit
import Derived.ProofKit
import Derived.OpenShut
import Derived.LaidLaws
import Derived.LaidHandle
import Derived.LaidMore
import Derived.Lay
import Derived.SevenTiedAt
import Derived.Stop.Joined
import Derived.ChangeOld
import Derived.Below
namespace Go.Proofs.YtcjllhdbepchnaaGreatDoor.fitTurns
open Go.ChangeShapes Go.WideShapes Go.ChangeAt Go.RowKit
set_option linter.unusedVariables false

theorem own : ownKnob Tryz.prog.godebug = none := by kernel_rfl
theorem fitTurns_any {w : World} (h : laidMetH Tryz.prog Rows.schemaChecksRow.laid w) (t : FT) (p : PT) (n : Int) (a : Option Addr) (c : Nat) (a' : Option Addr) (c' : Nat) (hok : t.s.ok) (hlc : t.fields.length ≤ c) (hc : c ≤ 140737488351232) (hf : FieldsAt w (· < w.heap.size) t.fields a) (hp : PartAt w (· < w.heap.size) p (partCells p a' c')) (hn1 : -9223372036854775808 ≤ n) (hn2 : n ≤ 9223372036854775807) :
    Calls Tryz.prog 5 #[.agg (fieldCells t a c).toArray, .agg (partCells p a' c').toArray, .int .i64 n] w (Ret (.bool true) w) := by
  by_cases hneg : n < 0
  · by_cases hk7 : p.kind = 7
    · exact fitTurns_A h t p n a c a' c' hok hlc hc hf hp hneg hk7 hn1 hn2
    · exact fitTurns_C h t p n a c a' c' hok hlc hc hf hp hneg hk7 hn1 hn2
  · by_cases hk7 : p.kind = 7
    · exact fitTurns_B h t p n a c a' c' hok hlc hc hf hp (by omega) hk7 hn1 hn2
    · exact fitTurns_D h t p n a c a' c' hok hlc hc hf hp (by omega) hk7 hn1 hn2
set_option maxRecDepth 100000 in
set_option maxHeartbeats 1000000 in
theorem contract (H : Type) (enc : TypeId × Value → H) (W : World) (base : Nat) (args : Array Value) (ds gs : List (DataW H)) (before : List MemPlace)
    (hval0 : ∀ (j : Nat) t v, Tryz.f5.params[j]? = some t → args[j]? = some v → Value.okWide Tryz.prog W .any base t v)
    (hW : DataW.Whole enc Tryz.prog Tryz.f5.params.toList Rows.fitTurnsSpec.vars false W args.toList ds gs before) (hL : laidMetH Tryz.prog Rows.fitTurnsRow.laid W)
    (hwt : (DataW.weightsEach Tryz.prog (Tryz.f5.params.toList ++ Rows.fitTurnsSpec.plain.varTypes Tryz.prog) (ds ++ gs)).all (· ≤ reachBytes) = true) :
    Calls Tryz.prog 5 args W fun e W' => ∃ v, e = .returned v ∧ Rows.fitTurnsSpec.post enc Tryz.prog Tryz.f5 false true false false W args v W' := by
  have hval : ∀ (j : Nat) t v, Tryz.f5.params[j]? = some t → args[j]? = some v → Value.okWide Tryz.prog W .any base t v := hval0
  have hW' := hW
  obtain ⟨p, q, hA0, hV, rfl, hfz, hnd⟩ := hW
  have hA : DataW.TrodAll enc Tryz.prog W 0 (fun _ => true) true Tryz.f5.params.toList args.toList ds p := hA0
  rw [Tryz.params5] at hA hval hwt
  obtain ⟨v0, vs0, d0, ds0, p0, q0, hargs, rfl, rfl, h0, r0⟩ := trodAll_cons hA
  obtain ⟨v2, vs2, d2, ds2, p2, q2, hargs2, rfl, rfl, h2, r2⟩ := trodAll_cons r0
  subst hargs2
  obtain ⟨v3, vs3, d3, ds3, p3, q3, hargs3, rfl, rfl, h3, r3⟩ := trodAll_cons r2
  subst hargs3
  obtain ⟨rfl, rfl, rfl⟩ := trodAll_nil r3
  obtain rfl : args = #[v0, v2, v3] := by cases args; simp_all
  obtain ⟨rfl, rfl⟩ := trodVars_none hV
  simp only [List.append_nil] at hW'
  have hlt : ∀ x ∈ p0 ++ (p2 ++ (p3 ++ [])), x.block < W.heap.size := fun x hx => hW'.lt x (by simpa using hx)
  obtain ⟨⟨cs0⟩, rfl, _⟩ := okWide_struct Tryz.underlying57 (hval 0 _ v0 rfl rfl)
  obtain ⟨⟨cs⟩, rfl, _⟩ := okWide_struct Tryz.underlying30 (hval 1 _ v2 rfl rfl)
  obtain ⟨n0, g0⟩ := h0
  obtain ⟨n2, g2⟩ := h2
  obtain ⟨t0, ht0⟩ := field_of n0 cs0 _ g0 (fun q hq => by
    have h9 := List.all_eq_true.1 hwt q (by
      show q ∈ DataW.weightsEach Tryz.prog (57 :: _) (d0 :: _)
      rw [DataW.weightsEach]
      exact List.mem_append_left _ hq)
    exact of_decide_eq_true h9)
  obtain ⟨a0, c0, e0, hok, hl0, hc0, hf0⟩ := ht0.open
  subst e0
  obtain ⟨t, ht⟩ := part_of _ _ _ g2
  obtain ⟨a, c, e, _⟩ := ht.open
  simp only [Value.cells] at e ht
  subst e
  obtain ⟨n3, g3⟩ := h3
  obtain ⟨n, rfl⟩ := okWide_int Tryz.underlying3 (hval 2 _ v3 rfl rfl)
  obtain ⟨n', hn, _, hwf⟩ := DataW.trod_int Tryz.underlying3 g3
  have hn' : n' = n := by
    simp only [Value.cells] at hn
    simp at hn
    exact hn.symm
  rw [hn'] at hwf
  have hnb := i64_bounds hwf
  refine (fitTurns_any hL t0 t n a0 c0 a c hok hl0 hc0 hf0 ht hnb.1 hnb.2).mono fun e W' ⟨he, bel⟩ => ?_
  subst he
  exact ⟨_, rfl, _, _, _, [], _, [], hW', trodAll_mk1 (shut_bool Tryz.underlying4 _), Ev.trodAll_below (by kernel_rfl) bel _ _ _ _ (by kernel_rfl) hA0 hlt, rfl, bel.frame _, fun h => by cases h⟩
/-- The witness's arguments: nothing. -/
def zeroArgs : Array Value := #[.agg #[.string ⟨#[]⟩, .int .u8 0, .bool false, .int .u8 0, .bool false, .bool false, .string ⟨#[]⟩, .bool false, .string ⟨#[]⟩, .int .i64 0, .int .i64 0, .bool false, .bool false, .slice none 0 0], .agg #[.int .u8 0, .bool false, .bool false, .string ⟨#[]⟩, .string ⟨#[]⟩, .slice none 0 0], .int .i64 0]
set_option maxRecDepth 100000 in
theorem lifted (os : Os) (started : os.Started) (H : Type) (enc : TypeId × Value → H) :
    ReturnsInHanded {} Tryz.checked os 5 .any (fun w args => (Rows.fitTurnsSpec.pre enc Tryz.prog Tryz.f5 [] false w args ∧ laidMetH Tryz.prog Rows.fitTurnsRow.laid w) ∧ sizedMet enc Tryz.prog Tryz.f5 (OpenSpec.ofChange Rows.fitTurnsSpec) false w args)
      (Rows.fitTurnsSpec.post enc Tryz.prog Tryz.f5 false true false false) := by
  refine returnsInHanded_of_change_and (C := Tryz.checked) (X := fun w _ => laidMetH Tryz.prog Rows.fitTurnsRow.laid w) (fun _ _ _ hh h => h.of_heap hh) own started (by kernel_rfl) Tryz.func5
    (ChangeSpec.witness_shaped (enc := enc) (C := Tryz.checked) (os := os) (X := fun w _ => laidMetH Tryz.prog Rows.fitTurnsRow.laid w) false (Ev.handWorld Tryz.prog os Rows.fitTurnsRow.laid) zeroArgs 12 (Ev.handWorld_os _ _ _)
      (World.shaped_of_ZipB (by kernel_rfl) (by kernel_rfl)) (by kernel_rfl) (by kernel_rfl) (by kernel_rfl)
      (Ev.hand_met _ (by kernel_rfl) (by kernel_rfl) (by kernel_rfl))) ?_
  intro W base args ds gs before hval0 hW _ hwt hL _
  exact contract H enc W base args ds gs before hval0 hW hL hwt
theorem over : Rows.fitTurnsRow.holds Tryz.pinned (OpenSpec.ofChange Rows.fitTurnsSpec) :=
  OpenClaim.holds_of_wide 5 Tryz.f5 rfl rfl rfl rfl rfl rfl rfl ⟨rfl, rfl, rfl, rfl, rfl⟩ rfl rfl rfl rfl rfl (by kernel_rfl) Tryz.func5 (by kernel_rfl)
    (of_decide_eq_true (by kernel_rfl)) (by unfold Func.isWrapper; first | (rw [if_pos (by decide +kernel)]; kernel_rfl) | (rw [if_neg (by decide +kernel)]; exact ⟨rfl, rfl⟩))
    (fun os started H enc _ => lifted os started H enc)
/-- The statement. -/
theorem proved : Rows.FitTurnsCardSaid :=
  Claim7.holds_tied_plain_at .later [] _ _ _ _
    over (fun _ h => by cases h) (by kernel_rfl) (fun _ h => by cases h) fitTurns_row_tie rfl ⟨rfl, rfl⟩ (by kernel_rfl) rfl
    (fun f fn hf hfn => by
      obtain rfl : f = 5 := Option.some.inj ((show Tryz.prog.funcNamed "dovetail/dovetaillaw12.FitTurns" = some 5 by kernel_rfl).symm.trans hf) |>.symm
      obtain rfl : fn = Tryz.f5 := (Option.some.inj (Tryz.func5.symm.trans hfn)).symm
      exact ⟨by kernel_rfl, fun j t ht => by
        rw [Tryz.params5] at ht
        match j with
        | 0 =>
          obtain rfl : t = 57 := by simpa using ht.symm
          exact (show Tryz.prog.wantsStandIn 57 = false by kernel_rfl)
        | 1 =>
          obtain rfl : t = 30 := by simpa using ht.symm
          exact (show Tryz.prog.wantsStandIn 30 = false by kernel_rfl)
        | 2 =>
          obtain rfl : t = 3 := by simpa using ht.symm
          exact (show Tryz.prog.wantsStandIn 3 = false by kernel_rfl)
        | j + 3 => simp at ht⟩)
    (by kernel_rfl)
#print axioms proved
end Go.Proofs.YtcjllhdbepchnaaGreatDoor.fitTurns
