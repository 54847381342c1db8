/-
  The law RekeyGoes answers true, for every input of the second form's bulk, and changes nothing. No other conditions.
-/
import Derived.Test.YtjgicjgpahnmaaaDoorJU
import Derived.Test.YtjgicjgpahnmaaaDoorRows
import Derived.Test.YtjgicjgpahnmaaaDoorCards
import Derived.Test.YtjgicjgpahnmaaaDoorTie
import Derived.Test.YtjgicjgpahnmaaaDoorJE
import Derived.WalkKit
import Derived.ProofKit
import Derived.OpenShut
import Derived.LaidLaws
import Derived.LaidHandle
import Derived.LaidMore
import Derived.SevenTiedAt
import Derived.Stop.Joined
import Derived.Deep.DeepHandedRow
import Derived.JoinedCond
/-! Sources and integers that are handed in, opened. -/
namespace Go.Proofs.YtjgicjgpahnmaaaDoor
open Go.RowKit Go.ChangeShapes Go.WideShapes Go.ChangeAt
set_option linter.unusedVariables false
theorem cellsSource : Tryd.prog.cellsOf 39 = 7 := by kernel_rfl
theorem cellsInt : Tryd.prog.cellsOf 3 = 1 := by kernel_rfl
theorem len7 {α : Type} {l : List α} (h : l.length = 7) : ∃ a b c d e f g, l = [a, b, c, d, e, f, g] := by
  match l, h with | [a, b, c, d, e, f, g], _ => exact ⟨a, b, c, d, e, f, g, rfl⟩
theorem slice_one {P : Program} {t e : TypeId} {v : Value} {w : World} {r : Reach} {b : Nat} (hu : P.underlying t = some (.slice e)) (h : Value.okWide P w r b t v) : v.cells.toList = [v] := by
  unfold Value.okWide at h
  rw [hu] at h
  simp only at h
  unfold Cell.okWide at h
  rw [hu] at h
  cases v <;> first | rfl | (exfalso; simp [Cell.ok, hu] at h)
section
variable {H : Type} {enc : TypeId × Value → H} {W : World}
theorem source_of (n : Nat) (cs : List Value) (y : DataW H × List MemPlace) (h : DataW.trod enc Tryd.prog W 0 (fun _ => true) true n 39 cs = some y) : ∃ (x : Int) (p : PT) (a : Option Addr) (c : Nat), cs = .int .i64 x :: partCells p a c ∧ PartAt W (· < W.heap.size) p (partCells p a c) := by
  obtain ⟨x0, x1, k, rfl, hl, f0, f1⟩ := trod_struct2n Tryd.underlying39 h
  rw [cellsSource] at hl
  obtain ⟨c0, c1, c2, c3, c4, c5, c6, rfl⟩ := len7 hl
  simp only [cellsInt, cellsPart, List.drop, List.take] at f0 f1
  obtain ⟨x, h0, _, _⟩ := DataW.trod_int Tryd.underlying3 f0
  simp only [List.cons.injEq, and_true] at h0
  subst h0
  obtain ⟨p, hp⟩ := part_of _ _ _ f1
  obtain ⟨a, c, e, _⟩ := hp.open
  rw [e] at hp
  exact ⟨x, p, a, c, by rw [e], hp⟩
theorem srcs_of (n : Nat) (v : Value) (y : DataW H × List MemPlace) (h : DataW.trod enc Tryd.prog W 0 (fun _ => true) true n 23 [v] = some y) : ∃ (L : List (Int × PT)) (A : Option Addr) (C : Nat), v = .slice A L.length C ∧ L.length ≤ maxLen ∧ SrcsAt W (· < W.heap.size) L A := by
  rcases DataW.trod_slice Tryd.underlying23 h with ⟨h4, _⟩ | ⟨x, len, cap, elems, rest, m, hmk, h4, _, _, hlc, hcm, helen, hall, _⟩
  · simp only [List.cons.injEq, and_true] at h4
    subst h4
    exact ⟨[], none, 0, rfl, Nat.zero_le _, fun i hi => absurd hi (Nat.not_lt_zero i)⟩
  · simp only [List.cons.injEq, and_true] at h4
    subst h4
    have hex : ∀ i, i < len → ∃ t : Int × PT, ∃ (a : Option Addr) (c : Nat), W.cells? 0 (x.add (i * 7)) 7 = some (.int .i64 t.1 :: partCells t.2 a c) ∧ PartAt W (· < W.heap.size) t.2 (partCells t.2 a c) := by
      intro i hi
      have h5 := hall i hi
      rw [cellsSource, List.getElem?_eq_getElem (by omega)] at h5
      obtain ⟨cs', h6, h7⟩ := Option.bind_eq_some_iff.1 h5
      obtain ⟨z, p, a, c, rfl, hp⟩ := source_of m cs' _ h7
      exact ⟨(z, p), a, c, h6, hp⟩
    obtain ⟨f, hfs⟩ := Deep.choose_lt hex
    have hlen' : ((List.range len).map f).length = len := by simp
    refine ⟨(List.range len).map f, some x, cap, by rw [hlen'], by rw [hlen']; omega, fun i hi => ?_⟩
    rw [hlen'] at hi
    obtain ⟨a', c', h6, h7⟩ := hfs i hi
    obtain ⟨_, _, hget⟩ := World.cells?_some h6
    have hx : x = ⟨x.block, x.off, none⟩ ∧ x.block < W.heap.size := by
      obtain ⟨a0, c0, h60, h70⟩ := hfs 0 (by omega)
      obtain ⟨_, _, hget0⟩ := World.cells?_some h60
      have g0 := hget0 0 (by omega)
      have e0 : (x.add (0 * 7)).add 0 = x := by simp [Addr.add]
      rw [e0] at g0
      exact ⟨cell_plainP g0, block_ltP g0⟩
    obtain ⟨b, o, hxb⟩ : ∃ b o, x = ⟨b, o, none⟩ := ⟨_, _, hx.1⟩
    subst hxb
    refine ⟨b, o, a', c', rfl, hx.2, fun j u hu => ?_, by simpa using h7⟩
    have hu' : (Value.int .i64 (f i).1 :: partCells (f i).2 a' c')[j]? = some u := by simpa using hu
    have hj : j < 7 := by have := (List.getElem?_eq_some_iff.1 hu').1; simpa [partCells] using this
    have g := hget j hj
    rw [add_plain, add_plain] at g
    rw [g, hu']
theorem ints_of (n : Nat) (v : Value) (y : DataW H × List MemPlace) (h : DataW.trod enc Tryd.prog W 0 (fun _ => true) true n 24 [v] = some y) : ∃ (M : List Int) (A : Option Addr) (C : Nat), v = .slice A M.length C ∧ M.length ≤ maxLen ∧ IntsAt W W.heap.size M A := by
  rcases DataW.trod_slice Tryd.underlying24 h with ⟨h4, _⟩ | ⟨x, len, cap, elems, rest, m, hmk, h4, _, _, hlc, hcm, helen, hall, _⟩
  · simp only [List.cons.injEq, and_true] at h4
    subst h4
    exact ⟨[], none, 0, rfl, Nat.zero_le _, fun i hi => absurd hi (Nat.not_lt_zero i)⟩
  · simp only [List.cons.injEq, and_true] at h4
    subst h4
    have hex : ∀ i, i < len → ∃ t : Int, W.cell? (x.add i) = some (.int .i64 t) ∧ -9223372036854775808 ≤ t ∧ t ≤ 9223372036854775807 := by
      intro i hi
      have h5 := hall i hi
      rw [cellsInt, List.getElem?_eq_getElem (by omega)] at h5
      obtain ⟨cs', h6, h7⟩ := Option.bind_eq_some_iff.1 h5
      obtain ⟨k, h8, _, hwf⟩ := DataW.trod_int Tryd.underlying3 h7
      subst h8
      obtain ⟨_, _, hget⟩ := World.cells?_some h6
      have g0 := hget 0 (by omega)
      have e0 : (x.add (i * 1)).add 0 = x.add i := by simp [Addr.add]
      rw [e0] at g0
      have h9 : IntKind.i64.min ≤ k ∧ k ≤ IntKind.i64.max := by simpa [Lit.wf] using hwf
      rw [show IntKind.i64.min = -9223372036854775808 from rfl, show IntKind.i64.max = 9223372036854775807 from rfl] at h9
      exact ⟨k, by simpa using g0, h9.1, h9.2⟩
    obtain ⟨f, hfs⟩ := Deep.choose_lt hex
    have hlen' : ((List.range len).map f).length = len := by simp
    refine ⟨(List.range len).map f, some x, cap, by rw [hlen'], by rw [hlen']; omega, fun i hi => ?_⟩
    rw [hlen'] at hi
    have hx : x = ⟨x.block, x.off, none⟩ ∧ x.block < W.heap.size := by
      have g0 := (hfs 0 (by omega)).1
      have e0 : x.add 0 = x := by simp [Addr.add]
      rw [e0] at g0
      exact ⟨cell_plainP g0, block_ltP g0⟩
    obtain ⟨b, o, hxb⟩ : ∃ b o, x = ⟨b, o, none⟩ := ⟨_, _, hx.1⟩
    subst hxb
    have g := hfs i hi
    rw [add_plain] at g
    exact ⟨b, o, rfl, hx.2, by simpa using g.1, by simpa using g.2⟩
end
end Go.Proofs.YtjgicjgpahnmaaaDoor

/-! The law RekeyGoes answers true, for every input of the second form's bulk, and changes nothing. No other conditions. -/
namespace Go.Proofs.YtjgicjgpahnmaaaDoor.rekeyGoes
open Go.ChangeShapes Go.WideShapes Go.ChangeAt Go.RowKit
set_option linter.unusedVariables false

theorem own : ownKnob Tryd.prog.godebug = none := by kernel_rfl
set_option maxRecDepth 100000 in
theorem contract (H : Type) (enc : TypeId × Value → H) (W : World) (base : Nat) (args : Array Value) (ds gs : List (DataW H)) (before : List MemPlace)
    (hval0 : ∀ (j : Nat) t v, Tryd.f4.params[j]? = some t → args[j]? = some v → Value.okWide Tryd.prog W .any base t v)
    (hW : DataW.Whole enc Tryd.prog Tryd.f4.params.toList Rows.rekeyGoesSpec.vars false W args.toList ds gs before) (hL : laidMetH Tryd.prog Rows.rekeyGoesUptoRow.laid W) :
    Calls Tryd.prog 4 args W fun e W' => ∃ v, e = .returned v ∧ Rows.rekeyGoesSpec.post enc Tryd.prog Tryd.f4 false true false false W args v W' := by
  have hval : ∀ (j : Nat) t v, Tryd.f4.params[j]? = some t → args[j]? = some v → Value.okWide Tryd.prog W .any base t v := hval0
  have hW' := hW
  obtain ⟨p, q, hA0, hV, rfl, hfz, hnd⟩ := hW
  have hA : DataW.TrodAll enc Tryd.prog W 0 (fun _ => true) true Tryd.f4.params.toList args.toList ds p := hA0
  rw [Tryd.params4] at hA hval
  obtain ⟨v0, vs0, d0, ds0, p0, q0, hargs, rfl, rfl, h0, r0⟩ := trodAll_cons hA
  obtain ⟨v1, vs1, d1, ds1, p1, q1, hargs1, rfl, rfl, h1, r1⟩ := trodAll_cons r0
  subst hargs1
  obtain ⟨v2, vs2, d2, ds2, p2, q2, hargs2, rfl, rfl, h2, r2⟩ := trodAll_cons r1
  subst hargs2
  obtain ⟨rfl, rfl, rfl⟩ := trodAll_nil r2
  obtain rfl : args = #[v0, v1, v2] := by cases args; simp_all
  obtain ⟨rfl, rfl⟩ := trodVars_none hV
  simp only [List.append_nil] at hW'
  have hlt : ∀ x ∈ p0 ++ (p1 ++ (p2 ++ [])), x.block < W.heap.size := fun x hx => hW'.lt x (by simpa using hx)
  have s0 := slice_one Tryd.underlying23 (hval 0 _ v0 rfl rfl)
  have s1 := slice_one Tryd.underlying24 (hval 1 _ v1 rfl rfl)
  obtain ⟨⟨cs⟩, rfl, _⟩ := okWide_struct Tryd.underlying30 (hval 2 _ v2 rfl rfl)
  obtain ⟨n0, g0⟩ := h0
  obtain ⟨n1, g1⟩ := h1
  obtain ⟨n2, g2⟩ := h2
  rw [s0] at g0
  rw [s1] at g1
  obtain ⟨L, A, C, rfl, hLl, hL1⟩ := srcs_of _ _ _ g0
  obtain ⟨M, Am, Cm, rfl, hMl, hM1⟩ := ints_of _ _ _ g1
  obtain ⟨t, ht⟩ := part_of _ _ _ g2
  obtain ⟨a, c, e, _⟩ := ht.open
  simp only [Value.cells] at e ht
  subst e
  have hw : 0 < W.heap.size := by
    obtain ⟨v, hc, _⟩ := none_met hL
    exact Nat.lt_of_le_of_lt (Nat.zero_le _) (block_ltP hc)
  refine (law_any L A C M Am Cm t a c W hL hw hL1 hLl hM1 hMl ht).mono fun e W' ⟨he, bel⟩ => ?_
  subst he
  exact ⟨_, rfl, _, _, _, [], _, [], hW', trodAll_mk1 (shut_bool Tryd.underlying4 _), Ev.trodAll_below (by kernel_rfl) bel _ _ _ _ (by kernel_rfl) hA0 hlt, rfl, bel.frame _, fun h => by cases h⟩
/-- The witness's arguments: nothing. -/
def zeroArgs : Array Value := #[.slice none 0 0, .slice none 0 0, .agg #[.int .u8 0, .bool false, .bool false, .string ⟨#[]⟩, .string ⟨#[]⟩, .slice none 0 0]]
theorem door_met (os : Os) (args : Array Value) : laidMetH Tryd.prog Rows.rekeyGoesUptoRow.laid ((World.doorLaid Tryd.prog 400 os).forCall (fun _ _ => 0) ⟨#[], args, []⟩).memory :=
  laidMetH_of_parts3 (fuel := 8) (laidMet_of_run' 8 (by kernel_rfl) (by kernel_rfl)) (by kernel_rfl) (by kernel_rfl)
theorem reads (os : Os) {H : Type} (enc : TypeId × Value → H) : ∃ places, DataW.whole enc Tryd.prog ((World.doorLaid Tryd.prog 400 os).forCall (fun _ _ => 0) ⟨#[], zeroArgs, []⟩).memory Tryd.f4.params.toList Rows.rekeyGoesSpec.vars false zeroArgs.toList 8 =
    some ([.nil, .nil, .agg [.lit (.int .u8 0), .lit (.bool false), .agg [.lit (.bool false), .lit (.string [])], .lit (.string []), .nil]], [], places) :=
  ⟨[], by kernel_rfl⟩
set_option maxRecDepth 100000 in
theorem lifted (os : Os) (started : os.Started) (H : Type) (enc : TypeId × Value → H) (F : Stop.Interp) :
    ReturnsInHanded {} Tryd.checked os 4 .any ((Rows.OpenSpec.upto Rows.rekeyGoesSpec).preRow enc Tryd.prog Tryd.f4 Rows.rekeyGoesUptoRow.domain false Rows.rekeyGoesUptoRow.laid) (((Rows.OpenSpec.upto Rows.rekeyGoesSpec).at F).post enc Tryd.prog Tryd.f4 false true false false) := by
  obtain ⟨places, hx⟩ := reads os enc
  refine returnsInHanded_of_row (C := Tryd.checked) (s := Rows.OpenSpec.upto Rows.rekeyGoesSpec) own started (by kernel_rfl) Tryd.func4
    ⟨World.doorLaid Tryd.prog 400 os, fun _ _ => 0, ⟨#[], zeroArgs, []⟩, rfl, World.shaped_of_RefB (by kernel_rfl) (by kernel_rfl), rfl, (Input.okWide_of_okWideB (by kernel_rfl)).2,
      OpenSpec.preRow_of_cond 8 hx (by kernel_rfl) (fun k hk => by cases hk; kernel_rfl) (by kernel_rfl) (door_met os _), by
        simp only [Assume.holds]
        exact ⟨by simp, by simp, fun _ => Modest.zero, by simp, by simp⟩⟩ ?_
  intro W base args ds gs before hval hW _ _ _ hL _ _
  exact contract H enc W base args ds gs before hval hW hL
theorem over : Rows.RekeyGoesUptoSaid :=
  OpenClaim.holds_of_cond 4 Tryd.f4 rfl rfl rfl rfl rfl rfl rfl ⟨rfl, rfl, rfl, rfl, rfl⟩ rfl rfl rfl rfl rfl (by kernel_rfl) Tryd.func4 (by kernel_rfl)
    (of_decide_eq_true (by kernel_rfl)) (by unfold Func.isWrapper; first | (rw [if_pos (by decide +kernel)]; kernel_rfl) | (rw [if_neg (by decide +kernel)]; exact ⟨rfl, rfl⟩))
    (fun os started H enc _ F => by rw [OpenClaim.pre_eq_preRow]; exact lifted os started H enc F)
/-- The statement. -/
theorem proved : Rows.RekeyGoesUptoCardSaid :=
  Claim7.holds_tied_plain_at .later [] _ _ _ _
    over (fun _ h => by cases h) (by kernel_rfl) (fun _ h => by cases h) rekeyGoesUpto_row_tie rfl ⟨rfl, rfl⟩ (by kernel_rfl) rfl
    (fun f fn hf hfn => by
      obtain rfl : f = 4 := Option.some.inj ((show Tryd.prog.funcNamed "dovetail/dovetaillaw18.RekeyGoes" = some 4 by kernel_rfl).symm.trans hf) |>.symm
      obtain rfl : fn = Tryd.f4 := (Option.some.inj (Tryd.func4.symm.trans hfn)).symm
      exact ⟨by kernel_rfl, fun j t ht => by
        rw [Tryd.params4] at ht
        match j with
        | 0 =>
          obtain rfl : t = 23 := by simpa using ht.symm
          exact (show Tryd.prog.wantsStandIn 23 = false by kernel_rfl)
        | 1 =>
          obtain rfl : t = 24 := by simpa using ht.symm
          exact (show Tryd.prog.wantsStandIn 24 = false by kernel_rfl)
        | 2 =>
          obtain rfl : t = 30 := by simpa using ht.symm
          exact (show Tryd.prog.wantsStandIn 30 = false by kernel_rfl)
        | j + 3 => simp at ht⟩)
    (by kernel_rfl)
#print axioms proved
end Go.Proofs.YtjgicjgpahnmaaaDoor.rekeyGoes
