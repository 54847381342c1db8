/-
  The law SpanMeets answers true, for every input, and changes nothing. No other conditions.
-/
import Derived.Test.YtemippnhpejbkaaGreatDoorRows
import Derived.Test.YtemippnhpejbkaaGreatDoorCards
import Derived.Test.YtemippnhpejbkaaGreatDoorTie
import Derived.Test.YtemippnhpejbkaaGreatDoorKH
import Derived.Test.YtemippnhpejbkaaGreatDoorKI
import Derived.SliceStrings
import Derived.Test.YtemippnhpejbkaaGreatDoorKE
import Derived.WalkKit
import Derived.ProofKit
import Derived.OpenShut
import Derived.LaidLaws
import Derived.LaidHandle
import Derived.LaidMore
import Derived.Lay
import Derived.SevenTiedAt
import Derived.Stop.Joined
import Derived.ChangeOld
import Derived.Below
namespace Go.Proofs.YtemippnhpejbkaaGreatDoor.spanMeets
open Go.ChangeShapes Go.WideShapes Go.ChangeAt Go.RowKit
set_option linter.unusedVariables false

theorem own : ownKnob Tryz.prog.godebug = none := by kernel_rfl
theorem cellsSpan : Tryz.prog.cellsOf 23 = 3 := by kernel_rfl
theorem cellsStr : Tryz.prog.cellsOf 9 = 1 := by kernel_rfl
theorem cellsBool : Tryz.prog.cellsOf 4 = 1 := by kernel_rfl
theorem bytesStr : 1 ≤ Tryz.prog.bytesOf 9 := of_decide_eq_true (by kernel_rfl)
theorem ba_size (m : ByteArray) : m.size = m.data.toList.length := by cases m; simp [ByteArray.size]
theorem span_of {H : Type} {enc : TypeId × Value → H} {W : World} {n : Nat} {cs : List Value} {y : DataW H × List MemPlace} (h : DataW.trod enc Tryz.prog W 0 (fun _ => true) true n 23 cs = some y) (hw : ∀ q ∈ DataW.weights Tryz.prog 23 y.1, q ≤ 140737488351232) :
    ∃ (f t : ByteArray) (o : Bool), cs = [.string f, .string t, .bool o] ∧ f.size ≤ 140737488351232 ∧ t.size ≤ 140737488351232 := by
  obtain ⟨x0, x1, x2, k, rfl, rfl, hl, f0, f1, f2⟩ := structN3 Tryz.underlying23 h
  rw [cellsSpan] at hl
  obtain ⟨c0, c1, c2, rfl⟩ := lenN3 hl
  simp only [cellsStr, cellsBool, List.drop, List.take] at f0 f1 f2
  obtain ⟨s0, h0, e0, _⟩ := DataW.trod_string Tryz.underlying9 f0
  obtain ⟨s1, h1, e1, _⟩ := DataW.trod_string Tryz.underlying9 f1
  obtain ⟨b, h2, _⟩ := DataW.trod_bool Tryz.underlying4 f2
  simp only [List.cons.injEq, and_true] at h0 h1 h2
  subst h0 h1 h2
  simp only [DataW.weights, Tryz.underlying23, List.map, DataW.weightsEach, List.append_nil, List.mem_append, e0, e1] at hw
  refine ⟨s0, s1, b, rfl, ?_, ?_⟩
  · rw [ba_size]; exact hw _ (.inl (List.mem_singleton.2 rfl))
  · rw [ba_size]; exact hw _ (.inr (.inl (List.mem_singleton.2 rfl)))
theorem cell_plainS {w : World} {p : Addr} {v : Value} (h : w.cell? p = some v) : p = ⟨p.block, p.off, none⟩ := by
  have := World.cell?_spot h
  cases p with | mk b o s => simp only at this; subst this; rfl
theorem block_ltS {w : World} {p : Addr} {u : Value} (h : w.cell? p = some u) : p.block < w.heap.size := by
  unfold World.cell? at h
  split at h
  · rename_i hh; exact (Array.getElem?_eq_some_iff.1 hh).1
  · cases h
theorem weightsAll_mem {H : Type} {P : Program} {e : TypeId} : ∀ {l : List (DataW H)} {d : DataW H} {q : Nat}, d ∈ l → q ∈ DataW.weights P e d → q ∈ DataW.weightsAll P e l
  | a :: l, d, q, hd, hq => by
    rw [DataW.weightsAll]
    rcases List.mem_cons.1 hd with rfl | hd
    · exact List.mem_append_left _ hq
    · exact List.mem_append_right _ (weightsAll_mem hd hq)
theorem keys_of {H : Type} {enc : TypeId × Value → H} {W : World} {n : Nat} {v : Value} {y : DataW H × List MemPlace} (h : DataW.trod enc Tryz.prog W 0 (fun _ => true) true n 24 [v] = some y) (hw : ∀ q ∈ DataW.weights Tryz.prog 24 y.1, q ≤ 140737488351232) :
    ∃ (ks : List ByteArray) (A : Option Addr) (c : Nat), v = .slice A ks.length c ∧ RowAt W W.heap.size (.slice A ks.length c) (strs ks) ∧ ks.length ≤ 140737488351232 ∧ ∀ k ∈ ks, k.size ≤ 140737488351232 := by
  rcases open_strings Tryz.underlying24 Tryz.underlying9 cellsStr h with ⟨h4, _⟩ | ⟨a, len, cap, ss, h4, _, hl, hm, hz, rfl, hcell, _⟩
  · simp only [List.cons.injEq, and_true] at h4
    subst h4
    exact ⟨[], none, 0, rfl, RowAt.nil _ _ _, Nat.zero_le _, fun k hk => by cases hk⟩
  · simp only [List.cons.injEq, and_true] at h4
    subst h4
    simp only [if_true] at hz
    simp only [DataW.weights, Tryz.underlying24, List.mem_cons, List.mem_append, ChangeShapes.strs, List.length_map] at hw
    have hcap := hw _ (.inl rfl)
    have hln : (ss.take len).length = len := by rw [List.length_take]; omega
    have hle : len ≤ 140737488351232 := by
      have h1 := Nat.le_mul_of_pos_right ((ss.take len).length + (ss.drop len).length) bytesStr
      rw [hln] at h1 hcap
      exact Nat.le_trans (by omega) hcap
    refine ⟨ss.take len, some a, cap, by rw [hln], ?_, by rw [hln]; exact hle, fun k hk => ?_⟩
    · refine ⟨some a, cap, by rw [strs_len], by rw [strs_len, hln]; exact hl, fun hp => ?_⟩
      rw [strs_len, hln] at hp
      have g0 := hcell 0 (by omega)
      have e0 : a.add 0 = a := by simp [Addr.add]
      rw [e0] at g0
      obtain ⟨b, o, hab⟩ : ∃ b o, a = ⟨b, o, none⟩ := ⟨_, _, cell_plainS g0⟩
      subst hab
      refine ⟨b, o, rfl, block_ltS g0, fun i u hu => ?_⟩
      have hi : i < len := by have := (List.getElem?_eq_some_iff.1 hu).1; rw [strs_len, hln] at this; exact this
      have g := hcell i (by omega)
      rw [add_plain] at g
      rw [g, ← hu]
      simp only [strs, List.getElem?_map, List.getElem?_take, hi, if_true, List.getD]
      have hi2 : i < ss.length := by omega
      simp [List.getElem?_eq_getElem hi2]
    · rw [ba_size]
      exact hw _ (.inr (.inl (weightsAll_mem (d := .lit (.string k.data.toList)) (List.mem_map.2 ⟨k, hk, rfl⟩) (by simp [DataW.weights]))))
set_option maxRecDepth 100000 in
theorem contract (H : Type) (enc : TypeId × Value → H) (W : World) (base : Nat) (args : Array Value) (ds gs : List (DataW H)) (before : List MemPlace)
    (hval0 : ∀ (j : Nat) t v, Tryz.f3.params[j]? = some t → args[j]? = some v → Value.okWide Tryz.prog W .any base t v)
    (hW : DataW.Whole enc Tryz.prog Tryz.f3.params.toList Rows.spanMeetsSpec.vars false W args.toList ds gs before) (hL : laidMetH Tryz.prog Rows.spanMeetsRow.laid W)
    (hwt : (DataW.weightsEach Tryz.prog (Tryz.f3.params.toList ++ Rows.spanMeetsSpec.plain.varTypes Tryz.prog) (ds ++ gs)).all (· ≤ reachBytes) = true) :
    Calls Tryz.prog 3 args W fun e W' => ∃ v, e = .returned v ∧ Rows.spanMeetsSpec.post enc Tryz.prog Tryz.f3 false true false false W args v W' := by
  have hval : ∀ (j : Nat) t v, Tryz.f3.params[j]? = some t → args[j]? = some v → Value.okWide Tryz.prog W .any base t v := hval0
  have hW' := hW
  obtain ⟨p, q, hA0, hV, rfl, hfz, hnd⟩ := hW
  have hA : DataW.TrodAll enc Tryz.prog W 0 (fun _ => true) true Tryz.f3.params.toList args.toList ds p := hA0
  rw [Tryz.params3] at hA hval hwt
  obtain ⟨v0, vs0, d0, ds0, p0, q0, hargs, rfl, rfl, h0, r0⟩ := trodAll_cons hA
  obtain ⟨v1, vs1, d1, ds1, p1, q1, rfl, rfl, rfl, h1, r1⟩ := trodAll_cons r0
  obtain ⟨v2, vs2, d2, ds2, p2, q2, rfl, rfl, rfl, h2, r2⟩ := trodAll_cons r1
  obtain ⟨rfl, rfl, rfl⟩ := trodAll_nil r2
  obtain rfl : args = #[v0, v1, v2] := by cases args; simp_all
  obtain ⟨rfl, rfl⟩ := trodVars_none hV
  simp only [List.append_nil] at hW'
  have hlt : ∀ x ∈ p0 ++ (p1 ++ (p2 ++ [])), x.block < W.heap.size := fun x hx => hW'.lt x (by simpa using hx)
  obtain ⟨⟨cs0⟩, rfl, _⟩ := okWide_struct Tryz.underlying23 (hval 0 _ v0 rfl rfl)
  obtain ⟨⟨cs1⟩, rfl, _⟩ := okWide_struct Tryz.underlying23 (hval 1 _ v1 rfl rfl)
  obtain ⟨a2, n2, c2, rfl⟩ := okWide_slice Tryz.underlying24 (hval 2 _ v2 rfl rfl)
  obtain ⟨m0, g0⟩ := h0
  obtain ⟨m1, g1⟩ := h1
  obtain ⟨m2, g2⟩ := h2
  have hwt' : ∀ q, (q ∈ DataW.weights Tryz.prog 23 d0 ∨ q ∈ DataW.weights Tryz.prog 23 d1 ∨ q ∈ DataW.weights Tryz.prog 24 d2) → q ≤ 140737488351232 := fun q hq => by
    have h9 := List.all_eq_true.1 hwt q (by
      show q ∈ DataW.weightsEach Tryz.prog (23 :: 23 :: 24 :: _) (d0 :: d1 :: d2 :: _)
      simp only [DataW.weightsEach, List.mem_append]
      rcases hq with hq | hq | hq
      · exact .inl hq
      · exact .inr (.inl hq)
      · exact .inr (.inr (.inl hq)))
    exact of_decide_eq_true h9
  obtain ⟨af, at_, ao, hcs0, s1, s2⟩ := span_of (cs := cs0) (y := (d0, p0)) g0 (fun q hq => hwt' q (.inl hq))
  obtain ⟨bf, bt, bo, hcs1, s3, s4⟩ := span_of (cs := cs1) (y := (d1, p1)) g1 (fun q hq => hwt' q (.inr (.inl hq)))
  obtain ⟨ks, A, c, hv2, hks, hkl, hkz⟩ := keys_of (v := .slice a2 n2 c2) (y := (d2, p2)) g2 (fun q hq => hwt' q (.inr (.inr hq)))
  subst hcs0 hcs1
  rw [hv2]
  refine (law_any hL af at_ bf bt ao bo A c ks hks hkl hkz s1 s2 s3 s4).mono fun e W' ⟨he, bel⟩ => ?_
  rw [hv2] at hA0 hW'
  subst he
  exact ⟨_, rfl, _, _, _, [], _, [], hW', trodAll_mk1 (shut_bool Tryz.underlying4 _), Ev.trodAll_below (by kernel_rfl) bel _ _ _ _ (by kernel_rfl) hA0 hlt, rfl, bel.frame _, fun h => by cases h⟩
/-- The witness's arguments: nothing. -/
def zeroArgs : Array Value := #[.agg #[.string ⟨#[]⟩, .string ⟨#[]⟩, .bool false], .agg #[.string ⟨#[]⟩, .string ⟨#[]⟩, .bool false], .slice none 0 0]
set_option maxRecDepth 100000 in
theorem lifted (os : Os) (started : os.Started) (H : Type) (enc : TypeId × Value → H) :
    ReturnsInHanded {} Tryz.checked os 3 .any (fun w args => (Rows.spanMeetsSpec.pre enc Tryz.prog Tryz.f3 [] false w args ∧ laidMetH Tryz.prog Rows.spanMeetsRow.laid w) ∧ sizedMet enc Tryz.prog Tryz.f3 (OpenSpec.ofChange Rows.spanMeetsSpec) false w args)
      (Rows.spanMeetsSpec.post enc Tryz.prog Tryz.f3 false true false false) := by
  refine returnsInHanded_of_change_and (C := Tryz.checked) (X := fun w _ => laidMetH Tryz.prog Rows.spanMeetsRow.laid w) (fun _ _ _ hh h => h.of_heap hh) own started (by kernel_rfl) Tryz.func3
    (ChangeSpec.witness_shaped (enc := enc) (C := Tryz.checked) (os := os) (X := fun w _ => laidMetH Tryz.prog Rows.spanMeetsRow.laid w) false (Ev.handWorld Tryz.prog os Rows.spanMeetsRow.laid) zeroArgs 12 (Ev.handWorld_os _ _ _)
      (World.shaped_of_ZipB (by kernel_rfl) (by kernel_rfl)) (by kernel_rfl) (by kernel_rfl) (by kernel_rfl)
      (Ev.hand_met _ (by kernel_rfl) (by kernel_rfl) (by kernel_rfl))) ?_
  intro W base args ds gs before hval0 hW _ hwt hL _
  exact contract H enc W base args ds gs before hval0 hW hL hwt
theorem over : Rows.spanMeetsRow.holds Tryz.pinned (OpenSpec.ofChange Rows.spanMeetsSpec) :=
  OpenClaim.holds_of_wide 3 Tryz.f3 rfl rfl rfl rfl rfl rfl rfl ⟨rfl, rfl, rfl, rfl, rfl⟩ rfl rfl rfl rfl rfl (by kernel_rfl) Tryz.func3 (by kernel_rfl)
    (of_decide_eq_true (by kernel_rfl)) (by unfold Func.isWrapper; first | (rw [if_pos (by decide +kernel)]; kernel_rfl) | (rw [if_neg (by decide +kernel)]; exact ⟨rfl, rfl⟩))
    (fun os started H enc _ => lifted os started H enc)
/-- The statement. -/
theorem proved : Rows.SpanMeetsCardSaid :=
  Claim7.holds_tied_plain_at .later [] _ _ _ _
    over (fun _ h => by cases h) (by kernel_rfl) (fun _ h => by cases h) spanMeets_row_tie rfl ⟨rfl, rfl⟩ (by kernel_rfl) rfl
    (fun f fn hf hfn => by
      obtain rfl : f = 3 := Option.some.inj ((show Tryz.prog.funcNamed "dovetail/dovetaillaw16.SpanMeets" = some 3 by kernel_rfl).symm.trans hf) |>.symm
      obtain rfl : fn = Tryz.f3 := (Option.some.inj (Tryz.func3.symm.trans hfn)).symm
      exact ⟨by kernel_rfl, fun j t ht => by
        have hm : t ∈ Tryz.f3.params.toList := Array.mem_toList_iff.2 (Array.mem_of_getElem? ht)
        have hall : (Tryz.f3.params.toList.all fun u => !Tryz.prog.wantsStandIn u) = true := by kernel_rfl
        exact (show Tryz.prog.wantsStandIn t = false by simpa using List.all_eq_true.1 hall t hm)⟩)
    (by kernel_rfl)
#print axioms proved
end Go.Proofs.YtemippnhpejbkaaGreatDoor.spanMeets
