/-
  The law ShelfNil answers true, for every input, and changes nothing. No conditions.
-/
import Derived.Test.YthdjnmfggahggaaRows
import Derived.Test.YthdjnmfggahggaaEvCap
import Derived.Test.YthdjnmfggahggaaEvZG
import Derived.WalkKit
import Derived.ProofKit
import Derived.OpenShut
import Derived.ShutString
namespace Go.Proofs.Ythdjnmfggahggaa.shelfNil
open Go.ChangeShapes Go.WideShapes Go.ChangeAt Go.RowKit
open Go.ChangeMaps (open_string shut_string)
set_option linter.unusedVariables false

theorem own : ownKnob Try.prog.godebug = none := by kernel_rfl
theorem plain : Ev.plainB Try.prog = true := by kernel_rfl
theorem mixed : Try.prog.follows .mixedOrders = true := by kernel_rfl
/-- A law at arguments that ours stand for. -/
theorem start_call {sm : Ev.Sums} {w : World} (hsm : Ev.SumOK Try.prog w sm) {l : List Value} {args : Array Value} (hl : Ev.VRL ⟨fun i => if i < 48 then some i else none, fun _ => none, fun _ => false⟩ l args.toList) (steps n : Nat) (f : FuncId)
    (he : Ev.isTrue (Ev.evCall2 sm Try.prog steps n f l ⟨.leaf, 64, 0⟩) = true) :
    Calls Try.prog f args w fun e w' => e = .returned (.bool true) ∧ Below w.heap.size w w' := by
  obtain ⟨m, h⟩ := Ev.isTrue_ok he
  obtain ⟨_, hc⟩ := Ev.evCall2_ok (Ev.plainly_of plain) mixed hsm steps n f l ⟨.leaf, 64, 0⟩ _ _ h
  refine Calls.mono (hc _ w args (Ev.HR.start w) (Nat.zero_le _) hl) fun e w' ⟨E', _, k2, _, _, k5⟩ => ?_
  cases e with
  | returned v => cases k5; exact ⟨rfl, k2.below⟩
  | _ => exact k5.elim
theorem sums (w : World) : Ev.SumOK Try.prog w (Ev.capSum 15 (fun _ _ _ => none) Try.prog 100000 60) := Ev.capSum_ok (Ev.plainly_of plain) mixed Ev.no_sums 15 100000 60
abbrev argsOf (x y : Bool) : List Value := [.chan (some 0), .chan (some 1), .agg #[.chan (some 2), .chan (some 3), .bool x], .bool y]
theorem ran_tt : Ev.isTrue (Ev.evCall2 (Ev.capSum 15 (fun _ _ _ => none) Try.prog 100000 60) Try.prog 100000 60 3 (argsOf true true) ⟨.leaf, 64, 0⟩) = true := by kernel_rfl
theorem ran_tf : Ev.isTrue (Ev.evCall2 (Ev.capSum 15 (fun _ _ _ => none) Try.prog 100000 60) Try.prog 100000 60 3 (argsOf true false) ⟨.leaf, 64, 0⟩) = true := by kernel_rfl
theorem ran_ft : Ev.isTrue (Ev.evCall2 (Ev.capSum 15 (fun _ _ _ => none) Try.prog 100000 60) Try.prog 100000 60 3 (argsOf false true) ⟨.leaf, 64, 0⟩) = true := by kernel_rfl
theorem ran_ff : Ev.isTrue (Ev.evCall2 (Ev.capSum 15 (fun _ _ _ => none) Try.prog 100000 60) Try.prog 100000 60 3 (argsOf false false) ⟨.leaf, 64, 0⟩) = true := by kernel_rfl
theorem walk (s0 s1 s2 s3 : ByteArray) (x y : Bool) (w : World) : Calls Try.prog 3 #[.string s0, .string s1, .agg #[.string s2, .string s3, .bool x], .bool y] w fun e w' => e = .returned (.bool true) ∧ Below w.heap.size w w' := by
  refine start_call (l := argsOf x y) (sums w) ?_ 100000 60 3 ?_
  · exact .cons (.opq 0 rfl) (.cons (.opq 1 rfl) (.cons (.agg (.cons (.opq 2 rfl) (.cons (.opq 3 rfl) (.cons (.bool x) .nil)))) (.cons (.bool y) .nil)))
  · cases x <;> cases y
    · exact ran_ff
    · exact ran_ft
    · exact ran_tf
    · exact ran_tt

theorem is_string {w : World} {r : Reach} {b : Nat} {t : TypeId} {v : Value} (ht : Try.prog.underlying t = some .string) (h : Cell.okWide Try.prog w r b t v) : ∃ s, v = .string s := by
  unfold Cell.okWide at h
  rw [ht] at h
  cases v <;> first | exact ⟨_, rfl⟩ | (exfalso; simp [Cell.ok, ht] at h)
theorem is_bool {w : World} {r : Reach} {b : Nat} {t : TypeId} {v : Value} (ht : Try.prog.underlying t = some .bool) (h : Cell.okWide Try.prog w r b t v) : ∃ s, v = .bool s := by
  unfold Cell.okWide at h
  rw [ht] at h
  cases v <;> first | exact ⟨_, rfl⟩ | (exfalso; simp [Cell.ok, ht] at h)
theorem val_string {w : World} {r : Reach} {b : Nat} {t : TypeId} {v : Value} (ht : Try.prog.underlying t = some .string) (h : Value.okWide Try.prog w r b t v) : ∃ s, v = .string s := by
  unfold Value.okWide at h
  rw [ht] at h
  exact is_string ht h
theorem val_bool {w : World} {r : Reach} {b : Nat} {t : TypeId} {v : Value} (ht : Try.prog.underlying t = some .bool) (h : Value.okWide Try.prog w r b t v) : ∃ s, v = .bool s := by
  unfold Value.okWide at h
  rw [ht] at h
  exact is_bool ht h
def isStruct : Option TypeDesc → Bool
  | some (.struct _) => true
  | _ => false
theorem span_types : Try.prog.cellTypes Try.prog.depth 23 = some [9, 9, 4] := by kernel_rfl
theorem span_size : Try.prog.cellsOf 23 = 3 := by kernel_rfl
theorem span_struct : isStruct (Try.prog.underlying 23) = true := by kernel_rfl
theorem val_span {w : World} {r : Reach} {b : Nat} {v : Value} (h : Value.okWide Try.prog w r b 23 v) : ∃ s t x, v = .agg #[.string s, .string t, .bool x] := by
  have hst := span_struct
  unfold Value.okWide at h
  cases hu : Try.prog.underlying 23 with
  | none => rw [hu] at hst; cases hst
  | some d =>
    rw [hu] at hst h
    cases d <;> try (cases hst; done)
    obtain ⟨cs, rfl, hs, ts, hts, _, hc⟩ := h
    rw [span_types] at hts
    injection hts with hts
    subst hts
    rw [span_size] at hs
    obtain ⟨l⟩ := cs
    match l, hs with
    | [x, y, z], _ =>
      obtain ⟨u0, hu0, h0⟩ := hc 0 x rfl
      obtain ⟨u1, hu1, h1⟩ := hc 1 y rfl
      obtain ⟨u2, hu2, h2⟩ := hc 2 z rfl
      simp at hu0 hu1 hu2
      subst hu0 hu1 hu2
      obtain ⟨s, rfl⟩ := is_string (by kernel_rfl) h0
      obtain ⟨t, rfl⟩ := is_string (by kernel_rfl) h1
      obtain ⟨q, rfl⟩ := is_bool (by kernel_rfl) h2
      exact ⟨s, t, q, rfl⟩

set_option maxRecDepth 100000 in
theorem lifted (os : Os) (started : os.Started) (H : Type) (enc : TypeId × Value → H) :
    ReturnsInHanded {} Try.checked os 3 .any (Rows.shelfNilSpec.pre6 enc Try.prog Try.f3 Rows.shelfNilRow.domain false) (Rows.shelfNilSpec.post enc Try.prog Try.f3 false true false false) := by
  refine returnsInHanded_of_change (C := Try.checked) own started (by kernel_rfl) Try.func3
    (ChangeSpec.witness6 (enc := enc) (C := Try.checked) false ⟨#[], #[.string ByteArray.empty, .string ByteArray.empty, .agg #[.string ByteArray.empty, .string ByteArray.empty, .bool false], .bool false], []⟩ 8 (by kernel_rfl) (by kernel_rfl) (by kernel_rfl) (by kernel_rfl)) ?_
  intro W base args ds gs before hval0 hW hcnd _
  have hval : ∀ (j : Nat) t v, Try.f3.params[j]? = some t → args[j]? = some v → Value.okWide Try.prog W .any base t v := hval0
  have hW' := hW
  obtain ⟨p, q, hA0, hV, rfl, hfz, hnd⟩ := hW
  have hA : DataW.TrodAll enc Try.prog W 0 (fun _ => true) true Try.f3.params.toList args.toList ds p := hA0
  have hpar : Try.f3.params = #[9, 9, 23, 4] := Try.params3
  rw [hpar] at hA hval
  obtain ⟨v0, vs0, d0, ds0, p0, q0, hargs, rfl, rfl, h0, r0⟩ := trodAll_cons hA
  obtain ⟨v1, vs1, d1, ds1, p1, q1, rfl, rfl, rfl, h1, r1⟩ := trodAll_cons r0
  obtain ⟨v2, vs2, d2, ds2, p2, q2, rfl, rfl, rfl, h2, r2⟩ := trodAll_cons r1
  obtain ⟨v3, vs3, d3, ds3, p3, q3, rfl, rfl, rfl, h3, r3⟩ := trodAll_cons r2
  obtain ⟨rfl, rfl, rfl⟩ := trodAll_nil r3
  obtain rfl : args = #[v0, v1, v2, v3] := by cases args; simp_all
  obtain ⟨rfl, rfl⟩ := trodVars_none hV
  obtain ⟨a0, rfl⟩ := val_string (by kernel_rfl) (hval 0 _ v0 rfl rfl)
  obtain ⟨a1, rfl⟩ := val_string (by kernel_rfl) (hval 1 _ v1 rfl rfl)
  obtain ⟨a2, a3, x, rfl⟩ := val_span (hval 2 _ v2 rfl rfl)
  obtain ⟨y, rfl⟩ := val_bool (by kernel_rfl) (hval 3 _ v3 rfl rfl)
  have hlt : ∀ z ∈ p0 ++ (p1 ++ (p2 ++ (p3 ++ []))), z.block < W.heap.size := fun z hz => hW'.lt z (by simpa using hz)
  refine (walk a0 a1 a2 a3 x y W).mono fun e W' ⟨he, bel⟩ => ?_
  subst he
  exact ⟨_, rfl, _, _, _, [], _, [], hW', trodAll_mk1 (shut_bool Try.underlying4 _), Ev.trodAll_below (by kernel_rfl) bel _ _ _ _ (by kernel_rfl) hA0 hlt, rfl, bel.frame _, fun h => by cases h⟩
theorem over : Rows.shelfNilRow.holds Try.pinned (OpenSpec.ofChange Rows.shelfNilSpec) :=
  OpenClaim.holds_of_wide 3 Try.f3 rfl rfl rfl rfl rfl rfl rfl ⟨rfl, rfl, rfl, rfl, rfl⟩ rfl rfl rfl rfl rfl (by kernel_rfl) Try.func3 (by kernel_rfl)
    (of_decide_eq_true (by kernel_rfl)) (by unfold Func.isWrapper; first | (rw [if_pos (by decide +kernel)]; kernel_rfl) | (rw [if_neg (by decide +kernel)]; exact ⟨rfl, rfl⟩))
    (fun os started H enc _ => lifted os started H enc)
/-- The statement. -/
theorem proved : Rows.ShelfNilSaid := over
#print axioms proved
end Go.Proofs.Ythdjnmfggahggaa.shelfNil
