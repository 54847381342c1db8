/-
  rekey.list and rekey.why, answered by our machine.
-/
import Derived.Test.YtjgicjgpahnmaaaDoorKE
import Derived.Test.YtjgicjgpahnmaaaDoorKK
namespace Go.Proofs.YtjgicjgpahnmaaaDoor
open Go.RowKit Ev
set_option linter.unusedVariables false
theorem plainT : plainB Tryd.prog = true := by kernel_rfl
theorem mixedT : Tryd.prog.follows .mixedOrders = true := by kernel_rfl
def ranTo (r : Tr (Out × Mem)) : Option Value := match r with
  | .ok (.ret v, _) => some v
  | _ => none
theorem ranTo_ok {r : Tr (Out × Mem)} {v : Value} (h : ranTo r = some v) : ∃ m, r = .ok (.ret v, m) := by
  unfold ranTo at h
  split at h
  · injection h with h; subst h; exact ⟨_, rfl⟩
  · cases h
section
variable {E : Env}
theorem vr_tuple {x : List Value} {v' : Value} (h : VR E (.tuple x.toArray) v') : ∃ x', v' = .tuple x'.toArray ∧ VRL E x x' := by
  generalize hz : Value.tuple x.toArray = z at h
  cases h with
  | tuple h => injection hz with hz; have := List.toArray_inj hz; subst this; exact ⟨_, rfl, h⟩
  | _ => cases hz
theorem vr_agg {x : List Value} {v' : Value} (h : VR E (.agg x.toArray) v') : ∃ x', v' = .agg x'.toArray ∧ VRL E x x' := by
  generalize hz : Value.agg x.toArray = z at h
  cases h with
  | agg h => injection hz with hz; have := List.toArray_inj hz; subst this; exact ⟨_, rfl, h⟩
  | _ => cases hz
theorem vrl_1 {a : Value} {x' : List Value} (h : VRL E [a] x') : ∃ b, x' = [b] ∧ VR E a b := by
  cases h with | cons h hs => cases hs; exact ⟨_, rfl, h⟩
theorem vrl_2 {a b : Value} {x' : List Value} (h : VRL E [a, b] x') : ∃ c d, x' = [c, d] ∧ VR E a c ∧ VR E b d := by
  cases h with | cons h hs => obtain ⟨d, rfl, h2⟩ := vrl_1 hs; exact ⟨_, _, rfl, h, h2⟩
end
/-- One block of the caller's, read alone. -/
def EL (b : Nat) : Env := ⟨fun i => if i < 48 then some i else if i = 48 then some b else none, fun _ => none, fun _ => false⟩
theorem EL_hr (b : Nat) (w : World) : HR Tryd.prog w (EL b) .leaf 64 w := by
  refine ⟨Below.refl _ _, fun i b' e => ?_, fun g hg => by simp [EL, hg], fun i j o o' b' h => by simp [T.get] at h, fun i hp => absurd hp Bool.false_ne_true, fun i o ho => by simp [T.get] at ho⟩
  simp only [EL] at e
  split at e
  · exact ⟨by omega, fun h => by omega⟩
  · split at e
    · exact ⟨by omega, fun h => by omega⟩
    · cases e
def listArg (a : Option Addr) (n c : Nat) : Value := .iface 88 (.agg #[.slice a n c])
theorem list_ran0 (n c : Nat) : ranTo (evCall2 (fun _ _ _ => none) Tryd.prog 1000 20 27 [listArg none n c] ⟨.leaf, 64, 0⟩) = some (.tuple #[listArg none n c, .bool true]) := by kernel_rfl
theorem list_ran1 (o n c : Nat) : ranTo (evCall2 (fun _ _ _ => none) Tryd.prog 1000 20 27 [listArg (some ⟨48, o, none⟩) n c] ⟨.leaf, 64, 0⟩) = some (.tuple #[listArg (some ⟨48, o, none⟩) n c, .bool true]) := by kernel_rfl
theorem list_any (a : Option Addr) (n c : Nat) (w : World) (ha : ∀ x, a = some x → x = ⟨x.block, x.off, none⟩) :
    Calls Tryd.prog 27 #[.iface 88 (.agg #[.slice a n c])] w (Ret (.tuple #[.iface 88 (.agg #[.slice a n c]), .bool true]) w) := by
  cases a with
  | none =>
    obtain ⟨m, hr⟩ := ranTo_ok (list_ran0 n c)
    obtain ⟨_, hc⟩ := evCall2_ok (plainly_of plainT) mixedT no_sums 1000 20 _ _ _ _ _ hr
    refine Calls.mono (hc (EL 0) w _ (EL_hr 0 w) (Nat.zero_le _) (.cons (.iface _ (.agg (.cons (.slice0 _ _) .nil))) .nil)) fun e w'' ⟨E', _, k2, _, _, k5⟩ => ?_
    cases e with
    | returned v =>
      obtain ⟨x, rfl, h2⟩ := vr_tuple (x := [_, _]) k5
      obtain ⟨c1, d1, rfl, h3, h4⟩ := vrl_2 h2
      cases h4
      cases h3 with | iface _ h3 =>
      obtain ⟨y, rfl, h5⟩ := vr_agg (x := [_]) h3
      obtain ⟨z, rfl, h6⟩ := vrl_1 h5
      cases h6
      exact ⟨rfl, k2.below⟩
    | _ => exact k5.elim
  | some x =>
    obtain ⟨b, o, rfl⟩ : ∃ b o, x = ⟨b, o, none⟩ := ⟨_, _, ha x rfl⟩
    obtain ⟨m, hr⟩ := ranTo_ok (list_ran1 o n c)
    obtain ⟨_, hc⟩ := evCall2_ok (plainly_of plainT) mixedT no_sums 1000 20 _ _ _ _ _ hr
    refine Calls.mono (hc (EL b) w _ (EL_hr b w) (Nat.zero_le _) (.cons (.iface _ (.agg (.cons (.slice o n (by simp [EL]) (by simp [capOf, EL])) .nil))) .nil)) fun e w'' ⟨E', k1, k2, _, _, k5⟩ => ?_
    have hE := k1.to 48 b (by simp [EL])
    cases e with
    | returned v =>
      obtain ⟨x, rfl, h2⟩ := vr_tuple (x := [_, _]) k5
      obtain ⟨c1, d1, rfl, h3, h4⟩ := vrl_2 h2
      cases h4
      cases h3 with | iface _ h3 =>
      obtain ⟨y, rfl, h5⟩ := vr_agg (x := [_]) h3
      obtain ⟨z, rfl, h6⟩ := vrl_1 h5
      cases h6 with
      | slice _ _ g1 g2 =>
        rw [hE.1] at g1
        injection g1 with g1
        subst g1
        have hcap : (E'.cap 48) = none := hE.2
        simp only [capOf, hcap] at g2
        subst g2
        exact ⟨rfl, k2.below⟩
    | _ => exact k5.elim
theorem list_ranx : ranTo (evCall2 (fun _ _ _ => none) Tryd.prog 1000 20 27 [.iface 88 (.agg #[.slice (some ⟨48, 0, some 0⟩) 0 0])] ⟨.leaf, 64, 0⟩) = some (.tuple #[.iface 88 (.agg #[.slice (some ⟨48, 0, some 0⟩) 0 0]), .bool true]) := by kernel_rfl
/-- A tuple of nothing: some tuple of nothing comes back. -/
theorem list_none (x : Addr) (c : Nat) (w : World) :
    Calls Tryd.prog 27 #[.iface 88 (.agg #[.slice (some x) 0 c])] w (fun e w' => ∃ a2 c2, e = .returned (.tuple #[.iface 88 (.agg #[.slice a2 0 c2]), .bool true]) ∧ Below w.heap.size w w') := by
  obtain ⟨m, hr⟩ := ranTo_ok list_ranx
  obtain ⟨_, hc⟩ := evCall2_ok (plainly_of plainT) mixedT no_sums 1000 20 _ _ _ _ _ hr
  refine Calls.mono (hc (EL 0) w _ (EL_hr 0 w) (Nat.zero_le _) (.cons (.iface _ (.agg (.cons (.slicex 48 x c) .nil))) .nil)) fun e w'' ⟨E', k1, k2, _, _, k5⟩ => ?_
  cases e with
  | returned v =>
    obtain ⟨x, rfl, h2⟩ := vr_tuple (x := [_, _]) k5
    obtain ⟨c1, d1, rfl, h3, h4⟩ := vrl_2 h2
    cases h4
    cases h3 with | iface _ h3 =>
    obtain ⟨y, rfl, h5⟩ := vr_agg (x := [_]) h3
    obtain ⟨z, rfl, h6⟩ := vrl_1 h5
    cases h6 with
    | slicex _ a c => exact ⟨_, _, rfl, k2.below⟩
  | _ => exact k5.elim
/-- The list of a tuple value. -/
theorem list_tuple (l : List PT) (a : Option Addr) (c : Nat) (w : World) (B : Nat) (hl : ValuesAt w (· < B) l a) :
    Calls Tryd.prog 27 #[.iface 88 (.agg #[.slice a l.length c])] w (fun e w' => ∃ a2 c2, e = .returned (.tuple #[.iface 88 (.agg #[.slice a2 l.length c2]), .bool true]) ∧ Below w.heap.size w w' ∧ ValuesAt w (· < B) l a2) := by
  cases l with
  | nil =>
    cases a with
    | none =>
      refine (list_any none 0 c w (fun x h => by cases h)).mono ?_
      rintro e w' ⟨rfl, hb⟩
      exact ⟨_, _, rfl, hb, trivial⟩
    | some x =>
      refine (list_none x c w).mono ?_
      rintro e w' ⟨a2, c2, rfl, hb⟩
      exact ⟨_, _, rfl, hb, trivial⟩
  | cons t r =>
    refine (list_any a (t :: r).length c w (fun x h => by subst h; obtain ⟨b, o, u, e, _⟩ := hl; injection e with e; subst e; rfl)).mono ?_
    rintro e w' ⟨rfl, hb⟩
    exact ⟨_, _, rfl, hb, hl⟩
end Go.Proofs.YtjgicjgpahnmaaaDoor
