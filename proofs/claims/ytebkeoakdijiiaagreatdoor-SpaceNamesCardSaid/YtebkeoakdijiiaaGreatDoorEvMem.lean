/-
  Calls whose outcomes are reckoned out beforehand, memory and all.
-/
import Derived.Test.YtebkeoakdijiiaaGreatDoorEvCap
namespace Go.Proofs.YtebkeoakdijiiaaGreatDoor.Ev
open Go.RowKit
set_option linter.unusedSimpArgs false

variable {P : Program} {w0 w : World} {E : Env} {m : Mem}

/-- Blocks laid into a memory. -/
def layL : T AObj → List (Nat × AObj) → T AObj
  | H, [] => H
  | H, (i, o) :: r => layL (H.set i o) r
/-- A row that is written out. -/
def rowO (vs : List Value) (n elem : Nat) (g : Bool) : AObj := .cells (T.leaf.fill 0 vs) n elem g
/-- A call, the memory that it finds (beside what lies there at the start), its answer, the memory that it leaves. -/
structure Step where
  f : FuncId
  l : List Value
  inp : List (Nat × AObj)
  next : Nat
  out : Value
  res : List (Nat × AObj)
  next' : Nat
def stepIn (base : T AObj) (x : Step) : Mem := ⟨layL base x.inp, x.next, 0⟩
def isStep (base : T AObj) (x : Step) : Tr (Out × Mem) → Bool
  | .ok (.ret v, m1) => veq v x.out && agreeT (layL base x.res) m1.H && Nat.ble m1.next x.next' && Nat.ble x.next x.next'
  | _ => false
def stepSum (base : T AObj) (x : Step) (sm : Sums) : Sums := fun f l m =>
  if Nat.beq f x.f && veqL l x.l && Nat.beq m.next x.next && Nat.beq m.lo 0 && agreeT (layL base x.inp) m.H then some (.ret x.out, { m with H := layL base x.res, next := x.next' })
  else sm f l m
/-- Less of what lies in memory. -/
theorem HR.sub {H H' : T AObj} {next : Nat} (h : HR P w0 E H next w) (hs : ∀ i o, H'.get i = some o → H.get i = some o) : HR P w0 E H' next w :=
  ⟨h.below, h.dom, h.glob, fun i j o o' b h1 h2 => h.inj i j o o' b (hs i o h1) (hs j o' h2), h.ph, fun i o hi hp => h.born i o (hs i o hi) hp⟩
theorem HR.upto' {H : T AObj} {next q : Nat} (h : HR P w0 E H next w) (hq : next ≤ q) : HR P w0 E H q w :=
  ⟨h.below, fun i b hb => by have := h.dom i b hb; exact ⟨by omega, this.2⟩, h.glob, h.inj, fun i hi => by have := h.ph i hi; exact ⟨by omega, this.2⟩, h.born⟩
theorem stepSum_ok (hP : Plainly P) (hm : P.follows .mixedOrders = true) {base : T AObj} {x : Step} {sm sm' : Sums} (hsm : SumOK P w0 sm) (hsm' : SumOK P w0 sm') {steps n : Nat}
    (hr : isStep base x (evCall2 sm' P steps n x.f x.l (stepIn base x)) = true) : SumOK P w0 (stepSum base x sm) := by
  intro f l m out m' he
  unfold stepSum at he
  split at he
  · rename_i hc
    simp only [Bool.and_eq_true] at hc
    obtain ⟨⟨⟨⟨c1, c2⟩, c3⟩, c4⟩, c5⟩ := hc
    obtain rfl := Nat.eq_of_beq_eq_true c1
    obtain rfl := veqL_eq _ _ c2
    have e3 := Nat.eq_of_beq_eq_true c3
    have e4 := Nat.eq_of_beq_eq_true c4
    simp only [Option.some.injEq, Prod.mk.injEq] at he
    obtain ⟨rfl, rfl⟩ := he
    unfold isStep at hr
    split at hr
    · rename_i v m1 hcall
      simp only [Bool.and_eq_true, Nat.ble_eq] at hr
      obtain ⟨⟨⟨r1, r2⟩, r3⟩, r4⟩ := hr
      have := veq_eq _ _ r1
      subst this
      obtain ⟨hfn, hC⟩ := evCall2_ok hP hm hsm' steps n _ _ _ _ _ hcall
      refine ⟨hfn, fun E w args h hlo hargs => ?_⟩
      refine Calls.mono (hC E w args (by rw [e3] at h; exact h.sub (agreeT_get _ _ c5)) (Nat.zero_le _) hargs) fun e w' ⟨E', k1, k2, k3, k4, k5⟩ => ?_
      exact ⟨E', k1, (k2.sub (agreeT_get _ _ r2)).upto' r3, rfl, by simp only; omega, k5⟩
    · cases hr
  · exact hsm f l m out m' he
end Go.Proofs.YtebkeoakdijiiaaGreatDoor.Ev
