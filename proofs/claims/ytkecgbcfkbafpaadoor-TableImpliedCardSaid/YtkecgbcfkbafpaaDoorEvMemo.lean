/-
  Calls on plain values whose answers are reckoned out beforehand.
-/
import Derived.Test.YtkecgbcfkbafpaaDoorEvZE
namespace Go.Proofs.YtkecgbcfkbafpaaDoor.Ev
set_option linter.unusedSectionVars false
variable [Sig]
open Go.RowKit
set_option linter.unusedSimpArgs false

variable {P : Program} {w0 : World}

/-- A function, its arguments, its answer. -/
abbrev Memo := List (Nat × List Value × Value)
def memoSum (tbl : Memo) (sm : Sums) : Sums := fun f l m =>
  match tbl.find? fun x => Nat.beq x.1 f && veqL x.2.1 l with
  | some x => some (.ret x.2.2, m)
  | none => sm f l m
def isRet (v : Value) : Tr (Out × Mem) → Bool
  | .ok (.ret u, _) => veq u v
  | _ => false
def memoOne (P : Program) (laid : List (String × DataW Unit)) (sm : Sums) (steps n : Nat) (x : Nat × List Value × Value) : Bool :=
  cleanL x.2.1 && clean x.2.2 && ((P.funcs[x.1]?).map (·.body.isSome)).getD false && isRet x.2.2 (evCall2 sm P steps n x.1 x.2.1 ⟨laidMem P (laid.filter fun x => x.2.handleName?.isNone), 64, 0⟩)
theorem HR.laid_later {laid : List (String × DataW Unit)} (h : laidMetH P laid w0) {w : World} (hb : Below w0.heap.size w0 w) : HR P w E0 (laidMem P (laid.filter fun x => x.2.handleName?.isNone)) 64 w := by
  have h0 := HR.laid h
  refine ⟨Below.refl _ _, fun i b hb => ?_, h0.glob, h0.inj, fun i hp => absurd hp Bool.false_ne_true, fun i o ho hp => ?_⟩
  · have := (h0.dom i b hb).1
    exact ⟨this, fun h64 => by omega⟩
  · obtain ⟨b, r, k1, k2, k3⟩ := h0.born i o ho hp
    exact ⟨b, r, k1, by rw [hb.block b (Array.getElem?_eq_some_iff.1 k2).1]; exact k2, k3⟩
theorem memo_ok (hP : plainB P = true) (hm : P.follows .mixedOrders = true) {laid : List (String × DataW Unit)} (hL : laidMetH P laid w0) {sm : Sums} (hsm : ∀ w, SumOK P w sm) {tbl : Memo} {steps n : Nat} (ht : tbl.all (memoOne P laid sm steps n) = true) : SumOK P w0 (memoSum tbl sm) := by
  intro f l m out m' he
  unfold memoSum at he
  split at he
  · rename_i x hx
    have hmem := List.mem_of_find?_eq_some hx
    have hp := List.find?_some hx
    simp only [Bool.and_eq_true] at hp
    have hf := Nat.eq_of_beq_eq_true hp.1
    have hl := veqL_eq _ _ hp.2
    have hone := List.all_eq_true.1 ht x hmem
    unfold memoOne at hone
    simp only [Bool.and_eq_true] at hone
    obtain ⟨⟨⟨c1, c2⟩, c3⟩, c4⟩ := hone
    simp only [Option.some.injEq, Prod.mk.injEq] at he
    obtain ⟨rfl, rfl⟩ := he
    subst hf hl
    refine ⟨?_, fun E w args h hlo hargs => ?_⟩
    · cases hfn : P.funcs[x.1]? with
      | none => rw [hfn] at c3; simp at c3
      | some fn => rw [hfn] at c3; exact ⟨fn, rfl, by simpa using c3⟩
    · have hval : args.toList = x.2.1 := hargs.eq_of_clean c1
      unfold isRet at c4
      split at c4
      · rename_i u m1 hr
        obtain ⟨_, hc⟩ := evCall2_ok (plainly_of hP) hm (hsm w) steps n x.1 x.2.1 _ _ _ hr
        refine Calls.mono (hc E0 w args (HR.laid_later hL h.below) (Nat.zero_le _) (by rw [hval]; exact VRL.of_clean E0 _ c1)) fun e w' ⟨E', _, k2, _, _, k5⟩ => ?_
        have hb : Below w.heap.size w w' := k2.below
        refine ⟨E, E.le_refl, ?_, rfl, Nat.le_refl _, ?_⟩
        · refine h.keep ⟨hb.os, hb.tape, hb.output, hb.size, fun k hk => hb.block k (Nat.lt_of_lt_of_le hk h.below.size)⟩ fun i o b hi hib => ?_
          obtain ⟨b', r, q1, q2, _⟩ := h.obj hib hi
          rw [hib] at q1
          injection q1 with q1
          subst q1
          exact hb.block b (Array.getElem?_eq_some_iff.1 q2).1
        · have huv := veq_eq _ x.2.2 c4
          cases e with
          | returned v' =>
            have k6 : VR E' _ v' := k5
            rw [huv] at k6
            have hv' : v' = x.2.2 := VR.eq_of_clean k6 c2
            rw [hv']
            exact VR.of_clean E _ c2
          | _ => exact k5.elim
      · cases c4
  · exact hsm w0 f l m out m' he
end Go.Proofs.YtkecgbcfkbafpaaDoor.Ev
