/-
  TableImplied: the cases of its two numbers, and what a run of one of them is.
-/
import Derived.Test.YtkecgbcfkbafpaaDoorRows
import Derived.Test.YtkecgbcfkbafpaaDoorEvSy
import Derived.Test.YtkecgbcfkbafpaaDoorEvMemo
import Derived.Test.YtkecgbcfkbafpaaDoorEvZG
import Derived.WalkKit
import Derived.ProofKit
namespace Go.Proofs.YtkecgbcfkbafpaaDoor.tableImplied
open Go.ChangeShapes Go.WideShapes Go.ChangeAt Go.RowKit
open Ev (SCase sform)

def tbl : Ev.Memo := [(8, [], .bool true)]
noncomputable def sums : Ev.Sums := Ev.memoSum tbl fun _ _ _ => none
/-- The law's run in a case. -/
noncomputable def run (c : SCase) (p q : Int) (h : c.Valid p q) : Bool :=
  Ev.isTrue (@Ev.evCall2 (Ev.sigOf c p q h) sums Tryd.prog 100000 60 3 [.float .f32 0, .float .f32 1] ⟨Ev.laidMem Tryd.prog (Rows.tableImpliedRow.laid.filter fun x => x.2.handleName?.isNone), 64, 0⟩)
noncomputable def awakes (c : SCase) (p q : Int) (h : c.Valid p q) : Bool :=
  tbl.all (@Ev.memoOne (Ev.sigOf c p q h) Tryd.prog Rows.tableImpliedRow.laid (fun _ _ _ => none) 100000 60)
theorem awake (c : SCase) (p q : Int) (h : c.Valid p q) : awakes c p q h = true := by kernel_rfl
/-- Its case answers true. -/
def Good (p q : Int) : Prop := ∃ (c : SCase) (h : c.Valid p q), run c p q h = true
theorem good {c : SCase} (r : ∀ p q h, run c p q h = true) {p q : Int} (h : c.Valid p q) : Good p q := ⟨c, h, r p q h⟩
section
variable {p q lp hp lq hq a b : Int}
theorem validN (h1 : lp ≤ p ∧ p ≤ hp) (h2 : lq ≤ q ∧ q ≤ hq) : SCase.Valid ⟨lp, hp, lq, hq, []⟩ p q :=
  ⟨h1.1, h1.2, h2.1, h2.2, fun f a b r hm => by cases hm⟩
theorem valid0 (h1 : lp ≤ p ∧ p ≤ hp) (h2 : lq ≤ q ∧ q ≤ hq) (hl : ¬ p.tdiv 32768 + a = q.tdiv 32768 + b) (hn : ¬ p = q) :
    SCase.Valid ⟨lp, hp, lq, hq, [(1, a, b, false), (0, 0, 0, false)]⟩ p q := by
  refine ⟨h1.1, h1.2, h2.1, h2.2, fun f x y r hm => ?_⟩
  simp only [List.mem_cons, Prod.mk.injEq, List.not_mem_nil, or_false] at hm
  rcases hm with ⟨rfl, rfl, rfl, rfl⟩ | ⟨rfl, rfl, rfl, rfl⟩
  · simpa [sform] using hl
  · simpa [sform] using hn
theorem valid1 (h1 : lp ≤ p ∧ p ≤ hp) (h2 : lq ≤ q ∧ q ≤ hq) (hl : p.tdiv 32768 + a = q.tdiv 32768 + b) (hm2 : ¬ p.tmod 32768 = q.tmod 32768) (hn : ¬ p = q) :
    SCase.Valid ⟨lp, hp, lq, hq, [(1, a, b, true), (2, 32768, 32768, false), (0, 0, 0, false)]⟩ p q := by
  refine ⟨h1.1, h1.2, h2.1, h2.2, fun f x y r hm => ?_⟩
  simp only [List.mem_cons, Prod.mk.injEq, List.not_mem_nil, or_false] at hm
  rcases hm with ⟨rfl, rfl, rfl, rfl⟩ | ⟨rfl, rfl, rfl, rfl⟩ | ⟨rfl, rfl, rfl, rfl⟩
  · simpa [sform] using hl
  · simp only [sform]; simp; omega
  · simpa [sform] using hn
theorem valid2 (h1 : lp ≤ p ∧ p ≤ hp) (h2 : lq ≤ q ∧ q ≤ hq) (he : p = q) :
    SCase.Valid ⟨lp, hp, lq, hq, [(1, a, a, true), (2, 32768, 32768, true), (0, 0, 0, true)]⟩ p q := by
  subst he
  refine ⟨h1.1, h1.2, h2.1, h2.2, fun f x y r hm => ?_⟩
  simp only [List.mem_cons, Prod.mk.injEq, List.not_mem_nil, or_false] at hm
  rcases hm with ⟨rfl, rfl, rfl, rfl⟩ | ⟨rfl, rfl, rfl, rfl⟩ | ⟨rfl, rfl, rfl, rfl⟩ <;> simp
end
end Go.Proofs.YtkecgbcfkbafpaaDoor.tableImplied
