/-
  The calls on the nil space, by our machine: all the ways.
-/
import Derived.Test.YtinonofhladkpaaGreatDoorJK0
import Derived.Test.YtinonofhladkpaaGreatDoorJK1
import Derived.Test.YtinonofhladkpaaGreatDoorJK2
import Derived.Test.YtinonofhladkpaaGreatDoorJK3
import Derived.Test.YtinonofhladkpaaGreatDoorJK4
import Derived.Test.YtinonofhladkpaaGreatDoorJK5
import Derived.Test.YtinonofhladkpaaGreatDoorJK6
import Derived.Test.YtinonofhladkpaaGreatDoorJK7
import Derived.Test.YtinonofhladkpaaGreatDoorJP
/-! The calls on the nil space, by our machine: all the ways. -/
namespace Go.Proofs.YtinonofhladkpaaGreatDoor.spaceNil
theorem good_all : ∀ b1 b2 b3 b4 b5 b6, good b1 b2 b3 b4 b5 b6 = true
  | false, false, false, false, false, false => good0_0
  | false, false, false, false, false, true => good0_1
  | false, false, false, false, true, false => good0_2
  | false, false, false, false, true, true => good0_3
  | false, false, false, true, false, false => good0_4
  | false, false, false, true, false, true => good0_5
  | false, false, false, true, true, false => good0_6
  | false, false, false, true, true, true => good0_7
  | false, false, true, false, false, false => good1_0
  | false, false, true, false, false, true => good1_1
  | false, false, true, false, true, false => good1_2
  | false, false, true, false, true, true => good1_3
  | false, false, true, true, false, false => good1_4
  | false, false, true, true, false, true => good1_5
  | false, false, true, true, true, false => good1_6
  | false, false, true, true, true, true => good1_7
  | false, true, false, false, false, false => good2_0
  | false, true, false, false, false, true => good2_1
  | false, true, false, false, true, false => good2_2
  | false, true, false, false, true, true => good2_3
  | false, true, false, true, false, false => good2_4
  | false, true, false, true, false, true => good2_5
  | false, true, false, true, true, false => good2_6
  | false, true, false, true, true, true => good2_7
  | false, true, true, false, false, false => good3_0
  | false, true, true, false, false, true => good3_1
  | false, true, true, false, true, false => good3_2
  | false, true, true, false, true, true => good3_3
  | false, true, true, true, false, false => good3_4
  | false, true, true, true, false, true => good3_5
  | false, true, true, true, true, false => good3_6
  | false, true, true, true, true, true => good3_7
  | true, false, false, false, false, false => good4_0
  | true, false, false, false, false, true => good4_1
  | true, false, false, false, true, false => good4_2
  | true, false, false, false, true, true => good4_3
  | true, false, false, true, false, false => good4_4
  | true, false, false, true, false, true => good4_5
  | true, false, false, true, true, false => good4_6
  | true, false, false, true, true, true => good4_7
  | true, false, true, false, false, false => good5_0
  | true, false, true, false, false, true => good5_1
  | true, false, true, false, true, false => good5_2
  | true, false, true, false, true, true => good5_3
  | true, false, true, true, false, false => good5_4
  | true, false, true, true, false, true => good5_5
  | true, false, true, true, true, false => good5_6
  | true, false, true, true, true, true => good5_7
  | true, true, false, false, false, false => good6_0
  | true, true, false, false, false, true => good6_1
  | true, true, false, false, true, false => good6_2
  | true, true, false, false, true, true => good6_3
  | true, true, false, true, false, false => good6_4
  | true, true, false, true, false, true => good6_5
  | true, true, false, true, true, false => good6_6
  | true, true, false, true, true, true => good6_7
  | true, true, true, false, false, false => good7_0
  | true, true, true, false, false, true => good7_1
  | true, true, true, false, true, false => good7_2
  | true, true, true, false, true, true => good7_3
  | true, true, true, true, false, false => good7_4
  | true, true, true, true, false, true => good7_5
  | true, true, true, true, true, false => good7_6
  | true, true, true, true, true, true => good7_7
end Go.Proofs.YtinonofhladkpaaGreatDoor.spaceNil

/-! The rest of the law's code answers: it returns true. -/
namespace Go.Proofs.YtinonofhladkpaaGreatDoor.spaceNil
open Go.RowKit Ev
set_option linter.unusedVariables false
theorem plain0 : Ev.plainB Tryz.prog = true := by kernel_rfl
theorem mixed0 : Tryz.prog.follows .mixedOrders = true := by kernel_rfl
theorem laid_hr {w : World} (h : laidMetH Tryz.prog Rows.spaceNilRow.laid w) : HR Tryz.prog w E0 base 64 w :=
  HR.laidH h (x := ("errors.errorType", Rows.laid_errors_errorType)) (List.mem_of_getElem? (i := 4) rfl) rfl rfl (name := [101, 114, 114, 111, 114]) rfl (by kernel_rfl) (by kernel_rfl) (by kernel_rfl) (by decide) (of_decide_eq_true (by kernel_rfl))
theorem undefs (E : Env) : ∀ n, VRL E (List.replicate n Go.undef) (List.replicate n Go.undef)
  | 0 => .nil
  | n + 1 => .cons (VR.undef E) (undefs E n)
def realTm (cs : List Value) (b : Nat) (n : Int) : List Value := .agg cs.toArray :: .pointer (some ⟨b, 0, none⟩) :: .bool false :: .bool true :: (List.replicate 20 Go.undef ++ .bool true :: .agg cs.toArray :: .int .i64 n :: .bool false :: List.replicate 162 Go.undef)
theorem opq_ok (E : Env) (kd : Int) (nm to tx ot : ByteArray) (p : PT) (pa : Option Addr) (pc : Nat) (q : PT) (qa : Option Addr) (qc : Nat) (ba : Option Addr) (bn bc : Nat) (st : Bool) (sx : ByteArray) (bk : Bool) (lm : Int) (la : Option Addr) (ln lc : Nat) :
    VRL E (opq p.yes p.bel q.yes q.bel st bk) (opCells kd nm to tx ot p pa pc q qa qc ba bn bc st sx bk lm la ln lc) := by
  unfold opq opCells
  repeat (first | exact VRL.nil | refine VRL.cons (by first | exact VR.opq _ rfl | exact VR.bool _) ?_)
set_option maxRecDepth 100000 in
theorem rest_true {w w2 : World} {b : Nat} {n : Int} {b1 b2 b3 b4 b5 b6 : Bool} {cs : List Value} (h : laidMetH Tryz.prog Rows.spaceNilRow.laid w) (hlen : cs.length = 23) (hcs : ∀ E, VRL E (opq b1 b2 b3 b4 b5 b6) cs) (hge : w.heap.size ≤ b) (hb : Below w.heap.size w w2) (hnew : w2.heap[b]? = some (.cells cs.toArray 33)) :
    rest.wp Tryz.prog (bodyPost Tryz.prog Tryz.f3 (TruePost w)) { tmps := (realTm cs b n).toArray, defers := [] } w2 := by
  have hor : OR Tryz.prog (E0.more 64 b none) 64 (.cells (T.leaf.fill 0 (opq b1 b2 b3 b4 b5 b6)) 23 33 false) (.cells cs.toArray 33) := by
    refine ⟨cs.toArray, ⟨_, _, fun _ => .inl rfl, fun _ => rfl, rfl⟩, by simp [sizeOk, Env.more, hlen], fun j v hj hv => ?_⟩
    rw [T.get_fill _ _ _ _ (by show 0 + 23 ≤ _; omega), if_pos ⟨Nat.zero_le _, by show j < 0 + 23; omega⟩] at hv
    obtain ⟨v', k1, k2⟩ := (hcs (E0.more 64 b none)).get hv
    exact ⟨v', by simpa using k1, k2⟩
  have hr := HR.newAt (laid_hr h) (by decide) hge hor hb hnew
  have hvr : VRL (E0.more 64 b none) (tmOf b1 b2 b3 b4 b5 b6) (realTm cs b n) :=
    .cons (.agg (hcs _)) (.cons (.ptr 0 (by simp [Env.more])) (.cons (.bool _) (.cons (.bool _) (VRL.append (undefs _ 20) (.cons (.bool _) (.cons (.agg (hcs _)) (.cons (.opq 30 rfl) (.cons (.bool _) (undefs _ 162)))))))))
  have har : AR (E0.more 64 b none) (T.leaf.fill 0 (tmOf b1 b2 b3 b4 b5 b6)) Tryz.f3.ntmps { tmps := (realTm cs b n).toArray, defers := [] } :=
    AR.full hr.glob hvr (by simp only [tmOf, List.length_cons, List.length_append, List.length_replicate]; kernel_rfl) (of_decide_eq_true (by kernel_rfl))
  exact rest_ok (Ev.plainly_of plain0) mixed0 (of_decide_eq_true (by kernel_rfl)) (fun _ _ _ _ _ h => by cases h) 100000 60 ⟨hr, Nat.zero_le _, har, .nil⟩ (good_all b1 b2 b3 b4 b5 b6)
end Go.Proofs.YtinonofhladkpaaGreatDoor.spaceNil

/-! The law of the nil space: its walk up to the calls on the nil space. -/
namespace Go.Proofs.YtinonofhladkpaaGreatDoor
open Go.RowKit Go.WideShapes Go.ChangeShapes Go.ChangeAt
set_option linter.unusedVariables false
theorem PRow.wide {w : World} {B B' : Nat} {l : List PT} {a : Option Addr} {s f : Nat} (h : PRow w (· < B) l a s f) (hB : B ≤ B') : PRow w (· < B') l a s f := fun i hi => by
  obtain ⟨b, o, a', c', e, hb, hc, hp⟩ := h i hi
  exact ⟨b, o, a', c', e, Nat.lt_of_lt_of_le hb hB, hc, hp.wide hB⟩
theorem wp_cut {P : Program} {c0 c1 X cC R : Code} {Q : Exit → Act → World → Prop} {a : Act} {w : World} (h : ∀ X' R', X' = X → R' = R → (c0.seq (c1.seq ((X'.seq cC).seq R'))).wp P Q a w) : (c0.seq (c1.seq ((X.seq cC).seq R))).wp P Q a w := h X R rfl rfl
set_option maxRecDepth 100000 in
set_option maxHeartbeats 1000000 in
theorem nil_walk (kd : Int) (nm to tx ot : ByteArray) (p : PT) (pa : Option Addr) (pc : Nat) (q : PT) (qa : Option Addr) (qc : Nat) (ba : Option Addr) (bc : Nat) (st : Bool) (sx : ByteArray) (bk : Bool) (lm : Int) (la : Option Addr) (lc : Nat) (bs ls : List PT) (w : World)
    (hp : PartAt w (· < w.heap.size) p (partCells p pa pc)) (hq : PartAt w (· < w.heap.size) q (partCells q qa qc)) (hb : PRow w (· < w.heap.size) bs ba 8 2) (hl : PRow w (· < w.heap.size) ls la 7 1) (hbl : bs.length ≤ maxLen) (hll : ls.length ≤ maxLen)
    (hup : ∀ w', Below w.heap.size w w' → Calls Tryz.prog 4 #[] w' (TruePost w')) (hlaid : laidMetH Tryz.prog Rows.spaceNilRow.laid w) :
    Calls Tryz.prog 3 #[.agg (opCells kd nm to tx ot p pa pc q qa qc ba bs.length bc st sx bk lm la ls.length lc).toArray] w (TruePost w) := by
  have HC0 := Lib.hid (new_cells w w.heap.size (opCells kd nm to tx ot p pa pc q qa qc ba bs.length bc st sx bk lm la ls.length lc) 33 rfl)
  have HB0 := Lib.hid ((Below.refl w.heap.size w).alloc (Nat.le_refl _) (.cells (opCells kd nm to tx ot p pa pc q qa qc ba bs.length bc st sx bk lm la ls.length lc).toArray 33))
  have HU := Lib.hid (hup _ HB0.out)
  clear hup
  unfold opCells at HC0 HB0 HU ⊢
  go_enter Tryz.func3, Tryz.ntmps3
  refine wp_cut fun X R hX hR => ?_
  go_wp2_with fail
  refine HU.out.mono ?_
  rintro e w1 ⟨rfl, hb1⟩
  have hz1 : w.heap.size + 1 ≤ w1.heap.size := by have := hb1.size; simpa using this
  have HB1 := Lib.hid (HB0.out.trans (hb1.mono (by simp)))
  have HC1 := Lib.hid (CellsAt.keep HC0.out fun p hp => hb1.cell (by simp; omega))
  have HS := Lib.hid (size_any kd nm to tx ot p pa pc q qa qc ba bc st sx bk lm la lc bs ls w1 ((hp.below HB1.out).wide (by omega)) ((hq.below HB1.out).wide (by omega)) ((hb.below HB1.out).wide (by omega)) ((hl.below HB1.out).wide (by omega)) hbl hll)
  clear hp hq hb hl HU HC0 HB0
  unfold opCells at HS
  go_wp2_with fail
  rw [hX]
  apply wp_region_lit
  refine wpList_plain rfl fun K hK => ?_
  refine wp_load_row (by kernel_rfl) (by kernel_rfl) rfl HC1.out ?_
  apply hK
  clear hK K
  go_wp2_with fail
  refine HS.out.mono ?_
  rintro e w2 ⟨n, rfl, hb2⟩
  have hx2 : w2.heap[w.heap.size]? = some (.cells (opCells kd nm to tx ot p pa pc q qa qc ba bs.length bc st sx bk lm la ls.length lc).toArray 33) := by
    rw [hb2.block _ (by omega), hb1.block _ (by simp)]
    exact World.alloc_heap_new w _
  have HB2 := Lib.hid (HB1.out.trans (hb2.mono (by omega)))
  have HC2 := Lib.hid (CellsAt.keep HC1.out fun p hp => hb2.cell (by omega))
  clear hb2 HB1 HC1 HS
  by_cases hn : 16777216 < n
  · go_wp2_with fail
    go_ret
    exact ⟨rfl, HB2.out⟩
  · have hd : decide (16777216 < n) = false := by simp [hn]
    go_wp2_with fail
    try simp only [hd]
    rw [show R = spaceNil.rest from hR]
    exact spaceNil.rest_true (b := w.heap.size) (n := n) (cs := opCells kd nm to tx ot p pa pc q qa qc ba bs.length bc st sx bk lm la ls.length lc) hlaid rfl (fun E => spaceNil.opq_ok E kd nm to tx ot p pa pc q qa qc ba bs.length bc st sx bk lm la ls.length lc) (Nat.le_refl _) HB2.out hx2
end Go.Proofs.YtinonofhladkpaaGreatDoor
