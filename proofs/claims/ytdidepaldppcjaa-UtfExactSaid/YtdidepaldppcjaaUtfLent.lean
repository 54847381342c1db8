/-
  UtfExact's lent and back: a list in memory of its own with two marks behind it, and whether it is as it was.
-/
import Derived.WalkKit
import Derived.Outline
import Derived.BigQuiet
import Derived.Deep.QuietTactic
import Derived.OwnWalk
import Derived.Laws.CopyOwn
import Derived.Test.YtdidepaldppcjaaUtfSame
import Derived.Test.YtdidepaldppcjaaUtfRefCP
import Derived.Test.YtdidepaldppcjaaKeeps
namespace Go.Proofs.Ytdidepaldppcjaa
open Go.RowKit
theorem full_heap {w : World} {base g n : Nat} {e : TypeId} {xs : List Value} (h : w.ownsRow base e 1 (.slice (some ⟨g, 0, none⟩) n n) n xs) : w.heap[g]? = some (.cells xs.toArray e (0, 0)) := by
  rcases h.2 with ⟨h', _⟩ | ⟨g', cap', cur, h', hb, hg, hnc, hcm, hcs, htake⟩
  · simp at h'
  · simp only [Value.slice.injEq, Option.some.injEq, Addr.mk.injEq, and_true, true_and] at h'
    obtain ⟨rfl, rfl⟩ := h'
    rw [hg, ← htake, List.take_of_length_le (by simp; omega)]
theorem heap_full {w : World} {base g : Nat} {e : TypeId} {xs : List Value} (h : w.heap[g]? = some (.cells xs.toArray e (0, 0))) (hb : base ≤ g) (hm : xs.length ≤ maxLen) : w.ownsRow base e 1 (.slice (some ⟨g, 0, none⟩) xs.length xs.length) xs.length xs :=
  ⟨by simp, .inr ⟨g, xs.length, xs.toArray, rfl, hb, h, Nat.le_refl _, hm, by simp, by simp⟩⟩
/-- What lent lays: the numbers, and two marks. -/
def marked (l : List Int) : List Value := ints l ++ [.int .i64 (-7), .int .i64 (-8)]
theorem marked_len (l : List Int) : (marked l).length = l.length + 2 := by simp [marked, ints_len]
/-- What stands there behind the copy, and behind both stores. -/
theorem lent_cells {w2 : World} {I : TypeId} {g n : Nat} {X : List Value} (hXl : X.length = n) (hn : n ≤ 1099511627776) (h2 : w2.heap[g]? = some (.cells (splice (List.replicate (n + 2) (Value.int .i64 0)) 0 X).toArray I (0, 0))) :
    w2.frozen? ⟨g, n, none⟩ = false ∧ w2.cell? ⟨g, n, none⟩ = some (.int .i64 0) ∧ (w2.setCell ⟨g, n, none⟩ (.int .i64 (-7))).frozen? ⟨g, n + 1, none⟩ = false ∧
    (w2.setCell ⟨g, n, none⟩ (.int .i64 (-7))).cell? ⟨g, n + 1, none⟩ = some (.int .i64 0) ∧
    ((w2.setCell ⟨g, n, none⟩ (.int .i64 (-7))).setCell ⟨g, n + 1, none⟩ (.int .i64 (-8))).heap[g]? = some (.cells (X ++ [Value.int .i64 (-7), Value.int .i64 (-8)]).toArray I (0, 0)) := by
  have hY : splice (List.replicate (n + 2) (Value.int .i64 0)) 0 X = X ++ [.int .i64 0, .int .i64 0] := by
    simp [splice, hXl]
  rw [hY] at h2
  have hown2 := heap_full (base := 0) h2 (Nat.zero_le _) (by simp; unfold maxLen; omega)
  have hl2 : (X ++ [Value.int .i64 0, .int .i64 0]).length = n + 2 := by simp [hXl]
  rw [hl2] at hown2
  have hc2 := hown2.cellAt n (by omega)
  rw [List.getElem?_append_right (by omega), hXl, Nat.sub_self, List.getElem?_cons_zero] at hc2
  have hown3 := (hown2.stored n (.int .i64 (-7))).1
  have hZ3 : (X ++ [Value.int .i64 0, .int .i64 0]).set n (.int .i64 (-7)) = X ++ [.int .i64 (-7), .int .i64 0] := by
    rw [List.set_append_right _ _ (by omega), hXl, Nat.sub_self]; rfl
  rw [hZ3] at hown3
  have hc3 := hown3.cellAt (n + 1) (by omega)
  rw [List.getElem?_append_right (by omega), hXl, show n + 1 - n = 1 by omega, List.getElem?_cons_succ, List.getElem?_cons_zero] at hc3
  have hown4 := (hown3.stored (n + 1) (.int .i64 (-8))).1
  have hZ4 : (X ++ [Value.int .i64 (-7), .int .i64 0]).set (n + 1) (.int .i64 (-8)) = X ++ [.int .i64 (-7), .int .i64 (-8)] := by
    rw [List.set_append_right _ _ (by omega), hXl, show n + 1 - n = 1 by omega]; rfl
  rw [hZ4] at hown4
  exact ⟨hown2.frozenAt n, hc2, hown3.frozenAt _, hc3, full_heap hown4⟩
theorem zeros_heap {w1 : World} {base g n : Nat} {I : TypeId} (h : w1.ownsRow base I 1 (.slice (some ⟨g, 0, none⟩) n n) n (madeCells (Value.int .i64 0).cells (n * 1)).toList) :
    w1.heap[g]? = some (.cells (List.replicate n (Value.int .i64 0)).toArray I (0, 0)) := by
  have := full_heap h
  rwa [show (madeCells (Value.int .i64 0).cells (n * 1)).toList = List.replicate n (.int .i64 0) from by rw [Nat.mul_one]; exact toList_madeCells_one _ _] at this
set_option maxRecDepth 100000 in
set_option maxHeartbeats 2000000 in
theorem lent_any (va : Value) (l : List Int) (w : World) (ha : RowAt w w.heap.size va (ints l)) (hl : l.length ≤ 1099511627776) :
    Calls Try.prog 15 #[va] w fun e w' => ∃ g, e = .returned (.slice (some ⟨g, 0, none⟩) l.length (l.length + 2)) ∧ w.heap.size ≤ g ∧ w'.heap[g]? = some (.cells (marked l).toArray 3 (0, 0)) ∧ Below w.heap.size w w' := by
  obtain ⟨i0, hi, hz0, hz1, hz2⟩ := info_parts int_info
  obtain ⟨A, c, rfl, hc, HA⟩ := ha.ints
  have HA := Lib.hid HA
  clear ha
  obtain ⟨X, hX⟩ : ∃ X, X = ints l := ⟨_, rfl⟩
  have HX := Lib.hid hX
  have hXl : X.length = l.length := by rw [hX, ints_len]
  clear hX
  go_enter Try.func15, Try.ntmps15
  go_wp2_with (first
    | (at_make; refine wpList_make_full _ rfl _ _ 25 rfl w.heap.size 3 i0 (.int .i64 0) 1 Try.underlying25 hi hz0 hz1 .i64 .i64 _ _ (l.length + 2) rfl rfl (by omega) (by omega) (by rw [hz2]; omega) (by unfold maxLen; omega) (Nat.le_refl _) ?_; intro w1 hown1 hgrow1)
    | (with_reducible refine wpList_copy_splice rfl _ _ 25 25 rfl 3 Try.underlying25 (by kernel_rfl) _ _ _ _ _ _ rfl rfl w.heap.size 0 (List.replicate (l.length + 2) (Value.int .i64 0)) 3 ?_ X ?_ ?_ ?_ ?_ w.heap.size w ?_ ?_ ?_))
  case refine_1 => exact zeros_heap hown1
  case refine_2 => rw [hXl]; simp; try omega
  case refine_3 =>
    intro hp
    obtain ⟨b, o, rfl, hb, hcell⟩ := HA.out (by omega)
    refine ⟨_, rfl, fun j v hv => ?_⟩
    have hj : j < l.length := by have := (List.getElem?_eq_some_iff.1 hv).1; omega
    rw [HX.out, ints_get hj] at hv
    injection hv with hv
    rw [Go.WideShapes.add_plain, ← hv]
    exact hgrow1.cell (hcell j hj) (by simp)
  case refine_4 => simp [hXl]
  case refine_5 => rw [HX.out]; intro v hv; simp [ints] at hv; obtain ⟨_, _, rfl⟩ := hv; rfl
  case refine_6 => exact ((Below.refl _ _).grown hgrow1 (Nat.le_refl _) (by simp))
  case refine_7 => exact (Nat.le_refl _)
  intro w2 hg2 hb2
  obtain ⟨hf2, hc2, hf3, hc3, hfull⟩ := lent_cells hXl hl hg2.out
  have hfull := Lib.hid hfull
  have hs2 := hb2.size
  clear hown1 hgrow1 hg2 HA
  go_wp2_with fail
  go_ret
  refine ⟨_, rfl, Nat.le_refl _, ?_, (hb2.setCell (Nat.le_refl _) _).setCell (Nat.le_refl _) _⟩
  rw [hfull.out, HX.out]; rfl
set_option maxRecDepth 100000 in
set_option maxHeartbeats 2000000 in
theorem back_any (va : Value) (l : List Int) (g : Nat) (w : World) (hg : w.heap[g]? = some (.cells (marked l).toArray 3 (0, 0))) (ha : RowAt w g va (ints l)) (hl : l.length ≤ 1099511627776) :
    Calls Try.prog 18 #[.slice (some ⟨g, 0, none⟩) l.length (l.length + 2), va] w fun e w' => e = .returned (.bool true) ∧ Below g w w' := by
  have hown := heap_full (base := g) hg (Nat.le_refl _) (by rw [marked_len]; unfold maxLen; omega)
  rw [marked_len] at hown
  have hc1 : w.cell? ⟨g, l.length, none⟩ = some (.int .i64 (-7)) := by
    rw [hown.cellAt l.length (by omega), marked, List.getElem?_append_right (by rw [ints_len]; omega), ints_len, Nat.sub_self]; rfl
  have hc2 : w.cell? ⟨g, l.length + 1, none⟩ = some (.int .i64 (-8)) := by
    rw [hown.cellAt (l.length + 1) (by omega), marked, List.getElem?_append_right (by rw [ints_len]; omega), ints_len, show l.length + 1 - l.length = 1 by omega]; rfl
  have hlt : g < w.heap.size := (Array.getElem?_eq_some_iff.1 hg).1
  have hx : RowAt w (g + 1) (.slice (some ⟨g, 0, none⟩) l.length (l.length + 2)) (ints l) :=
    ⟨_, _, by rw [ints_len], by rw [ints_len]; omega, fun hp => ⟨g, 0, rfl, by omega, fun i u hu => by
      have hi : i < (ints l).length := (List.getElem?_eq_some_iff.1 hu).1
      rw [Nat.zero_add, hown.cellAt i (by rw [ints_len] at hi; omega), marked, List.getElem?_append_left hi]
      exact hu⟩⟩
  obtain ⟨A, c, rfl, hc, _⟩ := ha.ints
  have HS := Lib.hid (same_any _ _ l l w (g + 1) hx (ha.more (Nat.le_succ g)) (by unfold maxLen; omega))
  have HOWN := Lib.hid hown
  clear hg ha hown hx
  go_enter Try.func18, Try.ntmps18
  go_wp2_with fail
  refine HS.out.mono ?_
  rintro e w' ⟨rfl, n, rfl⟩
  rw [show sameI l l = true from decide_eq_true rfl]
  go_wp2_with fail
  go_loopw [7] (fun i wr => ∃ (k : Nat) (xs : List Value), i = .int .i64 k ∧ k ≤ l.length + 2 ∧ Hid (wr.ownsRow g 3 1 (.slice (some ⟨g, 0, none⟩) (l.length + 2) (l.length + 2)) (l.length + 2) xs) ∧ Below g w wr) (fun i _ => l.length + 2 - (intOf i).toNat)
  case atStart => exact ⟨0, _, rfl, by omega, Lib.hid (own_drewN HOWN.out n), below_drewN (Below.refl _ _) n⟩
  case round =>
    obtain ⟨k, xs, rfl, hk, HO, hB⟩ := hrel
    by_cases hlt : k < l.length + 2
    · have hcell := HO.out.cellAt k (by omega)
      have hfz := HO.out.frozenAt k
      have hxl := HO.out.1
      rw [List.getElem?_eq_getElem (by omega)] at hcell
      have HN := Lib.hid (HO.out.stored k (.int .i64 65)).1
      clear HS HOWN hc1 hc2
      go_wp2_with fail
      go_roundw
      case rel => exact ⟨k + 1, _, by go_num, by omega, HN, hB.setCell (Nat.le_refl _) _⟩
      case measure => simp [intOf]; omega
    · clear HS HOWN hc1 hc2
      go_wp2_with fail
      go_ret
      exact ⟨rfl, hB⟩
end Go.Proofs.Ytdidepaldppcjaa
