/-
  ref00.Ints: a list in memory of its own; one more number behind it.
-/
import Derived.Test.YtcjllhdbepchnaaGreatDoorMY
import Derived.Deep.AppendLies
import Derived.Deep.RegionLaw
namespace Go.Proofs.YtcjllhdbepchnaaGreatDoor
open Go.RowKit Go.WideShapes
set_option linter.unusedVariables false
def pathVals (l : List Nat) : List Value := l.map fun n : Nat => .int .i64 (n : Int)
theorem pathVals_len (l : List Nat) : (pathVals l).length = l.length := List.length_map _
theorem pathVals_snoc (l : List Nat) (n : Nat) : pathVals (l ++ [n]) = pathVals l ++ [.int .i64 (n : Int)] := by simp [pathVals]
theorem int_info : (Tryz.prog.info? 3).map (fun i => (i.zero, i.size, i.bytes)) = some (some (.int .i64 0), 1, 8) := by kernel_rfl
theorem pathVals_take {l : List Nat} {k : Nat} (hk : k < l.length) : pathVals (l.take (k + 1)) = pathVals (l.take k) ++ [.int .i64 (l[k] : Int)] := by
  rw [List.take_succ_eq_append_getElem hk, pathVals_snoc]
theorem pathVals_at {l : List Nat} {k : Nat} (hk : k < l.length) : (pathVals l)[k]? = some (.int .i64 (l[k] : Int)) := by simp [pathVals, hk]
/-- A list of one's own comes back. -/
def OwnInts (l : List Nat) (w : World) (e : Ending) (w' : World) : Prop := ∃ v, e = .returned v ∧ Below w.heap.size w w' ∧ w'.ownsRow w.heap.size 3 1 v l.length (pathVals l)
set_option maxRecDepth 100000 in
set_option maxHeartbeats 1000000 in
theorem ints_any (l : List Nat) (v : Value) (w : World) (h : RowAt w w.heap.size v (pathVals l)) (hl : l.length ≤ 100000) : Calls Tryz.prog 86 #[v] w (OwnInts l w) := by
  obtain ⟨A, c, rfl, hc, hcell⟩ := h
  rw [pathVals_len] at hc hcell ⊢
  obtain ⟨i0, hi, hz0, hz1, hz2⟩ := info_parts int_info
  have HC := Lib.hid hcell
  have HB0 := Lib.hid (Below.refl w.heap.size w)
  clear hcell hc
  go_enter Tryz.func86, Tryz.ntmps86
  go_wp2_with fail
  go_loopw [3, 4] (fun t3 i wr => ∃ (k : Nat) (vt : Value), t3 = vt ∧ i = .int .i64 k ∧ k ≤ l.length ∧ Hid (Below w.heap.size w wr) ∧ Hid (wr.ownsRow w.heap.size 3 1 vt k (pathVals (l.take k)))) (fun _ i _ => l.length - (intOf i).toNat)
  case atStart => exact ⟨0, _, rfl, rfl, by omega, HB0, Lib.hid (World.ownsRow_nil _ _ _ _)⟩
  case round =>
    clear HB0
    obtain ⟨k, vt, hvt, rfl, hk, HB, HO⟩ := hrel
    replace hvt := hvt.symm
    subst hvt
    have hwz := HB.out.size
    by_cases hlt : k < l.length
    · obtain ⟨b, o, rfl, hb, hca⟩ := HC.out (by omega)
      have hck := (hca.keep (fun p hp => HB.out.cell (by omega)) : CellsAt wr b o (pathVals l)) k _ (pathVals_at hlt)
      clear hca
      go_wp2_with (at_builtin; refine wpList_append_own _ rfl _ _ 45 rfl w.heap.size 3 i0 (.int .i64 0) 1 8 Tryz.underlying45 hi hz0 hz1 hz2 rfl (by decide) _ _ _ rfl (HO.out.alloc _) ⟨wr.heap.size, 0, none⟩ 1 1 [.int .i64 (l[k] : Int)] rfl rfl (World.news_of_block (cs := #[.int .i64 (l[k] : Int)]) (t := 3) (fr := (0, 0)) (heap_alloc_new wr _)) (by simp [Value.oneCell']) (by unfold maxLen; omega) (by omega) (by simp; omega) ?_; intro v4 w4 hown4 hgrow4 hne4)
      have hgrow5 : (wr.alloc (Obj.cells #[.int .i64 (l[k] : Int)] 3)).grownBy w4 vt.ownBlock := hgrow4
      have HB' := Lib.hid ((HB.out.alloc hwz (Obj.cells #[.int .i64 (l[k] : Int)] 3)).grown hgrow5 (by simp; omega) (fun j ej => by have := row_ge HO.out ej; omega))
      rw [← pathVals_take hlt] at hown4
      have HO' := Lib.hid hown4
      clear hown4 hgrow4 hgrow5 hne4 hck
      go_wp2_with fail
      go_roundw
      case rel => exact ⟨k + 1, _, rfl, by go_num, by omega, HB', HO'⟩
      case measure => simp [intOf]; omega
    · obtain rfl : k = l.length := by omega
      have HE := Lib.hid (show wr.ownsRow w.heap.size 3 1 vt l.length (pathVals l) by have := HO.out; rw [List.take_length] at this; exact this)
      go_wp2_with fail
      go_ret
      exact ⟨_, rfl, HB.out, HE.out⟩
end Go.Proofs.YtcjllhdbepchnaaGreatDoor
