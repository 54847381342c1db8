/-
  dovetailref00.SameInts: it tells whether two lists are the same.
-/
import Derived.WalkKit
import Derived.Outline
import Derived.BigQuiet
import Derived.Deep.QuietTactic
import Derived.Test.YtdidepaldppcjaaMem
namespace Go.Proofs.Ytdidepaldppcjaa
open Go.RowKit
def sameI (xs ys : List Int) : Bool := decide (xs = ys)
set_option maxRecDepth 100000 in
set_option maxHeartbeats 1000000 in
theorem same_any (va vb : Value) (xs ys : List Int) (w : World) (B : Nat) (ha : RowAt w B va (ints xs)) (hb : RowAt w B vb (ints ys)) (hx : xs.length ≤ maxLen) :
    Calls Try.prog 14 #[va, vb] w fun e w' => e = .returned (.bool (sameI xs ys)) ∧ ∃ n, w' = w.drewN n := by
  obtain ⟨A, c, rfl, hc, HA⟩ := ha.ints
  obtain ⟨A', c', rfl, hc', HB⟩ := hb.ints
  clear ha hb
  unfold maxLen at hx
  have HA := Lib.hid HA
  have HB := Lib.hid HB
  by_cases hl : xs.length = ys.length
  · have HL := Lib.hid hl
    have hlb : ((xs.length : Int) != (ys.length : Int)) = false := by simp; omega
    have hl1 : xs.length ≤ ys.length := by omega
    have hl2 : ys.length ≤ xs.length := by omega
    clear hl
    go_enter Try.func14, Try.ntmps14
    go_wp2_with fail
    go_loopw [5] (fun i wr => ∃ k n : Nat, k ≤ xs.length ∧ i = .int .i64 k ∧ Hid (∀ j, j < k → xs[j]? = ys[j]?) ∧ wr = w.drewN n) (fun i _ => xs.length - (intOf i).toNat)
    case atStart => exact ⟨0, 0, by omega, rfl, Lib.hid (by omega), rfl⟩
    case round =>
      obtain ⟨k, n, hk, rfl, HE, rfl⟩ := hrel
      by_cases hlt : k < xs.length
      · obtain ⟨b, o, rfl, _, HC⟩ := HA.out (by omega)
        obtain ⟨b', o', rfl, _, HC'⟩ := HB.out (by omega)
        have g1 := HC k hlt
        have g2 := HC' k (by omega)
        clear HC HC' HA HB
        go_wp2_with fail
        go_quiet (fail)
        by_cases hq : xs[k] = ys[k]
        · have hqb : (xs[k] != ys[k]) = false := by simp [hq]
          have HQ := Lib.hid hq
          clear hq
          go_wp2_with fail
          go_roundw
          case rel => exact ⟨k + 1, _, by omega, by go_num, Lib.hid (fun j hj => by
            rcases Nat.lt_or_ge j k with h | h
            · exact HE.out j h
            · obtain rfl : j = k := by omega
              rw [List.getElem?_eq_getElem hlt, List.getElem?_eq_getElem (by omega), HQ.out]), by first | rfl | rw [World.drewN_drewN]⟩
          case measure => simp [intOf]; omega
        · have hqb : (xs[k] != ys[k]) = true := by simp [hq]
          have HF := Lib.hid (show sameI xs ys = false from decide_eq_false (fun e => hq (by subst e; rfl)))
          clear hq
          go_wp2_with fail
          go_ret
          exact ⟨ret_bool HF.out.symm, _, by first | rfl | rw [World.drewN_drewN]⟩
      · have hk' : xs.length ≤ k := by omega
        go_wp2_with fail
        go_ret
        refine ⟨ret_bool (Eq.symm (decide_eq_true ?_)), n, rfl⟩
        apply List.ext_getElem?
        intro i
        by_cases hi : i < k
        · exact HE.out i hi
        · rw [List.getElem?_eq_none (by omega), List.getElem?_eq_none (by omega)]
  · have hlb : ((xs.length : Int) != (ys.length : Int)) = true := by simp; omega
    have hf := Lib.hid (show sameI xs ys = false from decide_eq_false (fun e => hl (by rw [e])))
    go_enter Try.func14, Try.ntmps14
    go_wp2_with fail
    go_ret
    exact ⟨ret_bool hf.out.symm, 0, rfl⟩
end Go.Proofs.Ytdidepaldppcjaa
