/-
  dovetailref03.Check and Points: what they return.
-/
import Derived.WalkKit
import Derived.Outline
import Derived.OwnWalk
import Derived.Maps.AppendAt
import Derived.Test.YtdidepaldppcjaaUtfRef
import Derived.Test.YtdidepaldppcjaaUtfPoints
import Derived.Test.YtdidepaldppcjaaMem
namespace Go.Proofs.Ytdidepaldppcjaa
open Go.RowKit
theorem badAt_bad {s : ByteArray} {k : Nat} (h : k < s.size) (h0 : wideF s k (byteD s k) = 0) : badAt (charsFrom s (s.size - k) k) = some k := by
  rw [charsFrom_bad h h0]; rfl
theorem badAt_good {s : ByteArray} {k n : Nat} (h : k < s.size) (h0 : wideF s k (byteD s k) = n) (hn : 0 < n) : badAt (charsFrom s (s.size - k) k) = badAt (charsFrom s (s.size - (k + n)) (k + n)) := by
  rw [charsFrom_good h h0 hn]; simp only [badAt]; rw [if_neg (by omega)]
set_option maxRecDepth 100000 in
set_option maxHeartbeats 1000000 in
theorem refcheck_any (s : ByteArray) (w : World) (hs : s.size < 9223372036854775800) :
    Calls Try.prog 11 #[.string s] w fun e w' => e = .returned (.int .i64 (checkV s)) ∧ ∃ n, w' = w.drewN n := by
  go_enter Try.func11, Try.ntmps11
  go_wp2_with fail
  go_loopw [3, 4] (fun x _ wr => ∃ k n : Nat, x = .int .i64 k ∧ k ≤ s.size ∧ Hid (badAt (chars s) = badAt (charsFrom s (s.size - k) k)) ∧ wr = w.drewN n) (fun i _ _ => s.size - (intOf i).toNat)
  case atStart => exact ⟨0, 0, rfl, by omega, Lib.hid (by simp [chars]), rfl⟩
  case round =>
    obtain ⟨k, m, rfl, hk, HP, rfl⟩ := hrel
    by_cases hlt : k < s.size
    · have hf : k + wideF s k (byteD s k) ≤ s.size := wideF_fits hlt
      obtain ⟨n, hn⟩ : ∃ n, wideF s k (byteD s k) = n := ⟨_, rfl⟩
      rw [hn] at hf
      have HN := Lib.hid hn
      clear hn
      by_cases h0 : n = 0
      · subst h0
        have HF := Lib.hid (show checkV s = k by rw [checkV, HP.out, badAt_bad hlt HN.out])
        go_wp2_with (with_reducible refine (one_any s k _ hs hlt).mono ?_; rintro e w' ⟨rfl, q, rfl⟩; rw [HN.out])
        go_ret
        exact ⟨ret_int HF.out.symm, _, rfl⟩
      · have hnb : ((n : Int) == 0) = false := by simp; omega
        have hpos : 0 < n := by omega
        have HQ := Lib.hid (HP.out.trans (badAt_good hlt HN.out hpos))
        clear h0
        go_wp2_with (with_reducible refine (one_any s k _ hs hlt).mono ?_; rintro e w' ⟨rfl, q, rfl⟩; rw [HN.out])
        go_roundw
        case rel => exact ⟨k + n, _, by go_num, by omega, HQ, rfl⟩
        case measure => simp [intOf]; omega
    · have HF := Lib.hid (show checkV s = -1 by rw [checkV, HP.out, charsFrom_end _ (by omega)]; rfl)
      go_wp2_with fail
      go_ret
      exact ⟨ret_int HF.out.symm, _, rfl⟩
theorem badAt_all {l : List (Nat × Int)} (h : badAt l = none) : ∀ p ∈ l, 0 ≤ p.2 := by
  induction l with
  | nil => intro p hp; cases hp
  | cons x r ih =>
    intro p hp
    simp only [badAt] at h
    split at h
    · cases h
    · rcases List.mem_cons.1 hp with rfl | hp
      · omega
      · exact ih h p hp
set_option maxRecDepth 100000 in
set_option maxHeartbeats 1000000 in
theorem refpoints_any (s : ByteArray) (hs : s.size ≤ 1099511627776) (w : World) : Calls Try.prog 13 #[.string s] w (PointsPost s w) := by
  obtain ⟨i0, hi, hz0, hz1, hz2⟩ := info_parts int_info
  have hcl := chars_len s
  cases hbad : badAt (chars s) with
  | some k =>
    have HB := Lib.hid hbad
    have HC := Lib.hid (show checkV s = (k : Nat) by rw [checkV, hbad])
    clear hbad
    go_enter Try.func13, Try.ntmps13
    go_wp2_with (with_reducible refine (refcheck_any s _ (by omega)).mono ?_; rintro e w' ⟨rfl, n, rfl⟩; rw [HC.out])
    go_ret3
    exact .inl ⟨k, HB.out, rfl, below_drewN (Below.refl _ _) _⟩
  | none =>
    have HB := Lib.hid hbad
    have HC := Lib.hid (show checkV s = -1 by rw [checkV, hbad])
    clear hbad
    go_enter Try.func13, Try.ntmps13
    go_wp2_with (with_reducible refine (refcheck_any s _ (by omega)).mono ?_; rintro e w' ⟨rfl, n, rfl⟩; rw [HC.out])
    go_loopw [6, 7, 8, 9] (fun v x _ _ wr => ∃ (k : Nat) (pre : List (Nat × Int)), x = .int .i64 k ∧ k ≤ s.size ∧ Hid (chars s = pre ++ charsFrom s (s.size - k) k) ∧ wr.ownsRow w.heap.size 3 1 v (ptsOf pre).length ((ptsOf pre).map (Value.int .i64)) ∧ Hid (v = .slice none 0 0 ↔ pre = []) ∧ Below w.heap.size w wr) (fun _ i _ _ _ => s.size - (intOf i).toNat)
    case atStart => exact ⟨0, [], rfl, by omega, Lib.hid (by simp [chars]), World.ownsRow_nil _ _ _ _, Lib.hid (by simp), below_drewN (Below.refl _ _) _⟩
    case round =>
      obtain ⟨k, pre, rfl, hk, HP, hown, HV, hB⟩ := hrel
      by_cases hlt : k < s.size
      · have hf : k + wideF s k (byteD s k) ≤ s.size := wideF_fits hlt
        have h0 : 0 < wideF s k (byteD s k) := by
          rcases Nat.eq_zero_or_pos (wideF s k (byteD s k)) with h | h
          · have := badAt_all HB.out (k, -1) (by rw [HP.out, charsFrom_bad hlt h]; simp)
            simp at this
          · exact h
        obtain ⟨m, hm⟩ : ∃ m, wideF s k (byteD s k) = m := ⟨_, rfl⟩
        rw [hm] at hf h0
        have HN := Lib.hid hm
        have HO := Lib.hid (show oneP s k = charPt s k m by unfold oneP; rw [hm, if_neg (by omega)])
        have HQ := Lib.hid (show chars s = (pre ++ [(k, (charPt s k m : Int))]) ++ charsFrom s (s.size - (k + m)) (k + m) by rw [HP.out, charsFrom_good hlt hm h0]; simp)
        clear hm
        have hpl : (ptsOf pre).length < s.size := by
          have := congrArg List.length HQ.out
          simp at this
          rw [ptsOf_len]; omega
        have hsz := hB.size
        go_wp2_with (first
          | (with_reducible refine (one_any s k _ (by omega) hlt).mono ?_; rintro e w' ⟨rfl, q, rfl⟩; rw [HN.out, HO.out])
          | (at_builtin; refine wpList_append_own _ rfl _ _ 25 rfl w.heap.size 3 i0 (.int .i64 0) 1 8 Try.underlying25 hi hz0 hz1 hz2 rfl (by decide) _ _ _ rfl ((own_drewN hown q).alloc _) ⟨wr.heap.size, 0, none⟩ 1 1 [.int .i64 (charPt s k m)] rfl rfl (cell_one_new _ _ _) (by simp [Value.oneCell']) (by unfold maxLen; omega) (by omega) (by simp; omega) ?_; intro v' w1 hown' hgrow _))
        go_roundw
        case rel =>
          obtain ⟨g', cap', rfl⟩ := ownsRow_succ hown'
          exact ⟨k + m, pre ++ [(k, (charPt s k m : Int))], by go_num, by omega, HQ, by simpa [ptsOf] using hown', Lib.hid (by simp), ((below_drewN hB q).alloc (by simp; omega) _).grown hgrow (by simp; omega) (fun j ej => row_ge hown ej)⟩
        case measure => simp [intOf]; omega
      · have HQ := Lib.hid (show chars s = pre by rw [HP.out, charsFrom_end _ (by omega), List.append_nil])
        go_wp2_with fail
        go_ret3
        exact .inr ⟨HB.out, _, rfl, by rw [HQ.out]; exact hown, by rw [HQ.out]; exact HV.out, hB⟩
end Go.Proofs.Ytdidepaldppcjaa
