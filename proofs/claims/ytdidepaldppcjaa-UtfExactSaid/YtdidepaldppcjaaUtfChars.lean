/-
  utf.characters: the places and points that it tells, at every string.
-/
import Derived.RangeFuncNested
import Derived.RangeFuncBound
import Derived.RangeFuncCalls
import Derived.RangeFuncLeaves
import Derived.Shelf.Abstract
import Derived.Shelf.RegionOpen
import Derived.WalkKit
import Derived.OwnWalkIn
import Derived.TacticsInMore
import Derived.LoopNIn
import Derived.LoopIn
import Derived.Laws.BitsLemmas
import Derived.Test.YtdidepaldppcjaaUtfWide
namespace Go.Proofs.Ytdidepaldppcjaa
open Go.RowKit Go.Shelf
attribute [local go_sem] Oper.semAt_some

def byteD (s : ByteArray) (i : Nat) : Nat := if h : i < s.size then s[i].toNat else 0
theorem byteD_eq {s : ByteArray} {i : Nat} (h : i < s.size) : byteD s i = s[i].toNat := by simp [byteD, h]
theorem byteD_lt (s : ByteArray) (i : Nat) : byteD s i < 256 := by
  unfold byteD; split
  · exact UInt8.toNat_lt _
  · omega
def lead1 (n b : Nat) : Nat := if n ≤ 1 then b else if n = 2 then b % 32 else if n = 3 then b % 16 else b % 8
def ptTo (s : ByteArray) (k n b : Nat) : Nat → Nat
  | 0 => lead1 n b
  | j + 1 => ptTo s k n b j * 64 + byteD s (k + (j + 1)) % 64
def charPt (s : ByteArray) (k n : Nat) : Nat := ptTo s k n (byteD s k) (n - 1)
/-- The characters from a place on: places and points; where none stands, -1, and no more. -/
def charsFrom (s : ByteArray) : Nat → Nat → List (Nat × Int)
  | 0, _ => []
  | f + 1, k => if k < s.size then
      (if wideF s k (byteD s k) = 0 then [(k, -1)] else (k, (charPt s k (wideF s k (byteD s k)) : Int)) :: charsFrom s f (k + wideF s k (byteD s k)))
    else []
def chars (s : ByteArray) : List (Nat × Int) := charsFrom s s.size 0

theorem behindB_lt {s : ByteArray} {k lo hi : Nat} (h : behindB s k lo hi = true) : k < s.size := by
  unfold behindB at h; split at h
  · assumption
  · cases h
theorem wideF_le (s : ByteArray) (k b : Nat) : wideF s k b ≤ 4 := by
  have : wn b ≤ 4 := by unfold wn; repeat' split <;> first | omega | skip
  unfold wideF; split
  · omega
  · split <;> omega
theorem wideF_fits {s : ByteArray} {k b : Nat} (hk : k < s.size) : k + wideF s k b ≤ s.size := by
  have h4 : wn b ≤ 4 := by unfold wn; repeat' split <;> first | omega | skip
  unfold wideF; split
  · omega
  · split
    · rename_i h1 h2
      simp only [Bool.and_eq_true, Bool.or_eq_true, decide_eq_true_eq] at h2
      obtain ⟨⟨ha, hb⟩, hc⟩ := h2
      have := behindB_lt ha
      rcases hc with hc | hc
      · rcases hb with hb | hb
        · omega
        · have := behindB_lt hb; omega
      · have := behindB_lt hc; omega
    · omega
theorem charsFrom_enough (s : ByteArray) : ∀ (f g k : Nat), s.size - k ≤ f → s.size - k ≤ g → charsFrom s f k = charsFrom s g k := by
  intro f
  induction f with
  | zero =>
    intro g k h _
    cases g with
    | zero => rfl
    | succ g => simp [charsFrom, show ¬ k < s.size from by omega]
  | succ f ih =>
    intro g k h hg
    cases g with
    | zero => simp [charsFrom, show ¬ k < s.size from by omega]
    | succ g =>
      simp only [charsFrom]
      by_cases hk : k < s.size
      · simp only [hk, if_true]
        by_cases h0 : wideF s k (byteD s k) = 0
        · simp [h0]
        · simp only [h0, if_false]
          rw [ih g _ (by omega) (by omega)]
      · simp [hk]
theorem charsFrom_end {s : ByteArray} {k : Nat} (f : Nat) (h : s.size ≤ k) : charsFrom s f k = [] := by
  cases f with
  | zero => rfl
  | succ f => simp [charsFrom, show ¬ k < s.size from by omega]
theorem charsFrom_bad {s : ByteArray} {k : Nat} (h : k < s.size) (h0 : wideF s k (byteD s k) = 0) : charsFrom s (s.size - k) k = [(k, -1)] := by
  obtain ⟨m, hm⟩ : ∃ m, s.size - k = m + 1 := ⟨s.size - k - 1, by omega⟩
  rw [hm]; simp [charsFrom, h, h0]
theorem charsFrom_good {s : ByteArray} {k n : Nat} (h : k < s.size) (h0 : wideF s k (byteD s k) = n) (hn : 0 < n) :
    charsFrom s (s.size - k) k = (k, (charPt s k n : Int)) :: charsFrom s (s.size - (k + n)) (k + n) := by
  obtain ⟨m, hm⟩ : ∃ m, s.size - k = m + 1 := ⟨s.size - k - 1, by omega⟩
  rw [hm]; simp only [charsFrom, h, if_true, h0, show ¬ n = 0 from by omega, if_false]
  rw [charsFrom_enough s m (s.size - (k + n)) (k + n) (by omega) (by omega)]
theorem lead1_lt {n b : Nat} (hb : b < 256) : lead1 n b < 256 := by unfold lead1; repeat' split <;> first | omega | skip
theorem ptTo_lt (s : ByteArray) (k : Nat) {n b : Nat} (hb : b < 256) : ptTo s k n b 0 < 256 ∧ ptTo s k n b 1 < 16384 ∧ ptTo s k n b 2 < 1048576 ∧ ptTo s k n b 3 < 67108864 := by
  have h0 := lead1_lt (n := n) hb
  have e0 : ptTo s k n b 0 = lead1 n b := rfl
  have e1 : ptTo s k n b 1 = ptTo s k n b 0 * 64 + byteD s (k + 1) % 64 := rfl
  have e2 : ptTo s k n b 2 = ptTo s k n b 1 * 64 + byteD s (k + 2) % 64 := rfl
  have e3 : ptTo s k n b 3 = ptTo s k n b 2 * 64 + byteD s (k + 3) % 64 := rfl
  omega
theorem ptTo_le3 (s : ByteArray) (k : Nat) {n b j : Nat} (hb : b < 256) (hj : j ≤ 3) : ptTo s k n b j < 67108864 := by
  have := ptTo_lt s k (n := n) hb
  have hj' : j = 0 ∨ j = 1 ∨ j = 2 ∨ j = 3 := by omega
  rcases hj' with rfl | rfl | rfl | rfl <;> omega
theorem wrap64_small {n : Int} (h0 : 0 ≤ n) (h1 : n < 9223372036854775808) : wrap64 n = n := by unfold wrap64; omega
theorem i64_or6 {x y : Int} (hx0 : 0 ≤ x) (hx : x < 67108864) (h0 : 0 ≤ y) (h1 : y < 64) : bits .or .i64 (x * 64) y = x * 64 + y :=
  bits_join .i64 63 (by decide) (fun n h₀ h₁ => by rw [IntKind.wrap_i64]; omega) 6 (x * 64) y (by omega) (by omega) (by omega) h0 h1 (by omega)
theorem i64_mask {x : Int} (i : Nat) (hi : i ≤ 63) (h0 : 0 ≤ x) (h1 : x < 256) : bits .and .i64 x (2 ^ i - 1) = x % 2 ^ i :=
  bits_mask .i64 63 (by decide) (fun n h₀ h₁ => by rw [IntKind.wrap_i64]; omega) i hi x h0 (by omega)
theorem i64_and31 {x : Int} (h0 : 0 ≤ x) (h1 : x < 256) : bits .and .i64 x 31 = x % 32 := i64_mask 5 (by decide) h0 h1
theorem i64_and15 {x : Int} (h0 : 0 ≤ x) (h1 : x < 256) : bits .and .i64 x 15 = x % 16 := i64_mask 4 (by decide) h0 h1
theorem i64_and7 {x : Int} (h0 : 0 ≤ x) (h1 : x < 256) : bits .and .i64 x 7 = x % 8 := i64_mask 3 (by decide) h0 h1

set_option maxRecDepth 100000 in
set_option maxHeartbeats 4000000 in
theorem chars1_in (m : Nat) (hm : 1 ≤ m) (l Bs : Nat) (s : ByteArray) (hs : s.size < 9223372036854775800) (J Jx : List (Nat × Int) → World → Prop)
    (hY : ∀ pre x W, J pre W → pre.length < (chars s).length → YieldAt Fence.wide (m - 1) Try.prog l #[.int .i64 (x.1 : Int), .int .i64 x.2] W fun e W' =>
      (e = .returned (.bool true) ∧ J (pre ++ [x]) W' ∧ W'.cell? ⟨Bs, 0, none⟩ = W.cell? ⟨Bs, 0, none⟩) ∨ (e = .returned (.bool false) ∧ Jx (pre ++ [x]) W'))
    (W : World) (hBs : W.cell? ⟨Bs, 0, none⟩ = some (.string s)) (h0 : J [] W) :
    CallsIn Fence.wide m Try.prog 24 #[.func (.yield l) #[] #[], .pointer (some ⟨Bs, 0, none⟩)] W fun e W' => (∃ v, e = .returned v) ∧
      ((∃ ys, ys = chars s ∧ J ys W') ∨ (∃ pre, pre <+: chars s ∧ Jx pre W')) := by
  have hro : Fence.wide.round = none := rfl
  refine callsIn_of_wp Try.func24 rfl trivial ?_ hro
  simp only [Try.ntmps24, List.size_toArray, List.length_cons, List.length_nil, Nat.reduceAdd, Nat.reduceSub, Array.replicate_succ, Array.replicate_zero, List.push_toArray, List.append_toArray, List.nil_append, List.cons_append]
  gi_wp2
  gi_loopw [3, 4, 5, 6] (fun x _ _ _ wr => ∃ (k : Nat) (pre : List (Nat × Int)), x = .int .i64 k ∧ k ≤ s.size ∧ Hid (chars s = pre ++ charsFrom s (s.size - k) k) ∧ J pre wr ∧ wr.cell? ⟨Bs, 0, none⟩ = some (.string s)) (fun i _ _ _ _ => s.size - (intOf i).toNat)
  case atStart => exact ⟨0, [], rfl, Nat.zero_le _, Lib.hid (by simp [chars]), h0, hBs⟩
  case round =>
    obtain ⟨k, pre, rfl, hk, HP, hJ, hc⟩ := hrel
    by_cases hlt : k < s.size
    · have HB := Lib.hid (byteD_eq hlt)
      have hb0 : s[k].toNat < 256 := UInt8.toNat_lt _
      have hf : k + wideF s k s[k].toNat ≤ s.size := wideF_fits hlt
      have hw4 : wideF s k s[k].toNat ≤ 4 := wideF_le _ _ _
      obtain ⟨n, hn⟩ : ∃ n, wideF s k s[k].toNat = n := ⟨_, rfl⟩
      rw [hn] at hf hw4
      have HN := Lib.hid hn
      clear hn
      have HC : n = 0 ∨ n = 1 ∨ n = 2 ∨ n = 3 ∨ n = 4 := by omega
      rcases HC with rfl | rfl | rfl | rfl | rfl
      · have hfrom : chars s = pre ++ [(k, -1)] := by rw [HP.out, charsFrom_bad hlt (by rw [HB.out]; exact HN.out)]
        have hlen : pre.length < (chars s).length := by rw [hfrom]; simp
        have HF := Lib.hid hfrom
        clear hfrom
        obtain ⟨fn, tmps, assign, body, hy, hR⟩ := hY pre (k, -1) wr hJ hlen
        dsimp only at hy hR
        have HR := Lib.hid hR
        clear hR
        gi_wp2_with (refine ⟨trivial, ?_⟩; gi_at_call 25; refine (callsIn_wide.2 (wide_any s k _ hs hlt)).mono ?_; rintro e w' ⟨rfl, rfl⟩; rw [HN.out])
        refine HR.out.mono ?_
        rintro e W3 (⟨rfl, hJ3, hk3⟩ | ⟨rfl, hJx3⟩)
        · gi_wp2
          refine bodyPost_ret (results_none rfl _ _ _) rfl ?_
          exact ⟨⟨_, rfl⟩, .inl ⟨_, HF.out.symm, hJ3⟩⟩
        · gi_wp2
          refine bodyPost_ret (results_none rfl _ _ _) rfl ?_
          exact ⟨⟨_, rfl⟩, .inr ⟨_, by rw [HF.out]; exact List.prefix_refl _, hJx3⟩⟩
      · have hfrom : chars s = pre ++ (k, (ptTo s k 1 s[k].toNat 0 : Int)) :: charsFrom s (s.size - (k + 1)) (k + 1) := by rw [HP.out, charsFrom_good (n := 1) hlt (by rw [HB.out]; exact HN.out) (by omega), charPt, HB.out]
        have hlen : pre.length < (chars s).length := by rw [hfrom]; simp
        have HF := Lib.hid hfrom
        clear hfrom
        obtain ⟨fn, tmps, assign, body, hy, hR⟩ := hY pre (k, (ptTo s k 1 s[k].toNat 0 : Int)) wr hJ hlen
        dsimp only at hy hR
        have HR := Lib.hid hR
        clear hR
        gi_wp2_with (refine ⟨trivial, ?_⟩; gi_at_call 25; refine (callsIn_wide.2 (wide_any s k _ hs hlt)).mono ?_; rintro e w' ⟨rfl, rfl⟩; rw [HN.out])
        gi_loopw [5, 6] (fun p i wr' => ∃ j : Nat, 1 ≤ j ∧ j ≤ 1 ∧ i = .int .i64 j ∧ p = .int .i64 (ptTo s k 1 s[k].toNat (j - 1)) ∧ wr' = wr) (fun _ i _ => 9 - (intOf i).toNat)
        case atStart => exact ⟨1, by omega, by omega, rfl, by simp [ptTo, lead1], rfl⟩
        case round =>
          obtain ⟨j, hj1, hj, rfl, rfl, rfl⟩ := hrel
          by_cases hjn : j < 1
          · omega
          · obtain rfl : j = 1 := by omega
            have hy' := hy
            clear hj1 hj hjn
            gi_wp2
            refine HR.out.mono ?_
            rintro e W3 (⟨rfl, hJ3, hk3⟩ | ⟨rfl, hJx3⟩)
            · gi_wp2
              go_roundw
              case rel => exact ⟨k + 1, pre ++ [(k, (ptTo s k 1 s[k].toNat 0 : Int))], by go_num, by omega, Lib.hid (by rw [HF.out]; simp), hJ3, hk3.trans hc⟩
              case measure => simp [intOf]; omega
            · gi_wp2
              refine bodyPost_ret (results_none rfl _ _ _) rfl ?_
              exact ⟨⟨_, rfl⟩, .inr ⟨_, ⟨charsFrom s (s.size - (k + 1)) (k + 1), by rw [HF.out]; simp⟩, hJx3⟩⟩
      · have hfrom : chars s = pre ++ (k, (ptTo s k 2 s[k].toNat 1 : Int)) :: charsFrom s (s.size - (k + 2)) (k + 2) := by rw [HP.out, charsFrom_good (n := 2) hlt (by rw [HB.out]; exact HN.out) (by omega), charPt, HB.out]
        have hlen : pre.length < (chars s).length := by rw [hfrom]; simp
        have HF := Lib.hid hfrom
        clear hfrom
        obtain ⟨fn, tmps, assign, body, hy, hR⟩ := hY pre (k, (ptTo s k 2 s[k].toNat 1 : Int)) wr hJ hlen
        dsimp only at hy hR
        have HR := Lib.hid hR
        clear hR
        gi_wp2_with (refine ⟨trivial, ?_⟩; gi_at_call 25; refine (callsIn_wide.2 (wide_any s k _ hs hlt)).mono ?_; rintro e w' ⟨rfl, rfl⟩; rw [HN.out])
        gi_loopw [5, 6] (fun p i wr' => ∃ j : Nat, 1 ≤ j ∧ j ≤ 2 ∧ i = .int .i64 j ∧ p = .int .i64 (ptTo s k 2 s[k].toNat (j - 1)) ∧ wr' = wr) (fun _ i _ => 9 - (intOf i).toNat)
        case atStart => exact ⟨1, by omega, by omega, rfl, by rw [i64_and31 (by omega) (by omega)]; simp [ptTo, lead1], rfl⟩
        case round =>
          obtain ⟨j, hj1, hj, rfl, rfl, rfl⟩ := hrel
          by_cases hjn : j < 2
          · have hk2 : k + j < s.size := by omega
            have hp := ptTo_le3 s k (n := 2) hb0 (show j - 1 ≤ 3 by omega)
            have hb2 : s[k + j].toNat < 256 := UInt8.toNat_lt _
            gi_wp2
            go_roundw
            case rel =>
              refine ⟨j + 1, by omega, by omega, by go_num, ?_, trivial⟩
              rw [i64_or6 (by omega) (by omega) (by omega) (by omega)]
              obtain ⟨i, rfl⟩ : ∃ i, j = i + 1 := ⟨j - 1, by omega⟩
              have hpt : ptTo s k 2 s[k].toNat (i + 1 + 1 - 1) = ptTo s k 2 s[k].toNat i * 64 + byteD s (k + (i + 1)) % 64 := rfl
              rw [hpt, byteD_eq hk2]
              simp
            case measure => simp [intOf]; omega
          · obtain rfl : j = 2 := by omega
            have hy' := hy
            clear hj1 hj hjn
            gi_wp2
            refine HR.out.mono ?_
            rintro e W3 (⟨rfl, hJ3, hk3⟩ | ⟨rfl, hJx3⟩)
            · gi_wp2
              go_roundw
              case rel => exact ⟨k + 2, pre ++ [(k, (ptTo s k 2 s[k].toNat 1 : Int))], by go_num, by omega, Lib.hid (by rw [HF.out]; simp), hJ3, hk3.trans hc⟩
              case measure => simp [intOf]; omega
            · gi_wp2
              refine bodyPost_ret (results_none rfl _ _ _) rfl ?_
              exact ⟨⟨_, rfl⟩, .inr ⟨_, ⟨charsFrom s (s.size - (k + 2)) (k + 2), by rw [HF.out]; simp⟩, hJx3⟩⟩
      · have hfrom : chars s = pre ++ (k, (ptTo s k 3 s[k].toNat 2 : Int)) :: charsFrom s (s.size - (k + 3)) (k + 3) := by rw [HP.out, charsFrom_good (n := 3) hlt (by rw [HB.out]; exact HN.out) (by omega), charPt, HB.out]
        have hlen : pre.length < (chars s).length := by rw [hfrom]; simp
        have HF := Lib.hid hfrom
        clear hfrom
        obtain ⟨fn, tmps, assign, body, hy, hR⟩ := hY pre (k, (ptTo s k 3 s[k].toNat 2 : Int)) wr hJ hlen
        dsimp only at hy hR
        have HR := Lib.hid hR
        clear hR
        gi_wp2_with (refine ⟨trivial, ?_⟩; gi_at_call 25; refine (callsIn_wide.2 (wide_any s k _ hs hlt)).mono ?_; rintro e w' ⟨rfl, rfl⟩; rw [HN.out])
        gi_loopw [5, 6] (fun p i wr' => ∃ j : Nat, 1 ≤ j ∧ j ≤ 3 ∧ i = .int .i64 j ∧ p = .int .i64 (ptTo s k 3 s[k].toNat (j - 1)) ∧ wr' = wr) (fun _ i _ => 9 - (intOf i).toNat)
        case atStart => exact ⟨1, by omega, by omega, rfl, by rw [i64_and15 (by omega) (by omega)]; simp [ptTo, lead1], rfl⟩
        case round =>
          obtain ⟨j, hj1, hj, rfl, rfl, rfl⟩ := hrel
          by_cases hjn : j < 3
          · have hk2 : k + j < s.size := by omega
            have hp := ptTo_le3 s k (n := 3) hb0 (show j - 1 ≤ 3 by omega)
            have hb2 : s[k + j].toNat < 256 := UInt8.toNat_lt _
            gi_wp2
            go_roundw
            case rel =>
              refine ⟨j + 1, by omega, by omega, by go_num, ?_, trivial⟩
              rw [i64_or6 (by omega) (by omega) (by omega) (by omega)]
              obtain ⟨i, rfl⟩ : ∃ i, j = i + 1 := ⟨j - 1, by omega⟩
              have hpt : ptTo s k 3 s[k].toNat (i + 1 + 1 - 1) = ptTo s k 3 s[k].toNat i * 64 + byteD s (k + (i + 1)) % 64 := rfl
              rw [hpt, byteD_eq hk2]
              simp
            case measure => simp [intOf]; omega
          · obtain rfl : j = 3 := by omega
            have hy' := hy
            clear hj1 hj hjn
            gi_wp2
            refine HR.out.mono ?_
            rintro e W3 (⟨rfl, hJ3, hk3⟩ | ⟨rfl, hJx3⟩)
            · gi_wp2
              go_roundw
              case rel => exact ⟨k + 3, pre ++ [(k, (ptTo s k 3 s[k].toNat 2 : Int))], by go_num, by omega, Lib.hid (by rw [HF.out]; simp), hJ3, hk3.trans hc⟩
              case measure => simp [intOf]; omega
            · gi_wp2
              refine bodyPost_ret (results_none rfl _ _ _) rfl ?_
              exact ⟨⟨_, rfl⟩, .inr ⟨_, ⟨charsFrom s (s.size - (k + 3)) (k + 3), by rw [HF.out]; simp⟩, hJx3⟩⟩
      · have hfrom : chars s = pre ++ (k, (ptTo s k 4 s[k].toNat 3 : Int)) :: charsFrom s (s.size - (k + 4)) (k + 4) := by rw [HP.out, charsFrom_good (n := 4) hlt (by rw [HB.out]; exact HN.out) (by omega), charPt, HB.out]
        have hlen : pre.length < (chars s).length := by rw [hfrom]; simp
        have HF := Lib.hid hfrom
        clear hfrom
        obtain ⟨fn, tmps, assign, body, hy, hR⟩ := hY pre (k, (ptTo s k 4 s[k].toNat 3 : Int)) wr hJ hlen
        dsimp only at hy hR
        have HR := Lib.hid hR
        clear hR
        gi_wp2_with (refine ⟨trivial, ?_⟩; gi_at_call 25; refine (callsIn_wide.2 (wide_any s k _ hs hlt)).mono ?_; rintro e w' ⟨rfl, rfl⟩; rw [HN.out])
        gi_loopw [5, 6] (fun p i wr' => ∃ j : Nat, 1 ≤ j ∧ j ≤ 4 ∧ i = .int .i64 j ∧ p = .int .i64 (ptTo s k 4 s[k].toNat (j - 1)) ∧ wr' = wr) (fun _ i _ => 9 - (intOf i).toNat)
        case atStart => exact ⟨1, by omega, by omega, rfl, by rw [i64_and7 (by omega) (by omega)]; simp [ptTo, lead1], rfl⟩
        case round =>
          obtain ⟨j, hj1, hj, rfl, rfl, rfl⟩ := hrel
          by_cases hjn : j < 4
          · have hk2 : k + j < s.size := by omega
            have hp := ptTo_le3 s k (n := 4) hb0 (show j - 1 ≤ 3 by omega)
            have hb2 : s[k + j].toNat < 256 := UInt8.toNat_lt _
            gi_wp2
            go_roundw
            case rel =>
              refine ⟨j + 1, by omega, by omega, by go_num, ?_, trivial⟩
              rw [i64_or6 (by omega) (by omega) (by omega) (by omega)]
              obtain ⟨i, rfl⟩ : ∃ i, j = i + 1 := ⟨j - 1, by omega⟩
              have hpt : ptTo s k 4 s[k].toNat (i + 1 + 1 - 1) = ptTo s k 4 s[k].toNat i * 64 + byteD s (k + (i + 1)) % 64 := rfl
              rw [hpt, byteD_eq hk2]
              simp
            case measure => simp [intOf]; omega
          · obtain rfl : j = 4 := by omega
            have hy' := hy
            clear hj1 hj hjn
            gi_wp2
            refine HR.out.mono ?_
            rintro e W3 (⟨rfl, hJ3, hk3⟩ | ⟨rfl, hJx3⟩)
            · gi_wp2
              go_roundw
              case rel => exact ⟨k + 4, pre ++ [(k, (ptTo s k 4 s[k].toNat 3 : Int))], by go_num, by omega, Lib.hid (by rw [HF.out]; simp), hJ3, hk3.trans hc⟩
              case measure => simp [intOf]; omega
            · gi_wp2
              refine bodyPost_ret (results_none rfl _ _ _) rfl ?_
              exact ⟨⟨_, rfl⟩, .inr ⟨_, ⟨charsFrom s (s.size - (k + 4)) (k + 4), by rw [HF.out]; simp⟩, hJx3⟩⟩
    · obtain rfl : k = s.size := by omega
      gi_wp2
      go_end0
      exact ⟨⟨_, rfl⟩, .inl ⟨_, by rw [HP.out, charsFrom_end _ (Nat.le_refl _), List.append_nil], hJ⟩⟩
end Go.Proofs.Ytdidepaldppcjaa
