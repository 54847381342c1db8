/-
  utf.Text: what it returns, at every list of at most 2^40 numbers.
-/
import Derived.WalkKit
import Derived.Outline
import Derived.OwnWalk
import Derived.Laws.BitsLemmas
import Derived.Test.YtdidepaldppcjaaUtfPoints
import Derived.Test.YtdidepaldppcjaaBytes
namespace Go.Proofs.Ytdidepaldppcjaa
open Go.RowKit
/-- Is it a point? -/
def isPt (p : Int) : Bool := decide (0 ≤ p) && decide (p ≤ 1114111) && !(decide (55296 ≤ p) && decide (p ≤ 57343))
/-- The bytes of a point. -/
def charB (p : Nat) : List Nat :=
  if p < 0x80 then [p] else if p < 0x800 then [192 + p / 64, 128 + p % 64] else if p < 0x10000 then [224 + p / 4096, 128 + p / 64 % 64, 128 + p % 64]
  else [240 + p / 262144, 128 + p / 4096 % 64, 128 + p / 64 % 64, 128 + p % 64]
def textB (l : List Int) : List Nat := l.flatMap fun p => charB p.toNat
/-- The place of the first that is no point. -/
def badPt : List Int → Option Nat
  | [] => none
  | p :: r => if isPt p then (badPt r).map (· + 1) else some 0
theorem badPt_take {l : List Int} {k : Nat} (hk : k < l.length) (hall : ∀ j (h : j < l.length), j < k → isPt l[j] = true) (hb : isPt l[k] = false) : badPt l = some k := by
  induction l generalizing k with
  | nil => simp at hk
  | cons p r ih =>
    cases k with
    | zero => simp only [List.getElem_cons_zero] at hb; simp [badPt, hb]
    | succ k =>
      have h0 := hall 0 (by simp) (by omega)
      simp only [List.getElem_cons_zero] at h0
      simp only [List.getElem_cons_succ] at hb
      have := ih (k := k) (by simpa using hk) (fun j h hj => by have := hall (j + 1) (by simpa using h) (by omega); simpa using this) hb
      simp [badPt, h0, this]
theorem badPt_none {l : List Int} (hall : ∀ j (h : j < l.length), isPt l[j] = true) : badPt l = none := by
  induction l with
  | nil => rfl
  | cons p r ih =>
    have h0 := hall 0 (by simp)
    simp only [List.getElem_cons_zero] at h0
    simp [badPt, h0, ih fun j h => by have := hall (j + 1) (by simpa using h); simpa using this]
theorem charB_len (p : Nat) : (charB p).length ≤ 4 := by
  unfold charB; split
  · simp
  · split
    · simp
    · split <;> simp
theorem textB_len (l : List Int) : (textB l).length ≤ 4 * l.length := by
  induction l with
  | nil => simp [textB]
  | cons p r ih =>
    have := charB_len p.toNat
    simp only [textB, List.flatMap_cons, List.length_append, List.length_cons] at ih ⊢; omega
theorem textB_snoc {l : List Int} {k : Nat} (h : k < l.length) : textB (l.take (k + 1)) = textB (l.take k) ++ charB l[k].toNat := by
  rw [List.take_succ_eq_append_getElem h]; simp only [textB, List.flatMap_append, List.flatMap_cons, List.flatMap_nil, List.append_nil]
/-- The answer of utf.Text. -/
def TextPost (l : List Int) (w : World) (e : Ending) (W' : World) : Prop :=
  Below w.heap.size w W' ∧
  ((∃ k, badPt l = some k ∧ e = .returned (.tuple #[.string ⟨#[]⟩, .int .i64 30, .int .i64 (k : Nat)])) ∨
   (badPt l = none ∧ e = .returned (.tuple #[.string (strOf (textB l)), .int .i64 0, .int .i64 0])))
theorem text_len_le (l : List Int) {k : Nat} : (textB (l.take k)).length ≤ 4 * l.length := by
  have := textB_len (l.take k); have : (l.take k).length ≤ l.length := by rw [List.length_take]; omega
  omega
theorem i64_and63 {x : Int} (h0 : 0 ≤ x) (h1 : x < 2097152) : bits .and .i64 x 63 = x % 64 :=
  bits_mask .i64 63 (by decide) (fun n h₀ h₁ => by rw [IntKind.wrap_i64]; omega) 6 (by decide) x h0 (by omega)
theorem or128 {x : Int} (h0 : 0 ≤ x) (h1 : x < 2097152) : bits .or .u8 128 (bits .and .i64 x 63 % 256) = 128 + x % 64 := by
  rw [i64_and63 h0 h1, Int.emod_eq_of_lt (a := x % 64) (by omega) (by omega), u8_or128 _ (by omega) (by omega)]
theorem charB_1 {p : Nat} (h : p < 128) : charB p = [p] := by simp [charB, h]
theorem charB_2 {p : Nat} (h : 128 ≤ p) (h2 : p < 2048) : charB p = [192 + p / 64, 128 + p % 64] := by
  unfold charB; rw [if_neg (by omega), if_pos h2]
theorem charB_3 {p : Nat} (h : 2048 ≤ p) (h2 : p < 65536) : charB p = [224 + p / 4096, 128 + p / 64 % 64, 128 + p % 64] := by
  unfold charB; rw [if_neg (by omega), if_neg (by omega), if_pos h2]
theorem charB_4 {p : Nat} (h : 65536 ≤ p) : charB p = [240 + p / 262144, 128 + p / 4096 % 64, 128 + p / 64 % 64, 128 + p % 64] := by
  unfold charB; rw [if_neg (by omega), if_neg (by omega), if_neg (by omega)]
set_option maxRecDepth 100000 in
set_option maxHeartbeats 4000000 in
theorem text_any (va : Value) (xs : List Int) (w : World) (ha : RowAt w w.heap.size va (ints xs)) (hx : xs.length ≤ 1099511627776) :
    Calls Try.prog 16 #[va] w (TextPost xs w) := by
  obtain ⟨A, c, rfl, hc, HA⟩ := ha.ints
  clear ha
  have HA := Lib.hid HA
  obtain ⟨i0, hi, hz0, hz1, hz2⟩ := info_parts u8_info
  go_enter Try.func16, Try.ntmps16
  go_wp2_with fail
  go_loopw [5, 6, 7, 10] (fun v _ _ i wr => ∃ k : Nat, k ≤ xs.length ∧ i = .int .i64 k ∧ Hid (∀ j (h : j < xs.length), j < k → isPt xs[j] = true) ∧
      wr.ownsRow w.heap.size 5 1 v (textB (xs.take k)).length (u8s (textB (xs.take k))) ∧ Below w.heap.size w wr) (fun _ _ _ i _ => xs.length - (intOf i).toNat)
  case atStart => exact ⟨0, by omega, rfl, Lib.hid (by omega), World.ownsRow_nil _ _ _ _, Below.refl _ _⟩
  case round =>
    obtain ⟨k, hk, rfl, HP, hown, hB⟩ := hrel
    by_cases hlt : k < xs.length
    · obtain ⟨b, o, rfl, hbl, HC⟩ := HA.out (by omega)
      have g1 : wr.cell? ⟨b, o + k, none⟩ = some (.int .i64 xs[k]) := (hB.cell (p := ⟨b, o + k, none⟩) hbl).trans (HC k hlt)
      clear HC
      have hsz := hB.size
      have htl := text_len_le xs (k := k)
      have HTS := Lib.hid (textB_snoc hlt)
      by_cases hpt : isPt xs[k] = true
      · have HP' := Lib.hid (show ∀ j (h : j < xs.length), j < k + 1 → isPt xs[j] = true from fun j h hj => by
          rcases Nat.lt_or_ge j k with h1 | h1
          · exact HP.out j h h1
          · obtain rfl : j = k := by omega
            exact hpt)
        simp only [isPt, Bool.and_eq_true, decide_eq_true_eq, Bool.not_eq_true', Bool.and_eq_false_iff, decide_eq_false_iff_not] at hpt
        obtain ⟨p, hp⟩ := Int.eq_ofNat_of_zero_le (a := xs[k]) (by omega)
        rw [hp] at hpt g1
        have HX := Lib.hid hp
        clear hp
        have hb1 : p ≤ 1114111 := by omega
        have hb2 : p < 55296 ∨ 57343 < p := by omega
        clear hpt
        have HC : p < 128 ∨ (128 ≤ p ∧ p < 2048) ∨ (2048 ≤ p ∧ p < 55296) ∨ (57343 < p ∧ p < 65536) ∨ 65536 ≤ p := by omega
        clear hb2
        rcases HC with h | ⟨h, h'⟩ | ⟨h, h'⟩ | ⟨h, h'⟩ | h
        · have tneg : decide ((p : Int) < 0) = false := decide_eq_false (by omega)
          have tbig : decide (1114111 < (p : Int)) = false := decide_eq_false (by omega)
          have tlo : decide (55296 ≤ (p : Int)) = false := decide_eq_false (by omega)
          have thi : decide ((p : Int) ≤ 57343) = true := decide_eq_true (by omega)
          have ta : decide ((p : Int) < 128) = true := decide_eq_true (by omega)
          have tb : decide ((p : Int) < 2048) = true := decide_eq_true (by omega)
          have tc : decide ((p : Int) < 65536) = true := decide_eq_true (by omega)
          have HB := Lib.hid (show textB (xs.take (k + 1)) = textB (xs.take k) ++ charB p by rw [HTS.out, HX.out]; simp)
          have HL := Lib.hid (charB_1 h)
          go_wp2_with (at_builtin; refine wpList_append_own _ rfl _ _ 46 rfl w.heap.size 5 i0 (.int .u8 0) 1 1 Try.underlying46 hi hz0 hz1 hz2 rfl (by decide) _ _ _ rfl (hown.alloc _) _ _ _ _ rfl (by rfl) (cells_new _ _ _) (by simp [Value.oneCell']) (by unfold maxLen; omega) (by omega) (by simp; omega) ?_; intro v' w1 hown' hgrow _)
          go_roundw
          case rel =>
            refine ⟨k + 1, by omega, by go_num, HP', ?_, (hB.alloc (by omega) _).grown hgrow (by simp; omega) (fun j ej => row_ge hown ej)⟩
            rw [HB.out, HL.out, u8s_append, List.length_append]
            have hown2 := hown'
            skip
            simpa [u8s] using hown2
          case measure => simp [intOf]; omega
        · have tneg : decide ((p : Int) < 0) = false := decide_eq_false (by omega)
          have tbig : decide (1114111 < (p : Int)) = false := decide_eq_false (by omega)
          have tlo : decide (55296 ≤ (p : Int)) = false := decide_eq_false (by omega)
          have thi : decide ((p : Int) ≤ 57343) = true := decide_eq_true (by omega)
          have ta : decide ((p : Int) < 128) = false := decide_eq_false (by omega)
          have tb : decide ((p : Int) < 2048) = true := decide_eq_true (by omega)
          have tc : decide ((p : Int) < 65536) = true := decide_eq_true (by omega)
          have HB := Lib.hid (show textB (xs.take (k + 1)) = textB (xs.take k) ++ charB p by rw [HTS.out, HX.out]; simp)
          have HL := Lib.hid (charB_2 h h')
          go_wp2_with (at_builtin; refine wpList_append_own _ rfl _ _ 46 rfl w.heap.size 5 i0 (.int .u8 0) 1 1 Try.underlying46 hi hz0 hz1 hz2 rfl (by decide) _ _ _ rfl (hown.alloc _) _ _ _ _ rfl (by rfl) (cells_new _ _ _) (by simp [Value.oneCell']) (by unfold maxLen; omega) (by omega) (by simp; omega) ?_; intro v' w1 hown' hgrow _)
          go_roundw
          case rel =>
            refine ⟨k + 1, by omega, by go_num, HP', ?_, (hB.alloc (by omega) _).grown hgrow (by simp; omega) (fun j ej => row_ge hown ej)⟩
            rw [HB.out, HL.out, u8s_append, List.length_append]
            have hown2 := hown'
            rw [or128 (x := (p : Int)) (by omega) (by omega)] at hown2
            simpa [u8s] using hown2
          case measure => simp [intOf]; omega
        · have tneg : decide ((p : Int) < 0) = false := decide_eq_false (by omega)
          have tbig : decide (1114111 < (p : Int)) = false := decide_eq_false (by omega)
          have tlo : decide (55296 ≤ (p : Int)) = false := decide_eq_false (by omega)
          have thi : decide ((p : Int) ≤ 57343) = true := decide_eq_true (by omega)
          have ta : decide ((p : Int) < 128) = false := decide_eq_false (by omega)
          have tb : decide ((p : Int) < 2048) = false := decide_eq_false (by omega)
          have tc : decide ((p : Int) < 65536) = true := decide_eq_true (by omega)
          have HB := Lib.hid (show textB (xs.take (k + 1)) = textB (xs.take k) ++ charB p by rw [HTS.out, HX.out]; simp)
          have HL := Lib.hid (charB_3 h (by omega))
          go_wp2_with (at_builtin; refine wpList_append_own _ rfl _ _ 46 rfl w.heap.size 5 i0 (.int .u8 0) 1 1 Try.underlying46 hi hz0 hz1 hz2 rfl (by decide) _ _ _ rfl (hown.alloc _) _ _ _ _ rfl (by rfl) (cells_new _ _ _) (by simp [Value.oneCell']) (by unfold maxLen; omega) (by omega) (by simp; omega) ?_; intro v' w1 hown' hgrow _)
          go_roundw
          case rel =>
            refine ⟨k + 1, by omega, by go_num, HP', ?_, (hB.alloc (by omega) _).grown hgrow (by simp; omega) (fun j ej => row_ge hown ej)⟩
            rw [HB.out, HL.out, u8s_append, List.length_append]
            have hown2 := hown'
            rw [or128 (x := (p : Int)) (by omega) (by omega), or128 (x := (p : Int) / 64) (by omega) (by omega)] at hown2
            simpa [u8s] using hown2
          case measure => simp [intOf]; omega
        · have tneg : decide ((p : Int) < 0) = false := decide_eq_false (by omega)
          have tbig : decide (1114111 < (p : Int)) = false := decide_eq_false (by omega)
          have tlo : decide (55296 ≤ (p : Int)) = true := decide_eq_true (by omega)
          have thi : decide ((p : Int) ≤ 57343) = false := decide_eq_false (by omega)
          have ta : decide ((p : Int) < 128) = false := decide_eq_false (by omega)
          have tb : decide ((p : Int) < 2048) = false := decide_eq_false (by omega)
          have tc : decide ((p : Int) < 65536) = true := decide_eq_true (by omega)
          have HB := Lib.hid (show textB (xs.take (k + 1)) = textB (xs.take k) ++ charB p by rw [HTS.out, HX.out]; simp)
          have HL := Lib.hid (charB_3 (by omega) h')
          go_wp2_with (at_builtin; refine wpList_append_own _ rfl _ _ 46 rfl w.heap.size 5 i0 (.int .u8 0) 1 1 Try.underlying46 hi hz0 hz1 hz2 rfl (by decide) _ _ _ rfl (hown.alloc _) _ _ _ _ rfl (by rfl) (cells_new _ _ _) (by simp [Value.oneCell']) (by unfold maxLen; omega) (by omega) (by simp; omega) ?_; intro v' w1 hown' hgrow _)
          go_roundw
          case rel =>
            refine ⟨k + 1, by omega, by go_num, HP', ?_, (hB.alloc (by omega) _).grown hgrow (by simp; omega) (fun j ej => row_ge hown ej)⟩
            rw [HB.out, HL.out, u8s_append, List.length_append]
            have hown2 := hown'
            rw [or128 (x := (p : Int)) (by omega) (by omega), or128 (x := (p : Int) / 64) (by omega) (by omega)] at hown2
            simpa [u8s] using hown2
          case measure => simp [intOf]; omega
        · have tneg : decide ((p : Int) < 0) = false := decide_eq_false (by omega)
          have tbig : decide (1114111 < (p : Int)) = false := decide_eq_false (by omega)
          have tlo : decide (55296 ≤ (p : Int)) = true := decide_eq_true (by omega)
          have thi : decide ((p : Int) ≤ 57343) = false := decide_eq_false (by omega)
          have ta : decide ((p : Int) < 128) = false := decide_eq_false (by omega)
          have tb : decide ((p : Int) < 2048) = false := decide_eq_false (by omega)
          have tc : decide ((p : Int) < 65536) = false := decide_eq_false (by omega)
          have HB := Lib.hid (show textB (xs.take (k + 1)) = textB (xs.take k) ++ charB p by rw [HTS.out, HX.out]; simp)
          have HL := Lib.hid (charB_4 h)
          go_wp2_with (at_builtin; refine wpList_append_own _ rfl _ _ 46 rfl w.heap.size 5 i0 (.int .u8 0) 1 1 Try.underlying46 hi hz0 hz1 hz2 rfl (by decide) _ _ _ rfl (hown.alloc _) _ _ _ _ rfl (by rfl) (cells_new _ _ _) (by simp [Value.oneCell']) (by unfold maxLen; omega) (by omega) (by simp; omega) ?_; intro v' w1 hown' hgrow _)
          go_roundw
          case rel =>
            refine ⟨k + 1, by omega, by go_num, HP', ?_, (hB.alloc (by omega) _).grown hgrow (by simp; omega) (fun j ej => row_ge hown ej)⟩
            rw [HB.out, HL.out, u8s_append, List.length_append]
            have hown2 := hown'
            rw [or128 (x := (p : Int)) (by omega) (by omega), or128 (x := (p : Int) / 64) (by omega) (by omega), or128 (x := (p : Int) / 4096) (by omega) (by omega)] at hown2
            simpa [u8s] using hown2
          case measure => simp [intOf]; omega
      · have HF := Lib.hid (show badPt xs = some k from badPt_take hlt HP.out (by simpa using hpt))
        have hq : xs[k] < 0 ∨ 1114111 < xs[k] ∨ (55296 ≤ xs[k] ∧ xs[k] ≤ 57343) := by
          simp only [isPt, Bool.and_eq_true, decide_eq_true_eq, Bool.not_eq_true', Bool.and_eq_false_iff, decide_eq_false_iff_not] at hpt; omega
        clear hpt
        rcases hq with h | h | ⟨h, h'⟩
        all_goals
          go_wp2_with fail
          go_ret3
          exact ⟨hB, .inl ⟨k, HF.out, rfl⟩⟩
    · have HF := Lib.hid (show badPt xs = none from badPt_none (fun j h => HP.out j h (by omega)))
      rw [List.take_of_length_le (by omega)] at hown
      have hcv := run_string_row (RowAt.of_own hown)
      go_wp2_with fail
      go_ret3
      exact ⟨hB, .inr ⟨HF.out, rfl⟩⟩
end Go.Proofs.Ytdidepaldppcjaa
