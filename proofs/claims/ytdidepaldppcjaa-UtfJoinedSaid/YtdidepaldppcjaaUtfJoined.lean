/-
  The law UtfJoined answers true for every two texts, and changes nothing. No conditions.
-/
import Derived.Test.YtdidepaldppcjaaRows
import Derived.Test.YtdidepaldppcjaaUtfAwake
import Derived.Test.YtdidepaldppcjaaUtfOrd
import Derived.Test.YtdidepaldppcjaaUtfSame
import Derived.WalkKit
import Derived.BigQuiet
import Derived.Deep.QuietTactic
import Derived.WalkLawsBesides
import Derived.ProofKit
import Derived.OpenShut
import Derived.ShutString
namespace Go.Proofs.Ytdidepaldppcjaa.utfJoined
open Go.ChangeShapes Go.WideShapes Go.ChangeAt Go.RowKit
open Go.ChangeMaps (open_string shut_string)
set_option linter.unusedVariables false      -- a walk need not use every 'w<i>' (that an integer argument fits its kind)

theorem own : ownKnob Try.prog.godebug = none := by kernel_rfl


theorem row_form {W : World} {n e size k : Nat} {v : Value} {xs : List Value} (h : W.ownsRow n e size v k xs) : ∃ A m c, v = .slice A m c := by
  rcases h.2 with ⟨rfl, _⟩ | ⟨g, cap, cur, rfl, _⟩
  · exact ⟨_, _, _, rfl⟩
  · exact ⟨_, _, _, rfl⟩
theorem row_len {W : World} {n e k : Nat} {A : Option Addr} {m c : Nat} {xs : List Int} (h : W.ownsRow n e 1 (.slice A m c) k (xs.map (Value.int .i64))) : m = xs.length := by
  have hl := h.1
  rw [List.length_map] at hl
  rcases h.2 with ⟨e, h0⟩ | ⟨g, cap, cur, e, _⟩
  · injection e with _ e1 _; omega
  · injection e with _ e1 _; omega

theorem RowAt.take {w : World} {B : Nat} {A : Option Addr} {n c : Nat} {xs ys : List Int} (h : RowAt w B (.slice A n c) ((xs ++ ys).map (Value.int .i64))) {m : Nat} (hm : m = xs.length) : RowAt w B (.slice A m c) (ints xs) := by
  subst hm
  obtain ⟨A', c', e, hl, h⟩ := h
  injection e with e1 e2 e3
  subst e1; subst e3
  rw [List.length_map, List.length_append] at hl
  refine ⟨_, _, by rw [ints_len], by rw [ints_len]; omega, fun hp => ?_⟩
  rw [ints_len] at hp
  obtain ⟨b, o, ea, hb, hc⟩ := h (by simp; omega)
  refine ⟨b, o, ea, hb, fun i u hu => hc i u ?_⟩
  have hi := (List.getElem?_eq_some_iff.1 hu).1
  rw [List.map_append, List.getElem?_append_left (by simpa [ints] using hi)]
  exact hu
theorem RowAt.dropA {w : World} {B : Nat} {A : Option Addr} {n c : Nat} {xs ys : List Int} (h : RowAt w B (.slice A n c) ((xs ++ ys).map (Value.int .i64))) {k m c' : Nat} (hk : k = xs.length) (hm : m = ys.length) (hc' : ys.length ≤ c') :
    RowAt w B (.slice (Option.map (fun x => x.add k) A) m c') (ints ys) := by
  subst hm; subst hk
  obtain ⟨A', c'', e, hl, h⟩ := h
  injection e with e1 e2 e3
  subst e1; subst e3
  refine ⟨_, _, by rw [ints_len], by rw [ints_len]; exact hc', fun hp => ?_⟩
  rw [ints_len] at hp
  obtain ⟨b, o, rfl, hb, hc⟩ := h (by simp; omega)
  refine ⟨b, o + xs.length, by rw [← add_plain]; rfl, hb, fun i u hu => ?_⟩
  rw [Nat.add_assoc]
  refine hc _ u ?_
  rw [List.map_append, List.getElem?_append_right (by simp)]
  simpa [ints] using hu

/-! ### STEP 1: THE WALK: the Go text returns true. 'Grown w w'': the world has at most new blocks (Derived/RowKit3.lean). Part the cases AHEAD of 'go_enter' where a test parts the walk; take each callee by a contract of your own. -/
set_option maxRecDepth 100000 in
set_option maxHeartbeats 4000000 in
theorem walk (a0 : ByteArray) (a1 : ByteArray) (w0 : a0.size ≤ maxLen) (w1 : a1.size ≤ maxLen) (w : World) :
    Calls Try.prog 7 #[.string a0, .string a1] w fun e w' => e = .returned (.bool true) ∧ Below w.heap.size w w' := by
  by_cases hs : 268435455 < a0.size
  · go_enter Try.func7, Try.ntmps7
    go_wp2_with fail
    go_ret
    exact ⟨rfl, Below.refl _ _⟩
  by_cases hl : 268435455 < a1.size
  · have hs' : a0.size ≤ 268435455 := by omega
    go_enter Try.func7, Try.ntmps7
    go_wp2_with fail
    go_ret
    exact ⟨rfl, Below.refl _ _⟩
  have hs' : a0.size ≤ 268435455 := by omega
  have hl' : a1.size ≤ 268435455 := by omega
  have HS1 := Lib.hid (show a0.size < 9223372036854775800 by omega)
  have HS2 := Lib.hid (show a1.size ≤ 1099511627776 by omega)
  clear hs hl w0 w1
  obtain ⟨ys, hye⟩ : ∃ ys, ptsOf (chars a1) = ys := ⟨_, rfl⟩
  have HLY := Lib.hid (show ys.length ≤ 268435455 by rw [← hye, ptsOf_len]; have := chars_len a1; omega)
  have HYE := Lib.hid hye
  clear hye
  have ds : decide (268435455 < (a0.size : Int)) = false := decide_eq_false (by omega)
  have dl : decide (268435455 < (a1.size : Int)) = false := decide_eq_false (by omega)
  go_enter Try.func7, Try.ntmps7
  go_wp2_with fail
  refine (points_any a1 HS2.out _).mono ?_
  rintro e w1 hp1
  have hb1 : Below w.heap.size w w1 := by
    rcases hp1 with ⟨_, _, _, h⟩ | ⟨_, _, _, _, _, h⟩ <;> exact h
  rcases hp1 with ⟨k, HK1, rfl, _⟩ | ⟨HG1, v1, rfl, hown1, HV1, _⟩
  · clear HK1
    go_wp2_with fail
    refine (check_any a0 HS1.out _).mono ?_
    rintro e w2 ⟨rfl, hb12⟩
    have hb2 := hb1.trans (hb12.mono hb1.size)
    generalize checkV a0 = cv
    go_wp2_with fail
    refine (awake_any _).mono ?_
    rintro e w9 ⟨rfl, hb9⟩
    have hb9' := hb2.trans (hb9.mono hb2.size)
    go_wp2_with fail
    go_ret
    exact ⟨rfl, hb9'⟩
  · have HGY := Lib.hid HG1
    clear HG1 HV1
    rw [HYE.out] at hown1
    have HY0 := Lib.hid (show ∀ p ∈ ys, isPt p = true by rw [← HYE.out]; exact (good_whole HGY.out).1)
    have HY1 := Lib.hid (show bytesOf a1 = textB ys by rw [← HYE.out]; exact (good_whole HGY.out).2)
    obtain ⟨A1, n1, c1, rfl⟩ := row_form hown1
    have HR1 := Lib.hid (RowAt.of_own hown1)
    have HN1 := Lib.hid (row_len hown1)
    clear hown1
    go_wp2_with fail
    refine (check_any a0 HS1.out _).mono ?_
    rintro e w2 ⟨rfl, hb12⟩
    have hb2 := hb1.trans (hb12.mono hb1.size)
    have HR2 := Lib.hid (HR1.out.below hb12)
    cases hbad : badAt (chars a0) with
    | some b =>
      obtain ⟨hbs, xs, hx0, hb0⟩ := bad_whole hbad
      have HX0 := Lib.hid hx0
      have HX1 := Lib.hid (show bytesOf (a0.extract 0 b) = textB xs by rw [bytesOf_take, hb0])
      rw [show checkV a0 = (b : Nat) by rw [checkV, hbad]]
      clear hbad hx0 hb0
      have HSZ := Lib.hid (show (a0.extract 0 b).size ≤ 1099511627776 by rw [ByteArray.size_extract]; omega)
      have hsz : (a0.extract 0 b).size ≤ 268435455 := by rw [ByteArray.size_extract]; omega
      obtain ⟨hgx, hpx⟩ := whole_good HX0.out HX1.out
      have HGX := Lib.hid hgx
      have HPX := Lib.hid hpx
      clear hgx hpx
      have HST := Lib.hid (whole_good (s := a0.extract 0 b ++ a1) (l := xs ++ ys) (fun p hp => (List.mem_append.1 hp).elim (HX0.out p) (HY0.out p)) (by rw [bytesOf_append, textB_append, HX1.out, HY1.out]))
      have HSTZ := Lib.hid (show (a0.extract 0 b ++ a1).size ≤ 1099511627776 by rw [ByteArray.size_append]; omega)
      have HCK := Lib.hid (show checkV (a0.extract 0 b ++ a1) = -1 by rw [checkV, HST.out.1])
      have HLX := Lib.hid (show xs.length ≤ 268435455 by rw [← HPX.out, ptsOf_len]; have := chars_len (a0.extract 0 b); omega)
      go_wp2_with fail
      refine (points_any _ HSZ.out _).mono ?_
      rintro e w3 hp3
      obtain ⟨_, v3, rfl, hown3, _, hb23⟩ := hp3.resolve_left (fun h => by obtain ⟨k, hk, _⟩ := h; rw [HGX.out] at hk; cases hk)
      rw [HPX.out] at hown3
      clear hp3
      have hb3 := hb2.trans (hb23.mono hb2.size)
      obtain ⟨A3, n3, c3, rfl⟩ := row_form hown3
      have HR3 := Lib.hid (RowAt.of_own hown3)
      have HN3 := Lib.hid (row_len hown3)
      clear hown3
      have HR1b := Lib.hid ((HR2.out.below (hb23.mono hb12.size)))
      go_wp2_with fail
      refine (points_any _ HSTZ.out _).mono ?_
      rintro e w4 hp4
      obtain ⟨_, v4, rfl, hown4, _, hb34⟩ := hp4.resolve_left (fun h => by obtain ⟨k, hk, _⟩ := h; rw [HST.out.1] at hk; cases hk)
      rw [HST.out.2] at hown4
      clear hp4
      have hb4 := hb3.trans (hb34.mono hb3.size)
      obtain ⟨A4, n4, c4, rfl⟩ := row_form hown4
      have HR4 := Lib.hid (RowAt.of_own hown4)
      have HN4 := Lib.hid (row_len hown4)
      clear hown4
      have e1 := HN1.out
      have e3 := HN3.out
      have e4 := HN4.out
      rw [List.length_append] at e4
      have hlen : n4 = n3 + n1 := by omega
      subst hlen
      have hn3 : n3 ≤ 268435455 := by rw [e3]; exact HLX.out
      have hn1 : n1 ≤ 268435455 := by rw [e1]; exact HLY.out
      have hc4 : n3 + n1 ≤ c4 := by
        obtain ⟨A5, c5, e5, h5, _⟩ := HR4.out
        injection e5 with e6 e7 e8
        rw [e8]
        rw [List.length_map, List.length_append] at h5
        omega
      clear e1 e3 e4
      have hw : ((n3 : Int) + (n1 : Int) != (n3 : Int) + (n1 : Int)) = false := by simp
      by_cases hcap : c4 = n3
      · have hz : n1 = 0 := by omega
        subst hz
        have HY := Lib.hid (show ys = [] from List.eq_nil_of_length_eq_zero HN1.out.symm)
        have HCAP := Lib.hid hcap
        subst hcap
        go_wp2_with fail
        refine (same_any _ _ xs xs _ w4.heap.size (RowAt.take HR4.out HN3.out) ((HR3.out.below hb34).more hb34.size) (by have := HLX.out; unfold maxLen; omega)).mono ?_
        rintro e w5 ⟨rfl, q5, rfl⟩
        rw [show sameI xs xs = true from decide_eq_true rfl]
        go_wp2_with fail
        refine (same_any _ _ ys ys _ w4.heap.size (by rw [HY.out]; exact ⟨A4, _, rfl, Nat.zero_le _, fun h => absurd h (by simp [ints])⟩) (((HR1b.out.below (hb34.mono (Nat.le_trans hb12.size hb23.size))).more (Nat.le_trans hb12.size (Nat.le_trans hb23.size hb34.size))).drewN q5) (by have := HLY.out; unfold maxLen; omega)).mono ?_
        rintro e w6 ⟨rfl, q6, rfl⟩
        rw [show sameI ys ys = true from decide_eq_true rfl]
        have hb6 := below_drewN hb4 (q5 + q6)
        go_wp2_with fail
        refine (check_any _ (by have := HSTZ.out; omega) _).mono ?_
        rintro e w7 ⟨rfl, hb67⟩
        have hb7 := hb6.trans (hb67.mono hb6.size)
        rw [HCK.out]
        go_wp2_with fail
        refine (awake_any _).mono ?_
        rintro e w8 ⟨rfl, hb8⟩
        have hb8' := hb7.trans (hb8.mono hb7.size)
        go_wp2_with fail
        go_ret
        exact ⟨rfl, hb8'⟩
      · go_wp2_with fail
        refine (same_any _ _ xs xs _ w4.heap.size (RowAt.take HR4.out HN3.out) ((HR3.out.below hb34).more hb34.size) (by have := HLX.out; unfold maxLen; omega)).mono ?_
        rintro e w5 ⟨rfl, q5, rfl⟩
        rw [show sameI xs xs = true from decide_eq_true rfl]
        go_wp2_with fail
        refine (same_any _ _ ys ys _ w4.heap.size ((RowAt.dropA HR4.out HN3.out HN1.out (by have := HN1.out; omega)).drewN q5) (((HR1b.out.below (hb34.mono (Nat.le_trans hb12.size hb23.size))).more (Nat.le_trans hb12.size (Nat.le_trans hb23.size hb34.size))).drewN q5) (by have := HLY.out; unfold maxLen; omega)).mono ?_
        rintro e w6 ⟨rfl, q6, rfl⟩
        rw [show sameI ys ys = true from decide_eq_true rfl]
        have hb6 := below_drewN hb4 (q5 + q6)
        go_wp2_with fail
        refine (check_any _ (by have := HSTZ.out; omega) _).mono ?_
        rintro e w7 ⟨rfl, hb67⟩
        have hb7 := hb6.trans (hb67.mono hb6.size)
        rw [HCK.out]
        go_wp2_with fail
        refine (awake_any _).mono ?_
        rintro e w8 ⟨rfl, hb8⟩
        have hb8' := hb7.trans (hb8.mono hb7.size)
        go_wp2_with fail
        go_ret
        exact ⟨rfl, hb8'⟩
    | none =>
      obtain ⟨xs, hxe⟩ : ∃ xs, ptsOf (chars a0) = xs := ⟨_, rfl⟩
      have HX0 := Lib.hid (show ∀ p ∈ xs, isPt p = true by rw [← hxe]; exact (good_whole hbad).1)
      have HX1 := Lib.hid (show bytesOf a0 = textB xs by rw [← hxe]; exact (good_whole hbad).2)
      rw [show checkV a0 = -1 by rw [checkV, hbad]]
      clear hbad hxe
      have HSZ := Lib.hid (show (a0).size ≤ 1099511627776 by omega)
      have hsz : (a0).size ≤ 268435455 := by omega
      obtain ⟨hgx, hpx⟩ := whole_good HX0.out HX1.out
      have HGX := Lib.hid hgx
      have HPX := Lib.hid hpx
      clear hgx hpx
      have HST := Lib.hid (whole_good (s := a0 ++ a1) (l := xs ++ ys) (fun p hp => (List.mem_append.1 hp).elim (HX0.out p) (HY0.out p)) (by rw [bytesOf_append, textB_append, HX1.out, HY1.out]))
      have HSTZ := Lib.hid (show (a0 ++ a1).size ≤ 1099511627776 by rw [ByteArray.size_append]; omega)
      have HCK := Lib.hid (show checkV (a0 ++ a1) = -1 by rw [checkV, HST.out.1])
      have HLX := Lib.hid (show xs.length ≤ 268435455 by rw [← HPX.out, ptsOf_len]; have := chars_len (a0); omega)
      go_wp2_with fail
      refine (points_any _ HSZ.out _).mono ?_
      rintro e w3 hp3
      obtain ⟨_, v3, rfl, hown3, _, hb23⟩ := hp3.resolve_left (fun h => by obtain ⟨k, hk, _⟩ := h; rw [HGX.out] at hk; cases hk)
      rw [HPX.out] at hown3
      clear hp3
      have hb3 := hb2.trans (hb23.mono hb2.size)
      obtain ⟨A3, n3, c3, rfl⟩ := row_form hown3
      have HR3 := Lib.hid (RowAt.of_own hown3)
      have HN3 := Lib.hid (row_len hown3)
      clear hown3
      have HR1b := Lib.hid ((HR2.out.below (hb23.mono hb12.size)))
      go_wp2_with fail
      refine (points_any _ HSTZ.out _).mono ?_
      rintro e w4 hp4
      obtain ⟨_, v4, rfl, hown4, _, hb34⟩ := hp4.resolve_left (fun h => by obtain ⟨k, hk, _⟩ := h; rw [HST.out.1] at hk; cases hk)
      rw [HST.out.2] at hown4
      clear hp4
      have hb4 := hb3.trans (hb34.mono hb3.size)
      obtain ⟨A4, n4, c4, rfl⟩ := row_form hown4
      have HR4 := Lib.hid (RowAt.of_own hown4)
      have HN4 := Lib.hid (row_len hown4)
      clear hown4
      have e1 := HN1.out
      have e3 := HN3.out
      have e4 := HN4.out
      rw [List.length_append] at e4
      have hlen : n4 = n3 + n1 := by omega
      subst hlen
      have hn3 : n3 ≤ 268435455 := by rw [e3]; exact HLX.out
      have hn1 : n1 ≤ 268435455 := by rw [e1]; exact HLY.out
      have hc4 : n3 + n1 ≤ c4 := by
        obtain ⟨A5, c5, e5, h5, _⟩ := HR4.out
        injection e5 with e6 e7 e8
        rw [e8]
        rw [List.length_map, List.length_append] at h5
        omega
      clear e1 e3 e4
      have hw : ((n3 : Int) + (n1 : Int) != (n3 : Int) + (n1 : Int)) = false := by simp
      by_cases hcap : c4 = n3
      · have hz : n1 = 0 := by omega
        subst hz
        have HY := Lib.hid (show ys = [] from List.eq_nil_of_length_eq_zero HN1.out.symm)
        have HCAP := Lib.hid hcap
        subst hcap
        go_wp2_with fail
        refine (same_any _ _ xs xs _ w4.heap.size (RowAt.take HR4.out HN3.out) ((HR3.out.below hb34).more hb34.size) (by have := HLX.out; unfold maxLen; omega)).mono ?_
        rintro e w5 ⟨rfl, q5, rfl⟩
        rw [show sameI xs xs = true from decide_eq_true rfl]
        go_wp2_with fail
        refine (same_any _ _ ys ys _ w4.heap.size (by rw [HY.out]; exact ⟨A4, _, rfl, Nat.zero_le _, fun h => absurd h (by simp [ints])⟩) (((HR1b.out.below (hb34.mono (Nat.le_trans hb12.size hb23.size))).more (Nat.le_trans hb12.size (Nat.le_trans hb23.size hb34.size))).drewN q5) (by have := HLY.out; unfold maxLen; omega)).mono ?_
        rintro e w6 ⟨rfl, q6, rfl⟩
        rw [show sameI ys ys = true from decide_eq_true rfl]
        have hb6 := below_drewN hb4 (q5 + q6)
        go_wp2_with fail
        refine (check_any _ (by have := HSTZ.out; omega) _).mono ?_
        rintro e w7 ⟨rfl, hb67⟩
        have hb7 := hb6.trans (hb67.mono hb6.size)
        rw [HCK.out]
        go_wp2_with fail
        refine (awake_any _).mono ?_
        rintro e w8 ⟨rfl, hb8⟩
        have hb8' := hb7.trans (hb8.mono hb7.size)
        go_wp2_with fail
        go_ret
        exact ⟨rfl, hb8'⟩
      · go_wp2_with fail
        refine (same_any _ _ xs xs _ w4.heap.size (RowAt.take HR4.out HN3.out) ((HR3.out.below hb34).more hb34.size) (by have := HLX.out; unfold maxLen; omega)).mono ?_
        rintro e w5 ⟨rfl, q5, rfl⟩
        rw [show sameI xs xs = true from decide_eq_true rfl]
        go_wp2_with fail
        refine (same_any _ _ ys ys _ w4.heap.size ((RowAt.dropA HR4.out HN3.out HN1.out (by have := HN1.out; omega)).drewN q5) (((HR1b.out.below (hb34.mono (Nat.le_trans hb12.size hb23.size))).more (Nat.le_trans hb12.size (Nat.le_trans hb23.size hb34.size))).drewN q5) (by have := HLY.out; unfold maxLen; omega)).mono ?_
        rintro e w6 ⟨rfl, q6, rfl⟩
        rw [show sameI ys ys = true from decide_eq_true rfl]
        have hb6 := below_drewN hb4 (q5 + q6)
        go_wp2_with fail
        refine (check_any _ (by have := HSTZ.out; omega) _).mono ?_
        rintro e w7 ⟨rfl, hb67⟩
        have hb7 := hb6.trans (hb67.mono hb6.size)
        rw [HCK.out]
        go_wp2_with fail
        refine (awake_any _).mono ?_
        rintro e w8 ⟨rfl, hb8⟩
        have hb8' := hb7.trans (hb8.mono hb7.size)
        go_wp2_with fail
        go_ret
        exact ⟨rfl, hb8'⟩

/-! ### THE ROW's STEP: WRITTEN OUT: LEAVE IT -/
set_option maxRecDepth 100000 in
theorem lifted (os : Os) (started : os.Started) (H : Type) (enc : TypeId × Value → H) :
    ReturnsInHanded {} Try.checked os 7 .any (Rows.utfJoinedSpec.pre6 enc Try.prog Try.f7 Rows.utfJoinedRow.domain false) (Rows.utfJoinedSpec.post enc Try.prog Try.f7 false true false false) := by
  refine returnsInHanded_of_change (C := Try.checked) own started (by kernel_rfl) Try.func7
    (ChangeSpec.witness6 (enc := enc) (C := Try.checked) false ⟨#[], #[.string ByteArray.empty, .string ByteArray.empty], []⟩ 8 (by kernel_rfl) (by kernel_rfl) (by kernel_rfl) (by kernel_rfl)) ?_
  intro W base args ds gs before hval0 hW hcnd _
  have hval : ∀ (j : Nat) t v, Try.f7.params[j]? = some t → args[j]? = some v → Value.okWide Try.prog W .any base t v := hval0
  have hW' := hW
  obtain ⟨p, q, hA0, hV, rfl, hfz, hnd⟩ := hW
  have hA : DataW.TrodAll enc Try.prog W 0 (fun _ => true) true Try.f7.params.toList args.toList ds p := hA0
  rw [Try.params7] at hA hval
  obtain ⟨v0, vs0, d0, ds0, p0, q0, hargs, rfl, rfl, h0, r0⟩ := trodAll_cons hA
  obtain ⟨v1, vs1, d1, ds1, p1, q1, rfl, rfl, rfl, h1, r1⟩ := trodAll_cons r0
  obtain ⟨rfl, rfl, rfl⟩ := trodAll_nil r1
  obtain rfl : args = #[v0, v1] := by cases args; simp_all
  obtain ⟨rfl, rfl⟩ := trodVars_none hV
  obtain ⟨a0, rfl, rfl, rfl, w0⟩ := open_string Try.underlying9 (hval 0 9 v0 rfl rfl) h0
  obtain ⟨a1, rfl, rfl, rfl, w1⟩ := open_string Try.underlying9 (hval 1 9 v1 rfl rfl) h1
  clear hA0 hval0
  simp only [List.append_nil] at hW'
  refine (walk a0 a1 w0 w1 W).mono fun e W' ⟨he, bel⟩ => ?_
  subst he
  exact ⟨_, rfl, _, _, _, [], _, [], hW', trodAll_mk1 (shut_bool Try.underlying4 _), (trodAll_cons_mk (shut_string Try.underlying9 w0) (trodAll_cons_mk (shut_string Try.underlying9 w1) trodAll_mk0)), rfl, bel.frame _, fun h => by cases h⟩

theorem over : Rows.utfJoinedRow.holds Try.pinned (OpenSpec.ofChange Rows.utfJoinedSpec) :=
  OpenClaim.holds_of_wide 7 Try.f7 rfl rfl rfl rfl rfl rfl rfl ⟨rfl, rfl, rfl, rfl, rfl⟩ rfl rfl rfl rfl rfl (by kernel_rfl) Try.func7 (by kernel_rfl)
    (of_decide_eq_true (by kernel_rfl)) (by unfold Func.isWrapper; first | (rw [if_pos (by decide +kernel)]; kernel_rfl) | (rw [if_neg (by decide +kernel)]; exact ⟨rfl, rfl⟩))
    (fun os started H enc _ => lifted os started H enc)

/-- The statement. -/
theorem proved : Rows.UtfJoinedSaid :=
  over
#print axioms proved
end Go.Proofs.Ytdidepaldppcjaa.utfJoined
