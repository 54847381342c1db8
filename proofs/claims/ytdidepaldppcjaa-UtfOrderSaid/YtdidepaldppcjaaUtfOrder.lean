/-
  The law UtfOrder answers true for every two texts, and changes nothing. No conditions.
-/
import Derived.Test.YtdidepaldppcjaaRows
import Derived.Test.YtdidepaldppcjaaUtfAwake
import Derived.Test.YtdidepaldppcjaaUtfOrd
import Derived.Test.YtdidepaldppcjaaUtfSame
import Derived.WalkKit
import Derived.BigQuiet
import Derived.Deep.QuietTactic
import Derived.WalkLawsBesides
import Derived.ProofKit
import Derived.OpenShut
import Derived.ShutString
namespace Go.Proofs.Ytdidepaldppcjaa.utfOrder
open Go.ChangeShapes Go.WideShapes Go.ChangeAt Go.RowKit
open Go.ChangeMaps (open_string shut_string)
set_option linter.unusedVariables false      -- a walk need not use every 'w<i>' (that an integer argument fits its kind)

theorem own : ownKnob Try.prog.godebug = none := by kernel_rfl

/-! ### STEP 1: THE WALK: the Go text returns true. 'Grown w w'': the world has at most new blocks (Derived/RowKit3.lean). Part the cases AHEAD of 'go_enter' where a test parts the walk; take each callee by a contract of your own. -/
set_option maxRecDepth 100000 in
set_option maxHeartbeats 4000000 in
theorem walk (a0 : ByteArray) (a1 : ByteArray) (w0 : a0.size ≤ maxLen) (w1 : a1.size ≤ maxLen) (w : World) :
    Calls Try.prog 6 #[.string a0, .string a1] w fun e w' => e = .returned (.bool true) ∧ Below w.heap.size w w' := by
  by_cases hs : 536870911 < a0.size
  · go_enter Try.func6, Try.ntmps6
    go_wp2_with fail
    go_ret
    exact ⟨rfl, Below.refl _ _⟩
  by_cases hl : 536870911 < a1.size
  · have hs' : a0.size ≤ 536870911 := by omega
    go_enter Try.func6, Try.ntmps6
    go_wp2_with fail
    go_ret
    exact ⟨rfl, Below.refl _ _⟩
  have hs' : a0.size ≤ 536870911 := by omega
  have hl' : a1.size ≤ 536870911 := by omega
  have HS1 := Lib.hid (show a0.size ≤ 1099511627776 by omega)
  have HS2 := Lib.hid (show a1.size ≤ 1099511627776 by omega)
  clear hs hl w0 w1
  obtain ⟨xs, hxe⟩ : ∃ xs, ptsOf (chars a0) = xs := ⟨_, rfl⟩
  obtain ⟨ys, hye⟩ : ∃ ys, ptsOf (chars a1) = ys := ⟨_, rfl⟩
  have HLX := Lib.hid (show xs.length ≤ 536870911 by rw [← hxe, ptsOf_len]; have := chars_len a0; omega)
  have HLY := Lib.hid (show ys.length ≤ 536870911 by rw [← hye, ptsOf_len]; have := chars_len a1; omega)
  have HXE := Lib.hid hxe
  have HYE := Lib.hid hye
  clear hxe hye
  have ds : decide (536870911 < (a0.size : Int)) = false := decide_eq_false (by omega)
  have dl : decide (536870911 < (a1.size : Int)) = false := decide_eq_false (by omega)
  go_enter Try.func6, Try.ntmps6
  go_wp2_with fail
  refine (points_any a0 HS1.out _).mono ?_
  rintro e w1 hp1
  have hb1 : Below w.heap.size w w1 := by
    rcases hp1 with ⟨_, _, _, h⟩ | ⟨_, _, _, _, _, h⟩ <;> exact h
  rcases hp1 with ⟨k, HK1, rfl, _⟩ | ⟨HG1, v1, rfl, hown1, HV1, _⟩
  · clear HK1
    go_wp2_with fail
    refine (points_any a1 HS2.out _).mono ?_
    rintro e w2 hp2
    have hb2 := hb1.trans (Below.mono (by rcases hp2 with ⟨_, _, _, h⟩ | ⟨_, _, _, _, _, h⟩ <;> exact h) hb1.size)
    rcases hp2 with ⟨k2, HK2, rfl, _⟩ | ⟨HG2, v2, rfl, hown2, HV2, _⟩
    · clear HK2
      go_wp2_with fail
      refine (awake_any _).mono ?_
      rintro e w3 ⟨rfl, hb3⟩
      have hb3' := hb2.trans (hb3.mono hb2.size)
      go_wp2_with fail
      go_ret
      exact ⟨rfl, hb3'⟩
    · clear HG2 HV2
      go_wp2_with fail
      refine (awake_any _).mono ?_
      rintro e w3 ⟨rfl, hb3⟩
      have hb3' := hb2.trans (hb3.mono hb2.size)
      go_wp2_with fail
      go_ret
      exact ⟨rfl, hb3'⟩
  · have HGX := Lib.hid HG1
    clear HG1 HV1
    rw [HXE.out] at hown1
    go_wp2_with fail
    refine (points_any a1 HS2.out _).mono ?_
    rintro e w2 hp2
    have hb12 : Below w1.heap.size w1 w2 := by
      rcases hp2 with ⟨_, _, _, h⟩ | ⟨_, _, _, _, _, h⟩ <;> exact h
    have hb2 := hb1.trans (hb12.mono hb1.size)
    rcases hp2 with ⟨k2, HK2, rfl, _⟩ | ⟨HG2, v2, rfl, hown2, HV2, _⟩
    · clear HK2
      go_wp2_with fail
      refine (awake_any _).mono ?_
      rintro e w3 ⟨rfl, hb3⟩
      have hb3' := hb2.trans (hb3.mono hb2.size)
      go_wp2_with fail
      go_ret
      exact ⟨rfl, hb3'⟩
    · have HGY := Lib.hid HG2
      clear HG2 HV2
      rw [HYE.out] at hown2
      have HX0 := Lib.hid (show ∀ p ∈ xs, isPt p = true by rw [← HXE.out]; exact (good_whole HGX.out).1)
      have HY0 := Lib.hid (show ∀ p ∈ ys, isPt p = true by rw [← HYE.out]; exact (good_whole HGY.out).1)
      have HX1 := Lib.hid (show bytesOf a0 = textB xs by rw [← HXE.out]; exact (good_whole HGX.out).2)
      have HY1 := Lib.hid (show bytesOf a1 = textB ys by rw [← HYE.out]; exact (good_whole HGY.out).2)
      obtain ⟨A, c, rfl, _, HA⟩ := (((RowAt.of_own hown1).below hb12).more hb12.size).ints
      obtain ⟨A', c', rfl, _, HA'⟩ := (RowAt.of_own hown2).ints
      have HA := Lib.hid HA
      have HA' := Lib.hid HA'
      clear hown1 hown2
      have hlx := HLX.out
      have hly := HLY.out
      go_wp2_with fail
      go_loopw [12] (fun i wr => ∃ k n : Nat, k ≤ xs.length ∧ k ≤ ys.length ∧ i = .int .i64 k ∧ Hid (∀ j, j < k → xs[j]? = ys[j]?) ∧ wr = w2.drewN n) (fun i _ => xs.length - (intOf i).toNat)
      case atStart => exact ⟨0, 0, by omega, by omega, rfl, Lib.hid (by omega), rfl⟩
      case round =>
        obtain ⟨k, n, hkx, hky, rfl, HE, rfl⟩ := hrel
        by_cases hx : k < xs.length
        · obtain ⟨b, o, rfl, _, HC⟩ := HA.out (by omega)
          have g1 := HC k hx
          have dx : decide (k < xs.length) = true := decide_eq_true hx
          clear HC
          by_cases hy : k < ys.length
          · obtain ⟨b', o', rfl, _, HC'⟩ := HA'.out (by omega)
            have g2 := HC' k hy
            have dy : decide (k < ys.length) = true := decide_eq_true hy
            clear HC'
            by_cases hq : xs[k] = ys[k]
            · have hqb : (xs[k] == ys[k]) = true := by simp [hq]
              have HQ := Lib.hid hq
              clear hq
              go_wp2_with fail
              go_quiet (fail)
              go_wp2_with fail
              go_roundw
              case rel => exact ⟨k + 1, _, by omega, by omega, by go_num, Lib.hid (fun j hj => by
                rcases Nat.lt_or_ge j k with h | h
                · exact HE.out j h
                · obtain rfl : j = k := by omega
                  rw [List.getElem?_eq_getElem hx, List.getElem?_eq_getElem hy, HQ.out]), by first | rfl | rw [World.drewN_drewN]⟩
              case measure => simp [intOf]; omega
            · have hqb : (xs[k] == ys[k]) = false := by simp [hq]
              by_cases hlt : xs[k] < ys[k]
              · have dq : decide (xs[k] < ys[k]) = true := decide_eq_true hlt
                have HL := Lib.hid (less_of (s := a0) (t := a1) (by rw [HX1.out, HY1.out]; exact text_order HX0.out HY0.out HE.out hy hkx (.inr ⟨hx, hlt⟩)))
                clear hq
                go_wp2_with fail
                go_quiet (fail)
                go_wp2_with fail
                go_quiet (fail)
                obtain ⟨l1, l2, l3, l4⟩ := HL.out
                go_wp2_with fail
                refine (awake_any _).mono ?_
                rintro e w3 ⟨rfl, hb3⟩
                have hb3' := Below.trans (below_drewN hb2 _) (hb3.mono (below_drewN hb2 _).size)
                go_wp2_with fail
                go_ret
                exact ⟨rfl, hb3'⟩
              · have dq : decide (xs[k] < ys[k]) = false := decide_eq_false hlt
                have HL := Lib.hid (less_of (s := a1) (t := a0) (by rw [HY1.out, HX1.out]; exact text_order HY0.out HX0.out (fun j hj => (HE.out j hj).symm) hx hky (.inr ⟨hy, by omega⟩)))
                clear hq
                go_wp2_with fail
                go_quiet (fail)
                go_wp2_with fail
                go_quiet (fail)
                obtain ⟨l1, l2, l3, l4⟩ := HL.out
                go_wp2_with fail
                refine (awake_any _).mono ?_
                rintro e w3 ⟨rfl, hb3⟩
                have hb3' := Below.trans (below_drewN hb2 _) (hb3.mono (below_drewN hb2 _).size)
                go_wp2_with fail
                go_ret
                exact ⟨rfl, hb3'⟩
          · have dy : decide (k < ys.length) = false := decide_eq_false hy
            have HL := Lib.hid (less_of (s := a1) (t := a0) (by rw [HY1.out, HX1.out]; exact text_order HY0.out HX0.out (fun j hj => (HE.out j hj).symm) hx hky (.inl (by omega))))
            go_wp2_with fail
            go_quiet (fail)
            obtain ⟨l1, l2, l3, l4⟩ := HL.out
            go_wp2_with fail
            refine (awake_any _).mono ?_
            rintro e w3 ⟨rfl, hb3⟩
            have hb3' := Below.trans (below_drewN hb2 _) (hb3.mono (below_drewN hb2 _).size)
            go_wp2_with fail
            go_ret
            exact ⟨rfl, hb3'⟩
        · have dx : decide (k < xs.length) = false := decide_eq_false hx
          by_cases hy : k < ys.length
          · have dy : decide (k < ys.length) = true := decide_eq_true hy
            have HL := Lib.hid (less_of (s := a0) (t := a1) (by rw [HX1.out, HY1.out]; exact text_order HX0.out HY0.out HE.out hy hkx (.inl (by omega))))
            go_wp2_with fail
            go_quiet (fail)
            obtain ⟨l1, l2, l3, l4⟩ := HL.out
            go_wp2_with fail
            refine (awake_any _).mono ?_
            rintro e w3 ⟨rfl, hb3⟩
            have hb3' := Below.trans (below_drewN hb2 _) (hb3.mono (below_drewN hb2 _).size)
            go_wp2_with fail
            go_ret
            exact ⟨rfl, hb3'⟩
          · have dy : decide (k < ys.length) = false := decide_eq_false hy
            have HL := Lib.hid (same_of (s := a0) (t := a1) (by
              rw [HX1.out, HY1.out]
              congr 1
              apply List.ext_getElem?
              intro j
              by_cases hj : j < k
              · exact HE.out j hj
              · rw [List.getElem?_eq_none (by omega), List.getElem?_eq_none (by omega)]))
            go_wp2_with fail
            go_quiet (fail)
            obtain ⟨l1, l2⟩ := HL.out
            go_wp2_with fail
            refine (awake_any _).mono ?_
            rintro e w3 ⟨rfl, hb3⟩
            have hb3' := Below.trans (below_drewN hb2 _) (hb3.mono (below_drewN hb2 _).size)
            go_wp2_with fail
            go_ret
            exact ⟨rfl, hb3'⟩

/-! ### THE ROW's STEP: WRITTEN OUT: LEAVE IT -/
set_option maxRecDepth 100000 in
theorem lifted (os : Os) (started : os.Started) (H : Type) (enc : TypeId × Value → H) :
    ReturnsInHanded {} Try.checked os 6 .any (Rows.utfOrderSpec.pre6 enc Try.prog Try.f6 Rows.utfOrderRow.domain false) (Rows.utfOrderSpec.post enc Try.prog Try.f6 false true false false) := by
  refine returnsInHanded_of_change (C := Try.checked) own started (by kernel_rfl) Try.func6
    (ChangeSpec.witness6 (enc := enc) (C := Try.checked) false ⟨#[], #[.string ByteArray.empty, .string ByteArray.empty], []⟩ 8 (by kernel_rfl) (by kernel_rfl) (by kernel_rfl) (by kernel_rfl)) ?_
  intro W base args ds gs before hval0 hW hcnd _
  have hval : ∀ (j : Nat) t v, Try.f6.params[j]? = some t → args[j]? = some v → Value.okWide Try.prog W .any base t v := hval0
  have hW' := hW
  obtain ⟨p, q, hA0, hV, rfl, hfz, hnd⟩ := hW
  have hA : DataW.TrodAll enc Try.prog W 0 (fun _ => true) true Try.f6.params.toList args.toList ds p := hA0
  rw [Try.params6] at hA hval
  obtain ⟨v0, vs0, d0, ds0, p0, q0, hargs, rfl, rfl, h0, r0⟩ := trodAll_cons hA
  obtain ⟨v1, vs1, d1, ds1, p1, q1, rfl, rfl, rfl, h1, r1⟩ := trodAll_cons r0
  obtain ⟨rfl, rfl, rfl⟩ := trodAll_nil r1
  obtain rfl : args = #[v0, v1] := by cases args; simp_all
  obtain ⟨rfl, rfl⟩ := trodVars_none hV
  obtain ⟨a0, rfl, rfl, rfl, w0⟩ := open_string Try.underlying9 (hval 0 9 v0 rfl rfl) h0
  obtain ⟨a1, rfl, rfl, rfl, w1⟩ := open_string Try.underlying9 (hval 1 9 v1 rfl rfl) h1
  clear hA0 hval0
  simp only [List.append_nil] at hW'
  refine (walk a0 a1 w0 w1 W).mono fun e W' ⟨he, bel⟩ => ?_
  subst he
  exact ⟨_, rfl, _, _, _, [], _, [], hW', trodAll_mk1 (shut_bool Try.underlying4 _), (trodAll_cons_mk (shut_string Try.underlying9 w0) (trodAll_cons_mk (shut_string Try.underlying9 w1) trodAll_mk0)), rfl, bel.frame _, fun h => by cases h⟩

theorem over : Rows.utfOrderRow.holds Try.pinned (OpenSpec.ofChange Rows.utfOrderSpec) :=
  OpenClaim.holds_of_wide 6 Try.f6 rfl rfl rfl rfl rfl rfl rfl ⟨rfl, rfl, rfl, rfl, rfl⟩ rfl rfl rfl rfl rfl (by kernel_rfl) Try.func6 (by kernel_rfl)
    (of_decide_eq_true (by kernel_rfl)) (by unfold Func.isWrapper; first | (rw [if_pos (by decide +kernel)]; kernel_rfl) | (rw [if_neg (by decide +kernel)]; exact ⟨rfl, rfl⟩))
    (fun os started H enc _ => lifted os started H enc)

/-- The statement. -/
theorem proved : Rows.UtfOrderSaid :=
  over
#print axioms proved
end Go.Proofs.Ytdidepaldppcjaa.utfOrder
