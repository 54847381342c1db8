/-
  cmp.Compare of numbers; slices.CompareFunc with it; table.ordered.
-/
import Derived.Test.YthcjcdchmdgnjaaGreatDoorKY
namespace Go.Proofs.YthcjcdchmdgnjaaGreatDoor
open Go.RowKit Go.WideShapes
set_option linter.unusedVariables false
def cmpI (a b : Int) : Int := if a < b then -1 else if b < a then 1 else 0
theorem nan_any (a : Int) (w : World) : Calls Tryz.prog 39 #[.int .i64 a] w (Ret (.bool false) w) := by
  have HB := Lib.hid (Below.refl w.heap.size w)
  go_enter Tryz.func39, Tryz.ntmps39
  go_wp2_with fail
  go_ret
  exact ⟨by simp, HB.out⟩
set_option maxHeartbeats 1000000 in
theorem cmp_any (a b : Int) (w : World) : Calls Tryz.prog 27 #[.int .i64 a, .int .i64 b] w (Ret (.int .i64 (cmpI a b)) w) := by
  have HN := Lib.hid nan_any
  go_enter Tryz.func27, Tryz.ntmps27
  go_wp2_with fail
  refine (HN.out _ _).mono ?_
  rintro e w1 ⟨rfl, hb1⟩
  have HB1 := Lib.hid hb1
  clear hb1
  go_wp2_with fail
  refine (HN.out _ _).mono ?_
  rintro e w2 ⟨rfl, hb2⟩
  have HB2 := Lib.hid (HB1.out.trans (hb2.mono HB1.out.size))
  clear hb2
  by_cases h1 : a < b
  · have HR := Lib.hid (show -1 = cmpI a b by simp [cmpI, h1])
    go_wp2_with fail
    go_ret
    exact ret_i HR.out HB2.out
  · by_cases h2 : b < a
    · have HR := Lib.hid (show 1 = cmpI a b by simp [cmpI, h1, h2])
      go_wp2_with fail
      go_ret
      exact ret_i HR.out HB2.out
    · have HR := Lib.hid (show 0 = cmpI a b by simp [cmpI, h1, h2])
      go_wp2_with fail
      go_ret
      exact ret_i HR.out HB2.out
set_option maxRecDepth 100000 in
set_option maxHeartbeats 2000000 in
theorem compare_any (a b : List Int) (v1 v2 : Value) (w : World) (h1 : RowM w w.heap.size v1 a.length (intCells a)) (h2 : RowM w w.heap.size v2 b.length (intCells b)) : Calls Tryz.prog 26 #[v1, v2, .func (.func 27) #[] #[]] w (Ret (.int .i64 (ahead a b)) w) := by
  have H1 := Lib.hid h1
  have H2 := Lib.hid h2
  have HC := Lib.hid cmp_any
  have HB0 := Lib.hid (Below.refl w.heap.size w)
  obtain ⟨A1, c1, rfl, hc1, hm1, _⟩ := h1
  obtain ⟨A2, c2, rfl, hc2, hm2, _⟩ := h2
  go_enter Tryz.func26, Tryz.ntmps26
  go_wp2_with fail
  go_loopw [13] (fun i wr => ∃ (k : Nat), i = .int .i64 k ∧ k ≤ a.length ∧ k ≤ b.length ∧ Hid (∀ j, j < k → ∃ v, a[j]? = some v ∧ b[j]? = some v) ∧ Hid (Below w.heap.size w wr)) (fun i _ => a.length - (intOf i).toNat)
  case atStart => exact ⟨0, rfl, by omega, by omega, Lib.hid (fun j h => by omega), HB0⟩
  case round =>
    clear HB0
    obtain ⟨k, rfl, hka, hkb, HE, HB⟩ := hrel
    have hwz := HB.out.size
    by_cases hla : k < a.length
    · obtain ⟨b1, o1, d1, e1, hb1, g1⟩ := (H1.out.below HB.out).int hla
      injection e1 with e1 _ ec1; subst e1 ec1
      have hlaI : (k : Int) < (a.length : Int) := by omega
      by_cases hlb : k < b.length
      · obtain ⟨b2, o2, d2, e2, hb2, g2⟩ := (H2.out.below HB.out).int hlb
        injection e2 with e2 _ ec2; subst e2 ec2
        have hlbI : (k : Int) < (b.length : Int) := by omega
        have hlbJ : ¬ (b.length : Int) ≤ (k : Int) := by omega
        go_wp2_with fail
        refine (HC.out _ _ _).mono ?_
        rintro e w2 ⟨rfl, hb2⟩
        have HB2 := Lib.hid (HB.out.trans (hb2.mono hwz))
        clear hb2 g1 g2
        by_cases hl : a[k] < b[k]
        · have HR := Lib.hid (ahead_lt HE.out hla hlb hl)
          have hcv : cmpI a[k] b[k] = -1 := by simp [cmpI, hl]
          rw [hcv]
          clear hcv
          go_wp2_with fail
          go_ret
          exact ret_i HR.out.symm HB2.out
        · by_cases hg : b[k] < a[k]
          · have HR := Lib.hid (ahead_gt HE.out hla hlb hg)
            have hcv : cmpI a[k] b[k] = 1 := by simp [cmpI, hl, hg]
            rw [hcv]
            clear hcv
            go_wp2_with fail
            go_ret
            exact ret_i HR.out.symm HB2.out
          · have HE' := Lib.hid (show ∀ j, j < k + 1 → ∃ v, a[j]? = some v ∧ b[j]? = some v from fun j hj => by
              by_cases e : j = k
              · subst e
                exact ⟨a[j], by simp [hla], by rw [List.getElem?_eq_getElem hlb]; congr 1; omega⟩
              · exact HE.out j (by omega))
            have hcv : cmpI a[k] b[k] = 0 := by simp [cmpI, hl, hg]
            rw [hcv]
            clear hcv
            go_wp2_with fail
            go_roundw
            case rel => exact ⟨k + 1, by go_num, by omega, by omega, HE', HB2⟩
            case measure => simp [intOf]; omega
      · obtain rfl : k = b.length := by omega
        have HR := Lib.hid (ahead_long HE.out hla)
        go_wp2_with fail
        go_ret
        exact ret_i HR.out.symm HB.out
    · obtain rfl : k = a.length := by omega
      clear hla
      by_cases hlb : a.length < b.length
      · have hlbI : ((a.length : Nat) : Int) < (b.length : Int) := by omega
        have HR := Lib.hid (ahead_short HE.out hlb)
        clear hlb
        go_wp2_with fail
        go_ret
        exact ret_i HR.out.symm HB.out
      · have he : a.length = b.length := by omega
        have HR := Lib.hid (ahead_same HE.out he)
        have hlbI : ¬ ((a.length : Nat) : Int) < (b.length : Int) := by omega
        clear he hlb hkb
        go_wp2_with fail
        go_ret
        exact ret_i HR.out.symm HB.out
set_option maxRecDepth 100000 in
set_option maxHeartbeats 2000000 in
theorem ordered_any (a b : List Int) (v1 v2 u1 u2 : Value) (w : World) (h1 : RowM w w.heap.size v1 a.length (intCells a)) (h2 : RowM w w.heap.size v2 b.length (intCells b)) (hu1 : u1.oneCell' = true) (hu2 : u2.oneCell' = true) : Calls Tryz.prog 10 #[.agg #[v1, u1], .agg #[v2, u2]] w (Ret (.int .i64 (ahead a b)) w) := by
  have HB := Lib.hid (below_a2 w)
  have HC := Lib.hid (fun o o2 => compare_any a b v1 v2 ((w.alloc o).alloc o2) ((h1.below (HB.out o o2)).more (by simp; omega)) ((h2.below (HB.out o o2)).more (by simp; omega)))
  obtain ⟨A1, c1, rfl, hc1, hm1, _⟩ := h1
  obtain ⟨A2, c2, rfl, hc2, hm2, _⟩ := h2
  go_enter Tryz.func10, Tryz.ntmps10
  go_wp2_with fail
  refine (HC.out _ _).mono ?_
  rintro e w2 ⟨rfl, hb2⟩
  have HB2 := Lib.hid ((HB.out _ _).trans (hb2.mono (by simp; omega)))
  clear hb2 HC
  go_wp2_with fail
  go_ret
  exact ⟨rfl, HB2.out⟩
end Go.Proofs.YthcjcdchmdgnjaaGreatDoor
