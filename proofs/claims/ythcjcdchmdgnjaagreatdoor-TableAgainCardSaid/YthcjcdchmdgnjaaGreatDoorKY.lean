/-
  ref06.Ahead; slices.CompareFunc of numbers by cmp.Compare; table.ordered.
-/
import Derived.Test.YthcjcdchmdgnjaaGreatDoorKU
import Derived.Test.YthcjcdchmdgnjaaGreatDoorKB
namespace Go.Proofs.YthcjcdchmdgnjaaGreatDoor
open Go.RowKit Go.WideShapes
set_option linter.unusedVariables false
theorem ahead_at {a b : List Int} {k : Nat} (h : ∀ j, j < k → ∃ v, a[j]? = some v ∧ b[j]? = some v) : ahead a b = ahead (a.drop k) (b.drop k) := ahead_drop k a b h
theorem ahead_lt {a b : List Int} {k : Nat} (h : ∀ j, j < k → ∃ v, a[j]? = some v ∧ b[j]? = some v) (ha : k < a.length) (hb : k < b.length) (hl : a[k] < b[k]) : ahead a b = -1 := by
  rw [ahead_at h, List.drop_eq_getElem_cons ha, List.drop_eq_getElem_cons hb, ahead, if_pos hl]
theorem ahead_gt {a b : List Int} {k : Nat} (h : ∀ j, j < k → ∃ v, a[j]? = some v ∧ b[j]? = some v) (ha : k < a.length) (hb : k < b.length) (hl : b[k] < a[k]) : ahead a b = 1 := by
  rw [ahead_at h, List.drop_eq_getElem_cons ha, List.drop_eq_getElem_cons hb, ahead, if_neg (by omega), if_pos hl]
theorem ahead_short {a b : List Int} (h : ∀ j, j < a.length → ∃ v, a[j]? = some v ∧ b[j]? = some v) (hb : a.length < b.length) : ahead a b = -1 := by
  rw [ahead_at h, List.drop_length, List.drop_eq_getElem_cons hb, ahead]
theorem ahead_long {a b : List Int} (h : ∀ j, j < b.length → ∃ v, a[j]? = some v ∧ b[j]? = some v) (ha : b.length < a.length) : ahead a b = 1 := by
  rw [ahead_at h, List.drop_length, List.drop_eq_getElem_cons ha, ahead]
theorem ahead_same {a b : List Int} (h : ∀ j, j < a.length → ∃ v, a[j]? = some v ∧ b[j]? = some v) (hb : a.length = b.length) : ahead a b = 0 := by
  rw [ahead_at h, List.drop_length, hb, List.drop_length, ahead]
set_option maxRecDepth 100000 in
set_option maxHeartbeats 2000000 in
theorem refAhead_any (a b : List Int) (v1 v2 : Value) (w : World) (h1 : RowM w w.heap.size v1 a.length (intCells a)) (h2 : RowM w w.heap.size v2 b.length (intCells b)) : Calls Tryz.prog 21 #[v1, v2] w (Ret (.int .i64 (ahead a b)) w) := by
  have H1 := Lib.hid h1
  have H2 := Lib.hid h2
  have HB0 := Lib.hid (Below.refl w.heap.size w)
  obtain ⟨A1, c1, rfl, hc1, hm1, _⟩ := h1
  obtain ⟨A2, c2, rfl, hc2, hm2, _⟩ := h2
  go_enter Tryz.func21, Tryz.ntmps21
  go_wp2_with fail
  go_loopw [5] (fun i wr => ∃ (k : Nat), i = .int .i64 k ∧ k ≤ a.length ∧ k ≤ b.length ∧ Hid (∀ j, j < k → ∃ v, a[j]? = some v ∧ b[j]? = some v) ∧ Hid (Below w.heap.size w wr)) (fun i _ => a.length - (intOf i).toNat)
  case atStart => exact ⟨0, rfl, by omega, by omega, Lib.hid (fun j h => by omega), HB0⟩
  case round =>
    clear HB0
    obtain ⟨k, rfl, hka, hkb, HE, HB⟩ := hrel
    by_cases hla : k < a.length
    · by_cases hlb : k < b.length
      · obtain ⟨b1, o1, d1, e1, hb1, g1⟩ := (H1.out.below HB.out).int hla
        injection e1 with e1 _ ec1; subst e1 ec1
        obtain ⟨b2, o2, d2, e2, hb2, g2⟩ := (H2.out.below HB.out).int hlb
        injection e2 with e2 _ ec2; subst e2 ec2
        have hlaI : (k : Int) < (a.length : Int) := by omega
        have hlbI : (k : Int) < (b.length : Int) := by omega
        go_wp2_with fail
        go_quiet (fail)
        have HBq := Lib.hid (fun m => below_nq HB.out m)
        by_cases hl : a[k] < b[k]
        · have HR := Lib.hid (ahead_lt HE.out hla hlb hl)
          go_wp2_with fail
          go_ret
          first | exact ret_i HR.out.symm (HBq.out _) | exact ret_i HR.out.symm (below_nq (HBq.out _) _)
        · go_wp2_with fail
          go_quiet (fail)
          by_cases hg : b[k] < a[k]
          · have HR := Lib.hid (ahead_gt HE.out hla hlb hg)
            go_wp2_with fail
            go_ret
            first | exact ret_i HR.out.symm (HBq.out _) | exact ret_i HR.out.symm (below_nq (HBq.out _) _)
          · have HE' := Lib.hid (show ∀ j, j < k + 1 → ∃ v, a[j]? = some v ∧ b[j]? = some v from fun j hj => by
              by_cases e : j = k
              · subst e
                exact ⟨a[j], by simp [hla], by rw [List.getElem?_eq_getElem hlb]; congr 1; omega⟩
              · exact HE.out j (by omega))
            go_wp2_with fail
            go_roundw
            case rel => exact ⟨k + 1, by go_num, by omega, by omega, HE', Lib.hid (HBq.out _)⟩
            case measure => simp [intOf]; omega
      · obtain rfl : k = b.length := by omega
        have hlaI : ((b.length : Nat) : Int) < (a.length : Int) := by omega
        have HR := Lib.hid (ahead_long HE.out hla)
        clear hla
        go_wp2_with fail
        go_ret
        exact ret_i HR.out.symm HB.out
    · obtain rfl : k = a.length := by omega
      clear hla
      by_cases hlb : a.length < b.length
      · have hlbI : ((a.length : Nat) : Int) < (b.length : Int) := by omega
        have HR := Lib.hid (ahead_short HE.out hlb)
        clear hlb
        go_wp2_with fail
        go_ret
        exact ret_i HR.out.symm HB.out
      · have he : a.length = b.length := by omega
        have HR := Lib.hid (ahead_same HE.out he)
        have hlbI : ¬ ((a.length : Nat) : Int) < (b.length : Int) := by omega
        have hlbJ : ¬ ((b.length : Nat) : Int) < (a.length : Int) := by omega
        clear he hlb hkb
        go_wp2_with fail
        go_ret
        exact ret_i HR.out.symm HB.out
end Go.Proofs.YthcjcdchmdgnjaaGreatDoor
