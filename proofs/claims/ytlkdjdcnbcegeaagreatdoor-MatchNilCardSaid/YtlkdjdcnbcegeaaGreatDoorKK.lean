/-
  ref04.IsPoint, Syllable, Ten; ucd.isPoint, syllable and Print's function.
-/
import Derived.Test.YtlkdjdcnbcegeaaGreatDoorKH
namespace Go.Proofs.YtlkdjdcnbcegeaaGreatDoor
open Go.RowKit Go.WideShapes
set_option linter.unusedVariables false
set_option linter.unusedSimpArgs false
set_option maxHeartbeats 1000000 in
theorem refPoint_any (p : Int) (w : World) : Calls Tryz.prog 65 #[.int .i64 p] w (Ret (.bool (pointB p)) w) := by
  have HB := Lib.hid (Below.refl w.heap.size w)
  go_enter Tryz.func65, Tryz.ntmps65
  go_wp2_with fail
  all_goals (go_ret; refine ret_b ?_ HB.out; unfold pointB; first | exact (decide_eq_true (by omega)).symm | exact (decide_eq_false (by omega)).symm | (rw [Bool.eq_iff_iff]; simp only [Bool.or_eq_true, decide_eq_true_eq]; omega))
set_option maxHeartbeats 1000000 in
theorem ucdPoint_any (p : Int) (w : World) : Calls Tryz.prog 110 #[.int .i64 p] w (Ret (.bool (pointB p)) w) := by
  have HB := Lib.hid (Below.refl w.heap.size w)
  go_enter Tryz.func110, Tryz.ntmps110
  go_wp2_with fail
  all_goals (go_ret; refine ret_b ?_ HB.out; unfold pointB; first | exact (decide_eq_true (by omega)).symm | exact (decide_eq_false (by omega)).symm | (rw [Bool.eq_iff_iff]; simp only [Bool.or_eq_true, decide_eq_true_eq]; omega))
set_option maxHeartbeats 1000000 in
theorem refSyl_any (p : Int) (w : World) : Calls Tryz.prog 63 #[.int .i64 p] w (Ret (.bool (sylB p)) w) := by
  have HB := Lib.hid (Below.refl w.heap.size w)
  go_enter Tryz.func63, Tryz.ntmps63
  go_wp2_with fail
  all_goals (go_ret; refine ret_b ?_ HB.out; unfold sylB; first | exact (decide_eq_true (by omega)).symm | exact (decide_eq_false (by omega)).symm | (rw [Bool.eq_iff_iff]; simp only [Bool.or_eq_true, decide_eq_true_eq]; omega))
set_option maxHeartbeats 1000000 in
theorem ucdSyl_any (p : Int) (w : World) : Calls Tryz.prog 68 #[.int .i64 p] w (Ret (.bool (sylB p)) w) := by
  have HB := Lib.hid (Below.refl w.heap.size w)
  go_enter Tryz.func68, Tryz.ntmps68
  go_wp2_with fail
  all_goals (go_ret; refine ret_b ?_ HB.out; unfold sylB; first | exact (decide_eq_true (by omega)).symm | exact (decide_eq_false (by omega)).symm | (rw [Bool.eq_iff_iff]; simp only [Bool.or_eq_true, decide_eq_true_eq]; omega))
theorem dec_step {v : Nat} (h : 10 ≤ v) : Lib.decDigits v = Lib.decDigits (v / 10) ++ [UInt8.ofNat (48 + v % 10)] := by
  conv => lhs; rw [Lib.decDigits]
  exact dif_neg (by omega)
theorem dec_one {v : Nat} (h : v < 10) : Lib.decDigits v = [UInt8.ofNat (48 + v % 10)] := by
  rw [Lib.decDigits, dif_pos h, Nat.mod_eq_of_lt h]
set_option maxRecDepth 100000 in
set_option maxHeartbeats 2000000 in
theorem ten_any (n : Nat) (hn : n ≤ 254) (w : World) : Calls Tryz.prog 90 #[.int .i64 n] w (Ret (.string (txt (Lib.decDigits n))) w) := by
  have HB0 := Lib.hid (Below.refl w.heap.size w)
  go_enter Tryz.func90, Tryz.ntmps90
  go_wp2_with fail
  go_loopw [0, 3] (fun t0 t3 wr => ∃ (v : Nat) (S : List UInt8), t0 = .int .i64 v ∧ t3 = .string (txt S) ∧ v ≤ 254 ∧ S.length + v ≤ 1000 ∧ Hid (Lib.decDigits n = (if S = [] then Lib.decDigits v else if v = 0 then S else Lib.decDigits v ++ S)) ∧ Hid (Below w.heap.size w wr)) (fun t0 t3 _ => (intOf t0).toNat + (match t3 with | .string s => 1 - s.size | _ => 0))
  case atStart => exact ⟨n, [], rfl, rfl, hn, by simp; omega, Lib.hid (by simp), HB0⟩
  case round =>
    clear HB0
    obtain ⟨v, S, rfl, rfl, hv, hS, HD, HB⟩ := hrel
    have hwz := HB.out.size
    obtain ⟨d, hd⟩ : ∃ d, d = v % 10 := ⟨_, rfl⟩
    have hd10 : d < 10 := by rw [hd]; exact Nat.mod_lt _ (by omega)
    have hr : (v : Int).tmod 10 = (d : Int) := by rw [Int.tmod_eq_emod_of_nonneg (by omega)]; omega
    have hq : (v : Int).tdiv 10 = ((v / 10 : Nat) : Int) := by rw [Int.tdiv_eq_ediv_of_nonneg (by omega)]; omega
    have hw8 : IntKind.u8.wrap (48 + (d : Int)) = 48 + (d : Int) := by rw [IntKind.wrap_u8]; omega
    obtain ⟨Bd, hBd⟩ : ∃ Bd : UInt8, Bd = UInt8.ofNat (48 + d) := ⟨_, rfl⟩
    have hcv : (convert 160 9 (.slice (some ⟨wr.heap.size, 0, none⟩) 1 1)).run Tryz.prog (wr.alloc (.cells #[.int .u8 (48 + (d : Int))] 5)) = .ok (.string (txt [Bd])) (wr.alloc (.cells #[.int .u8 (48 + (d : Int))] 5)) := by
      rw [hBd]
      refine run_string_row (B := wr.heap.size + 1) (bs := [48 + d]) ⟨some ⟨wr.heap.size, 0, none⟩, 1, rfl, Nat.le_refl _, fun _ => ⟨wr.heap.size, 0, rfl, by omega, fun i u hu => ?_⟩⟩
      have h := World.alloc_heap_new wr (.cells #[.int .u8 (48 + (d : Int))] 5)
      simp only [World.cell?, h, Nat.zero_add]
      match i, hu with
      | 0, hu => rw [← hu]; simp [u8s]
    have HBa := Lib.hid (HB.out.alloc hwz (.cells #[.int .u8 (48 + (d : Int))] 5))
    by_cases hgo : S = [] ∨ 0 < v
    · have HN := Lib.hid (show Lib.decDigits n = (if v / 10 = 0 then Bd :: S else Lib.decDigits (v / 10) ++ Bd :: S) from by
        rw [HD.out, hBd, hd]
        by_cases h10 : v < 10
        · rw [if_pos (by omega : v / 10 = 0)]
          by_cases hs0 : S = []
          · rw [if_pos hs0, hs0, dec_one h10]
          · rw [if_neg hs0, if_neg (by rcases hgo with h | h; exact absurd h hs0; omega), dec_one h10]; rfl
        · rw [if_neg (by omega : ¬ v / 10 = 0)]
          by_cases hs0 : S = []
          · rw [if_pos hs0, hs0, dec_step (by omega)]
          · rw [if_neg hs0, if_neg (by omega), dec_step (by omega)]; simp)
      have HN' := Lib.hid (show Lib.decDigits n = (if Bd :: S = [] then Lib.decDigits (v / 10) else if v / 10 = 0 then Bd :: S else Lib.decDigits (v / 10) ++ Bd :: S) by rw [if_neg (by simp)]; exact HN.out)
      have HT := Lib.hid (show txt [Bd] ++ txt S = txt (Bd :: S) by rw [txt_append]; rfl)
      have HLn := Lib.hid (show (Bd :: S).length + v / 10 ≤ 1000 by
        simp only [List.length_cons]
        rcases Nat.eq_zero_or_pos v with h0 | h0
        · have : S = [] := by rcases hgo with h | h; exact h; omega
          subst this; simp; omega
        · omega)
      have hz1 : (txt [Bd]).size = 1 := rfl
      have hzS : (txt S).size = S.length := txt_size _
      have z : (9223372036854775807 < (txt [Bd]).size + (txt S).size) = False := eq_false (by omega)
      have z1 : (9223372036854775807 < 1 + (txt S).size) = False := eq_false (by omega)
      have HM := Lib.hid (show v / 10 + 0 < v + (1 - (txt S).size) by
        rcases hgo with h | h
        · subst h; simp [txt_size]; omega
        · omega)
      have HBd := Lib.hid hBd
      clear hd hBd
      by_cases hs0 : S = []
      · subst hs0
        have e0 : txt [] = ⟨#[]⟩ := rfl
        rw [e0] at HT HM z z1 hzS ⊢
        clear hgo
        go_wp2_with fail
        go_roundw
        case rel => exact ⟨v / 10, _, by simp, congrArg Value.string HT.out, by omega, HLn.out, HN', HBa⟩
        case measure =>
          rw [HT.out]
          simp only [intOf, txt_size, List.length_cons]
          have := HM.out
          simp at this ⊢
          omega
      · have hs2 : (txt S).toList.isEmpty = false := by rw [ByteArray.toList_eq, txt_list]; cases S with | nil => exact absurd rfl hs0 | cons => rfl
        have hs1 : ¬ (txt S).toList = [] := by rw [ByteArray.toList_eq, txt_list]; exact hs0
        have hv0 : (0 : Int) < (v : Int) := by rcases hgo with h | h; exact absurd h hs0; omega
        clear hgo hs0
        go_wp2_with fail
        go_roundw
        case rel => exact ⟨v / 10, _, by simp, congrArg Value.string HT.out, by omega, HLn.out, HN', HBa⟩
        case measure =>
          rw [HT.out]
          simp only [intOf, txt_size, List.length_cons]
          have := HM.out
          simp at this ⊢
          omega
    · obtain rfl : v = 0 := by omega
      have hs0 : ¬ S = [] := fun h => hgo (.inl h)
      have hs2 : (txt S).toList.isEmpty = false := by rw [ByteArray.toList_eq, txt_list]; cases S with | nil => exact absurd rfl hs0 | cons => rfl
      have hs1 : ¬ (txt S).toList = [] := by rw [ByteArray.toList_eq, txt_list]; exact hs0
      have HR := Lib.hid (show txt S = txt (Lib.decDigits n) by rw [HD.out, if_neg hs0, if_pos rfl])
      clear hgo hs0 hd hBd hcv hw8 HBa
      go_wp2_with fail
      go_ret
      exact ret_s HR.out HB.out
end Go.Proofs.YtlkdjdcnbcegeaaGreatDoor
