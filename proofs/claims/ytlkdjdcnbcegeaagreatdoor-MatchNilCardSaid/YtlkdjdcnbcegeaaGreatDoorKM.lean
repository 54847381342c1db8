/-
  ucd.read, of a point's text.
-/
import Derived.Test.YtlkdjdcnbcegeaaGreatDoorKJ
import Derived.Test.YtlkdjdcnbcegeaaGreatDoorKK
import Derived.Test.YtlkdjdcnbcegeaaGreatDoorKL
namespace Go.Proofs.YtlkdjdcnbcegeaaGreatDoor
open Go.RowKit Go.WideShapes
set_option linter.unusedVariables false
set_option linter.unusedSimpArgs false
theorem read_ok {p : Int} (h : fitsB p = true) (w : World) (HX : UHere w) : Calls Tryz.prog 83 #[.string (txt (hexW p.toNat))] w (Ret (.int .i64 p) w) := by
  have hp := fits_point h
  have hpb : pointB p = true ∧ sylB p = false := by
    unfold fitsB at h
    simp only [Bool.and_eq_true, Bool.not_eq_true'] at h
    exact h
  have HP := Lib.hid (point_ok hpb.1 w)
  have HX0 := Lib.hid HX
  have HI := Lib.hid (fun W => ucdPoint_any p W)
  have HS := Lib.hid (fun W => ucdSyl_any p W)
  rw [hpb.1] at HI
  rw [hpb.2] at HS
  obtain ⟨n, rfl⟩ := Int.eq_ofNat_of_zero_le hp.1
  have hn : n ≤ 1114111 := by omega
  have HD := Lib.hid (fun W hb => HX0.out n hn W hb)
  rw [Int.toNat_natCast] at HP ⊢
  clear hpb HX h hp
  generalize txt (hexW n) = s at HP HD ⊢
  go_enter Tryz.func83, Tryz.ntmps83
  go_wp2_with fail
  refine HP.out.mono ?_
  rintro e w2 ⟨rfl, hb2⟩
  have HB2 := Lib.hid hb2
  clear hb2 HP
  go_wp2_with fail
  refine (HD.out _ HB2.out).mono ?_
  rintro e w3 ⟨rfl, hb3⟩
  have HB3 := Lib.hid (HB2.out.trans (hb3.mono HB2.out.size))
  clear hb3
  go_wp2_with fail
  refine (HI.out _).mono ?_
  rintro e w4 ⟨rfl, hb4⟩
  have HB4 := Lib.hid (HB3.out.trans (hb4.mono HB3.out.size))
  clear hb4
  go_wp2_with fail
  refine (HS.out _).mono ?_
  rintro e w5 ⟨rfl, hb5⟩
  have HB5 := Lib.hid (HB4.out.trans (hb5.mono HB4.out.size))
  clear hb5
  go_wp2_with fail
  go_ret
  exact ⟨rfl, HB5.out⟩
theorem atoi_dec : ∀ n : Nat, n ≤ 254 → Lib.atoi (Lib.decDigits n) = some (n : Int) := by
  have h : (List.range 255).all (fun n => decide (Lib.atoi (Lib.decDigits n) = some (n : Int))) = true := by kernel_rfl
  intro n hn
  exact of_decide_eq_true (List.all_eq_true.1 h n (List.mem_range.2 (by omega)))
theorem atoi_ok (n : Nat) (hn : n ≤ 254) (w : World) : Calls Tryz.prog 84 #[.string (txt (Lib.decDigits n))] w (Ret (.tuple #[.int .i64 n, .nilIface]) w) := by
  refine (Any.strconv_Atoi lays172 (txt (Lib.decDigits n)) n (by rw [txt_size]; have := (dec_three hn).2; omega) (by rw [txt_list]; exact atoi_dec n hn) w).mono ?_
  rintro e w' ⟨rfl, t, rfl⟩
  exact ⟨rfl, Lib.bytesWorld_below w _ t⟩
end Go.Proofs.YtlkdjdcnbcegeaaGreatDoor
