/-
  ucd.digits and table.hex of any 32 bits; the two errors' variables.
-/
import Derived.Test.YtlkdjdcnbcegeaaGreatDoorKAP
import Derived.Test.YtlkdjdcnbcegeaaGreatDoorKT
import Derived.Test.YtlkdjdcnbcegeaaGreatDoorKAQ
import Derived.Stop.LaidErr
import Derived.LaidSub
namespace Go.Proofs.YtlkdjdcnbcegeaaGreatDoor
open Go.RowKit Go.WideShapes
set_option linter.unusedVariables false
set_option linter.unusedSimpArgs false
set_option maxRecDepth 100000 in
set_option maxHeartbeats 1000000 in
theorem dig_any (n : Nat) (hn : n ≤ 1114111) {w0 w : World} (h : laidMetH Tryz.prog Rows.matchNilRow.laid w0) (hb0 : Below w0.heap.size w0 w) : Calls Tryz.prog 109 #[.int .i64 n] w (Ret (.string (txt (hexW n))) w) := by
  have HF := Lib.hid (fmt_any n w hn (fun W hb => tz_any h (hb0.trans (hb.mono hb0.size))))
  have HU := Lib.hid (upper_any n hn)
  have hn6 := hexN_few hn
  clear h hb0
  go_enter Tryz.func109, Tryz.ntmps109
  go_wp2_with fail
  refine HF.out.mono ?_
  rintro e w1 ⟨rfl, hb1⟩
  have HB1 := Lib.hid hb1
  clear hb1
  go_wp2_with fail
  refine (HU.out _).mono ?_
  rintro e w2 ⟨rfl, hb2⟩
  have HB2 := Lib.hid (HB1.out.trans (hb2.mono HB1.out.size))
  clear hb2 HB1
  go_wp2_with fail
  go_loop [3] (fun t3 => ∃ (k : Nat), t3 = .string (txt (digs hexU k n)) ∧ hexN n ≤ k ∧ k ≤ 6 ∧ Hid (k ≤ 4 ∨ k = hexN n)) (fun t3 => (match t3 with | .string s => 4 - s.size | _ => 0))
  case atStart => exact ⟨hexN n, rfl, Nat.le_refl _, hn6, Lib.hid (.inr rfl)⟩
  case round =>
    obtain ⟨k, rfl, hk1, hk6, HK⟩ := hrel
    have hsz : (txt (digs hexU k n)).size = k := by rw [txt_size, digs_len]
    by_cases h4 : k < 4
    · have hk4I : ((txt (digs hexU k n)).size : Int) < 4 := by omega
      have HP := Lib.hid (digs_padW hk1)
      have HS := Lib.hid hsz
      have z : (9223372036854775807 < 1 + (txt (digs hexU k n)).size) = False := eq_false (by omega)
      clear hsz
      go_wp2_with fail
      go_round
      case rel => exact ⟨k + 1, congrArg Value.string HP.out, by omega, by omega, Lib.hid (.inl (by omega))⟩
      case measure =>
        have e : ByteArray.mk #[48] ++ txt (digs hexU k n) = txt (digs hexU (k + 1) n) := HP.out
        rw [e]
        have e2 : (txt (digs hexU (k + 1) n)).size = k + 1 := by rw [txt_size, digs_len]
        simp only [e2, HS.out]
        omega
    · have hk4I : ¬ ((txt (digs hexU k n)).size : Int) < 4 := by omega
      have HE := Lib.hid (show digs hexU k n = hexW n by unfold hexW; rw [show k = max 4 (hexN n) by rcases HK.out with h | h <;> omega])
      clear hsz
      go_wp2_with fail
      go_ret
      exact ret_s (by rw [HE.out]) HB2.out
theorem upper_few (l : List UInt8) (hl : l.length ≤ 9) (ha : ∀ b ∈ l, b.toNat < 128) (w : World) : Calls Tryz.prog 116 #[.string (txt l)] w (Ret (.string (txt (Lib.toUpperA l))) w) := by
  refine (Any.strings_ToUpper_ascii lays158 extra158 (txt l) w ?_ ?_).mono ?_
  · rw [txt_size]; omega
  · intro j b hj
    rw [txt_list] at hj
    exact ha b (List.mem_of_getElem? hj)
  · rintro e w' ⟨rfl, hb⟩
    refine ⟨?_, hb⟩
    rw [txt_list]; rfl
set_option maxRecDepth 100000 in
set_option maxHeartbeats 1000000 in
theorem digits_few (v : Int) (h0 : -2147483648 ≤ v) (h1 : v ≤ 2147483647) {w0 w : World} (h : laidMetH Tryz.prog Rows.matchNilRow.laid w0) (hb0 : Below w0.heap.size w0 w) : Calls Tryz.prog 109 #[.int .i64 v] w fun e w' => ∃ t : ByteArray, e = .returned (.string t) ∧ Below w.heap.size w w' := by
  have HF := Lib.hid (sfmt_few v w h0 h1 (fun W hb => tz_any h (hb0.trans (hb.mono hb0.size))))
  clear h hb0
  go_enter Tryz.func109, Tryz.ntmps109
  go_wp2_with fail
  refine HF.out.mono ?_
  rintro e w1 ⟨l, rfl, hl, ha, hb1⟩
  have HB1 := Lib.hid hb1
  have HU := Lib.hid (fun W => upper_few l hl ha W)
  have hl2 : (txt (Lib.toUpperA l)).size ≤ 9 := by rw [txt_size]; simpa [Lib.toUpperA] using hl
  clear hb1 ha
  simp only [id_eq]
  generalize txt (Lib.toUpperA l) = s0 at HU hl2
  generalize txt l = s1 at HU ⊢
  go_wp2_with fail
  refine (HU.out _).mono ?_
  rintro e w2 ⟨rfl, hb2⟩
  have HB2 := Lib.hid (HB1.out.trans (hb2.mono HB1.out.size))
  clear hb2 HB1
  go_wp2_with fail
  go_loop [3] (fun t3 => ∃ (s : ByteArray), t3 = .string s ∧ s.size ≤ 13) (fun t3 => (match t3 with | .string s => 4 - s.size | _ => 0))
  case atStart => exact ⟨s0, rfl, by omega⟩
  case round =>
    obtain ⟨s, rfl, hs⟩ := hrel
    by_cases h4 : s.size < 4
    · have hk4I : (s.size : Int) < 4 := by omega
      have z : (9223372036854775807 < 1 + s.size) = False := eq_false (by omega)
      go_wp2_with fail
      go_round
      case rel => exact ⟨_, rfl, by rw [ByteArray.size_append]; have : (ByteArray.mk #[48]).size = 1 := rfl; omega⟩
      case measure =>
        have e : (ByteArray.mk #[48] ++ s).size = 1 + s.size := by rw [ByteArray.size_append]; rfl
        simp only [e]
        omega
    · have hk4I : ¬ (s.size : Int) < 4 := by omega
      go_wp2_with fail
      go_ret
      exact ⟨⟨_, rfl⟩, HB2.out⟩
set_option maxRecDepth 100000 in
set_option maxHeartbeats 1000000 in
theorem hex_few (v : Int) (h0 : -2147483648 ≤ v) (h1 : v ≤ 2147483647) {w0 w : World} (h : laidMetH Tryz.prog Rows.matchNilRow.laid w0) (hb0 : Below w0.heap.size w0 w) : Calls Tryz.prog 88 #[.int .i64 v] w fun e w' => ∃ t : ByteArray, e = .returned (.string t) ∧ Below w.heap.size w w' := by
  have HF := Lib.hid (sfmt_few v w h0 h1 (fun W hb => tz_any h (hb0.trans (hb.mono hb0.size))))
  clear h hb0
  go_enter Tryz.func88, Tryz.ntmps88
  go_wp2_with fail
  refine HF.out.mono ?_
  rintro e w1 ⟨l, rfl, hl, ha, hb1⟩
  have HB1 := Lib.hid hb1
  have HU := Lib.hid (fun W => upper_few l hl ha W)
  have hl2 : (txt (Lib.toUpperA l)).size ≤ 9 := by rw [txt_size]; simpa [Lib.toUpperA] using hl
  clear hb1 ha
  simp only [id_eq]
  generalize txt (Lib.toUpperA l) = s0 at HU hl2
  generalize txt l = s1 at HU ⊢
  go_wp2_with fail
  refine (HU.out _).mono ?_
  rintro e w2 ⟨rfl, hb2⟩
  have HB2 := Lib.hid (HB1.out.trans (hb2.mono HB1.out.size))
  clear hb2 HB1
  go_wp2_with fail
  go_loop [3] (fun t3 => ∃ (s : ByteArray), t3 = .string s ∧ s.size ≤ 13) (fun t3 => (match t3 with | .string s => 4 - s.size | _ => 0))
  case atStart => exact ⟨s0, rfl, by omega⟩
  case round =>
    obtain ⟨s, rfl, hs⟩ := hrel
    by_cases h4 : s.size < 4
    · have hk4I : (s.size : Int) < 4 := by omega
      have z : (9223372036854775807 < 1 + s.size) = False := eq_false (by omega)
      go_wp2_with fail
      go_round
      case rel => exact ⟨_, rfl, by rw [ByteArray.size_append]; have : (ByteArray.mk #[48]).size = 1 := rfl; omega⟩
      case measure =>
        have e : (ByteArray.mk #[48] ++ s).size = 1 + s.size := by rw [ByteArray.size_append]; rfl
        simp only [e]
        omega
    · have hk4I : ¬ (s.size : Int) < 4 := by omega
      go_wp2_with fail
      go_ret
      exact ⟨⟨_, rfl⟩, HB2.out⟩
theorem laid_err {w : World} {n : String} {k : Nat} {d : DataW Unit} (h : laidMetH Tryz.prog Rows.matchNilRow.laid w) (hk : (Rows.matchNilRow.laid.filter fun x => x.2.handleName?.isNone).filter (fun x => x.1 == n) = [(n, d)]) : laidMet Tryz.prog [(n, d)] w := by
  have h1 := (Ev.laid_none h).filter (fun x => x.1 == n)
  rwa [hk] at h1
theorem err_here {w : World} (h : laidMetH Tryz.prog Rows.matchNilRow.laid w) : ErrHere w := by
  obtain ⟨a1, s1, v1, _⟩ := laid_sentinel (g := lays245c_ren.g 15) (te := 208) (ts := 9) (tp := 206) (laid_err (n := "strconv.ErrSyntax") (k := 0) (d := Rows.laid_strconv_ErrSyntax) h rfl) (by kernel_rfl) (by kernel_rfl) Tryz.underlying131 (fun u hu => typeName_ptr_named (nm := "errors.errorString") (by kernel_rfl) (by kernel_rfl) (by decide) u hu) Tryz.underlying206 Tryz.underlying208 rfl rfl Tryz.underlying9 (by kernel_rfl) (by kernel_rfl)
  obtain ⟨a2, s2, v2, _⟩ := laid_sentinel (g := lays245c_ren.g 16) (te := 208) (ts := 9) (tp := 206) (laid_err (n := "strconv.ErrRange") (k := 0) (d := Rows.laid_strconv_ErrRange) h rfl) (by kernel_rfl) (by kernel_rfl) Tryz.underlying131 (fun u hu => typeName_ptr_named (nm := "errors.errorString") (by kernel_rfl) (by kernel_rfl) (by decide) u hu) Tryz.underlying206 Tryz.underlying208 rfl rfl Tryz.underlying9 (by kernel_rfl) (by kernel_rfl)
  exact ⟨⟨_, _, by have h0 := World.var?_cell lays245c.m15 v1 0; simpa using h0⟩, ⟨_, _, by have h0 := World.var?_cell lays245c.m16 v2 0; simpa using h0⟩⟩
end Go.Proofs.YtlkdjdcnbcegeaaGreatDoor
