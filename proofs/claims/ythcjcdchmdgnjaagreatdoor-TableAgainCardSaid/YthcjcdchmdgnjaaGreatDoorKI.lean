/-
  strconv.ParseUint(s, 16, 16), strconv.ParseInt(s, 16, 32), where the text is a number.
-/
import Derived.Test.YthcjcdchmdgnjaaGreatDoorKH
namespace Go.Proofs.YthcjcdchmdgnjaaGreatDoor
open Go.RowKit Go.WideShapes Go.Lib
set_option linter.unusedVariables false
set_option linter.unusedSimpArgs false
theorem xuint16_ok {n : Nat} (t : ByteArray) (hne : t.size ≠ 0) (hmax : t.size ≤ 9223372036854775806) (h : parseX 65535 0 t.data.toList = .ok n) (w : World) :
    Calls Tryz.prog 77 #[.string t, .int .i64 16, .int .i64 16] w (Ret (.tuple #[.int .u64 n, .nilIface]) w) := by
  refine (xuint16_any t hne hmax w).mono ?_
  rintro e w' ⟨rfl, rfl⟩
  rw [h]
  exact ⟨rfl, Lib.bytesWorld_below w _ t⟩
theorem xuint32_ok {n : Nat} (t : ByteArray) (hne : t.size ≠ 0) (hmax : t.size ≤ 9223372036854775806) (h : parseX 4294967295 0 t.data.toList = .ok n) (w : World) :
    Calls Tryz.prog 77 #[.string t, .int .i64 16, .int .i64 32] w (Ret (.tuple #[.int .u64 n, .nilIface]) w) := by
  refine (xuint32_any t hne hmax w).mono ?_
  rintro e w' ⟨rfl, rfl⟩
  rw [h]
  exact ⟨rfl, Lib.bytesWorld_below w _ t⟩
set_option maxRecDepth 100000 in
/-- strconv.ParseUint(s, 16, 16), of a number. -/
theorem puint16_ok {n : Nat} (t : ByteArray) (hne : t.size ≠ 0) (hmax : t.size ≤ 9223372036854775806) (h : parseX 65535 0 t.data.toList = .ok n) (w : World) :
    Calls Tryz.prog 82 #[.string t, .int .i64 16, .int .i64 16] w (Ret (.tuple #[.int .u64 n, .nilIface]) w) := by
  have HC := Lib.hid (fun w => xuint16_ok t hne hmax h w)
  have HB := Lib.hid (Below.refl w.heap.size w)
  clear h
  go_enter Tryz.func82, Tryz.ntmps82
  go_wp2_with fail
  refine (HC.out _).mono ?_
  rintro e w2 ⟨rfl, hb2⟩
  have HB2 := Lib.hid (HB.out.trans (hb2.mono HB.out.size))
  clear hb2 HB
  go_wp2_with fail
  go_returns
  exact ⟨rfl, HB2.out⟩
set_option maxRecDepth 100000 in
/-- internal/strconv.ParseInt(s, 16, 32), of a number without a sign. -/
theorem xint32_ok {n : Nat} (t : ByteArray) (h0 : 0 < t.size) (hp : (t[0]'h0).toNat ≠ 43) (hm : (t[0]'h0).toNat ≠ 45) (hmax : t.size ≤ 9223372036854775806) (h : parseX 4294967295 0 t.data.toList = .ok n) (hn : n ≤ 2147483647) (w : World) :
    Calls Tryz.prog 50 #[.string t, .int .i64 16, .int .i64 32] w (Ret (.tuple #[.int .i64 n, .nilIface]) w) := by
  have HC := Lib.hid (fun w => xuint32_ok t (by omega) hmax h w)
  have HB := Lib.hid (Below.refl w.heap.size w)
  have hemp : t.toList.isEmpty = false := by
    rw [← decide_eq_emptyBytes]
    exact decide_eq_false (fun h => by rw [h] at h0; exact absurd h0 (by decide))
  have hpI : ¬ ((t[0]'h0).toNat : Int) = 43 := by omega
  have hmI : ¬ ((t[0]'h0).toNat : Int) = 45 := by omega
  clear h
  obtain ⟨a, ha⟩ : ∃ a : Int, a = (n : Int) := ⟨_, rfl⟩
  rw [← ha] at HC ⊢
  have a0 : 0 ≤ a := by omega
  have a1 : a < 2147483648 := by omega
  have HH := Lib.hid (And.intro ha hn)
  clear ha hn
  go_enter Tryz.func50, Tryz.ntmps50
  go_wp2_with fail
  refine (HC.out _).mono ?_
  rintro e w2 ⟨rfl, hb2⟩
  have HB2 := Lib.hid (HB.out.trans (hb2.mono HB.out.size))
  clear hb2 HB
  go_wp2_with fail
  go_returns
  exact ⟨rfl, HB2.out⟩
set_option maxRecDepth 100000 in
/-- strconv.ParseInt(s, 16, 32), of a number without a sign. -/
theorem pint32_ok {n : Nat} (t : ByteArray) (h0 : 0 < t.size) (hp : (t[0]'h0).toNat ≠ 43) (hm : (t[0]'h0).toNat ≠ 45) (hmax : t.size ≤ 9223372036854775806) (h : parseX 4294967295 0 t.data.toList = .ok n) (hn : n ≤ 2147483647) (w : World) :
    Calls Tryz.prog 35 #[.string t, .int .i64 16, .int .i64 32] w (Ret (.tuple #[.int .i64 n, .nilIface]) w) := by
  have HC := Lib.hid (fun w => xint32_ok t h0 hp hm hmax h hn w)
  have HB := Lib.hid (Below.refl w.heap.size w)
  clear h hp hm
  go_enter Tryz.func35, Tryz.ntmps35
  go_wp2_with fail
  refine (HC.out _).mono ?_
  rintro e w2 ⟨rfl, hb2⟩
  have HB2 := Lib.hid (HB.out.trans (hb2.mono HB.out.size))
  clear hb2 HB
  go_wp2_with fail
  go_returns
  exact ⟨rfl, HB2.out⟩
end Go.Proofs.YthcjcdchmdgnjaaGreatDoor
