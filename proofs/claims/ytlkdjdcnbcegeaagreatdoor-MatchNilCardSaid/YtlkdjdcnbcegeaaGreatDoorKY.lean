/-
  table.weight, of a weight's text.
-/
import Derived.Test.YtlkdjdcnbcegeaaGreatDoorKD
namespace Go.Proofs.YtlkdjdcnbcegeaaGreatDoor
open Go.RowKit Go.WideShapes Go.Lib
set_option linter.unusedVariables false
set_option linter.unusedSimpArgs false
theorem hexW_toListT (n : Nat) : (txt (hexW n)).data.toList = hexW n := by simp [txt]
/-- What is known of hex, from the world w on. -/
def HexHere (w : World) : Prop := ∀ n : Nat, n ≤ 1114111 → ∀ W, Below w.heap.size w W → Calls Tryz.prog 88 #[.int .i64 n] W (Ret (.string (txt (hexW n))) W)
theorem HexHere.on {w W : World} (h : HexHere w) (hb : Below w.heap.size w W) : HexHere W := fun n hn W' hb' => h n hn W' (hb.trans (hb'.mono hb.size))
set_option maxRecDepth 100000 in
theorem weight_ok (n : Nat) (hn : n ≤ 65535) (w : World) (HX : HexHere w) : Calls Tryz.prog 118 #[.string (txt (hexW n))] w (Ret (.tuple #[.int .i64 n, .bool true]) w) := by
  have hlen : (txt (hexW n)).size = (hexW n).length := txt_size _
  have h4 : 4 ≤ (hexW n).length := by rw [hexW_len]; omega
  have h6 := hexW_few (n := n) (by omega)
  have HC := Lib.hid (fun w => puint16_ok (n := n) (txt (hexW n)) (by omega) (by omega) (by rw [hexW_toListT]; exact parseX_hexW hn) w)
  have HB := Lib.hid (Below.refl w.heap.size w)
  have HE := Lib.hid (fun W hb => HX n (by omega) W hb)
  clear HX hlen h4 h6
  obtain ⟨s, hs⟩ : ∃ s, s = txt (hexW n) := ⟨_, rfl⟩
  rw [← hs] at HC HE ⊢
  clear hs
  obtain ⟨a, ha⟩ : ∃ a : Int, a = (n : Int) := ⟨_, rfl⟩
  rw [← ha] at HC HE ⊢
  have a0 : 0 ≤ a := by omega
  have a1 : a ≤ 65535 := by omega
  clear ha hn
  go_enter Tryz.func118, Tryz.ntmps118
  go_wp2_with fail
  refine (HC.out _).mono ?_
  rintro e w2 ⟨rfl, hb2⟩
  have HB2 := Lib.hid (HB.out.trans (hb2.mono HB.out.size))
  clear hb2 HB HC
  go_wp2_with fail
  refine (HE.out _ HB2.out).mono ?_
  rintro e w3 ⟨rfl, hb3⟩
  have HB3 := Lib.hid (HB2.out.trans (hb3.mono HB2.out.size))
  clear hb3 HB2 HE
  go_wp2_with fail
  go_returns
  exact ⟨rfl, HB3.out⟩
end Go.Proofs.YtlkdjdcnbcegeaaGreatDoor
