/-
  Does a field say what may not be: the program's answer, one kind.
-/
import Derived.Test.YtcjllhdbepchnaaGreatDoorMI
namespace Go.Proofs.YtcjllhdbepchnaaGreatDoor
open Go.RowKit Go.WideShapes
set_option linter.unusedVariables false
set_option maxRecDepth 100000 in
set_option maxHeartbeats 1000000 in
theorem oddP3 (nm : ByteArray) (dn : Bool) (nl : Nat) (bd lb : Bool) (lm : ByteArray) (hb : Bool) (hm : ByteArray) (ms st : Int) (sh ba : Bool) (l : List FT) (a : Option Addr) (c : Nat) (w : World) (hok : (⟨nm, 3, dn, nl, bd, lb, lm, hb, hm, ms, st, sh, ba⟩ : FS).ok) (hl : l.length ≤ 140737488351232) :
    Calls Tryz.prog 92 #[.agg #[.string nm, .int .u8 (3 : Nat), .bool dn, .int .u8 nl, .bool bd, .bool lb, .string lm, .bool hb, .string hm, .int .i64 ms, .int .i64 st, .bool sh, .bool ba, .slice a l.length c]] w (isOdd w (.mk ⟨nm, 3, dn, nl, bd, lb, lm, hb, hm, ms, st, sh, ba⟩ l)) := by
  obtain ⟨h1, h2, h3, h4, h5, h6, h7, h8, h9⟩ := hok
  simp only at *
  have HO := Lib.hid (fun bd lb hb st sh ba n w => oddMost_any nm 3 dn nl bd lb lm hb hm ms st sh ba n a c w)
  clear h1 h2 h4 h5
  have HB0 := Lib.hid (fun o => below_a1 w o)
  have HX0 := Lib.hid (fun cs => FBox.new w cs)
  by_cases hn : 2 < nl
  · have hnI : (2 : Int) < (nl : Int) := by omega
    have HE := Lib.hid (show (FT.mk ⟨nm, 3, dn, nl, bd, lb, lm, hb, hm, ms, st, sh, ba⟩ l).odd = true by simp [FT.odd, FT.s, hn])
    clear hn HO HX0
    go_enter Tryz.func92, Tryz.ntmps92
    go_wp2_with fail
    go_ret
    exact isOdd.of HE.out.symm (HB0.out _)
  · have hnI : ¬ (2 : Int) < (nl : Int) := by omega
    have HN := Lib.hid (show decide (2 < nl) = false by simp; omega)
    clear hn
    cases l with
    | nil =>
      go_enter Tryz.func92, Tryz.ntmps92
      go_wp2_with fail
      all_goals first
        | (go_ret
           refine isOdd.of ?_ (HB0.out _)
           have hn := HN.out
           clear HN hnI HO HX0 HB0
           simp only [odd_mk, size_nil', hn, Bool.or_false]
           clear hn
           simp_all
           done)
        | skip
      all_goals (
        have hwr : IntKind.u8.wrap 2 = 2 := rfl
        go_region_law (first
          | (go_simp; go_at_call 112; refine (kinds_any _).mono ?_; rintro e w2 ⟨rfl, hw2⟩; obtain ⟨HB2, hF2, hz2, hk2⟩ := kinds_left rfl hw2; have kf := hk2 9; obtain ⟨c0, c1, c2, c3, c4, c5, c6, c7, c8, c9, c10, c11, c12, c13⟩ := hF2.cells; clear hk2 hF2 hw2; rw [show kindCells[9]? = some (.func (.func 140) #[] #[]) from rfl] at kf)
          | (go_simp; go_at_call 140; refine (HO.out _ _ _ _ _ _ _ _).mono ?_; rintro e w3 ⟨rfl, hb3⟩; have HB3 := Lib.hid (HB2.out.trans (hb3.mono (by omega))); clear hb3))
        all_goals (
          go_wp2_with fail
          go_ret
          refine isOdd.of ?_ HB3.out
          have hn := HN.out
          clear HN hnI HO HX0 HB0 HB3 HB2 hwr
          simp only [odd_mk, size_nil', hn, Bool.or_false]
          clear hn
          simp_all))
    | cons x r =>
      go_enter Tryz.func92, Tryz.ntmps92
      go_wp2_with fail
      all_goals first
        | (go_ret
           refine isOdd.of ?_ (HB0.out _)
           have hn := HN.out
           clear HN hnI HO HX0 HB0
           simp only [odd_mk, size_nil', hn, Bool.or_false]
           clear hn
           simp_all
           done)
        | skip
      all_goals (
        have hwr : IntKind.u8.wrap 2 = 2 := rfl
        go_region_law (first
          | (go_simp; go_at_call 112; refine (kinds_any _).mono ?_; rintro e w2 ⟨rfl, hw2⟩; obtain ⟨HB2, hF2, hz2, hk2⟩ := kinds_left rfl hw2; have kf := hk2 9; obtain ⟨c0, c1, c2, c3, c4, c5, c6, c7, c8, c9, c10, c11, c12, c13⟩ := hF2.cells; clear hk2 hF2 hw2; rw [show kindCells[9]? = some (.func (.func 140) #[] #[]) from rfl] at kf)
          | (go_simp; go_at_call 140; refine (HO.out _ _ _ _ _ _ _ _).mono ?_; rintro e w3 ⟨rfl, hb3⟩; have HB3 := Lib.hid (HB2.out.trans (hb3.mono (by omega))); clear hb3))
        all_goals (
          go_wp2_with fail
          go_ret
          refine isOdd.of ?_ HB3.out
          have hn := HN.out
          clear HN hnI HO HX0 HB0 HB3 HB2 hwr
          simp only [odd_mk, size_nil', hn, Bool.or_false]
          clear hn
          simp_all))
end Go.Proofs.YtcjllhdbepchnaaGreatDoor
