/-
  schema.Print: a schema's text, or a fault.
-/
import Derived.Test.YtcjllhdbepchnaaGreatDoorMAR
import Derived.Test.YtcjllhdbepchnaaGreatDoorMAT
namespace Go.Proofs.YtcjllhdbepchnaaGreatDoor
open Go.RowKit Go.WideShapes
set_option linter.unusedVariables false
def SPost (r : Int × List Nat) (t : List UInt8) (w : World) (e : Ending) (w' : World) : Prop := ∃ v, e = .returned (.tuple #[.string (txt t), v]) ∧ Below w.heap.size w w' ∧ ErrAt r w.heap.size w' v
theorem ErrAt.nil {B : Nat} {w : World} {p : List Nat} : ErrAt (0, p) B w .nilIface := by unfold ErrAt; rw [if_pos rfl]
theorem ErrAt.low {r : Int × List Nat} {B B' : Nat} {w : World} {v : Value} (h : ErrAt r B w v) (hB : B' ≤ B) : ErrAt r B' w v := by
  unfold ErrAt at h ⊢
  split
  · rename_i h0; rw [if_pos h0] at h; exact h
  · rename_i h0
    rw [if_neg h0] at h
    obtain ⟨b, p, e, hb, hf, ho⟩ := h
    exact ⟨b, p, e, by omega, hf, ownsRow_low ho hB⟩
theorem ErrAt.iface {r : Int × List Nat} {B : Nat} {w : World} {v : Value} (h : ErrAt r B w v) (h0 : r.1 ≠ 0) : ∃ b, v = .iface 91 (.pointer (some ⟨b, 0, none⟩)) := by
  unfold ErrAt at h
  rw [if_neg h0] at h
  obtain ⟨b, p, e, _⟩ := h
  exact ⟨b, e⟩
set_option maxRecDepth 100000 in
set_option maxHeartbeats 4000000 in
theorem schPrt_any (limit : Int) (l : List FT) (a : Option Addr) (c : Nat) {w0 w : World} (h0 : laidMetH Tryz.prog Rows.schemaChecksRow.laid w0) (hb0 : Below w0.heap.size w0 w) (hf : FieldsAt w (· < w.heap.size) l a) (hlc : l.length ≤ c) (hc : c ≤ 140737488351232) :
    Calls Tryz.prog 35 #[.agg #[.int .i64 limit, .slice a l.length c]] w (SPost (prtWhy limit l) (prtText limit l) w) := by
  have HB0 := Lib.hid (below_a1 w (Obj.cells #[.int .i64 limit, .slice a l.length c] 24))
  have HS0 := Lib.hid (show PS (w.alloc (Obj.cells #[.int .i64 limit, .slice a l.length c] 24)) w.heap.size limit (.slice a l.length c) from World.alloc_heap_new w _)
  have HC := Lib.hid (schChk_any limit l a c (w.alloc (Obj.cells #[.int .i64 limit, .slice a l.length c] 24)) ((hf.below HB0.out).wide HB0.out.size) hlc hc)
  have HF := Lib.hid hf
  have HOk := Lib.hid (fun (h : (schemaWhy limit l).1 = 0) => schemaWhy_ok.1 h)
  have HWh := Lib.hid (show prtWhy limit l = (if (schemaWhy limit l).1 = 0 then (if 65536 < (schText limit l).length then (2, []) else (0, [])) else schemaWhy limit l) from rfl)
  have HTx := Lib.hid (show prtText limit l = (if (prtWhy limit l).1 = 0 then schText limit l else []) from rfl)
  have H0 := Lib.hid h0
  have HW0 := Lib.hid hb0
  obtain ⟨r, hr⟩ : ∃ r, r = schemaWhy limit l := ⟨_, rfl⟩
  rw [← hr] at HC HOk HWh
  clear hr hf h0 hb0
  go_enter Tryz.func35, Tryz.ntmps35
  go_wp2_with fail
  refine HC.out.mono ?_
  rintro e w3 ⟨v, rfl, hb3, he3⟩
  have hz3 := hb3.size
  rw [World.size_alloc] at hz3
  have HS3 := Lib.hid (show PS w3 w.heap.size limit (.slice a l.length c) from (hb3.block _ (by simp)).trans HS0.out)
  have HB3 := Lib.hid (HB0.out.trans (hb3.mono (by simp)))
  have HE3 := Lib.hid (he3.low (B' := w.heap.size) (by simp))
  clear hb3 HC HB0 HS0
  by_cases h0 : r.1 = 0
  · obtain ⟨m1, m2, m3, m4, m5⟩ := HOk.out h0
    obtain ⟨n, rfl⟩ := Int.eq_ofNat_of_zero_le (show 0 ≤ limit by omega)
    obtain rfl : v = .nilIface := by unfold ErrAt at he3; rwa [if_pos h0] at he3
    have hfine := FT.allFineL_of l 0 [] a m4 HF.out
    obtain ⟨tf1, tf2⟩ := text_few m1 m2 hfine m5
    rw [Int.toNat_natCast] at tf2
    have HT := Lib.hid (text_any n l a c (w := w3) H0.out (HW0.out.trans (HB3.out.mono HW0.out.size)) (by omega) hlc hc ((HF.out.below HB3.out).wide (by omega)) hfine m5)
    obtain ⟨c0, c1⟩ := HS3.out.cells
    have hMl : (schText n l).length ≤ 300000 := by
      unfold schText
      simp only [List.length_append, wLimit, List.length_cons, List.length_nil, Int.toNat_natCast]
      omega
    have HWh2 := HWh.out
    replace HWh2 := HWh2.trans (if_pos h0)
    have HTx2 := HTx.out
    obtain ⟨M, hM⟩ : ∃ M, M = schText n l := ⟨_, rfl⟩
    rw [← hM] at hMl HWh2 HTx2 HT
    have hsz : (txt M).size = M.length := txt_size M
    clear he3 hfine m4 HOk HE3 hM HWh HTx
    by_cases hgt : 65536 < M.length
    · have ht1 : (65536 : Int) < ((txt M).size : Int) := by omega
      rw [if_pos hgt] at HWh2
      rw [HWh2, if_neg (by decide)] at HTx2
      have HWh3 := Lib.hid HWh2
      have HTx3 := Lib.hid HTx2
      clear HWh2 HTx2 hgt h0
      go_wp2_with fail
      refine HT.out.mono ?_
      rintro e w4 ⟨rfl, hb4⟩
      have HB4 := Lib.hid (HB3.out.trans (hb4.mono (by omega)))
      have hz4 := hb4.size
      clear hb4 c0 c1
      go_wp2_with fail
      go_returns
      rw [HWh3.out, HTx3.out]
      refine ⟨_, rfl, HB4.out.alloc (by omega) _, ?_⟩
      unfold ErrAt
      rw [if_neg (by decide)]
      exact ⟨_, _, rfl, (by omega : w.heap.size ≤ w4.heap.size), World.alloc_heap_new w4 _, ⟨rfl, .inl ⟨rfl, rfl⟩⟩⟩
    · have ht1 : ¬ (65536 : Int) < ((txt M).size : Int) := by omega
      rw [if_neg hgt] at HWh2
      rw [HWh2, if_pos rfl] at HTx2
      have HWh3 := Lib.hid HWh2
      have HTx3 := Lib.hid HTx2
      clear HWh2 HTx2 hgt h0
      go_wp2_with fail
      refine HT.out.mono ?_
      rintro e w4 ⟨rfl, hb4⟩
      have HB4 := Lib.hid (HB3.out.trans (hb4.mono (by omega)))
      clear hb4 c0 c1
      go_wp2_with fail
      go_returns
      rw [HWh3.out, HTx3.out]
      exact ⟨_, rfl, HB4.out, ErrAt.nil⟩
  · obtain ⟨b, rfl⟩ := he3.iface h0
    have HWh2 := HWh.out
    rw [if_neg h0] at HWh2
    have HTx2 := HTx.out
    rw [HWh2, if_neg h0] at HTx2
    have HWh3 := Lib.hid HWh2
    have HTx3 := Lib.hid HTx2
    clear HWh2 HTx2 HWh HTx
    go_wp2_with fail
    go_returns
    rw [HWh3.out, HTx3.out]
    exact ⟨_, rfl, HB3.out, HE3.out⟩
end Go.Proofs.YtcjllhdbepchnaaGreatDoor
