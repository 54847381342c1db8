/-
  schema.text: a schema's text.
-/
import Derived.Test.YtcjllhdbepchnaaGreatDoorMAQ
namespace Go.Proofs.YtcjllhdbepchnaaGreatDoor
open Go.RowKit Go.WideShapes
set_option linter.unusedVariables false
set_option maxRecDepth 100000 in
set_option maxHeartbeats 2000000 in
theorem text_any (lim : Nat) (l : List FT) (a : Option Addr) (c : Nat) {w0 w : World} (h0 : laidMetH Tryz.prog Rows.schemaChecksRow.laid w0) (hb0 : Below w0.heap.size w0 w) (hlim : lim ≤ 65536) (hlc : l.length ≤ c) (hc : c ≤ 140737488351232) (hf : FieldsAt w (· < w.heap.size) l a) (hfine : FT.allFineL l) (hcnt : FT.countL l ≤ 64) :
    Calls Tryz.prog 65 #[.agg #[.int .i64 lim, .slice a l.length c]] w (Ret (.string (txt (schText lim l))) w) := by
  have HI := Lib.hid (fun W (hb : Below w.heap.size w W) => itoa_any lim (by omega) h0 (hb0.trans (hb.mono hb0.size)))
  have hd := dec_few (u := lim) (by omega)
  have HB1 := Lib.hid (below_a1 w (.cells #[.int .i64 lim, .slice a l.length c] 24))
  have HB2 := Lib.hid (below_a2 w (.cells #[.int .i64 lim, .slice a l.length c] 24) (.cells #[.pointer none, .slice none 0 0] 177))
  have HBld := Lib.hid (show Bld (w.heap.size + 1) (w.heap.size + 1) [] ((w.alloc (.cells #[.int .i64 lim, .slice a l.length c] 24)).alloc (.cells #[.pointer none, .slice none 0 0] 177)) from by
    have h9 := Lib.IsBuilderF.of (Lib.fresh_isBuilder 177 5 (w.alloc (.cells #[.int .i64 lim, .slice a l.length c] 24)))
    show Lib.IsBuilderF 177 5 (w.heap.size + 1) (w.heap.size + 1) [] _
    simpa using h9)
  have HW := Lib.hid (fun (L : List UInt8) (W : World) (hb : Below (w.heap.size + 1) (w.alloc (.cells #[.int .i64 lim, .slice a l.length c] 24)) W) (hl : L.length ≤ 1000) (hI : Bld (w.heap.size + 1) (w.heap.size + 1) L W) => by
    have hs : (w.alloc (.cells #[.int .i64 lim, .slice a l.length c] 24)).heap.size = w.heap.size + 1 := by simp
    have h2 := hb.size
    have hfw : FieldsAt W (· < w.heap.size + 1) l a := ((hf.below HB1.out).wide (by omega)).below hb
    have h3 := FT.linesL_few l [] hfine
    have h4 : (2000 + 2 * ([] : List UInt8).length + 4 * FT.countL l) * FT.countL l ≤ 2256 * 64 := Nat.mul_le_mul (by simp; omega) hcnt
    exact write_any h0 l [] L a c (w.heap.size + 1) (w.heap.size + 1) W (hb0.trans ((HB1.out.trans (hb.mono (by omega))).mono hb0.size)) hlc hc (by have := hb0.size; omega) (by omega) hfw hfine hcnt (by simp; omega) (by omega) hI)
  clear h0 hb0 hf hfine
  have z1 : (9223372036854775807 < 6 + (txt (Lib.decDigits lim)).size) = False := by rw [txt_size]; exact eq_false (by omega)
  have z2 : (9223372036854775807 < 6 + (txt (Lib.decDigits lim)).size + 1) = False := by rw [txt_size]; exact eq_false (by omega)
  have HSE := Lib.hid (show (⟨#[108, 105, 109, 105, 116, 32]⟩ ++ txt (Lib.decDigits lim) ++ ⟨#[10]⟩ : ByteArray) = txt (wLimit ++ Lib.decDigits lim ++ [10]) from by rw [show (⟨#[108, 105, 109, 105, 116, 32]⟩ : ByteArray) = txt wLimit from rfl, show (⟨#[10]⟩ : ByteArray) = txt [10] from rfl, txt_append, txt_append])
  have HTx := Lib.hid (show [] ++ (wLimit ++ Lib.decDigits lim ++ [10]) ++ FT.linesL [] l = schText lim l by simp [schText])
  go_enter Tryz.func65, Tryz.ntmps65
  go_wp2_with fail
  refine (HI.out _ HB2.out).mono ?_
  rintro e w5 ⟨rfl, hb5⟩
  have hz5 := hb5.size
  simp only [World.size_alloc] at hz5
  have HB5 := Lib.hid (show Below (w.heap.size + 1) (w.alloc (.cells #[.int .i64 lim, .slice a l.length c] 24)) w5 from ((Below.refl _ _).alloc (by simp) _).trans (hb5.mono (by simp)))
  have HB5w := Lib.hid (HB2.out.trans (hb5.mono HB2.out.size))
  have HI5 := Lib.hid (HBld.out.below hb5)
  clear hb5 HB2 HI
  go_wp2_with fail
  rw [HSE.out]
  refine (wstr_any _ _ [] _ _ HI5.out (by simp only [List.length_append, wLimit, List.length_cons, List.length_nil]; omega) (by omega)).mono ?_
  rintro e w6 ⟨rfl, hI6, hb6, ho6⟩
  have hz6 := hb6.size
  have HB6 := Lib.hid (HB5.out.trans hb6)
  have HI6 := Lib.hid hI6
  have hq : w6.cell? ⟨w.heap.size, 1, none⟩ = some (.slice a l.length c) := (HB6.out.cell (p := ⟨w.heap.size, 1, none⟩) (by simp)).trans (by
    have h9 := World.alloc_heap_new w (.cells #[.int .i64 lim, .slice a l.length c] 24)
    simp only [World.cell?, h9]; rfl)
  have HWc := Lib.hid (HW.out _ _ HB6.out (by simp only [List.length_append, wLimit, List.length_cons, List.length_nil]; omega) HI6.out)
  clear hI6 hb6 ho6 HW HBld
  go_wp2_with fail
  refine HWc.out.mono ?_
  rintro e w7 ⟨rfl, hI7, hb7⟩
  rw [HTx.out] at hI7
  have HB7 := Lib.hid (HB6.out.trans hb7)
  have HI7 := Lib.hid hI7
  have hz7 := hb7.size
  clear hI7 hb7 hq
  go_wp2_with fail
  refine (Any.Builder_String_any_k lays169 extra169 (w.heap.size + 1) (w.heap.size + 1) _ _ HI7.out (by omega)).mono ?_
  rintro e w8 ⟨rfl, _, hb8, _⟩
  have HB8 := Lib.hid (HB1.out.trans ((HB7.out.trans hb8).mono (by omega)))
  clear hb8
  go_wp2_with fail
  go_ret
  exact ⟨rfl, HB8.out⟩
end Go.Proofs.YtcjllhdbepchnaaGreatDoor
