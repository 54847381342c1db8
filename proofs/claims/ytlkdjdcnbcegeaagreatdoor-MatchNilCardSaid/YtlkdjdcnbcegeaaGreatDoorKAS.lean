/-
  The laws' two texts read: data and a table, or one of them nil.
-/
import Derived.Test.YtlkdjdcnbcegeaaGreatDoorKW
import Derived.Test.YtlkdjdcnbcegeaaGreatDoorKAH
import Derived.Test.YtlkdjdcnbcegeaaGreatDoorKAR
import Derived.WalkMore
/-! The laws' two texts read: data and a table, or one of them nil. -/
namespace Go.Proofs.YtlkdjdcnbcegeaaGreatDoor
open Go.RowKit Go.WideShapes
set_option linter.unusedVariables false
set_option linter.unusedSimpArgs false
/-- All that the two packages ask of the world. -/
structure AllHere (w : World) : Prop where
  u : UHere w
  i : ItoaHere w
  d : DigHere w
  e : ErrHere w
  x : HexHere w
  f : HexFew w
  m : ∃ m : Int, w.cell? ⟨lays145_ren.g 1, 0, none⟩ = some (.int .i64 m)
theorem AllHere.on {w W : World} (h : AllHere w) (hb : Below w.heap.size w W) : AllHere W := by
  obtain ⟨m, hm⟩ := h.m
  exact ⟨h.u.on hb, h.i.on hb, h.d.on hb, h.e.on hb, h.x.on hb, h.f.on hb, m, (hb.cell (Lib.lt_of_cell hm)).trans hm⟩
/-- Data, or none. -/
def DataAny (w : World) (v : Value) : Prop := v = .pointer none ∨ ∃ l D b, v = .pointer (some ⟨D, 0, none⟩) ∧ DataM w (fun g => g < w.heap.size) D b l ∧ UFine l
theorem DataAny.below {w w' : World} {v : Value} (h : DataAny w v) (hb : Below w.heap.size w w') : DataAny w' v := by
  rcases h with h | ⟨l, D, b, h1, h2, h3⟩
  · exact Or.inl h
  · exact Or.inr ⟨l, D, b, h1, (h2.below hb h2.D_lt h2.b_lt (fun g hg => hg)).keep rfl rfl (fun _ _ => rfl) (fun g hg => Nat.lt_of_lt_of_le hg hb.size), h3⟩
def TabAny (w : World) (v : Value) : Prop := v = .pointer none ∨ ∃ l T b1 b2, v = .pointer (some ⟨T, 0, none⟩) ∧ w.heap[T]? = some (.cells #[.map (some b1), .map (some b2)] 101 (0, 0)) ∧ TabX w w.heap.size b1 b2 l ∧ TFine l
theorem TabAny.below {w w' : World} {v : Value} (h : TabAny w v) (hb : Below w.heap.size w w') : TabAny w' v := by
  rcases h with h | ⟨l, T, b1, b2, h1, h2, h3, h4⟩
  · exact Or.inl h
  · exact Or.inr ⟨l, T, b1, b2, h1, (hb.block _ (Array.getElem?_eq_some_iff.1 h2).1).trans h2, h3.below hb, h4⟩
set_option maxRecDepth 100000 in
set_option maxHeartbeats 1000000 in
theorem uload_long (S : ByteArray) (hs : 65536 < S.size) (w : World) : Calls Tryz.prog 27 #[.string S] w fun e w' => e = .returned (.tuple #[.pointer none, .int .i64 2, .int .i64 0]) ∧ Below w.heap.size w w' := by
  have hs1 : 65536 < (S.size : Int) := by omega
  have HB0 := Lib.hid (Below.refl w.heap.size w)
  go_enter_defers Tryz.func27, Tryz.ntmps27
  go_wp2_with fail
  have hB : Below w.heap.size w (((w.alloc (.cells #[Value.pointer none] 25)).alloc (.cells #[Value.int .i64 2] 32)).alloc (.cells #[Value.int .i64 0] 3)) := ((HB0.out.alloc (Nat.le_refl _) _).alloc (by simp) _).alloc (by simp; omega) _
  have z0 : (((w.alloc (.cells #[Value.pointer none] 25)).alloc (.cells #[Value.int .i64 2] 32)).alloc (.cells #[Value.int .i64 0] 3)).cell? ⟨w.heap.size, 0, none⟩ = some (.pointer none) := by
    have h1 := World.alloc_heap_new w (.cells #[Value.pointer none] 25)
    simp only [World.cell?]
    rw [Below.heap_alloc _ _ _ (by simp only [World.size_alloc]; omega), Below.heap_alloc _ _ _ (by simp only [World.size_alloc]; omega), h1]; rfl
  have z1 : (((w.alloc (.cells #[Value.pointer none] 25)).alloc (.cells #[Value.int .i64 2] 32)).alloc (.cells #[Value.int .i64 0] 3)).cell? ⟨w.heap.size + 1, 0, none⟩ = some (.int .i64 2) := by
    have h1 := World.alloc_heap_new (w.alloc (.cells #[Value.pointer none] 25)) (.cells #[Value.int .i64 2] 32)
    rw [World.size_alloc] at h1
    simp only [World.cell?]
    rw [Below.heap_alloc _ _ _ (by simp only [World.size_alloc]; omega), h1]; rfl
  have z2 : (((w.alloc (.cells #[Value.pointer none] 25)).alloc (.cells #[Value.int .i64 2] 32)).alloc (.cells #[Value.int .i64 0] 3)).cell? ⟨w.heap.size + 1 + 1, 0, none⟩ = some (.int .i64 0) := by
    have h1 := World.alloc_heap_new ((w.alloc (.cells #[Value.pointer none] 25)).alloc (.cells #[Value.int .i64 2] 32)) (.cells #[Value.int .i64 0] 3)
    rw [World.size_alloc, World.size_alloc] at h1
    simp only [World.cell?, h1]; rfl
  generalize (((w.alloc (.cells #[Value.pointer none] 25)).alloc (.cells #[Value.int .i64 2] 32)).alloc (.cells #[Value.int .i64 0] 3)) = W at hB z0 z1 z2 ⊢
  simp [bodyPostD, Leaves, settle, results, Tryz.results27, go_sem, z0, z1, z2]
  exact hB
set_option maxRecDepth 100000 in
set_option maxHeartbeats 1000000 in
theorem tload_long (S : ByteArray) (hs : 65536 < S.size) (w : World) : Calls Tryz.prog 28 #[.string S] w fun e w' => e = .returned (.tuple #[.pointer none, .int .i64 2, .int .i64 0]) ∧ Below w.heap.size w w' := by
  have hs1 : 65536 < (S.size : Int) := by omega
  have HB0 := Lib.hid (Below.refl w.heap.size w)
  go_enter Tryz.func28, Tryz.ntmps28
  go_wp2_with fail
  go_ret3
  exact ⟨rfl, HB0.out⟩
def LoadD (w : World) (e : Ending) (w' : World) : Prop := Below w.heap.size w w' ∧ ∃ (A : Option Addr) (code line : Int), e = .returned (.tuple #[.pointer A, .int .i64 code, .int .i64 line]) ∧ DataAny w' (.pointer A) ∧ ((code == 0) = A.isSome)
theorem loadD_any (S : List UInt8) (w : World) (H : AllHere w) : Calls Tryz.prog 27 #[.string (txt S)] w (LoadD w) := by
  by_cases hs : S.length ≤ 65536
  · obtain ⟨m, hm⟩ := H.m
    refine (uload_any S hs m w H.u H.i H.d H.e hm).mono ?_
    rintro e w' ⟨hb, ⟨l, D, b, rfl, hd, hf, _⟩ | ⟨code, line, rfl, hc⟩⟩
    · exact ⟨hb, _, _, _, rfl, Or.inr ⟨l, D, b, rfl, hd, hf⟩, rfl⟩
    · refine ⟨hb, _, _, _, rfl, Or.inl rfl, ?_⟩
      show (code == 0) = false
      rw [beq_eq_false_iff_ne]; omega
  · refine (uload_long (txt S) (by rw [txt_size]; omega) w).mono ?_
    rintro e w' ⟨rfl, hb⟩
    exact ⟨hb, _, _, _, rfl, Or.inl rfl, rfl⟩
def LoadT (w : World) (e : Ending) (w' : World) : Prop := Below w.heap.size w w' ∧ ∃ (A : Option Addr) (code line : Int), e = .returned (.tuple #[.pointer A, .int .i64 code, .int .i64 line]) ∧ TabAny w' (.pointer A) ∧ ((code == 0) = A.isSome)
theorem loadT_any (S : List UInt8) (w : World) (H : AllHere w) : Calls Tryz.prog 28 #[.string (txt S)] w (LoadT w) := by
  by_cases hs : S.length ≤ 65536
  · obtain ⟨m, hm⟩ := H.m
    refine (tload_any S hs m w H.x H.f H.e hm).mono ?_
    rintro e w' ⟨hb, ⟨l, T, b1, b2, rfl, ht, hx, hf, _⟩ | ⟨code, line, rfl, hc⟩⟩
    · exact ⟨hb, _, _, _, rfl, Or.inr ⟨l, T, b1, b2, rfl, ht, hx, hf⟩, rfl⟩
    · refine ⟨hb, _, _, _, rfl, Or.inl rfl, ?_⟩
      show (code == 0) = false
      rw [beq_eq_false_iff_ne]; omega
  · refine (tload_long (txt S) (by rw [txt_size]; omega) w).mono ?_
    rintro e w' ⟨rfl, hb⟩
    exact ⟨hb, _, _, _, rfl, Or.inl rfl, rfl⟩
/-- both: what is read, and whether it is all. -/
def BothPost (w : World) (e : Ending) (w' : World) : Prop := Below w.heap.size w w' ∧ ∃ A B : Option Addr, e = .returned (.tuple #[.pointer A, .pointer B, .bool (A.isSome && B.isSome)]) ∧ DataAny w' (.pointer A) ∧ TabAny w' (.pointer B)
set_option maxRecDepth 100000 in
set_option maxHeartbeats 1000000 in
theorem both_any (S1 S2 : ByteArray) (w : World) (H : AllHere w) : Calls Tryz.prog 9 #[.agg #[.string S1, .string S2]] w (BothPost w) := by
  have HA := Lib.hid H
  have HB0 := Lib.hid (Below.refl w.heap.size w)
  obtain ⟨l1, rfl⟩ : ∃ l, S1 = txt l := ⟨S1.data.toList, by simp [txt]⟩
  obtain ⟨l2, rfl⟩ : ∃ l, S2 = txt l := ⟨S2.data.toList, by simp [txt]⟩
  have H1 := Lib.hid (fun W h => loadD_any l1 W h)
  have H2 := Lib.hid (fun W h => loadT_any l2 W h)
  clear H
  generalize txt l1 = S1 at H1 ⊢
  generalize txt l2 = S2 at H2 ⊢
  go_enter Tryz.func9, Tryz.ntmps9
  go_wp2_with fail
  have HB1 := Lib.hid (HB0.out.alloc (Nat.le_refl _) (.cells #[Value.string S1, Value.string S2] 23))
  have hT := World.alloc_heap_new w (.cells #[Value.string S1, Value.string S2] 23)
  refine (H1.out _ (HA.out.on HB1.out)).mono ?_
  rintro e w2 ⟨hb2, A, c1, n1, rfl, hd, hc1⟩
  have HB2 := Lib.hid (HB1.out.trans (hb2.mono HB1.out.size))
  have hT2 := (hb2.block _ (Array.getElem?_eq_some_iff.1 hT).1).trans hT
  have hx2 : w2.cell? ⟨w.heap.size, 1, none⟩ = some (.string S2) := by simp [World.cell?, hT2]
  have HD := Lib.hid hd
  have HC1 := Lib.hid hc1
  clear hb2 hd hc1 hT HB1 H1
  go_wp2_with fail
  refine (H2.out _ (HA.out.on HB2.out)).mono ?_
  rintro e w3 ⟨hb3, B, c2, n2, rfl, hd, hc2⟩
  have HB3 := Lib.hid (HB2.out.trans (hb3.mono HB2.out.size))
  have HD3 := Lib.hid (HD.out.below hb3)
  have HT3 := Lib.hid hd
  have HC2 := Lib.hid hc2
  clear hb3 hd hc2 HB2 H2 HD hT2 hx2
  cases A with
  | none =>
    have q1 : (c1 == 0) = false := HC1.out
    have q2 : ¬ c1 = 0 := by rwa [beq_eq_false_iff_ne] at q1
    go_wp2_with fail
    go_ret3
    exact ⟨HB3.out, none, B, rfl, HD3.out, HT3.out⟩
  | some a =>
    have q1 : (c1 == 0) = true := HC1.out
    have q2 : c1 = 0 := by rwa [beq_iff_eq] at q1
    subst q2
    cases B with
    | none =>
      have q3 : (c2 == 0) = false := HC2.out
      have q4 : ¬ c2 = 0 := by rwa [beq_eq_false_iff_ne] at q3
      go_wp2_with fail
      go_ret3
      exact ⟨HB3.out, some a, none, rfl, HD3.out, HT3.out⟩
    | some b =>
      have q3 : (c2 == 0) = true := HC2.out
      have q4 : c2 = 0 := by rwa [beq_iff_eq] at q3
      subst q4
      go_wp2_with fail
      go_ret3
      exact ⟨HB3.out, some a, some b, rfl, HD3.out, HT3.out⟩
end Go.Proofs.YtlkdjdcnbcegeaaGreatDoor

/-! The law MatchNil, walked. -/
namespace Go.Proofs.YtlkdjdcnbcegeaaGreatDoor
open Go.RowKit Go.WideShapes
set_option linter.unusedVariables false
set_option linter.unusedSimpArgs false
set_option maxRecDepth 100000 in
theorem steps_nild (t l : Value) (w : World) : Calls Tryz.prog 16 #[.pointer none, t, l] w (Ret (.slice none 0 0) w) := by
  have HB0 := Lib.hid (Below.refl w.heap.size w)
  go_enter Tryz.func16, Tryz.ntmps16
  go_wp2_with fail
  go_step3
  go_wp2_with fail
  go_ret
  exact ⟨rfl, HB0.out⟩
set_option maxRecDepth 100000 in
theorem steps_nilt (A : Option Addr) (l : Value) (w : World) : Calls Tryz.prog 16 #[.pointer A, .pointer none, l] w (Ret (.slice none 0 0) w) := by
  have HB0 := Lib.hid (Below.refl w.heap.size w)
  cases A with
  | none => exact steps_nild _ _ _
  | some a =>
    go_enter Tryz.func16, Tryz.ntmps16
    go_wp2_with fail
    go_step3
    go_wp2_with fail
    go_ret
    exact ⟨rfl, HB0.out⟩
set_option maxRecDepth 100000 in
theorem elements_nil (A : Option Addr) (A1 : Option Addr) (n1 c1 : Nat) (w : World) : Calls Tryz.prog 17 #[.pointer A, .pointer none, .slice A1 n1 c1] w (Ret (.slice none 0 0) w) := by
  have HB0 := Lib.hid (Below.refl w.heap.size w)
  have HS := Lib.hid (fun W => steps_nilt A (.slice A1 n1 c1) W)
  go_enter Tryz.func17, Tryz.ntmps17
  go_wp2_with fail
  refine (HS.out _).mono ?_
  rintro e w2 ⟨rfl, hb2⟩
  have HB2 := Lib.hid (HB0.out.trans (hb2.mono HB0.out.size))
  clear hb2 HB0 HS
  go_wp2_with fail
  go_loopw [7, 17] (fun t7 t17 wr => t7 = .slice none 0 0 ∧ t17 = .int .i64 0 ∧ wr = w2) (fun _ _ _ => 0)
  case atStart => exact ⟨rfl, rfl, rfl⟩
  case round =>
    obtain ⟨rfl, rfl, rfl⟩ := hrel
    go_wp2_with fail
    go_ret
    exact ⟨rfl, HB2.out⟩
/-- The law's look at its package. -/
def AwakeHere (w : World) : Prop := ∀ W, Below w.heap.size w W → Calls Tryz.prog 12 #[] W (Ret (.bool true) W)
set_option maxRecDepth 100000 in
set_option maxHeartbeats 1000000 in
theorem law_any (S1 S2 : ByteArray) (A1 : Option Addr) (n1 c1 : Nat) (w : World) (H : AllHere w) (HW : AwakeHere w) : Calls Tryz.prog 5 #[.agg #[.string S1, .string S2], .slice A1 n1 c1] w (Ret (.bool true) w) := by
  have HA := Lib.hid H
  have HW0 := Lib.hid HW
  have HB0 := Lib.hid (Below.refl w.heap.size w)
  have H1 := Lib.hid (fun W h => both_any S1 S2 W h)
  have HN := Lib.hid (fun t l W => steps_nild t l W)
  have HT := Lib.hid (fun A l W => steps_nilt A l W)
  have HE := Lib.hid (fun A W => elements_nil A A1 n1 c1 W)
  clear H HW
  go_enter Tryz.func5, Tryz.ntmps5
  go_wp2_with fail
  have HB1 := Lib.hid (HB0.out.alloc (Nat.le_refl _) (.cells #[Value.string S1, Value.string S2] 23))
  refine (H1.out _ (HA.out.on HB1.out)).mono ?_
  rintro e w2 ⟨hb2, A, B, rfl, hd, ht⟩
  have HB2 := Lib.hid (HB1.out.trans (hb2.mono HB1.out.size))
  clear hb2 hd ht H1 HB1 HB0
  go_wp2_with fail
  refine (HW0.out _ HB2.out).mono ?_
  rintro e w3 ⟨rfl, hb3⟩
  have HB3 := Lib.hid (HB2.out.trans (hb3.mono HB2.out.size))
  clear hb3 HB2 HW0
  go_wp2_with fail
  refine (HN.out _ _ _).mono ?_
  rintro e w4 ⟨rfl, hb4⟩
  have HB4 := Lib.hid (HB3.out.trans (hb4.mono HB3.out.size))
  clear hb4 HB3
  go_wp2_with fail
  refine (HT.out _ _ _).mono ?_
  rintro e w5 ⟨rfl, hb5⟩
  have HB5 := Lib.hid (HB4.out.trans (hb5.mono HB4.out.size))
  clear hb5 HB4
  go_wp2_with fail
  refine (HE.out _ _).mono ?_
  rintro e w6 ⟨rfl, hb6⟩
  have HB6 := Lib.hid (HB5.out.trans (hb6.mono HB5.out.size))
  clear hb6 HB5
  go_wp2_with fail
  refine (HE.out _ _).mono ?_
  rintro e w7 ⟨rfl, hb7⟩
  have HB7 := Lib.hid (HB6.out.trans (hb7.mono HB6.out.size))
  clear hb7 HB6
  go_wp2_with fail
  go_returns
  exact ⟨rfl, HB7.out⟩
end Go.Proofs.YtlkdjdcnbcegeaaGreatDoor
