/-
  value.Want: a value of a kind, or a fault.
-/
import Derived.Test.YtcjllhdbepchnaaGreatDoorLY
import Derived.Test.YtcjllhdbepchnaaGreatDoorLS
import Derived.Test.YtcjllhdbepchnaaGreatDoorLX
import Derived.Test.YtcjllhdbepchnaaGreatDoorLW
import Derived.Test.YtcjllhdbepchnaaGreatDoorLR
import Derived.Test.YtcjllhdbepchnaaGreatDoorLF
import Derived.Deep.RegionHeld3
import Derived.BigQuiet
import Derived.Deep.QuietTactic
import Derived.Deep.RegionLaw
/-! value.Want: a value of a kind, or a fault. -/
namespace Go.Proofs.YtcjllhdbepchnaaGreatDoor
open Go.RowKit Go.WideShapes
set_option linter.unusedVariables false
/-- What it tells. -/
def WantPost (k kk : Nat) (v : Value) (w : World) (e : Ending) (w' : World) : Prop := Below w.heap.size w w' ∧ if k = kk then e = .returned (.tuple #[v, .nilIface]) else ∃ b, e = .returned (.tuple #[.nilIface, .iface 91 (.pointer (some ⟨b, 0, none⟩))]) ∧ w.heap.size ≤ b ∧ FltAt w' b 4 0 (.slice none 0 0)
set_option maxRecDepth 100000 in
set_option maxHeartbeats 1000000 in
theorem want_truth (y : Bool) (kk : Nat) (hkk : kk ≤ 7) (w : World) : Calls Tryz.prog 68 #[.iface 124 (.agg #[.bool y]), .int .u8 kk] w (WantPost 1 kk (.iface 124 (.agg #[.bool y])) w) := by
  have HK := Lib.hid (fun W => truthKind_any y W)
  have HB0 := Lib.hid (Below.refl w.heap.size w)
  have h7 : ¬ ((7 : Int) < (kk : Int)) := by omega
  have h7' : decide ((7 : Int) < (kk : Int)) = false := decide_eq_false h7
  by_cases he : 1 = kk
  · subst he
    go_enter Tryz.func68, Tryz.ntmps68
    go_wp2_with fail
    refine (HK.out _).mono ?_
    rintro e w2 ⟨rfl, hb2⟩
    have HB2 := Lib.hid hb2
    clear hb2
    go_wp2_with fail
    go_ret2
    exact ⟨HB2.out, by rw [if_pos rfl]; rfl⟩
  · have hne : (((1 : Nat) : Int) == (kk : Int)) = false := by rw [beq_eq_false_iff_ne]; omega
    go_enter Tryz.func68, Tryz.ntmps68
    go_wp2_with fail
    refine (HK.out _).mono ?_
    rintro e w2 ⟨rfl, hb2⟩
    have HB2 := Lib.hid hb2
    clear hb2
    go_wp2_with fail
    go_ret2
    refine ⟨HB2.out.alloc HB2.out.size _, ?_⟩
    rw [if_neg he]
    exact ⟨_, rfl, HB2.out.size, World.alloc_heap_new w2 _⟩
set_option maxRecDepth 100000 in
set_option maxHeartbeats 1000000 in
theorem want_whole (b : Bool) (m : ByteArray) (kk : Nat) (hkk : kk ≤ 7) (w : World) : Calls Tryz.prog 68 #[.iface 126 (.agg #[.bool b, .string m]), .int .u8 kk] w (WantPost 2 kk (.iface 126 (.agg #[.bool b, .string m])) w) := by
  have HK := Lib.hid (fun W => wholeKind_any b m W)
  have HB0 := Lib.hid (Below.refl w.heap.size w)
  have h7 : ¬ ((7 : Int) < (kk : Int)) := by omega
  have h7' : decide ((7 : Int) < (kk : Int)) = false := decide_eq_false h7
  by_cases he : 2 = kk
  · subst he
    go_enter Tryz.func68, Tryz.ntmps68
    go_wp2_with fail
    refine (HK.out _).mono ?_
    rintro e w2 ⟨rfl, hb2⟩
    have HB2 := Lib.hid hb2
    clear hb2
    go_wp2_with fail
    go_ret2
    exact ⟨HB2.out, by rw [if_pos rfl]; rfl⟩
  · have hne : (((2 : Nat) : Int) == (kk : Int)) = false := by rw [beq_eq_false_iff_ne]; omega
    go_enter Tryz.func68, Tryz.ntmps68
    go_wp2_with fail
    refine (HK.out _).mono ?_
    rintro e w2 ⟨rfl, hb2⟩
    have HB2 := Lib.hid hb2
    clear hb2
    go_wp2_with fail
    go_ret2
    refine ⟨HB2.out.alloc HB2.out.size _, ?_⟩
    rw [if_neg he]
    exact ⟨_, rfl, HB2.out.size, World.alloc_heap_new w2 _⟩
set_option maxRecDepth 100000 in
set_option maxHeartbeats 1000000 in
theorem want_row (k : Nat) (r : ByteArray) (kk : Nat) (hkk : kk ≤ 7) (w : World) : Calls Tryz.prog 68 #[.iface 128 (.agg #[.int .u8 k, .string r]), .int .u8 kk] w (WantPost k kk (.iface 128 (.agg #[.int .u8 k, .string r])) w) := by
  have HK := Lib.hid (fun W => rowKind_any k r W)
  have HB0 := Lib.hid (Below.refl w.heap.size w)
  have h7 : ¬ ((7 : Int) < (kk : Int)) := by omega
  have h7' : decide ((7 : Int) < (kk : Int)) = false := decide_eq_false h7
  by_cases he : k = kk
  · subst he
    go_enter Tryz.func68, Tryz.ntmps68
    go_wp2_with fail
    refine (HK.out _).mono ?_
    rintro e w2 ⟨rfl, hb2⟩
    have HB2 := Lib.hid hb2
    clear hb2
    go_wp2_with fail
    go_ret2
    exact ⟨HB2.out, by rw [if_pos rfl]; rfl⟩
  · have hne : (((k : Nat) : Int) == (kk : Int)) = false := by rw [beq_eq_false_iff_ne]; omega
    go_enter Tryz.func68, Tryz.ntmps68
    go_wp2_with fail
    refine (HK.out _).mono ?_
    rintro e w2 ⟨rfl, hb2⟩
    have HB2 := Lib.hid hb2
    clear hb2
    go_wp2_with fail
    go_ret2
    refine ⟨HB2.out.alloc HB2.out.size _, ?_⟩
    rw [if_neg he]
    exact ⟨_, rfl, HB2.out.size, World.alloc_heap_new w2 _⟩
set_option maxRecDepth 100000 in
set_option maxHeartbeats 1000000 in
theorem want_tuple (a : Option Addr) (n c : Nat) (kk : Nat) (hkk : kk ≤ 7) (w : World) : Calls Tryz.prog 68 #[.iface 109 (.agg #[.slice a n c]), .int .u8 kk] w (WantPost 7 kk (.iface 109 (.agg #[.slice a n c])) w) := by
  have HK := Lib.hid (fun W => tupKind_any a n c W)
  have HB0 := Lib.hid (Below.refl w.heap.size w)
  have h7 : ¬ ((7 : Int) < (kk : Int)) := by omega
  have h7' : decide ((7 : Int) < (kk : Int)) = false := decide_eq_false h7
  by_cases he : 7 = kk
  · subst he
    go_enter Tryz.func68, Tryz.ntmps68
    go_wp2_with fail
    refine (HK.out _).mono ?_
    rintro e w2 ⟨rfl, hb2⟩
    have HB2 := Lib.hid hb2
    clear hb2
    go_wp2_with fail
    go_ret2
    exact ⟨HB2.out, by rw [if_pos rfl]; rfl⟩
  · have hne : (((7 : Nat) : Int) == (kk : Int)) = false := by rw [beq_eq_false_iff_ne]; omega
    go_enter Tryz.func68, Tryz.ntmps68
    go_wp2_with fail
    refine (HK.out _).mono ?_
    rintro e w2 ⟨rfl, hb2⟩
    have HB2 := Lib.hid hb2
    clear hb2
    go_wp2_with fail
    go_ret2
    refine ⟨HB2.out.alloc HB2.out.size _, ?_⟩
    rw [if_neg he]
    exact ⟨_, rfl, HB2.out.size, World.alloc_heap_new w2 _⟩
end Go.Proofs.YtcjllhdbepchnaaGreatDoor

/-! fit.wrong: what is wrong with a value of a field; all but tuples. -/
namespace Go.Proofs.YtcjllhdbepchnaaGreatDoor
open Go.RowKit Go.WideShapes
set_option linter.unusedVariables false
/-- A fault's block. -/
def FlY (w : World) (b : Nat) (c a : Int) (v yv : Value) : Prop := w.heap[b]? = some (.cells #[.int .i64 c, .int .i64 a, v, yv] 93 (0, 0))
theorem FlY.cells {w : World} {b : Nat} {c a : Int} {v yv : Value} (h : FlY w b c a v yv) : w.cell? ⟨b, 0, none⟩ = some (.int .i64 c) ∧ w.cell? ⟨b, 1, none⟩ = some (.int .i64 a) ∧ w.cell? ⟨b, 2, none⟩ = some v ∧ w.cell? ⟨b, 3, none⟩ = some yv := by simp [World.cell?, show w.heap[b]? = _ from h]
theorem FlY.free {w : World} {b : Nat} {c a : Int} {v yv : Value} (h : FlY w b c a v yv) (i : Nat) : w.frozen? ⟨b, i, none⟩ = false := by simp [World.frozen?, show w.heap[b]? = _ from h]
/-- What it comes of. -/
def WhyAt (lo : Nat) (w : World) (y : Int) (yv : Value) : Prop := (y = 0 ∧ yv = .nilIface) ∨ (y = 30 ∧ yv = .iface 34 (.int .i64 30)) ∨ (y = 4 ∧ ∃ b, yv = .iface 91 (.pointer (some ⟨b, 0, none⟩)) ∧ lo ≤ b ∧ FltAt w b 4 0 (.slice none 0 0))
/-- What it tells. -/
def WrongPost (r : FR) (w : World) (e : Ending) (w' : World) : Prop := Below w.heap.size w w' ∧ match r with
  | none => e = .returned (.pointer none)
  | some (c, a, q, y) => ∃ b v yv, e = .returned (.pointer (some ⟨b, 0, none⟩)) ∧ w.heap.size ≤ b ∧ FlY w' b c a v yv ∧ w'.ownsRow w.heap.size 3 1 v q.length (pathVals q) ∧ WhyAt w.heap.size w' y yv
set_option maxRecDepth 100000 in
set_option maxHeartbeats 2000000 in
theorem wrong_null (t : FT) (p : PT) (a : Option Addr) (c : Nat) (w : World) (hk : p.kind = 0) : Calls Tryz.prog 44 #[.agg #[.string t.s.name, .int .u8 t.s.kind, .bool t.s.down, .int .u8 t.s.nulls, .bool t.s.bnd, .bool t.s.lb, .string t.s.lm, .bool t.s.hb, .string t.s.hm, .int .i64 t.s.most, .int .i64 t.s.st, .bool t.s.sh, .bool t.s.ba, .slice a t.fields.length c], .nilIface] w (WrongPost (FT.fit t p) w) := by
  have HB := Lib.hid (fun o => (Below.refl w.heap.size w).alloc (Nat.le_refl _) o)
  by_cases hn : t.s.nulls = 0
  · have e1 : ((t.s.nulls : Int) == 0) = true := by rw [hn]; rfl
    have hs : FT.fit t p = some (121, 0, [], 0) := by rw [FT.fit_eq, if_pos hk, if_pos hn]
    rw [hs]
    clear hs hn hk
    go_enter Tryz.func44, Tryz.ntmps44
    go_wp2_with fail
    go_ret
    refine ⟨(HB.out _).alloc (by simp) _, _, _, _, rfl, ?_, ?_, World.ownsRow_nil _ _ _ _, .inl ⟨rfl, rfl⟩⟩
    · omega
    · have h9 := World.alloc_heap_new (w.alloc (.cells #[.string t.s.name, .int .u8 t.s.kind, .bool t.s.down, .int .u8 t.s.nulls, .bool t.s.bnd, .bool t.s.lb, .string t.s.lm, .bool t.s.hb, .string t.s.hm, .int .i64 t.s.most, .int .i64 t.s.st, .bool t.s.sh, .bool t.s.ba, .slice a t.fields.length c] 57)) (.cells #[.int .i64 121, .int .i64 0, .slice none 0 0, .nilIface] 93)
      rw [World.size_alloc] at h9
      exact h9
  · have e1 : ((t.s.nulls : Int) == 0) = false := by rw [beq_eq_false_iff_ne]; omega
    have hs : FT.fit t p = none := by rw [FT.fit_eq, if_pos hk, if_neg hn]
    rw [hs]
    clear hs hn hk
    go_enter Tryz.func44, Tryz.ntmps44
    go_wp2_with fail
    go_ret
    exact ⟨HB.out _, rfl⟩
set_option maxRecDepth 100000 in
set_option maxHeartbeats 2000000 in
theorem wrong_other (t : FT) (p : PT) (a : Option Addr) (c : Nat) (w : World) (T : TypeId) (x : Value) (hk0 : p.kind ≠ 0) (hk : p.kind ≠ t.s.kind) (hW : ∀ W, Calls Tryz.prog 68 #[.iface T x, .int .u8 t.s.kind] W (WantPost p.kind t.s.kind (.iface T x) W)) : Calls Tryz.prog 44 #[.agg #[.string t.s.name, .int .u8 t.s.kind, .bool t.s.down, .int .u8 t.s.nulls, .bool t.s.bnd, .bool t.s.lb, .string t.s.lm, .bool t.s.hb, .string t.s.hm, .int .i64 t.s.most, .int .i64 t.s.st, .bool t.s.sh, .bool t.s.ba, .slice a t.fields.length c], .iface T x] w (WrongPost (FT.fit t p) w) := by
  have HB := Lib.hid (fun o => (Below.refl w.heap.size w).alloc (Nat.le_refl _) o)
  have HW := Lib.hid hW
  have HB1 := Lib.hid (below_a1 w (.cells #[.string t.s.name, .int .u8 t.s.kind, .bool t.s.down, .int .u8 t.s.nulls, .bool t.s.bnd, .bool t.s.lb, .string t.s.lm, .bool t.s.hb, .string t.s.hm, .int .i64 t.s.most, .int .i64 t.s.st, .bool t.s.sh, .bool t.s.ba, .slice a t.fields.length c] 57))
  have hs : FT.fit t p = some (120, 0, [], 4) := by rw [FT.fit_eq, if_neg hk0, if_pos hk]
  rw [hs]
  have HK := Lib.hid hk
  clear hs hW hk hk0
  go_enter Tryz.func44, Tryz.ntmps44
  go_wp2_with fail
  refine (HW.out _).mono ?_
  rintro e w2 ⟨hb2, hp2⟩
  rw [if_neg HK.out] at hp2
  obtain ⟨b, rfl, hlb, hfl⟩ := hp2
  have hz2 := hb2.size
  rw [World.size_alloc] at hz2 hlb
  have HB2 := Lib.hid (HB1.out.trans (hb2.mono (by simp)))
  have HFl := Lib.hid hfl
  clear hb2 hfl
  go_wp2_with fail
  go_ret
  refine ⟨HB2.out.alloc (by omega) _, _, _, _, rfl, by omega, World.alloc_heap_new w2 _, World.ownsRow_nil _ _ _ _, .inr (.inr ⟨rfl, b, rfl, by omega, ?_⟩)⟩
  exact HFl.out.below (below_a1 _ _) HFl.out.lt
end Go.Proofs.YtcjllhdbepchnaaGreatDoor

/-! fit.wrong: of a number. -/
namespace Go.Proofs.YtcjllhdbepchnaaGreatDoor
open Go.RowKit Go.WideShapes
set_option linter.unusedVariables false
set_option maxRecDepth 100000 in
set_option maxHeartbeats 2000000 in
theorem wrong_whole (t : FT) (p : PT) (a : Option Addr) (c : Nat) (w : World) (hk : p.kind = t.s.kind) (hkk : t.s.kind = 2) (hm : p.mag.size ≤ 9223372036854775807) (h1 : t.s.lm.size ≤ 9223372036854775807) (h2 : t.s.hm.size ≤ 9223372036854775807) : Calls Tryz.prog 44 #[.agg #[.string t.s.name, .int .u8 t.s.kind, .bool t.s.down, .int .u8 t.s.nulls, .bool t.s.bnd, .bool t.s.lb, .string t.s.lm, .bool t.s.hb, .string t.s.hm, .int .i64 t.s.most, .int .i64 t.s.st, .bool t.s.sh, .bool t.s.ba, .slice a t.fields.length c], .iface 126 (.agg #[.bool p.bel, .string p.mag])] w (WrongPost (FT.fit t p) w) := by
  have HW := Lib.hid (fun W => want_whole p.bel p.mag 2 (by omega) W)
  have HN := Lib.hid (fun W => wholeNum_any p.bel p.mag W)
  have HC1 := Lib.hid (fun W => natCmp_any p.bel p.mag t.s.lb t.s.lm W hm h1)
  have HC2 := Lib.hid (fun W => natCmp_any p.bel p.mag t.s.hb t.s.hm W hm h2)
  have ha0 := wholeNumber
  have ha1 := wholeNoRaw
  have ha2 := wholeNoList
  have HB1 := Lib.hid (below_a1 w (.cells #[.string t.s.name, .int .u8 t.s.kind, .bool t.s.down, .int .u8 t.s.nulls, .bool t.s.bnd, .bool t.s.lb, .string t.s.lm, .bool t.s.hb, .string t.s.hm, .int .i64 t.s.most, .int .i64 t.s.st, .bool t.s.sh, .bool t.s.ba, .slice a t.fields.length c] 57))
  have HX1 := Lib.hid (FBox.new w #[.string t.s.name, .int .u8 t.s.kind, .bool t.s.down, .int .u8 t.s.nulls, .bool t.s.bnd, .bool t.s.lb, .string t.s.lm, .bool t.s.hb, .string t.s.hm, .int .i64 t.s.most, .int .i64 t.s.st, .bool t.s.sh, .bool t.s.ba, .slice a t.fields.length c])
  cases hb : t.s.bnd with
  | false =>
    have hs : FT.fit t p = none := by rw [FT.fit_eq, if_neg (by omega), if_neg (fun h => h hk), if_neg (fun h => by have := h.2.1; rw [hb] at this; cases this), if_neg (by omega), if_neg (by omega), if_pos (by omega)]
    rw [hs, hkk]
    rw [hkk, hb] at HX1 HB1
    clear hs hk hkk hb
    go_enter Tryz.func44, Tryz.ntmps44
    go_wp2_with fail
    refine (HW.out _).mono ?_
    rintro e w2 ⟨hb2, hp2⟩
    rw [if_pos rfl] at hp2
    subst hp2
    have hz2 := hb2.size
    rw [World.size_alloc] at hz2
    have HB2 := Lib.hid (HB1.out.trans (hb2.mono (by simp)))
    have HX2 := Lib.hid (HX1.out.below hb2 (by simp))
    clear hb2 HW HB1 HX1
    obtain ⟨x0, x1, x2, x3, x4, x5, x6, x7, x8, x9, x10, x11, x12, x13⟩ := HX2.out.cells
    go_wp2_with fail
    go_region_held3 (fun W => W.cell? ⟨w.heap.size, 5, none⟩ = some (.bool t.s.lb) ∧ W.cell? ⟨w.heap.size, 6, none⟩ = some (.string t.s.lm))
      (first | exact ⟨x5, x6⟩ | exact ⟨(HA3.out.cell (by simp only; omega)).trans x5, (HA3.out.cell (by simp only; omega)).trans x6⟩ | exact ⟨(HB3.out.cell (by simp only; omega)).trans x5, (HB3.out.cell (by simp only; omega)).trans x6⟩)
      (first
        | (go_simp; go_invoke; go_simp; go_at_call 233; refine (HN.out _).mono ?_; rintro e wn ⟨rfl, hbn⟩; have HA3 := Lib.hid (show Below w2.heap.size w2 wn from (Below.refl _ _).drew.trans (hbn.mono (Nat.le_refl _))))
        | (go_at_call 69; refine (HC1.out _).mono ?_; rintro e w3 ⟨rfl, hbm⟩; have HB3 := Lib.hid (show Below w2.heap.size w2 w3 from HA3.out.trans (hbm.mono HA3.out.size))))
    have hz3 := HB3.out.size
    have HX3 := Lib.hid (HX2.out.below HB3.out (by omega))
    have HBx := Lib.hid (HB2.out.trans (HB3.out.mono (by omega)))
    clear x0 x1 x2 x3 x4 x5 x6 x7 x8 x9 x10 x11 x12 x13
    obtain ⟨x0, x1, x2, x3, x4, x5, x6, x7, x8, x9, x10, x11, x12, x13⟩ := HX3.out.cells
    go_wp2_with fail
    go_region_held3 (fun W => W.cell? ⟨w.heap.size, 7, none⟩ = some (.bool t.s.hb) ∧ W.cell? ⟨w.heap.size, 8, none⟩ = some (.string t.s.hm))
      (first | exact ⟨x7, x8⟩ | exact ⟨(HA4.out.cell (by simp only; omega)).trans x7, (HA4.out.cell (by simp only; omega)).trans x8⟩ | exact ⟨(HB4.out.cell (by simp only; omega)).trans x7, (HB4.out.cell (by simp only; omega)).trans x8⟩)
      (first
        | (go_simp; go_invoke; go_simp; go_at_call 233; refine (HN.out _).mono ?_; rintro e wn ⟨rfl, hbn⟩; have HA4 := Lib.hid (show Below w3.heap.size w3 wn from (Below.refl _ _).drew.trans (hbn.mono (Nat.le_refl _))))
        | (go_at_call 69; refine (HC2.out _).mono ?_; rintro e w4 ⟨rfl, hbm⟩; have HB4 := Lib.hid (show Below w3.heap.size w3 w4 from HA4.out.trans (hbm.mono HA4.out.size))))
    have hz4 := HB4.out.size
    have HX4 := Lib.hid (HX3.out.below HB4.out (by omega))
    have HBy := Lib.hid (HBx.out.trans (HB4.out.mono (by omega)))
    clear x0 x1 x2 x3 x4 x5 x6 x7 x8 x9 x10 x11 x12 x13
    obtain ⟨x0, x1, x2, x3, x4, x5, x6, x7, x8, x9, x10, x11, x12, x13⟩ := HX4.out.cells
    go_wp2_with fail
    all_goals (
      go_ret
      exact ⟨HBy.out, rfl⟩)
  | true =>
    by_cases hlo : numCmp p.bel p.mag t.s.lb t.s.lm < 0
    · have hs : FT.fit t p = some (123, 0, [], 0) := by rw [FT.fit_eq, if_neg (by omega), if_neg (fun h => h hk), if_pos ⟨hkk, hb, .inl hlo⟩]
      rw [hs, hkk]
      rw [hkk, hb] at HX1 HB1
      clear hs hk hkk hb
      go_enter Tryz.func44, Tryz.ntmps44
      go_wp2_with fail
      refine (HW.out _).mono ?_
      rintro e w2 ⟨hb2, hp2⟩
      rw [if_pos rfl] at hp2
      subst hp2
      have hz2 := hb2.size
      rw [World.size_alloc] at hz2
      have HB2 := Lib.hid (HB1.out.trans (hb2.mono (by simp)))
      have HX2 := Lib.hid (HX1.out.below hb2 (by simp))
      clear hb2 HW HB1 HX1
      obtain ⟨x0, x1, x2, x3, x4, x5, x6, x7, x8, x9, x10, x11, x12, x13⟩ := HX2.out.cells
      go_wp2_with fail
      go_region_held3 (fun W => W.cell? ⟨w.heap.size, 5, none⟩ = some (.bool t.s.lb) ∧ W.cell? ⟨w.heap.size, 6, none⟩ = some (.string t.s.lm))
        (first | exact ⟨x5, x6⟩ | exact ⟨(HA3.out.cell (by simp only; omega)).trans x5, (HA3.out.cell (by simp only; omega)).trans x6⟩ | exact ⟨(HB3.out.cell (by simp only; omega)).trans x5, (HB3.out.cell (by simp only; omega)).trans x6⟩)
        (first
          | (go_simp; go_invoke; go_simp; go_at_call 233; refine (HN.out _).mono ?_; rintro e wn ⟨rfl, hbn⟩; have HA3 := Lib.hid (show Below w2.heap.size w2 wn from (Below.refl _ _).drew.trans (hbn.mono (Nat.le_refl _))))
          | (go_at_call 69; refine (HC1.out _).mono ?_; rintro e w3 ⟨rfl, hbm⟩; have HB3 := Lib.hid (show Below w2.heap.size w2 w3 from HA3.out.trans (hbm.mono HA3.out.size))))
      have hz3 := HB3.out.size
      have HX3 := Lib.hid (HX2.out.below HB3.out (by omega))
      have HBx := Lib.hid (HB2.out.trans (HB3.out.mono (by omega)))
      clear x0 x1 x2 x3 x4 x5 x6 x7 x8 x9 x10 x11 x12 x13
      obtain ⟨x0, x1, x2, x3, x4, x5, x6, x7, x8, x9, x10, x11, x12, x13⟩ := HX3.out.cells
      go_wp2_with fail
      go_region_held3 (fun W => W.cell? ⟨w.heap.size, 7, none⟩ = some (.bool t.s.hb) ∧ W.cell? ⟨w.heap.size, 8, none⟩ = some (.string t.s.hm))
        (first | exact ⟨x7, x8⟩ | exact ⟨(HA4.out.cell (by simp only; omega)).trans x7, (HA4.out.cell (by simp only; omega)).trans x8⟩ | exact ⟨(HB4.out.cell (by simp only; omega)).trans x7, (HB4.out.cell (by simp only; omega)).trans x8⟩)
        (first
          | (go_simp; go_invoke; go_simp; go_at_call 233; refine (HN.out _).mono ?_; rintro e wn ⟨rfl, hbn⟩; have HA4 := Lib.hid (show Below w3.heap.size w3 wn from (Below.refl _ _).drew.trans (hbn.mono (Nat.le_refl _))))
          | (go_at_call 69; refine (HC2.out _).mono ?_; rintro e w4 ⟨rfl, hbm⟩; have HB4 := Lib.hid (show Below w3.heap.size w3 w4 from HA4.out.trans (hbm.mono HA4.out.size))))
      have hz4 := HB4.out.size
      have HX4 := Lib.hid (HX3.out.below HB4.out (by omega))
      have HBy := Lib.hid (HBx.out.trans (HB4.out.mono (by omega)))
      clear x0 x1 x2 x3 x4 x5 x6 x7 x8 x9 x10 x11 x12 x13
      obtain ⟨x0, x1, x2, x3, x4, x5, x6, x7, x8, x9, x10, x11, x12, x13⟩ := HX4.out.cells
      go_wp2_with fail
      all_goals (
        go_ret
        exact ⟨HBy.out.alloc (by omega) _, _, _, _, rfl, by omega, World.alloc_heap_new _ _, World.ownsRow_nil _ _ _ _, .inl ⟨rfl, rfl⟩⟩)
    · by_cases hhi : 0 < numCmp p.bel p.mag t.s.hb t.s.hm
      · have hs : FT.fit t p = some (123, 0, [], 0) := by rw [FT.fit_eq, if_neg (by omega), if_neg (fun h => h hk), if_pos ⟨hkk, hb, .inr hhi⟩]
        rw [hs, hkk]
        rw [hkk, hb] at HX1 HB1
        clear hs hk hkk hb
        go_enter Tryz.func44, Tryz.ntmps44
        go_wp2_with fail
        refine (HW.out _).mono ?_
        rintro e w2 ⟨hb2, hp2⟩
        rw [if_pos rfl] at hp2
        subst hp2
        have hz2 := hb2.size
        rw [World.size_alloc] at hz2
        have HB2 := Lib.hid (HB1.out.trans (hb2.mono (by simp)))
        have HX2 := Lib.hid (HX1.out.below hb2 (by simp))
        clear hb2 HW HB1 HX1
        obtain ⟨x0, x1, x2, x3, x4, x5, x6, x7, x8, x9, x10, x11, x12, x13⟩ := HX2.out.cells
        go_wp2_with fail
        go_region_held3 (fun W => W.cell? ⟨w.heap.size, 5, none⟩ = some (.bool t.s.lb) ∧ W.cell? ⟨w.heap.size, 6, none⟩ = some (.string t.s.lm))
          (first | exact ⟨x5, x6⟩ | exact ⟨(HA3.out.cell (by simp only; omega)).trans x5, (HA3.out.cell (by simp only; omega)).trans x6⟩ | exact ⟨(HB3.out.cell (by simp only; omega)).trans x5, (HB3.out.cell (by simp only; omega)).trans x6⟩)
          (first
            | (go_simp; go_invoke; go_simp; go_at_call 233; refine (HN.out _).mono ?_; rintro e wn ⟨rfl, hbn⟩; have HA3 := Lib.hid (show Below w2.heap.size w2 wn from (Below.refl _ _).drew.trans (hbn.mono (Nat.le_refl _))))
            | (go_at_call 69; refine (HC1.out _).mono ?_; rintro e w3 ⟨rfl, hbm⟩; have HB3 := Lib.hid (show Below w2.heap.size w2 w3 from HA3.out.trans (hbm.mono HA3.out.size))))
        have hz3 := HB3.out.size
        have HX3 := Lib.hid (HX2.out.below HB3.out (by omega))
        have HBx := Lib.hid (HB2.out.trans (HB3.out.mono (by omega)))
        clear x0 x1 x2 x3 x4 x5 x6 x7 x8 x9 x10 x11 x12 x13
        obtain ⟨x0, x1, x2, x3, x4, x5, x6, x7, x8, x9, x10, x11, x12, x13⟩ := HX3.out.cells
        go_wp2_with fail
        go_region_held3 (fun W => W.cell? ⟨w.heap.size, 7, none⟩ = some (.bool t.s.hb) ∧ W.cell? ⟨w.heap.size, 8, none⟩ = some (.string t.s.hm))
          (first | exact ⟨x7, x8⟩ | exact ⟨(HA4.out.cell (by simp only; omega)).trans x7, (HA4.out.cell (by simp only; omega)).trans x8⟩ | exact ⟨(HB4.out.cell (by simp only; omega)).trans x7, (HB4.out.cell (by simp only; omega)).trans x8⟩)
          (first
            | (go_simp; go_invoke; go_simp; go_at_call 233; refine (HN.out _).mono ?_; rintro e wn ⟨rfl, hbn⟩; have HA4 := Lib.hid (show Below w3.heap.size w3 wn from (Below.refl _ _).drew.trans (hbn.mono (Nat.le_refl _))))
            | (go_at_call 69; refine (HC2.out _).mono ?_; rintro e w4 ⟨rfl, hbm⟩; have HB4 := Lib.hid (show Below w3.heap.size w3 w4 from HA4.out.trans (hbm.mono HA4.out.size))))
        have hz4 := HB4.out.size
        have HX4 := Lib.hid (HX3.out.below HB4.out (by omega))
        have HBy := Lib.hid (HBx.out.trans (HB4.out.mono (by omega)))
        clear x0 x1 x2 x3 x4 x5 x6 x7 x8 x9 x10 x11 x12 x13
        obtain ⟨x0, x1, x2, x3, x4, x5, x6, x7, x8, x9, x10, x11, x12, x13⟩ := HX4.out.cells
        go_wp2_with fail
        all_goals (
          go_ret
          exact ⟨HBy.out.alloc (by omega) _, _, _, _, rfl, by omega, World.alloc_heap_new _ _, World.ownsRow_nil _ _ _ _, .inl ⟨rfl, rfl⟩⟩)
      · have hs : FT.fit t p = none := by rw [FT.fit_eq, if_neg (by omega), if_neg (fun h => h hk), if_neg (fun h => h.2.2.elim hlo hhi), if_neg (by omega), if_neg (by omega), if_pos (by omega)]
        have d1 := decide_eq_false hlo
        have d2 := decide_eq_false hhi
        have hlo' := Int.not_lt.1 hlo
        have hhi' := Int.not_lt.1 hhi
        rw [hs, hkk]
        rw [hkk, hb] at HX1 HB1
        clear hs hk hkk hb
        go_enter Tryz.func44, Tryz.ntmps44
        go_wp2_with fail
        refine (HW.out _).mono ?_
        rintro e w2 ⟨hb2, hp2⟩
        rw [if_pos rfl] at hp2
        subst hp2
        have hz2 := hb2.size
        rw [World.size_alloc] at hz2
        have HB2 := Lib.hid (HB1.out.trans (hb2.mono (by simp)))
        have HX2 := Lib.hid (HX1.out.below hb2 (by simp))
        clear hb2 HW HB1 HX1
        obtain ⟨x0, x1, x2, x3, x4, x5, x6, x7, x8, x9, x10, x11, x12, x13⟩ := HX2.out.cells
        go_wp2_with fail
        go_region_held3 (fun W => W.cell? ⟨w.heap.size, 5, none⟩ = some (.bool t.s.lb) ∧ W.cell? ⟨w.heap.size, 6, none⟩ = some (.string t.s.lm))
          (first | exact ⟨x5, x6⟩ | exact ⟨(HA3.out.cell (by simp only; omega)).trans x5, (HA3.out.cell (by simp only; omega)).trans x6⟩ | exact ⟨(HB3.out.cell (by simp only; omega)).trans x5, (HB3.out.cell (by simp only; omega)).trans x6⟩)
          (first
            | (go_simp; go_invoke; go_simp; go_at_call 233; refine (HN.out _).mono ?_; rintro e wn ⟨rfl, hbn⟩; have HA3 := Lib.hid (show Below w2.heap.size w2 wn from (Below.refl _ _).drew.trans (hbn.mono (Nat.le_refl _))))
            | (go_at_call 69; refine (HC1.out _).mono ?_; rintro e w3 ⟨rfl, hbm⟩; have HB3 := Lib.hid (show Below w2.heap.size w2 w3 from HA3.out.trans (hbm.mono HA3.out.size))))
        have hz3 := HB3.out.size
        have HX3 := Lib.hid (HX2.out.below HB3.out (by omega))
        have HBx := Lib.hid (HB2.out.trans (HB3.out.mono (by omega)))
        clear x0 x1 x2 x3 x4 x5 x6 x7 x8 x9 x10 x11 x12 x13
        obtain ⟨x0, x1, x2, x3, x4, x5, x6, x7, x8, x9, x10, x11, x12, x13⟩ := HX3.out.cells
        go_wp2_with fail
        go_region_held3 (fun W => W.cell? ⟨w.heap.size, 7, none⟩ = some (.bool t.s.hb) ∧ W.cell? ⟨w.heap.size, 8, none⟩ = some (.string t.s.hm))
          (first | exact ⟨x7, x8⟩ | exact ⟨(HA4.out.cell (by simp only; omega)).trans x7, (HA4.out.cell (by simp only; omega)).trans x8⟩ | exact ⟨(HB4.out.cell (by simp only; omega)).trans x7, (HB4.out.cell (by simp only; omega)).trans x8⟩)
          (first
            | (go_simp; go_invoke; go_simp; go_at_call 233; refine (HN.out _).mono ?_; rintro e wn ⟨rfl, hbn⟩; have HA4 := Lib.hid (show Below w3.heap.size w3 wn from (Below.refl _ _).drew.trans (hbn.mono (Nat.le_refl _))))
            | (go_at_call 69; refine (HC2.out _).mono ?_; rintro e w4 ⟨rfl, hbm⟩; have HB4 := Lib.hid (show Below w3.heap.size w3 w4 from HA4.out.trans (hbm.mono HA4.out.size))))
        have hz4 := HB4.out.size
        have HX4 := Lib.hid (HX3.out.below HB4.out (by omega))
        have HBy := Lib.hid (HBx.out.trans (HB4.out.mono (by omega)))
        clear x0 x1 x2 x3 x4 x5 x6 x7 x8 x9 x10 x11 x12 x13
        obtain ⟨x0, x1, x2, x3, x4, x5, x6, x7, x8, x9, x10, x11, x12, x13⟩ := HX4.out.cells
        go_wp2_with fail
        all_goals (
          go_ret
          exact ⟨HBy.out, rfl⟩)
end Go.Proofs.YtcjllhdbepchnaaGreatDoor

/-! fit.wrong: of a value of the field's kind; truths, rows, numbers. -/
namespace Go.Proofs.YtcjllhdbepchnaaGreatDoor
open Go.RowKit Go.WideShapes
set_option linter.unusedVariables false
theorem truthNoRawF (v : Value) (xT : TypeId) (w : World) : (Instr.typeAssert (.iface 124 v) xT 137 true).run Tryz.prog w = .ok (.tuple #[.nilIface, .bool false]) w := run_typeAssert_lacksB Tryz.underlying137 (by kernel_rfl) (by kernel_rfl) v xT w
set_option maxRecDepth 100000 in
set_option maxHeartbeats 2000000 in
theorem wrong_truth (t : FT) (p : PT) (a : Option Addr) (c : Nat) (w : World) (hk : p.kind = 1) (hkk : t.s.kind = 1) : Calls Tryz.prog 44 #[.agg #[.string t.s.name, .int .u8 t.s.kind, .bool t.s.down, .int .u8 t.s.nulls, .bool t.s.bnd, .bool t.s.lb, .string t.s.lm, .bool t.s.hb, .string t.s.hm, .int .i64 t.s.most, .int .i64 t.s.st, .bool t.s.sh, .bool t.s.ba, .slice a t.fields.length c], .iface 124 (.agg #[.bool p.yes])] w (WrongPost (FT.fit t p) w) := by
  have hs : FT.fit t p = none := by rw [FT.fit_eq, if_neg (by omega), if_neg (by omega), if_neg (by omega), if_neg (by omega), if_neg (by omega), if_pos (by omega)]
  rw [hs]
  have HW := Lib.hid (fun W => want_truth p.yes t.s.kind (by omega) W)
  rw [hkk] at HW
  have ha0 := truthNoNumber
  have ha1 := truthNoRawF
  have ha2 := truthNoList
  have HB1 := Lib.hid (below_a1 w (.cells #[.string t.s.name, .int .u8 t.s.kind, .bool t.s.down, .int .u8 t.s.nulls, .bool t.s.bnd, .bool t.s.lb, .string t.s.lm, .bool t.s.hb, .string t.s.hm, .int .i64 t.s.most, .int .i64 t.s.st, .bool t.s.sh, .bool t.s.ba, .slice a t.fields.length c] 57))
  have HX1 := Lib.hid (FBox.new w #[.string t.s.name, .int .u8 t.s.kind, .bool t.s.down, .int .u8 t.s.nulls, .bool t.s.bnd, .bool t.s.lb, .string t.s.lm, .bool t.s.hb, .string t.s.hm, .int .i64 t.s.most, .int .i64 t.s.st, .bool t.s.sh, .bool t.s.ba, .slice a t.fields.length c])
  clear hs
  rw [hkk]
  rw [hkk] at HX1 HB1
  clear hk hkk
  go_enter Tryz.func44, Tryz.ntmps44
  go_wp2_with fail
  refine (HW.out _).mono ?_
  rintro e w2 ⟨hb2, hp2⟩
  rw [if_pos rfl] at hp2
  subst hp2
  have hz2 := hb2.size
  rw [World.size_alloc] at hz2
  have HB2 := Lib.hid (HB1.out.trans (hb2.mono (by simp)))
  have HX2 := Lib.hid (HX1.out.below hb2 (by simp))
  clear hb2 HW HB1 HX1
  obtain ⟨x0, x1, x2, x3, x4, x5, x6, x7, x8, x9, x10, x11, x12, x13⟩ := HX2.out.cells
  go_wp2_with fail
  go_ret
  exact ⟨HB2.out, rfl⟩
end Go.Proofs.YtcjllhdbepchnaaGreatDoor

/-! fit.wrong: of a row of kind 3. -/
namespace Go.Proofs.YtcjllhdbepchnaaGreatDoor
open Go.RowKit Go.WideShapes
set_option linter.unusedVariables false
set_option maxRecDepth 100000 in
set_option maxHeartbeats 2000000 in
theorem wrong_row3 (t : FT) (p : PT) (a : Option Addr) (c : Nat) (w : World) (hk : p.kind = t.s.kind) (hkk : t.s.kind = 3) (hr : p.raw.size ≤ 1099511627776) (hms : t.s.most ≤ 9223372036854775807 ∧ -9223372036854775808 ≤ t.s.most) : Calls Tryz.prog 44 #[.agg #[.string t.s.name, .int .u8 t.s.kind, .bool t.s.down, .int .u8 t.s.nulls, .bool t.s.bnd, .bool t.s.lb, .string t.s.lm, .bool t.s.hb, .string t.s.hm, .int .i64 t.s.most, .int .i64 t.s.st, .bool t.s.sh, .bool t.s.ba, .slice a t.fields.length c], .iface 128 (.agg #[.int .u8 p.kind, .string p.raw])] w (WrongPost (FT.fit t p) w) := by
  have HW := Lib.hid (fun W => want_row 3 p.raw 3 (by omega) W)
  have HRb := Lib.hid (fun W => rowBytes_any 3 p.raw W)
  have HU := Lib.hid (fun W => check_any p.raw (by omega) W)
  have ha0 := rowNoNumber
  have ha1 := rowRaw
  have ha2 := rowNoList
  have HB1 := Lib.hid (below_a1 w (.cells #[.string t.s.name, .int .u8 t.s.kind, .bool t.s.down, .int .u8 t.s.nulls, .bool t.s.bnd, .bool t.s.lb, .string t.s.lm, .bool t.s.hb, .string t.s.hm, .int .i64 t.s.most, .int .i64 t.s.st, .bool t.s.sh, .bool t.s.ba, .slice a t.fields.length c] 57))
  have HX1 := Lib.hid (FBox.new w #[.string t.s.name, .int .u8 t.s.kind, .bool t.s.down, .int .u8 t.s.nulls, .bool t.s.bnd, .bool t.s.lb, .string t.s.lm, .bool t.s.hb, .string t.s.hm, .int .i64 t.s.most, .int .i64 t.s.st, .bool t.s.sh, .bool t.s.ba, .slice a t.fields.length c])
  by_cases hm : t.s.most < p.raw.size
  · have hs : FT.fit t p = some (124, 0, [], 0) := by rw [FT.fit_eq, if_neg (by omega), if_neg (fun h => h hk), if_neg (by omega), if_pos ⟨by omega, hm⟩]
    rw [hs, hk, hkk]
    rw [hkk] at HX1 HB1
    clear hs hk hkk
    go_enter Tryz.func44, Tryz.ntmps44
    go_wp2_with fail
    refine (HW.out _).mono ?_
    rintro e w2 ⟨hb2, hp2⟩
    rw [if_pos rfl] at hp2
    subst hp2
    have hz2 := hb2.size
    rw [World.size_alloc] at hz2
    have HB2 := Lib.hid (HB1.out.trans (hb2.mono (by simp)))
    have HX2 := Lib.hid (HX1.out.below hb2 (by simp))
    clear hb2 HW HB1 HX1
    obtain ⟨x0, x1, x2, x3, x4, x5, x6, x7, x8, x9, x10, x11, x12, x13⟩ := HX2.out.cells
    go_wp2_with fail
    first
      | (go_region_law (first | (go_simp; go_invoke; go_simp; go_at_call 235; refine (HRb.out _).mono ?_; rintro e w3 ⟨rfl, hb3⟩; have HB3 := Lib.hid (show Below w2.heap.size w2 w3 from (Below.refl _ _).drew.trans (hb3.mono (Nat.le_refl _))); have y9 := (HB3.out.cell (p := ⟨w.heap.size, 9, none⟩) (by simp only; omega)).trans x9)))
      | fail
    all_goals (
      have HB3x := Lib.hid (HB2.out.trans (HB3.out.mono (by omega)))
      have HX3 := Lib.hid (HX2.out.below HB3.out (by omega))
      have hz3 := HB3.out.size
      clear x0 x1 x2 x3 x4 x5 x6 x7 x8 x9 x10 x11 x12 x13
      obtain ⟨x0, x1, x2, x3, x4, x5, x6, x7, x8, x9, x10, x11, x12, x13⟩ := HX3.out.cells
      go_wp2_with fail
      go_ret
      exact ⟨HB3x.out.alloc (by omega) _, _, _, _, rfl, by omega, World.alloc_heap_new _ _, World.ownsRow_nil _ _ _ _, .inl ⟨rfl, rfl⟩⟩)
  · have hs : FT.fit t p = none := by rw [FT.fit_eq, if_neg (by omega), if_neg (fun h => h hk), if_neg (by omega), if_neg (fun h => hm h.2), if_neg (by omega), if_pos (by omega)]
    rw [hs, hk, hkk]
    rw [hkk] at HX1 HB1
    clear hs hk hkk
    go_enter Tryz.func44, Tryz.ntmps44
    go_wp2_with fail
    refine (HW.out _).mono ?_
    rintro e w2 ⟨hb2, hp2⟩
    rw [if_pos rfl] at hp2
    subst hp2
    have hz2 := hb2.size
    rw [World.size_alloc] at hz2
    have HB2 := Lib.hid (HB1.out.trans (hb2.mono (by simp)))
    have HX2 := Lib.hid (HX1.out.below hb2 (by simp))
    clear hb2 HW HB1 HX1
    obtain ⟨x0, x1, x2, x3, x4, x5, x6, x7, x8, x9, x10, x11, x12, x13⟩ := HX2.out.cells
    go_wp2_with fail
    first
      | (go_region_law (first | (go_simp; go_invoke; go_simp; go_at_call 235; refine (HRb.out _).mono ?_; rintro e w3 ⟨rfl, hb3⟩; have HB3 := Lib.hid (show Below w2.heap.size w2 w3 from (Below.refl _ _).drew.trans (hb3.mono (Nat.le_refl _))); have y9 := (HB3.out.cell (p := ⟨w.heap.size, 9, none⟩) (by simp only; omega)).trans x9)))
      | fail
    all_goals (
      have HB3x := Lib.hid (HB2.out.trans (HB3.out.mono (by omega)))
      have HX3 := Lib.hid (HX2.out.below HB3.out (by omega))
      have hz3 := HB3.out.size
      clear x0 x1 x2 x3 x4 x5 x6 x7 x8 x9 x10 x11 x12 x13
      obtain ⟨x0, x1, x2, x3, x4, x5, x6, x7, x8, x9, x10, x11, x12, x13⟩ := HX3.out.cells
      go_wp2_with fail
      go_ret
      exact ⟨HB3x.out, rfl⟩)
end Go.Proofs.YtcjllhdbepchnaaGreatDoor

/-! fit.wrong: of a row of kind 4. -/
namespace Go.Proofs.YtcjllhdbepchnaaGreatDoor
open Go.RowKit Go.WideShapes
set_option linter.unusedVariables false
set_option maxRecDepth 100000 in
set_option maxHeartbeats 2000000 in
theorem wrong_row4 (t : FT) (p : PT) (a : Option Addr) (c : Nat) (w : World) (hk : p.kind = t.s.kind) (hkk : t.s.kind = 4) (hr : p.raw.size ≤ 1099511627776) (hms : t.s.most ≤ 9223372036854775807 ∧ -9223372036854775808 ≤ t.s.most) : Calls Tryz.prog 44 #[.agg #[.string t.s.name, .int .u8 t.s.kind, .bool t.s.down, .int .u8 t.s.nulls, .bool t.s.bnd, .bool t.s.lb, .string t.s.lm, .bool t.s.hb, .string t.s.hm, .int .i64 t.s.most, .int .i64 t.s.st, .bool t.s.sh, .bool t.s.ba, .slice a t.fields.length c], .iface 128 (.agg #[.int .u8 p.kind, .string p.raw])] w (WrongPost (FT.fit t p) w) := by
  have HW := Lib.hid (fun W => want_row 4 p.raw 4 (by omega) W)
  have HRb := Lib.hid (fun W => rowBytes_any 4 p.raw W)
  have HU := Lib.hid (fun W => check_any p.raw (by omega) W)
  have ha0 := rowNoNumber
  have ha1 := rowRaw
  have ha2 := rowNoList
  have HB1 := Lib.hid (below_a1 w (.cells #[.string t.s.name, .int .u8 t.s.kind, .bool t.s.down, .int .u8 t.s.nulls, .bool t.s.bnd, .bool t.s.lb, .string t.s.lm, .bool t.s.hb, .string t.s.hm, .int .i64 t.s.most, .int .i64 t.s.st, .bool t.s.sh, .bool t.s.ba, .slice a t.fields.length c] 57))
  have HX1 := Lib.hid (FBox.new w #[.string t.s.name, .int .u8 t.s.kind, .bool t.s.down, .int .u8 t.s.nulls, .bool t.s.bnd, .bool t.s.lb, .string t.s.lm, .bool t.s.hb, .string t.s.hm, .int .i64 t.s.most, .int .i64 t.s.st, .bool t.s.sh, .bool t.s.ba, .slice a t.fields.length c])
  have hs : FT.fit t p = none := by rw [FT.fit_eq, if_neg (by omega), if_neg (fun h => h hk), if_neg (by omega), if_neg (by omega), if_neg (by omega), if_pos (by omega)]
  rw [hs, hk, hkk]
  rw [hkk] at HX1 HB1
  clear hs hk hkk
  go_enter Tryz.func44, Tryz.ntmps44
  go_wp2_with fail
  refine (HW.out _).mono ?_
  rintro e w2 ⟨hb2, hp2⟩
  rw [if_pos rfl] at hp2
  subst hp2
  have hz2 := hb2.size
  rw [World.size_alloc] at hz2
  have HB2 := Lib.hid (HB1.out.trans (hb2.mono (by simp)))
  have HX2 := Lib.hid (HX1.out.below hb2 (by simp))
  clear hb2 HW HB1 HX1
  obtain ⟨x0, x1, x2, x3, x4, x5, x6, x7, x8, x9, x10, x11, x12, x13⟩ := HX2.out.cells
  go_wp2_with fail
  go_quiet (fail)
  have HBn := Lib.hid (show Below w.heap.size w (w2.drewN nq) from HB2.out.trans ⟨rfl, rfl, rfl, Nat.le_refl _, fun _ _ => rfl⟩)
  go_wp2_with fail
  go_ret
  exact ⟨HBn.out, rfl⟩
end Go.Proofs.YtcjllhdbepchnaaGreatDoor

/-! fit.wrong: of a row of kind 5. -/
namespace Go.Proofs.YtcjllhdbepchnaaGreatDoor
open Go.RowKit Go.WideShapes
set_option linter.unusedVariables false
set_option maxRecDepth 100000 in
set_option maxHeartbeats 2000000 in
theorem wrong_row5 (t : FT) (p : PT) (a : Option Addr) (c : Nat) (w : World) (hk : p.kind = t.s.kind) (hkk : t.s.kind = 5) (hr : p.raw.size ≤ 1099511627776) (hms : t.s.most ≤ 9223372036854775807 ∧ -9223372036854775808 ≤ t.s.most) : Calls Tryz.prog 44 #[.agg #[.string t.s.name, .int .u8 t.s.kind, .bool t.s.down, .int .u8 t.s.nulls, .bool t.s.bnd, .bool t.s.lb, .string t.s.lm, .bool t.s.hb, .string t.s.hm, .int .i64 t.s.most, .int .i64 t.s.st, .bool t.s.sh, .bool t.s.ba, .slice a t.fields.length c], .iface 128 (.agg #[.int .u8 p.kind, .string p.raw])] w (WrongPost (FT.fit t p) w) := by
  have HW := Lib.hid (fun W => want_row 5 p.raw 5 (by omega) W)
  have HRb := Lib.hid (fun W => rowBytes_any 5 p.raw W)
  have HU := Lib.hid (fun W => check_any p.raw (by omega) W)
  have ha0 := rowNoNumber
  have ha1 := rowRaw
  have ha2 := rowNoList
  have HB1 := Lib.hid (below_a1 w (.cells #[.string t.s.name, .int .u8 t.s.kind, .bool t.s.down, .int .u8 t.s.nulls, .bool t.s.bnd, .bool t.s.lb, .string t.s.lm, .bool t.s.hb, .string t.s.hm, .int .i64 t.s.most, .int .i64 t.s.st, .bool t.s.sh, .bool t.s.ba, .slice a t.fields.length c] 57))
  have HX1 := Lib.hid (FBox.new w #[.string t.s.name, .int .u8 t.s.kind, .bool t.s.down, .int .u8 t.s.nulls, .bool t.s.bnd, .bool t.s.lb, .string t.s.lm, .bool t.s.hb, .string t.s.hm, .int .i64 t.s.most, .int .i64 t.s.st, .bool t.s.sh, .bool t.s.ba, .slice a t.fields.length c])
  by_cases hm : t.s.most < p.raw.size
  · have hs : FT.fit t p = some (124, 0, [], 0) := by rw [FT.fit_eq, if_neg (by omega), if_neg (fun h => h hk), if_neg (by omega), if_pos ⟨by omega, hm⟩]
    rw [hs, hk, hkk]
    rw [hkk] at HX1 HB1
    clear hs hk hkk
    go_enter Tryz.func44, Tryz.ntmps44
    go_wp2_with fail
    refine (HW.out _).mono ?_
    rintro e w2 ⟨hb2, hp2⟩
    rw [if_pos rfl] at hp2
    subst hp2
    have hz2 := hb2.size
    rw [World.size_alloc] at hz2
    have HB2 := Lib.hid (HB1.out.trans (hb2.mono (by simp)))
    have HX2 := Lib.hid (HX1.out.below hb2 (by simp))
    clear hb2 HW HB1 HX1
    obtain ⟨x0, x1, x2, x3, x4, x5, x6, x7, x8, x9, x10, x11, x12, x13⟩ := HX2.out.cells
    go_wp2_with fail
    first
      | (go_region_held3 (fun W => W.cell? ⟨w.heap.size, 1, none⟩ = some (.int .u8 5) ∧ W.cell? ⟨w.heap.size, 9, none⟩ = some (.int .i64 t.s.most))
      (first | exact ⟨x1, x9⟩ | exact ⟨(HB3.out.cell (by simp only; omega)).trans x1, (HB3.out.cell (by simp only; omega)).trans x9⟩)
      (first | (go_simp; go_invoke; go_simp; go_at_call 235; refine (HRb.out _).mono ?_; rintro e w3 ⟨rfl, hb3⟩; have HB3 := Lib.hid (show Below w2.heap.size w2 w3 from (Below.refl _ _).drew.trans (hb3.mono (Nat.le_refl _))))))
      | fail
    have HB3x := Lib.hid (HB2.out.trans (HB3.out.mono (by omega)))
    have HX3 := Lib.hid (HX2.out.below HB3.out (by omega))
    have hz3 := HB3.out.size
    clear x0 x1 x2 x3 x4 x5 x6 x7 x8 x9 x10 x11 x12 x13
    obtain ⟨x0, x1, x2, x3, x4, x5, x6, x7, x8, x9, x10, x11, x12, x13⟩ := HX3.out.cells
    go_wp2_with fail
    go_ret
    exact ⟨HB3x.out.alloc (by omega) _, _, _, _, rfl, by omega, World.alloc_heap_new _ _, World.ownsRow_nil _ _ _ _, .inl ⟨rfl, rfl⟩⟩
  · by_cases hu : 0 ≤ checkV p.raw
    · have hs : FT.fit t p = some (125, checkV p.raw, [], 30) := by rw [FT.fit_eq, if_neg (by omega), if_neg (fun h => h hk), if_neg (by omega), if_neg (fun h => hm h.2), if_pos ⟨by omega, hu⟩]
      rw [hs, hk, hkk]
      rw [hkk] at HX1 HB1
      clear hs hk hkk
      go_enter Tryz.func44, Tryz.ntmps44
      go_wp2_with fail
      refine (HW.out _).mono ?_
      rintro e w2 ⟨hb2, hp2⟩
      rw [if_pos rfl] at hp2
      subst hp2
      have hz2 := hb2.size
      rw [World.size_alloc] at hz2
      have HB2 := Lib.hid (HB1.out.trans (hb2.mono (by simp)))
      have HX2 := Lib.hid (HX1.out.below hb2 (by simp))
      clear hb2 HW HB1 HX1
      obtain ⟨x0, x1, x2, x3, x4, x5, x6, x7, x8, x9, x10, x11, x12, x13⟩ := HX2.out.cells
      go_wp2_with fail
      first
        | (go_region_held3 (fun W => W.cell? ⟨w.heap.size, 1, none⟩ = some (.int .u8 5) ∧ W.cell? ⟨w.heap.size, 9, none⟩ = some (.int .i64 t.s.most))
        (first | exact ⟨x1, x9⟩ | exact ⟨(HB3.out.cell (by simp only; omega)).trans x1, (HB3.out.cell (by simp only; omega)).trans x9⟩)
        (first | (go_simp; go_invoke; go_simp; go_at_call 235; refine (HRb.out _).mono ?_; rintro e w3 ⟨rfl, hb3⟩; have HB3 := Lib.hid (show Below w2.heap.size w2 w3 from (Below.refl _ _).drew.trans (hb3.mono (Nat.le_refl _))))))
        | fail
      have HB3x := Lib.hid (HB2.out.trans (HB3.out.mono (by omega)))
      have HX3 := Lib.hid (HX2.out.below HB3.out (by omega))
      have hz3 := HB3.out.size
      clear x0 x1 x2 x3 x4 x5 x6 x7 x8 x9 x10 x11 x12 x13
      obtain ⟨x0, x1, x2, x3, x4, x5, x6, x7, x8, x9, x10, x11, x12, x13⟩ := HX3.out.cells
      go_wp2_with fail
      refine (HRb.out _).mono ?_
      rintro e w5 ⟨rfl, hb5⟩
      have hz5 := hb5.size
      go_wp2_with fail
      refine (HU.out _).mono ?_
      rintro e w6 ⟨rfl, hb6⟩
      have HB6 := Lib.hid (HB3x.out.trans ((hb5.trans (hb6.mono hz5)).mono (by omega)))
      have hz6 := hb6.size
      clear hb5 hb6
      go_wp2_with fail
      go_ret
      exact ⟨HB6.out.alloc (by omega) _, _, _, _, rfl, by omega, World.alloc_heap_new _ _, World.ownsRow_nil _ _ _ _, .inr (.inl ⟨rfl, rfl⟩)⟩
    · have hs : FT.fit t p = none := by rw [FT.fit_eq, if_neg (by omega), if_neg (fun h => h hk), if_neg (by omega), if_neg (fun h => hm h.2), if_neg (fun h => hu h.2), if_pos (by omega)]
      rw [hs, hk, hkk]
      rw [hkk] at HX1 HB1
      clear hs hk hkk
      go_enter Tryz.func44, Tryz.ntmps44
      go_wp2_with fail
      refine (HW.out _).mono ?_
      rintro e w2 ⟨hb2, hp2⟩
      rw [if_pos rfl] at hp2
      subst hp2
      have hz2 := hb2.size
      rw [World.size_alloc] at hz2
      have HB2 := Lib.hid (HB1.out.trans (hb2.mono (by simp)))
      have HX2 := Lib.hid (HX1.out.below hb2 (by simp))
      clear hb2 HW HB1 HX1
      obtain ⟨x0, x1, x2, x3, x4, x5, x6, x7, x8, x9, x10, x11, x12, x13⟩ := HX2.out.cells
      go_wp2_with fail
      first
        | (go_region_held3 (fun W => W.cell? ⟨w.heap.size, 1, none⟩ = some (.int .u8 5) ∧ W.cell? ⟨w.heap.size, 9, none⟩ = some (.int .i64 t.s.most))
        (first | exact ⟨x1, x9⟩ | exact ⟨(HB3.out.cell (by simp only; omega)).trans x1, (HB3.out.cell (by simp only; omega)).trans x9⟩)
        (first | (go_simp; go_invoke; go_simp; go_at_call 235; refine (HRb.out _).mono ?_; rintro e w3 ⟨rfl, hb3⟩; have HB3 := Lib.hid (show Below w2.heap.size w2 w3 from (Below.refl _ _).drew.trans (hb3.mono (Nat.le_refl _))))))
        | fail
      have HB3x := Lib.hid (HB2.out.trans (HB3.out.mono (by omega)))
      have HX3 := Lib.hid (HX2.out.below HB3.out (by omega))
      have hz3 := HB3.out.size
      clear x0 x1 x2 x3 x4 x5 x6 x7 x8 x9 x10 x11 x12 x13
      obtain ⟨x0, x1, x2, x3, x4, x5, x6, x7, x8, x9, x10, x11, x12, x13⟩ := HX3.out.cells
      go_wp2_with fail
      refine (HRb.out _).mono ?_
      rintro e w5 ⟨rfl, hb5⟩
      have hz5 := hb5.size
      go_wp2_with fail
      refine (HU.out _).mono ?_
      rintro e w6 ⟨rfl, hb6⟩
      have HB6 := Lib.hid (HB3x.out.trans ((hb5.trans (hb6.mono hz5)).mono (by omega)))
      have hz6 := hb6.size
      clear hb5 hb6
      go_wp2_with fail
      go_ret
      exact ⟨HB6.out, rfl⟩
end Go.Proofs.YtcjllhdbepchnaaGreatDoor

/-! fit.wrong: of a row of kind 6. -/
namespace Go.Proofs.YtcjllhdbepchnaaGreatDoor
open Go.RowKit Go.WideShapes
set_option linter.unusedVariables false
set_option maxRecDepth 100000 in
set_option maxHeartbeats 2000000 in
theorem wrong_row6 (t : FT) (p : PT) (a : Option Addr) (c : Nat) (w : World) (hk : p.kind = t.s.kind) (hkk : t.s.kind = 6) (hr : p.raw.size ≤ 1099511627776) (hms : t.s.most ≤ 9223372036854775807 ∧ -9223372036854775808 ≤ t.s.most) : Calls Tryz.prog 44 #[.agg #[.string t.s.name, .int .u8 t.s.kind, .bool t.s.down, .int .u8 t.s.nulls, .bool t.s.bnd, .bool t.s.lb, .string t.s.lm, .bool t.s.hb, .string t.s.hm, .int .i64 t.s.most, .int .i64 t.s.st, .bool t.s.sh, .bool t.s.ba, .slice a t.fields.length c], .iface 128 (.agg #[.int .u8 p.kind, .string p.raw])] w (WrongPost (FT.fit t p) w) := by
  have HW := Lib.hid (fun W => want_row 6 p.raw 6 (by omega) W)
  have HRb := Lib.hid (fun W => rowBytes_any 6 p.raw W)
  have HU := Lib.hid (fun W => check_any p.raw (by omega) W)
  have ha0 := rowNoNumber
  have ha1 := rowRaw
  have ha2 := rowNoList
  have HB1 := Lib.hid (below_a1 w (.cells #[.string t.s.name, .int .u8 t.s.kind, .bool t.s.down, .int .u8 t.s.nulls, .bool t.s.bnd, .bool t.s.lb, .string t.s.lm, .bool t.s.hb, .string t.s.hm, .int .i64 t.s.most, .int .i64 t.s.st, .bool t.s.sh, .bool t.s.ba, .slice a t.fields.length c] 57))
  have HX1 := Lib.hid (FBox.new w #[.string t.s.name, .int .u8 t.s.kind, .bool t.s.down, .int .u8 t.s.nulls, .bool t.s.bnd, .bool t.s.lb, .string t.s.lm, .bool t.s.hb, .string t.s.hm, .int .i64 t.s.most, .int .i64 t.s.st, .bool t.s.sh, .bool t.s.ba, .slice a t.fields.length c])
  by_cases hu : 0 ≤ checkV p.raw
  · have hs : FT.fit t p = some (125, checkV p.raw, [], 30) := by rw [FT.fit_eq, if_neg (by omega), if_neg (fun h => h hk), if_neg (by omega), if_neg (by omega), if_pos ⟨by omega, hu⟩]
    rw [hs, hk, hkk]
    rw [hkk] at HX1 HB1
    clear hs hk hkk
    go_enter Tryz.func44, Tryz.ntmps44
    go_wp2_with fail
    refine (HW.out _).mono ?_
    rintro e w2 ⟨hb2, hp2⟩
    rw [if_pos rfl] at hp2
    subst hp2
    have hz2 := hb2.size
    rw [World.size_alloc] at hz2
    have HB2 := Lib.hid (HB1.out.trans (hb2.mono (by simp)))
    have HX2 := Lib.hid (HX1.out.below hb2 (by simp))
    clear hb2 HW HB1 HX1
    obtain ⟨x0, x1, x2, x3, x4, x5, x6, x7, x8, x9, x10, x11, x12, x13⟩ := HX2.out.cells
    go_wp2_with fail
    go_quiet (fail)
    have HBd := Lib.hid (show Below w.heap.size w (w2.drewN nq) from HB2.out.trans ⟨rfl, rfl, rfl, Nat.le_refl _, fun _ _ => rfl⟩)
    have hzd : (w2.drewN nq).heap.size = w2.heap.size := rfl
    go_wp2_with fail
    refine (HRb.out _).mono ?_
    rintro e w5 ⟨rfl, hb5⟩
    have hz5 := hb5.size
    go_wp2_with fail
    refine (HU.out _).mono ?_
    rintro e w6 ⟨rfl, hb6⟩
    have HB6 := Lib.hid (HBd.out.trans ((hb5.trans (hb6.mono hz5)).mono (by omega)))
    have hz6 := hb6.size
    clear hb5 hb6
    go_wp2_with fail
    go_ret
    exact ⟨HB6.out.alloc (by omega) _, _, _, _, rfl, by omega, World.alloc_heap_new _ _, World.ownsRow_nil _ _ _ _, .inr (.inl ⟨rfl, rfl⟩)⟩
  · have hs : FT.fit t p = none := by rw [FT.fit_eq, if_neg (by omega), if_neg (fun h => h hk), if_neg (by omega), if_neg (by omega), if_neg (fun h => hu h.2), if_pos (by omega)]
    rw [hs, hk, hkk]
    rw [hkk] at HX1 HB1
    clear hs hk hkk
    go_enter Tryz.func44, Tryz.ntmps44
    go_wp2_with fail
    refine (HW.out _).mono ?_
    rintro e w2 ⟨hb2, hp2⟩
    rw [if_pos rfl] at hp2
    subst hp2
    have hz2 := hb2.size
    rw [World.size_alloc] at hz2
    have HB2 := Lib.hid (HB1.out.trans (hb2.mono (by simp)))
    have HX2 := Lib.hid (HX1.out.below hb2 (by simp))
    clear hb2 HW HB1 HX1
    obtain ⟨x0, x1, x2, x3, x4, x5, x6, x7, x8, x9, x10, x11, x12, x13⟩ := HX2.out.cells
    go_wp2_with fail
    go_quiet (fail)
    have HBd := Lib.hid (show Below w.heap.size w (w2.drewN nq) from HB2.out.trans ⟨rfl, rfl, rfl, Nat.le_refl _, fun _ _ => rfl⟩)
    have hzd : (w2.drewN nq).heap.size = w2.heap.size := rfl
    go_wp2_with fail
    refine (HRb.out _).mono ?_
    rintro e w5 ⟨rfl, hb5⟩
    have hz5 := hb5.size
    go_wp2_with fail
    refine (HU.out _).mono ?_
    rintro e w6 ⟨rfl, hb6⟩
    have HB6 := Lib.hid (HBd.out.trans ((hb5.trans (hb6.mono hz5)).mono (by omega)))
    have hz6 := hb6.size
    clear hb5 hb6
    go_wp2_with fail
    go_ret
    exact ⟨HB6.out, rfl⟩
end Go.Proofs.YtcjllhdbepchnaaGreatDoor

/-! Rows of one's own, boxes: words that the walks of fit share. -/
namespace Go.Proofs.YtcjllhdbepchnaaGreatDoor
open Go.RowKit Go.WideShapes
set_option linter.unusedVariables false
theorem own_slice {w : World} {b size n : Nat} {e : TypeId} {v : Value} {xs : List Value} (h : w.ownsRow b e size v n xs) : ∃ A n' c, v = .slice A n' c := by
  rcases h.2 with ⟨rfl, _⟩ | ⟨g, cap, cur, rfl, _⟩
  · exact ⟨_, _, _, rfl⟩
  · exact ⟨_, _, _, rfl⟩
theorem own_one (w : World) (x : Value) : (w.alloc (.cells #[x] 3)).ownsRow w.heap.size 3 1 (.slice (some ⟨w.heap.size, 0, none⟩) 1 1) 1 [x] :=
  ⟨rfl, .inr ⟨w.heap.size, 1, #[x], rfl, Nat.le_refl _, heap_alloc_new w _, Nat.le_refl _, by simp [maxLen], rfl, rfl⟩⟩
/-- A part's block. -/
def PcBox (w : World) (T : Nat) (cs : Array Value) : Prop := w.heap[T]? = some (.cells cs 30 (0, 0))
theorem PcBox.cells {w : World} {T : Nat} {x0 x1 x2 x3 x4 x5 : Value} (h : PcBox w T #[x0, x1, x2, x3, x4, x5]) : w.cell? ⟨T, 0, none⟩ = some x0 ∧ w.cell? ⟨T, 1, none⟩ = some x1 ∧ w.cell? ⟨T, 2, none⟩ = some x2 ∧ w.cell? ⟨T, 3, none⟩ = some x3 ∧ w.cell? ⟨T, 4, none⟩ = some x4 ∧ w.cell? ⟨T, 5, none⟩ = some x5 := by simp [World.cell?, show w.heap[T]? = _ from h]
/-- What is carried through the law: the boxes of what is handed in. -/
structure Car (w W : World) (T : Nat) (f p : Array Value) : Prop where
  b : Below w.heap.size w W
  z : T + 2 ≤ W.heap.size
  f : FBox W T f
  p : PcBox W (T + 1) p
theorem Car.step {w W W' : World} {T : Nat} {f p : Array Value} (h : Car w W T f p) (hT : w.heap.size ≤ T) (hb : Below W.heap.size W W') : Car w W' T f p :=
  ⟨h.b.trans (hb.mono (by have := h.z; omega)), by have := h.z; have := hb.size; omega, h.f.below hb (by have := h.z; omega), (hb.block _ (by have := h.z; omega)).trans h.p⟩
theorem pc_cells {W : World} {T : Nat} {x0 x1 x2 x3 x4 x5 : Value} (h : PcBox W T #[x0, x1, x2, x3, x4, x5]) : W.cell? ⟨T, 0, none⟩ = some x0 ∧ W.cell? ⟨T, 1, none⟩ = some x1 ∧ W.cell? ⟨T, 2, none⟩ = some x2 ∧ W.cell? ⟨T, 3, none⟩ = some x3 ∧ W.cell? ⟨T, 4, none⟩ = some x4 ∧ W.cell? ⟨T, 5, none⟩ = some x5 := by
  simp [World.cell?, show W.heap[T]? = _ from h]
/-- A verdict's block. -/
def VB3 (W : World) (b : Nat) (c a : Int) (v : Value) : Prop := W.heap[b]? = some (.cells #[.int .i64 c, .int .i64 a, v] 47 (0, 0))
theorem VB3.cells {W : World} {b : Nat} {c a : Int} {v : Value} (h : VB3 W b c a v) : W.cell? ⟨b, 0, none⟩ = some (.int .i64 c) ∧ W.cell? ⟨b, 1, none⟩ = some (.int .i64 a) ∧ W.cell? ⟨b, 2, none⟩ = some v := by simp [World.cell?, show W.heap[b]? = _ from h]
theorem VB3.step {W W' : World} {B b : Nat} {c a : Int} {v : Value} (h : VB3 W b c a v) (hb : Below B W W') (hB : b < B) : VB3 W' b c a v := (hb.block b hB).trans h
theorem PcBox.step {W W' : World} {B T : Nat} {cs : Array Value} (h : PcBox W T cs) (hb : Below B W W') (hB : T < B) : PcBox W' T cs := (hb.block T hB).trans h
theorem field0 {W : World} {g : Nat} {t : FT} {a : Option Addr} {c : Nat} (h : CellsAt W g 0 (fieldCells t a c)) : W.cell? ⟨g, 0, none⟩ = some (.string t.s.name) ∧ W.cell? ⟨g, 1, none⟩ = some (.int .u8 t.s.kind) ∧ W.cell? ⟨g, 2, none⟩ = some (.bool t.s.down) ∧ W.cell? ⟨g, 3, none⟩ = some (.int .u8 t.s.nulls) ∧ W.cell? ⟨g, 4, none⟩ = some (.bool t.s.bnd) ∧ W.cell? ⟨g, 5, none⟩ = some (.bool t.s.lb) ∧ W.cell? ⟨g, 6, none⟩ = some (.string t.s.lm) ∧ W.cell? ⟨g, 7, none⟩ = some (.bool t.s.hb) ∧ W.cell? ⟨g, 8, none⟩ = some (.string t.s.hm) ∧ W.cell? ⟨g, 9, none⟩ = some (.int .i64 t.s.most) ∧ W.cell? ⟨g, 10, none⟩ = some (.int .i64 t.s.st) ∧ W.cell? ⟨g, 11, none⟩ = some (.bool t.s.sh) ∧ W.cell? ⟨g, 12, none⟩ = some (.bool t.s.ba) ∧ W.cell? ⟨g, 13, none⟩ = some (.slice a t.fields.length c) :=
  ⟨h 0 _ rfl, h 1 _ rfl, h 2 _ rfl, h 3 _ rfl, h 4 _ rfl, h 5 _ rfl, h 6 _ rfl, h 7 _ rfl, h 8 _ rfl, h 9 _ rfl, h 10 _ rfl, h 11 _ rfl, h 12 _ rfl, h 13 _ rfl⟩
/-- A part of nothing. -/
def zeroPart : PT := .mk 0 false false ⟨#[]⟩ ⟨#[]⟩ []
end Go.Proofs.YtcjllhdbepchnaaGreatDoor
