/-
  keep.KeptFields: fields that were lent are as they were.
-/
import Derived.Test.YtcjllhdbepchnaaGreatDoorMAN
import Derived.Deep.RegionHeld3
import Derived.IntWalk
/-! keep.KeptFields: fields that were lent are as they were. -/
namespace Go.Proofs.YtcjllhdbepchnaaGreatDoor
open Go.RowKit Go.WideShapes
set_option linter.unusedVariables false
/-- ref00.SameField of a field with itself, but for its fields (there are none). -/
theorem LentAt.get {w : World} {l : List FT} {g hi : Nat} (h : LentAt w l g hi) {i : Nat} (h2 : i < l.length) : ∃ gs hs, g < gs ∧ hs ≤ hi ∧ CellsAt w g (i * 14) (fieldCells l[i] (some ⟨gs, 0, none⟩) (l[i].fields.length + 2)) ∧ LentAt w l[i].fields gs hs := by
  cases h with
  | mk hs gs blk hl m1 m2 h0 h1 it sub =>
    have hm := hs_mono (n := l.length) (fun i hi => ⟨(it i hi).1, (it i hi).2.1⟩)
    have h3 := hm i (by omega) 0 (by omega)
    have h4 := (it i h2).1
    have h5 := hm l.length (Nat.le_refl _) (i + 1) (by omega)
    exact ⟨gs i, hs (i + 1), by omega, by omega, (it i h2).2.2.2, sub i h2⟩
theorem LentAt.marks {w : World} {l : List FT} {g hi : Nat} (h : LentAt w l g hi) {m : Nat} (h1 : l.length ≤ m) (h2 : m < l.length + 2) : CellsAt w g (m * 14) markF := by
  cases h with
  | mk hs gs blk hl m1 m2 h0 h1' it sub =>
    by_cases e : m = l.length
    · subst e; exact m1
    · rw [show m = l.length + 1 by omega]; exact m2
theorem LentAt.len {w : World} {l : List FT} {g hi : Nat} (h : LentAt w l g hi) : l.length + 2 ≤ 140737488351232 := by cases h; assumption
set_option maxRecDepth 100000 in
set_option maxHeartbeats 1000000 in
theorem sameFields_nil (w : World) : Calls Tryz.prog 57 #[.slice none 0 0, .slice none 0 0] w (Ret (.bool true) w) := by
  have HB := Lib.hid (Below.refl w.heap.size w)
  go_enter Tryz.func57, Tryz.ntmps57
  go_wp2_with fail
  go_rounds 1
  all_goals go_ret
  all_goals exact ⟨rfl, HB.out⟩
set_option maxRecDepth 100000 in
set_option maxHeartbeats 2000000 in
theorem sameField_bare (t : FT) (w : World) : Calls Tryz.prog 45 #[.agg #[.string t.s.name, .int .u8 t.s.kind, .bool t.s.down, .int .u8 t.s.nulls, .bool t.s.bnd, .bool t.s.lb, .string t.s.lm, .bool t.s.hb, .string t.s.hm, .int .i64 t.s.most, .int .i64 t.s.st, .bool t.s.sh, .bool t.s.ba, .slice none 0 0], .agg #[.string t.s.name, .int .u8 t.s.kind, .bool t.s.down, .int .u8 t.s.nulls, .bool t.s.bnd, .bool t.s.lb, .string t.s.lm, .bool t.s.hb, .string t.s.hm, .int .i64 t.s.most, .int .i64 t.s.st, .bool t.s.sh, .bool t.s.ba, .slice none 0 0]] w (Ret (.bool true) w) := by
  have HB := Lib.hid (Below.refl w.heap.size w)
  have HS := Lib.hid sameFields_nil
  go_enter Tryz.func45, Tryz.ntmps45
  go_wp2_with fail
  refine (HS.out _).mono ?_
  rintro e w2 ⟨rfl, hb2⟩
  have HB2 := Lib.hid hb2
  clear hb2 HS
  go_wp2_with fail
  go_ret
  exact ⟨rfl, (((HB.out.alloc (Nat.le_refl _) _).alloc (by simp) _).trans (HB2.out.mono (by simp; omega)))⟩
def KeptFAny (l : List FT) : Prop := ∀ (g hi : Nat) (a : Option Addr) (c : Nat) (w : World), LentAt w l g hi → hi ≤ w.heap.size → FieldsAt w (· < w.heap.size) l a → l.length ≤ 16777216 → Slim l →
  Calls Tryz.prog 15 #[.slice (some ⟨g, 0, none⟩) l.length (l.length + 2), .slice a l.length c] w (Ret (.bool true) w)
set_option maxRecDepth 100000 in
set_option maxHeartbeats 2000000 in
theorem keptF_step (l : List FT) (ih : ∀ x ∈ l, KeptFAny x.fields) : KeptFAny l := by
  intro g hi a c w hx hh hf hlen hsl
  obtain ⟨N, hN1, hN2⟩ : ∃ N, l.length + 2 ≤ N ∧ N ≤ l.length + 2 := ⟨_, Nat.le_refl _, Nat.le_refl _⟩
  have HX := Lib.hid hx
  have HL := Lib.hid hf
  have HSm := Lib.hid (fun x (hx : x ∈ l) => hsl.sub hx)
  have HIH := Lib.hid ih
  have HB0 := Lib.hid (Below.refl w.heap.size w)
  have hgh := hx.lt
  have hNN : l.length + 2 = N := by omega
  rw [hNN]
  clear hx hf ih hNN hsl
  go_enter Tryz.func15, Tryz.ntmps15
  go_wp2_with fail
  go_loopw [5] (fun i wr => ∃ (k : Nat), i = .int .i64 k ∧ k ≤ l.length ∧ Hid (Below w.heap.size w wr)) (fun i _ => l.length - (intOf i).toNat)
  case atStart => exact ⟨0, rfl, by omega, HB0⟩
  case round =>
    clear HB0
    obtain ⟨k, rfl, hk, HB⟩ := hrel
    have hwz := HB.out.size
    by_cases hlt : k < l.length
    · obtain ⟨b, o, aa, cc, rfl, hb, hca, hfa⟩ := (HL.out.below HB.out).get hlt
      obtain ⟨gs, hs, hgs, hhs, hxa, hxs⟩ := (HX.out.far HB.out hh).get hlt
      obtain ⟨_, _, ee, hok, hfl, hfc, hff⟩ := hfa.open
      obtain ⟨rfl, rfl⟩ := fieldCells_inj ee
      obtain ⟨k0, k1, k2, k3, k4, k5, k6, k7, k8, k9, k10, k11, k12, k13⟩ := hca.field
      obtain ⟨j0, j1, j2, j3, j4, j5, j6, j7, j8, j9, j10, j11, j12, j13⟩ := hxa.field
      have HFF := Lib.hid hff
      have HXS := Lib.hid hxs
      clear hff hfa hca ee hok hxa hxs
      have q := fun o => World.cell?_alloc_lt wr (.cells #[.string l[k].s.name, .int .u8 l[k].s.kind, .bool l[k].s.down, .int .u8 l[k].s.nulls, .bool l[k].s.bnd, .bool l[k].s.lb, .string l[k].s.lm, .bool l[k].s.hb, .string l[k].s.hm, .int .i64 l[k].s.most, .int .i64 l[k].s.st, .bool l[k].s.sh, .bool l[k].s.ba, .slice (some ⟨gs, 0, none⟩) l[k].fields.length (l[k].fields.length + 2)] 57) ⟨b, o, none⟩ (by simp only; omega)
      have l0 := (q _).trans k0
      have l1 := (q _).trans k1
      have l2 := (q _).trans k2
      have l3 := (q _).trans k3
      have l4 := (q _).trans k4
      have l5 := (q _).trans k5
      have l6 := (q _).trans k6
      have l7 := (q _).trans k7
      have l8 := (q _).trans k8
      have l9 := (q _).trans k9
      have l10 := (q _).trans k10
      have l11 := (q _).trans k11
      have l12 := (q _).trans k12
      have l13 := (q _).trans k13
      clear q
      go_wp2_with fail
      obtain ⟨W1, hW1⟩ : ∃ W1, W1 = (wr.alloc (.cells #[.string l[k].s.name, .int .u8 l[k].s.kind, .bool l[k].s.down, .int .u8 l[k].s.nulls, .bool l[k].s.bnd, .bool l[k].s.lb, .string l[k].s.lm, .bool l[k].s.hb, .string l[k].s.hm, .int .i64 l[k].s.most, .int .i64 l[k].s.st, .bool l[k].s.sh, .bool l[k].s.ba, .slice none 0 0] 57)).alloc (.cells #[.string l[k].s.name, .int .u8 l[k].s.kind, .bool l[k].s.down, .int .u8 l[k].s.nulls, .bool l[k].s.bnd, .bool l[k].s.lb, .string l[k].s.lm, .bool l[k].s.hb, .string l[k].s.hm, .int .i64 l[k].s.most, .int .i64 l[k].s.st, .bool l[k].s.sh, .bool l[k].s.ba, .slice none 0 0] 57) := ⟨_, rfl⟩
      rw [← hW1]
      have hx1 : FBox W1 wr.heap.size #[.string l[k].s.name, .int .u8 l[k].s.kind, .bool l[k].s.down, .int .u8 l[k].s.nulls, .bool l[k].s.bnd, .bool l[k].s.lb, .string l[k].s.lm, .bool l[k].s.hb, .string l[k].s.hm, .int .i64 l[k].s.most, .int .i64 l[k].s.st, .bool l[k].s.sh, .bool l[k].s.ba, .slice none 0 0] := by rw [hW1]; exact (FBox.new wr _).below (below_a1 _ _) (by simp)
      have hy1 : FBox W1 (wr.heap.size + 1) #[.string l[k].s.name, .int .u8 l[k].s.kind, .bool l[k].s.down, .int .u8 l[k].s.nulls, .bool l[k].s.bnd, .bool l[k].s.lb, .string l[k].s.lm, .bool l[k].s.hb, .string l[k].s.hm, .int .i64 l[k].s.most, .int .i64 l[k].s.st, .bool l[k].s.sh, .bool l[k].s.ba, .slice none 0 0] := by
        rw [hW1]
        have h1 := FBox.new (wr.alloc (.cells #[.string l[k].s.name, .int .u8 l[k].s.kind, .bool l[k].s.down, .int .u8 l[k].s.nulls, .bool l[k].s.bnd, .bool l[k].s.lb, .string l[k].s.lm, .bool l[k].s.hb, .string l[k].s.hm, .int .i64 l[k].s.most, .int .i64 l[k].s.st, .bool l[k].s.sh, .bool l[k].s.ba, .slice none 0 0] 57)) #[.string l[k].s.name, .int .u8 l[k].s.kind, .bool l[k].s.down, .int .u8 l[k].s.nulls, .bool l[k].s.bnd, .bool l[k].s.lb, .string l[k].s.lm, .bool l[k].s.hb, .string l[k].s.hm, .int .i64 l[k].s.most, .int .i64 l[k].s.st, .bool l[k].s.sh, .bool l[k].s.ba, .slice none 0 0]
        rw [World.size_alloc] at h1
        exact h1
      have hb1 : Below wr.heap.size wr W1 := by rw [hW1]; exact ((Below.refl _ _).alloc (Nat.le_refl _) _).alloc (by simp) _
      have hz1 : W1.heap.size = wr.heap.size + 2 := by rw [hW1]; simp
      have a13 := (hb1.cell (p := ⟨g, k * 14 + 13, none⟩) (by simp only; omega)).trans j13
      have b13 := (hb1.cell (p := ⟨b, o + k * 14 + 13, none⟩) (by simp only; omega)).trans k13
      obtain ⟨x0, x1, x2, x3, x4, x5, x6, x7, x8, x9, x10, x11, x12, x13⟩ := hx1.cells
      obtain ⟨y0, y1, y2, y3, y4, y5, y6, y7, y8, y9, y10, y11, y12, y13⟩ := hy1.cells
      have HSF := Lib.hid (sameField_bare l[k])
      have HB1 := Lib.hid hb1
      have hkl0 : (0 : Int) ≤ (k : Int) := by omega
      have hkl1 : (k : Int) < (l.length : Int) := by omega
      clear hW1 hx1 hy1 hb1 k0 j0 l0 k1 j1 l1 k2 j2 l2 k3 j3 l3 k4 j4 l4 k5 j5 l5 k6 j6 l6 k7 j7 l7 k8 j8 l8 k9 j9 l9 k10 j10 l10 k11 j11 l11 k12 j12 l12 k13 j13 l13
      go_region_held3 (fun W => W.cell? ⟨wr.heap.size, 0, none⟩ = some (.string l[k].s.name) ∧ W.cell? ⟨wr.heap.size, 1, none⟩ = some (.int .u8 l[k].s.kind) ∧ W.cell? ⟨wr.heap.size, 2, none⟩ = some (.bool l[k].s.down) ∧ W.cell? ⟨wr.heap.size, 3, none⟩ = some (.int .u8 l[k].s.nulls) ∧ W.cell? ⟨wr.heap.size, 4, none⟩ = some (.bool l[k].s.bnd) ∧ W.cell? ⟨wr.heap.size, 5, none⟩ = some (.bool l[k].s.lb) ∧ W.cell? ⟨wr.heap.size, 6, none⟩ = some (.string l[k].s.lm) ∧ W.cell? ⟨wr.heap.size, 7, none⟩ = some (.bool l[k].s.hb) ∧ W.cell? ⟨wr.heap.size, 8, none⟩ = some (.string l[k].s.hm) ∧ W.cell? ⟨wr.heap.size, 9, none⟩ = some (.int .i64 l[k].s.most) ∧ W.cell? ⟨wr.heap.size, 10, none⟩ = some (.int .i64 l[k].s.st) ∧ W.cell? ⟨wr.heap.size, 11, none⟩ = some (.bool l[k].s.sh) ∧ W.cell? ⟨wr.heap.size, 12, none⟩ = some (.bool l[k].s.ba) ∧ W.cell? ⟨wr.heap.size, 13, none⟩ = some (.slice none 0 0) ∧ W.cell? ⟨wr.heap.size + 1, 0, none⟩ = some (.string l[k].s.name) ∧ W.cell? ⟨wr.heap.size + 1, 1, none⟩ = some (.int .u8 l[k].s.kind) ∧ W.cell? ⟨wr.heap.size + 1, 2, none⟩ = some (.bool l[k].s.down) ∧ W.cell? ⟨wr.heap.size + 1, 3, none⟩ = some (.int .u8 l[k].s.nulls) ∧ W.cell? ⟨wr.heap.size + 1, 4, none⟩ = some (.bool l[k].s.bnd) ∧ W.cell? ⟨wr.heap.size + 1, 5, none⟩ = some (.bool l[k].s.lb) ∧ W.cell? ⟨wr.heap.size + 1, 6, none⟩ = some (.string l[k].s.lm) ∧ W.cell? ⟨wr.heap.size + 1, 7, none⟩ = some (.bool l[k].s.hb) ∧ W.cell? ⟨wr.heap.size + 1, 8, none⟩ = some (.string l[k].s.hm) ∧ W.cell? ⟨wr.heap.size + 1, 9, none⟩ = some (.int .i64 l[k].s.most) ∧ W.cell? ⟨wr.heap.size + 1, 10, none⟩ = some (.int .i64 l[k].s.st) ∧ W.cell? ⟨wr.heap.size + 1, 11, none⟩ = some (.bool l[k].s.sh) ∧ W.cell? ⟨wr.heap.size + 1, 12, none⟩ = some (.bool l[k].s.ba) ∧ W.cell? ⟨wr.heap.size + 1, 13, none⟩ = some (.slice none 0 0) ∧ W.cell? ⟨g, k * 14 + 13, none⟩ = some (.slice (some ⟨gs, 0, none⟩) l[k].fields.length (l[k].fields.length + 2)) ∧ W.cell? ⟨b, o + k * 14 + 13, none⟩ = some (.slice aa l[k].fields.length cc))
        (first | exact ⟨x0, x1, x2, x3, x4, x5, x6, x7, x8, x9, x10, x11, x12, x13, y0, y1, y2, y3, y4, y5, y6, y7, y8, y9, y10, y11, y12, y13, a13, b13⟩ | exact ⟨(hb2.cell (by simp only [World.size_drew]; omega)).trans x0, (hb2.cell (by simp only [World.size_drew]; omega)).trans x1, (hb2.cell (by simp only [World.size_drew]; omega)).trans x2, (hb2.cell (by simp only [World.size_drew]; omega)).trans x3, (hb2.cell (by simp only [World.size_drew]; omega)).trans x4, (hb2.cell (by simp only [World.size_drew]; omega)).trans x5, (hb2.cell (by simp only [World.size_drew]; omega)).trans x6, (hb2.cell (by simp only [World.size_drew]; omega)).trans x7, (hb2.cell (by simp only [World.size_drew]; omega)).trans x8, (hb2.cell (by simp only [World.size_drew]; omega)).trans x9, (hb2.cell (by simp only [World.size_drew]; omega)).trans x10, (hb2.cell (by simp only [World.size_drew]; omega)).trans x11, (hb2.cell (by simp only [World.size_drew]; omega)).trans x12, (hb2.cell (by simp only [World.size_drew]; omega)).trans x13, (hb2.cell (by simp only [World.size_drew]; omega)).trans y0, (hb2.cell (by simp only [World.size_drew]; omega)).trans y1, (hb2.cell (by simp only [World.size_drew]; omega)).trans y2, (hb2.cell (by simp only [World.size_drew]; omega)).trans y3, (hb2.cell (by simp only [World.size_drew]; omega)).trans y4, (hb2.cell (by simp only [World.size_drew]; omega)).trans y5, (hb2.cell (by simp only [World.size_drew]; omega)).trans y6, (hb2.cell (by simp only [World.size_drew]; omega)).trans y7, (hb2.cell (by simp only [World.size_drew]; omega)).trans y8, (hb2.cell (by simp only [World.size_drew]; omega)).trans y9, (hb2.cell (by simp only [World.size_drew]; omega)).trans y10, (hb2.cell (by simp only [World.size_drew]; omega)).trans y11, (hb2.cell (by simp only [World.size_drew]; omega)).trans y12, (hb2.cell (by simp only [World.size_drew]; omega)).trans y13, (hb2.cell (by simp only [World.size_drew]; omega)).trans a13, (hb2.cell (by simp only [World.size_drew]; omega)).trans b13⟩ | exact ⟨(hb3.cell (by simp only; omega)).trans ((HBq.out.cell (by simp only [World.size_drew]; omega)).trans x0), (hb3.cell (by simp only; omega)).trans ((HBq.out.cell (by simp only [World.size_drew]; omega)).trans x1), (hb3.cell (by simp only; omega)).trans ((HBq.out.cell (by simp only [World.size_drew]; omega)).trans x2), (hb3.cell (by simp only; omega)).trans ((HBq.out.cell (by simp only [World.size_drew]; omega)).trans x3), (hb3.cell (by simp only; omega)).trans ((HBq.out.cell (by simp only [World.size_drew]; omega)).trans x4), (hb3.cell (by simp only; omega)).trans ((HBq.out.cell (by simp only [World.size_drew]; omega)).trans x5), (hb3.cell (by simp only; omega)).trans ((HBq.out.cell (by simp only [World.size_drew]; omega)).trans x6), (hb3.cell (by simp only; omega)).trans ((HBq.out.cell (by simp only [World.size_drew]; omega)).trans x7), (hb3.cell (by simp only; omega)).trans ((HBq.out.cell (by simp only [World.size_drew]; omega)).trans x8), (hb3.cell (by simp only; omega)).trans ((HBq.out.cell (by simp only [World.size_drew]; omega)).trans x9), (hb3.cell (by simp only; omega)).trans ((HBq.out.cell (by simp only [World.size_drew]; omega)).trans x10), (hb3.cell (by simp only; omega)).trans ((HBq.out.cell (by simp only [World.size_drew]; omega)).trans x11), (hb3.cell (by simp only; omega)).trans ((HBq.out.cell (by simp only [World.size_drew]; omega)).trans x12), (hb3.cell (by simp only; omega)).trans ((HBq.out.cell (by simp only [World.size_drew]; omega)).trans x13), (hb3.cell (by simp only; omega)).trans ((HBq.out.cell (by simp only [World.size_drew]; omega)).trans y0), (hb3.cell (by simp only; omega)).trans ((HBq.out.cell (by simp only [World.size_drew]; omega)).trans y1), (hb3.cell (by simp only; omega)).trans ((HBq.out.cell (by simp only [World.size_drew]; omega)).trans y2), (hb3.cell (by simp only; omega)).trans ((HBq.out.cell (by simp only [World.size_drew]; omega)).trans y3), (hb3.cell (by simp only; omega)).trans ((HBq.out.cell (by simp only [World.size_drew]; omega)).trans y4), (hb3.cell (by simp only; omega)).trans ((HBq.out.cell (by simp only [World.size_drew]; omega)).trans y5), (hb3.cell (by simp only; omega)).trans ((HBq.out.cell (by simp only [World.size_drew]; omega)).trans y6), (hb3.cell (by simp only; omega)).trans ((HBq.out.cell (by simp only [World.size_drew]; omega)).trans y7), (hb3.cell (by simp only; omega)).trans ((HBq.out.cell (by simp only [World.size_drew]; omega)).trans y8), (hb3.cell (by simp only; omega)).trans ((HBq.out.cell (by simp only [World.size_drew]; omega)).trans y9), (hb3.cell (by simp only; omega)).trans ((HBq.out.cell (by simp only [World.size_drew]; omega)).trans y10), (hb3.cell (by simp only; omega)).trans ((HBq.out.cell (by simp only [World.size_drew]; omega)).trans y11), (hb3.cell (by simp only; omega)).trans ((HBq.out.cell (by simp only [World.size_drew]; omega)).trans y12), (hb3.cell (by simp only; omega)).trans ((HBq.out.cell (by simp only [World.size_drew]; omega)).trans y13), (hb3.cell (by simp only; omega)).trans ((HBq.out.cell (by simp only [World.size_drew]; omega)).trans a13), (hb3.cell (by simp only; omega)).trans ((HBq.out.cell (by simp only [World.size_drew]; omega)).trans b13)⟩)
        (first
          | (go_at_call 45; refine (HSF.out _).mono ?_; rintro e w2 ⟨rfl, hb2⟩; have HBq := Lib.hid hb2; have HB2 := Lib.hid (HB1.out.drew.trans (hb2.mono (by simp only [World.size_drew]; omega))); have hz2 := hb2.size; simp only [World.size_drew] at hz2)
          | (go_at_call 15; refine (HIH.out l[k] (List.getElem_mem hlt) gs hs aa cc _ (HXS.out.far HB2.out (by omega)) (by omega) ((HFF.out.wide (by omega)).below HB2.out |>.wide (by omega)) ((HSm.out _ (List.getElem_mem hlt)).len) (HSm.out _ (List.getElem_mem hlt))).mono ?_; rintro e w3 ⟨rfl, hb3⟩; have HB3 := Lib.hid (HB2.out.trans (hb3.mono (by omega)))))
      clear x0 x1 x2 x3 x4 x5 x6 x7 x8 x9 x10 x11 x12 x13 y0 y1 y2 y3 y4 y5 y6 y7 y8 y9 y10 y11 y12 y13 a13 b13
      go_wp2_with fail
      go_roundw
      case rel => exact ⟨k + 1, by go_num, by omega, Lib.hid (HB.out.trans (HB3.out.mono (by omega)))⟩
      case measure => simp [intOf]; omega
    · obtain rfl : k = l.length := by omega
      go_wp2_with fail
      go_loopw [9] (fun i wr => ∃ (m : Nat), i = .int .i64 m ∧ l.length ≤ m ∧ m ≤ N ∧ Hid (Below w.heap.size w wr)) (fun i _ => N - (intOf i).toNat)
      case atStart => exact ⟨l.length, rfl, by omega, by omega, HB⟩
      case round =>
        clear HB hwz HL
        obtain ⟨m, rfl, hm1, hm2, HB⟩ := hrel
        by_cases hj2 : m < N
        · have hmm := (HX.out.far HB.out hh).marks hm1 (by omega)
          have m0 : wr.cell? ⟨g, m * 14, none⟩ = some (.string ⟨#[109, 97, 114, 107]⟩) := hmm 0 _ rfl
          have m1 := hmm 1 _ rfl
          clear hmm
          go_wp2_with fail
          go_roundw
          case rel => exact ⟨m + 1, by go_num, by omega, by omega, HB⟩
          case measure => simp [intOf]; omega
        · go_wp2_with fail
          go_ret
          exact ⟨rfl, HB.out⟩
theorem keptF_any (l : List FT) : KeptFAny l := keptF_step l (fun x hx => FT.allL (M := fun t => KeptFAny t.fields) (fun t h => keptF_step t.fields h) l x hx)
end Go.Proofs.YtcjllhdbepchnaaGreatDoor

/-! law11's weight and Vast: what is not vast has no list that is too long. -/
namespace Go.Proofs.YtcjllhdbepchnaaGreatDoor
open Go.RowKit Go.WideShapes
set_option linter.unusedVariables false
/-- What a weight tells. -/
def WgtPost (l : List FT) (deep : Nat) (w : World) (e : Ending) (w' : World) : Prop := ∃ n : Int, e = .returned (.int .i64 n) ∧ Below w.heap.size w w' ∧ 0 ≤ n ∧ n ≤ 67108865 + (1001 - (deep : Int)) * 1125899906842624 ∧ (n ≤ 67108864 → Slim l)
def WgtAny (l : List FT) : Prop := ∀ (a : Option Addr) (c deep : Nat) (w : World), deep ≤ 1001 → l.length ≤ c → c ≤ 140737488351232 → FieldsAt w (· < w.heap.size) l a → Calls Tryz.prog 58 #[.slice a l.length c, .int .i64 deep] w (WgtPost l deep w)
set_option maxRecDepth 100000 in
set_option maxHeartbeats 2000000 in
theorem wgt_step (l : List FT) (ih : ∀ x ∈ l, WgtAny x.fields) : WgtAny l := by
  intro a c deep w hd hlc hc hf
  have HL := Lib.hid hf
  have HIH := Lib.hid ih
  have HB0 := Lib.hid (Below.refl w.heap.size w)
  clear hf ih
  by_cases hdd : 1000 < deep
  · go_enter Tryz.func58, Tryz.ntmps58
    go_wp2_with fail
    go_ret
    exact ⟨_, rfl, HB0.out, by omega, by omega, fun h => absurd h (by omega)⟩
  have HS0 := Lib.hid (show ∀ i (hi : i < l.length), i < 0 → Slim l[i].fields from fun i _ h => absurd h (Nat.not_lt_zero i))
  go_enter Tryz.func58, Tryz.ntmps58
  go_wp2_with fail
  go_loopw [5, 6] (fun n i wr => ∃ (k : Nat) (n' : Int), n = .int .i64 n' ∧ i = .int .i64 k ∧ k ≤ l.length ∧ 100 * (k : Int) ≤ n' ∧ n' ≤ 67108865 + (1001 - (deep : Int)) * 1125899906842624 ∧ Hid (n' ≤ 67108864 → ∀ i (hi : i < l.length), i < k → Slim l[i].fields) ∧ Hid (Below w.heap.size w wr)) (fun _ i _ => l.length - (intOf i).toNat)
  case atStart => exact ⟨0, 0, rfl, rfl, by omega, by omega, by omega, Lib.hid (fun _ => HS0.out), HB0⟩
  case round =>
    clear HB0 HS0
    obtain ⟨k, n', rfl, rfl, hk, hn1, hn2, HS, HB⟩ := hrel
    have hwz := HB.out.size
    by_cases hlt : k < l.length
    · by_cases hn : n' ≤ 67108864
      · obtain ⟨b, o, aa, cc, rfl, hb, hca, hfa⟩ := (HL.out.below HB.out).get hlt
        obtain ⟨k0, k1, k2, k3, k4, k5, k6, k7, k8, k9, k10, k11, k12, k13⟩ := hca.field
        obtain ⟨_, _, ee, hok, hfl, hfc, hff⟩ := hfa.open
        obtain ⟨rfl, rfl⟩ := fieldCells_inj ee
        have hs0 := hok.1
        have hs1 := hok.2.2.2.1
        have hs2 := hok.2.2.2.2.1
        have HFF := Lib.hid hff
        have HSk := Lib.hid (HS.out hn)
        clear hff hfa hca ee hok k1 k2 k3 k4 k5 k7 k9 k10 k11 k12 HS
        have hkl0 : (0 : Int) ≤ (k : Int) := by omega
        have hkl1 : (k : Int) < (l.length : Int) := by omega
        go_wp2_with fail
        have HW0 := Lib.hid (IntWalk.i64_in (n' + 100) (by omega))
        have HW1 := Lib.hid (IntWalk.i64_in (n' + 100 + (l[k].s.name.size : Int)) (by omega))
        have HW2 := Lib.hid (IntWalk.i64_in (n' + 100 + (l[k].s.name.size : Int) + (l[k].s.lm.size : Int)) (by omega))
        have HW3 := Lib.hid (IntWalk.i64_in (n' + 100 + (l[k].s.name.size : Int) + (l[k].s.lm.size : Int) + (l[k].s.hm.size : Int)) (by omega))
        have HW4 := Lib.hid (IntWalk.i64_in ((deep : Int) + 1) (by omega))
        have HW5 := Lib.hid (fun (n2 : Int) (h0 : 0 ≤ n2) (h1 : n2 ≤ 67108865 + (1001 - ((deep + 1 : Nat) : Int)) * 1125899906842624) => IntWalk.i64_in (n' + 100 + (l[k].s.name.size : Int) + (l[k].s.lm.size : Int) + (l[k].s.hm.size : Int) + n2) (by push_cast at h1; omega))
        have HN5 := Lib.hid (fun (n2 : Int) (h0 : 0 ≤ n2) (h1 : n2 ≤ 67108865 + (1001 - ((deep + 1 : Nat) : Int)) * 1125899906842624) => show 100 * ((k + 1 : Nat) : Int) ≤ n' + 100 + (l[k].s.name.size : Int) + (l[k].s.lm.size : Int) + (l[k].s.hm.size : Int) + n2 ∧ n' + 100 + (l[k].s.name.size : Int) + (l[k].s.lm.size : Int) + (l[k].s.hm.size : Int) + n2 ≤ 67108865 + (1001 - (deep : Int)) * 1125899906842624 ∧ (n' + 100 + (l[k].s.name.size : Int) + (l[k].s.lm.size : Int) + (l[k].s.hm.size : Int) + n2 ≤ 67108864 → n2 ≤ 67108864) by push_cast at h1; omega)
        have w0 := HW0.out
        have w1 := HW1.out
        have w2 := HW2.out
        have w3 := HW3.out
        have w4 := HW4.out
        go_region_held3 (fun W => W.cell? ⟨b, o + k * 14, none⟩ = some (.string l[k].s.name) ∧ W.cell? ⟨b, o + k * 14 + 6, none⟩ = some (.string l[k].s.lm) ∧ W.cell? ⟨b, o + k * 14 + 8, none⟩ = some (.string l[k].s.hm) ∧ W.cell? ⟨b, o + k * 14 + 13, none⟩ = some (.slice aa l[k].fields.length cc))
          (first | exact ⟨k0, k6, k8, k13⟩ | exact ⟨(hb2.cell (by simp only [World.size_drew]; omega)).trans k0, (hb2.cell (by simp only [World.size_drew]; omega)).trans k6, (hb2.cell (by simp only [World.size_drew]; omega)).trans k8, (hb2.cell (by simp only [World.size_drew]; omega)).trans k13⟩)
          (first | (go_at_call 58; refine (HIH.out l[k] (List.getElem_mem hlt) aa cc (deep + 1) wr.drew (by omega) hfl hfc ((HFF.out.wide (B' := wr.heap.size) hwz).below (Below.refl _ _).drew)).mono ?_; rintro e wz ⟨n2, rfl, hb2, hp0, hp1, hp2⟩; have w5 := HW5.out n2 hp0 hp1))
        clear w0 w1 w2 w3 w4 w5 k0 k6 k8 k13
        obtain ⟨q1, q2, q3⟩ := HN5.out n2 hp0 hp1
        go_wp2_with fail
        go_roundw
        case rel => exact ⟨k + 1, _, rfl, by go_num, by omega, q1, q2, Lib.hid (fun h i hi hik => by
          by_cases e : i = k
          · subst e; exact hp2 (q3 h)
          · exact HSk.out i hi (by omega)), Lib.hid (HB.out.trans ((Below.refl _ _).drew.trans (hb2.mono (by simp only [World.size_drew]; omega))))⟩
        case measure => simp [intOf]; omega
      · go_wp2_with fail
        go_ret
        exact ⟨_, rfl, HB.out, by omega, hn2, fun h => absurd h (by omega)⟩
    · obtain rfl : k = l.length := by omega
      go_wp2_with fail
      all_goals (
        go_ret
        exact ⟨_, rfl, HB.out, by omega, hn2, fun h => .mk (by omega) (fun x hx => by obtain ⟨i, hi, rfl⟩ := List.getElem_of_mem hx; exact HS.out h i hi hi)⟩)
theorem wgt_any (l : List FT) : WgtAny l := wgt_step l (fun x hx => FT.allL (M := fun t => WgtAny t.fields) (fun t h => wgt_step t.fields h) l x hx)
/-- What is not vast is slim. -/
def VastPost (l : List FT) (w : World) (e : Ending) (w' : World) : Prop := ∃ v : Bool, e = .returned (.bool v) ∧ Below w.heap.size w w' ∧ (v = false → Slim l)
set_option maxRecDepth 100000 in
set_option maxHeartbeats 1000000 in
theorem fvast_any (l : List FT) (a : Option Addr) (c : Nat) (w : World) (hlc : l.length ≤ c) (hc : c ≤ 140737488351232) (hf : FieldsAt w (· < w.heap.size) l a) : Calls Tryz.prog 29 #[.slice a l.length c] w (VastPost l w) := by
  have HW := Lib.hid (wgt_any l a c 0 w (by omega) hlc hc hf)
  clear hf
  go_enter Tryz.func29, Tryz.ntmps29
  go_wp2_with fail
  refine HW.out.mono ?_
  rintro e w2 ⟨n, rfl, hb2, h0, h1, h2⟩
  have HB2 := Lib.hid hb2
  have H2 := Lib.hid h2
  clear hb2 h2 HW
  go_wp2_with fail
  go_ret
  exact ⟨decide (67108864 < n), rfl, HB2.out, fun h => H2.out (by simpa using h)⟩
end Go.Proofs.YtcjllhdbepchnaaGreatDoor
