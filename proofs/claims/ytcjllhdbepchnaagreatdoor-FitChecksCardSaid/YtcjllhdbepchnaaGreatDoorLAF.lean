/-
  ref12.inner: what is wrong with a value of a field.
-/
import Derived.Test.YtcjllhdbepchnaaGreatDoorLZ
import Derived.Test.YtcjllhdbepchnaaGreatDoorLAE
import Derived.Test.YtcjllhdbepchnaaGreatDoorLR
namespace Go.Proofs.YtcjllhdbepchnaaGreatDoor
open Go.RowKit Go.WideShapes
set_option linter.unusedVariables false
/-- What it tells. -/
def InnerPost (r : FR) (w : World) (e : Ending) (w' : World) : Prop := Below w.heap.size w w' ∧ match r with
  | none => e = .returned (.tuple #[.agg #[.int .i64 0, .int .i64 0, .slice none 0 0], .int .i64 0])
  | some (c, a, p, y) => ∃ v, e = .returned (.tuple #[.agg #[.int .i64 c, .int .i64 a, v], .int .i64 y]) ∧ w'.ownsRow w.heap.size 3 1 v p.length (pathVals p)
def InnerAny (t : FT) : Prop := ∀ (p : PT) (a : Option Addr) (c : Nat) (a' : Option Addr) (c' : Nat) (w : World), t.deep ≤ 1000 → RawOk p → t.s.ok → t.fields.length ≤ c → c ≤ 140737488351232 → FieldsAt w (· < w.heap.size) t.fields a → PartAt w (· < w.heap.size) p (partCells p a' c') →
  Calls Tryz.prog 47 #[.agg #[.string t.s.name, .int .u8 t.s.kind, .bool t.s.down, .int .u8 t.s.nulls, .bool t.s.bnd, .bool t.s.lb, .string t.s.lm, .bool t.s.hb, .string t.s.hm, .int .i64 t.s.most, .int .i64 t.s.st, .bool t.s.sh, .bool t.s.ba, .slice a t.fields.length c], .agg #[.int .u8 p.kind, .bool p.yes, .bool p.bel, .string p.mag, .string p.raw, .slice a' p.items.length c']] w (InnerPost (FT.fit t p) w)
set_option maxRecDepth 100000 in
set_option maxHeartbeats 2000000 in
theorem inner_null (t : FT) (p : PT) (a : Option Addr) (c : Nat) (a' : Option Addr) (c' : Nat) (w : World) (hk : p.kind = 0) :
  Calls Tryz.prog 47 #[.agg #[.string t.s.name, .int .u8 t.s.kind, .bool t.s.down, .int .u8 t.s.nulls, .bool t.s.bnd, .bool t.s.lb, .string t.s.lm, .bool t.s.hb, .string t.s.hm, .int .i64 t.s.most, .int .i64 t.s.st, .bool t.s.sh, .bool t.s.ba, .slice a t.fields.length c], .agg #[.int .u8 p.kind, .bool p.yes, .bool p.bel, .string p.mag, .string p.raw, .slice a' p.items.length c']] w (InnerPost (FT.fit t p) w) := by
  have HB := Lib.hid (fun o o2 o3 => ((((Below.refl w.heap.size w).alloc (Nat.le_refl _) o).alloc (by simp : w.heap.size ≤ (w.alloc o).heap.size) o2).alloc (by simp; omega : w.heap.size ≤ ((w.alloc o).alloc o2).heap.size) o3))
  have e0 : ((p.kind : Int) == 0) = true := by rw [hk]; rfl
  by_cases hn : t.s.nulls = 0
  · have e1 : ((t.s.nulls : Int) == 0) = true := by rw [hn]; rfl
    have hs : FT.fit t p = some (121, 0, [], 0) := by rw [FT.fit_eq, if_pos hk, if_pos hn]
    rw [hs]
    clear hs hn hk
    go_enter Tryz.func47, Tryz.ntmps47
    go_wp2_with fail
    go_returns
    exact ⟨HB.out _ _ _, _, rfl, World.ownsRow_nil _ _ _ _⟩
  · have e1 : ((t.s.nulls : Int) == 0) = false := by rw [beq_eq_false_iff_ne]; omega
    have hs : FT.fit t p = none := by rw [FT.fit_eq, if_pos hk, if_neg hn]
    rw [hs]
    clear hs hn hk
    go_enter Tryz.func47, Tryz.ntmps47
    go_wp2_with fail
    go_returns
    exact ⟨HB.out _ _ _, rfl⟩
set_option maxRecDepth 100000 in
set_option maxHeartbeats 2000000 in
theorem inner_other (t : FT) (p : PT) (a : Option Addr) (c : Nat) (a' : Option Addr) (c' : Nat) (w : World) (hk0 : p.kind ≠ 0) (hk : p.kind ≠ t.s.kind) :
  Calls Tryz.prog 47 #[.agg #[.string t.s.name, .int .u8 t.s.kind, .bool t.s.down, .int .u8 t.s.nulls, .bool t.s.bnd, .bool t.s.lb, .string t.s.lm, .bool t.s.hb, .string t.s.hm, .int .i64 t.s.most, .int .i64 t.s.st, .bool t.s.sh, .bool t.s.ba, .slice a t.fields.length c], .agg #[.int .u8 p.kind, .bool p.yes, .bool p.bel, .string p.mag, .string p.raw, .slice a' p.items.length c']] w (InnerPost (FT.fit t p) w) := by
  have HB := Lib.hid (fun o o2 o3 => ((((Below.refl w.heap.size w).alloc (Nat.le_refl _) o).alloc (by simp : w.heap.size ≤ (w.alloc o).heap.size) o2).alloc (by simp; omega : w.heap.size ≤ ((w.alloc o).alloc o2).heap.size) o3))
  have e0 : ((p.kind : Int) == 0) = false := by rw [beq_eq_false_iff_ne]; omega
  have e1 : ((p.kind : Int) == (t.s.kind : Int)) = false := by rw [beq_eq_false_iff_ne]; omega
  have hs : FT.fit t p = some (120, 0, [], 4) := by rw [FT.fit_eq, if_neg hk0, if_pos hk]
  rw [hs]
  clear hs hk hk0
  go_enter Tryz.func47, Tryz.ntmps47
  go_wp2_with fail
  go_returns
  exact ⟨HB.out _ _ _, _, rfl, World.ownsRow_nil _ _ _ _⟩
set_option maxRecDepth 100000 in
set_option maxHeartbeats 2000000 in
theorem inner_plain (t : FT) (p : PT) (a : Option Addr) (c : Nat) (a' : Option Addr) (c' : Nat) (w : World) (hk0 : p.kind ≠ 0) (hk : p.kind = t.s.kind) (h2 : t.s.kind ≠ 2) (h3 : t.s.kind ≠ 3) (h5 : t.s.kind ≠ 5) (h6 : t.s.kind ≠ 6) (h7 : t.s.kind ≠ 7) :
  Calls Tryz.prog 47 #[.agg #[.string t.s.name, .int .u8 t.s.kind, .bool t.s.down, .int .u8 t.s.nulls, .bool t.s.bnd, .bool t.s.lb, .string t.s.lm, .bool t.s.hb, .string t.s.hm, .int .i64 t.s.most, .int .i64 t.s.st, .bool t.s.sh, .bool t.s.ba, .slice a t.fields.length c], .agg #[.int .u8 p.kind, .bool p.yes, .bool p.bel, .string p.mag, .string p.raw, .slice a' p.items.length c']] w (InnerPost (FT.fit t p) w) := by
  have HB := Lib.hid (fun o o2 o3 => ((((Below.refl w.heap.size w).alloc (Nat.le_refl _) o).alloc (by simp : w.heap.size ≤ (w.alloc o).heap.size) o2).alloc (by simp; omega : w.heap.size ≤ ((w.alloc o).alloc o2).heap.size) o3))
  have e0 : ((p.kind : Int) == 0) = false := by rw [beq_eq_false_iff_ne]; omega
  have e1 : ((p.kind : Int) == (t.s.kind : Int)) = true := by rw [hk]; simp
  have k2 : ((t.s.kind : Int) == 2) = false := by rw [beq_eq_false_iff_ne]; omega
  have k3 : ((t.s.kind : Int) == 3) = false := by rw [beq_eq_false_iff_ne]; omega
  have k5 : ((t.s.kind : Int) == 5) = false := by rw [beq_eq_false_iff_ne]; omega
  have k6 : ((t.s.kind : Int) == 6) = false := by rw [beq_eq_false_iff_ne]; omega
  have k7 : ((t.s.kind : Int) == 7) = false := by rw [beq_eq_false_iff_ne]; omega
  have hs : FT.fit t p = none := by rw [FT.fit_eq, if_neg hk0, if_neg (fun h => h hk), if_neg (fun h => h2 h.1), if_neg (fun h => h.1.elim h3 h5), if_neg (fun h => h.1.elim h5 h6), if_pos h7]
  rw [hs]
  clear hs hk hk0 h2 h3 h5 h6 h7
  go_enter Tryz.func47, Tryz.ntmps47
  go_wp2_with fail
  go_returns
  exact ⟨HB.out _ _ _, rfl⟩
set_option maxRecDepth 100000 in
set_option maxHeartbeats 2000000 in
theorem inner_3 (t : FT) (p : PT) (a : Option Addr) (c : Nat) (a' : Option Addr) (c' : Nat) (w : World) (hk0 : p.kind ≠ 0) (hk : p.kind = t.s.kind) (hkk : t.s.kind = 3) :
  Calls Tryz.prog 47 #[.agg #[.string t.s.name, .int .u8 t.s.kind, .bool t.s.down, .int .u8 t.s.nulls, .bool t.s.bnd, .bool t.s.lb, .string t.s.lm, .bool t.s.hb, .string t.s.hm, .int .i64 t.s.most, .int .i64 t.s.st, .bool t.s.sh, .bool t.s.ba, .slice a t.fields.length c], .agg #[.int .u8 p.kind, .bool p.yes, .bool p.bel, .string p.mag, .string p.raw, .slice a' p.items.length c']] w (InnerPost (FT.fit t p) w) := by
  have HB := Lib.hid (fun o o2 o3 => ((((Below.refl w.heap.size w).alloc (Nat.le_refl _) o).alloc (by simp : w.heap.size ≤ (w.alloc o).heap.size) o2).alloc (by simp; omega : w.heap.size ≤ ((w.alloc o).alloc o2).heap.size) o3))
  have e0 : ((p.kind : Int) == 0) = false := by rw [beq_eq_false_iff_ne]; omega
  have e1 : ((p.kind : Int) == (t.s.kind : Int)) = true := by rw [hk]; simp
  have k2 : ((t.s.kind : Int) == 2) = false := by rw [hkk]; rfl
  have k3 : ((t.s.kind : Int) == 3) = true := by rw [hkk]; rfl
  have k5 : ((t.s.kind : Int) == 5) = false := by rw [hkk]; rfl
  have k6 : ((t.s.kind : Int) == 6) = false := by rw [hkk]; rfl
  have k7 : ((t.s.kind : Int) == 7) = false := by rw [hkk]; rfl
  by_cases hm : t.s.most < p.raw.size
  · have hs : FT.fit t p = some (124, 0, [], 0) := by rw [FT.fit_eq, if_neg hk0, if_neg (fun h => h hk), if_neg (fun h => by omega), if_pos ⟨.inl hkk, hm⟩]
    rw [hs]
    clear hs hk hk0 hkk
    go_enter Tryz.func47, Tryz.ntmps47
    go_wp2_with fail
    go_returns
    exact ⟨HB.out _ _ _, _, rfl, World.ownsRow_nil _ _ _ _⟩
  · have hs : FT.fit t p = none := by rw [FT.fit_eq, if_neg hk0, if_neg (fun h => h hk), if_neg (fun h => by omega), if_neg (fun h => hm h.2), if_neg (fun h => by omega), if_pos (by omega)]
    rw [hs]
    clear hs hk hk0 hkk
    go_enter Tryz.func47, Tryz.ntmps47
    go_wp2_with fail
    go_returns
    exact ⟨HB.out _ _ _, rfl⟩
theorem inner_boxes (cs ps : Array Value) (w W3 w2 : World) (hW3 : W3 = ((w.alloc (.cells cs 57)).alloc (.cells ps 30)).alloc (.cells #[.int .i64 0, .int .i64 0, .slice none 0 0] 47)) (hb : Below W3.heap.size W3 w2) :
    FBox w2 w.heap.size cs ∧ PcBox w2 (w.heap.size + 1) ps ∧ WBox w2 (w.heap.size + 2) ∧ Below w.heap.size w w2 ∧ w.heap.size + 3 ≤ w2.heap.size := by
  have hz : W3.heap.size = w.heap.size + 3 := by rw [hW3]; simp
  have h0 : Below w.heap.size w W3 := by rw [hW3]; exact (((Below.refl w.heap.size w).alloc (Nat.le_refl _) _).alloc (by simp) _).alloc (by simp; omega) _
  have h1 : FBox W3 w.heap.size cs := by rw [hW3]; exact ((FBox.new w _).below (below_a1 _ _) (by simp)).below (below_a1 _ _) (by simp; omega)
  have h2 : PcBox W3 (w.heap.size + 1) ps := by
    rw [hW3]
    have h9 := World.alloc_heap_new (w.alloc (.cells cs 57)) (.cells ps 30)
    rw [World.size_alloc] at h9
    exact (Below.heap_alloc _ _ _ (by simp)).trans h9
  have h3 : WBox W3 (w.heap.size + 2) := by
    rw [hW3]
    have h9 := World.alloc_heap_new ((w.alloc (.cells cs 57)).alloc (.cells ps 30)) (.cells #[.int .i64 0, .int .i64 0, .slice none 0 0] 47)
    simp only [World.size_alloc] at h9
    exact h9
  exact ⟨(hb.block _ (by omega)).trans h1, (hb.block _ (by omega)).trans h2, (hb.block _ (by omega)).trans h3, h0.trans (hb.mono (by omega)), by have := hb.size; omega⟩
set_option maxRecDepth 100000 in
set_option maxHeartbeats 2000000 in
theorem inner_5 (t : FT) (p : PT) (a : Option Addr) (c : Nat) (a' : Option Addr) (c' : Nat) (w : World) (hk0 : p.kind ≠ 0) (hk : p.kind = t.s.kind) (hkk : t.s.kind = 5) (hr : p.raw.size < 9223372036854775800) :
  Calls Tryz.prog 47 #[.agg #[.string t.s.name, .int .u8 t.s.kind, .bool t.s.down, .int .u8 t.s.nulls, .bool t.s.bnd, .bool t.s.lb, .string t.s.lm, .bool t.s.hb, .string t.s.hm, .int .i64 t.s.most, .int .i64 t.s.st, .bool t.s.sh, .bool t.s.ba, .slice a t.fields.length c], .agg #[.int .u8 p.kind, .bool p.yes, .bool p.bel, .string p.mag, .string p.raw, .slice a' p.items.length c']] w (InnerPost (FT.fit t p) w) := by
  have HB := Lib.hid (fun o o2 o3 => ((((Below.refl w.heap.size w).alloc (Nat.le_refl _) o).alloc (by simp : w.heap.size ≤ (w.alloc o).heap.size) o2).alloc (by simp; omega : w.heap.size ≤ ((w.alloc o).alloc o2).heap.size) o3))
  have HC := Lib.hid (fun W => refcheck_any p.raw W hr)
  have e0 : ((p.kind : Int) == 0) = false := by rw [beq_eq_false_iff_ne]; omega
  have e1 : ((p.kind : Int) == (t.s.kind : Int)) = true := by rw [hk]; simp
  have k2 : ((t.s.kind : Int) == 2) = false := by rw [hkk]; rfl
  have k3 : ((t.s.kind : Int) == 3) = false := by rw [hkk]; rfl
  have k5 : ((t.s.kind : Int) == 5) = true := by rw [hkk]; rfl
  have k6 : ((t.s.kind : Int) == 6) = false := by rw [hkk]; rfl
  have k7 : ((t.s.kind : Int) == 7) = false := by rw [hkk]; rfl
  by_cases hm : t.s.most < p.raw.size
  · have hs : FT.fit t p = some (124, 0, [], 0) := by rw [FT.fit_eq, if_neg hk0, if_neg (fun h => h hk), if_neg (fun h => by omega), if_pos ⟨.inr hkk, hm⟩]
    rw [hs]
    clear hs hk hk0 hkk
    go_enter Tryz.func47, Tryz.ntmps47
    go_wp2_with fail
    go_returns
    exact ⟨HB.out _ _ _, _, rfl, World.ownsRow_nil _ _ _ _⟩
  by_cases hu : 0 ≤ checkV p.raw
  · have hs : FT.fit t p = some (125, checkV p.raw, [], 30) := by rw [FT.fit_eq, if_neg hk0, if_neg (fun h => h hk), if_neg (fun h => by omega), if_neg (fun h => hm h.2), if_pos ⟨by omega, hu⟩]
    rw [hs]
    clear hs hk hk0 hkk HB
    go_enter Tryz.func47, Tryz.ntmps47
    go_wp2_with fail
    obtain ⟨W3, hW3⟩ : ∃ W3, W3 = ((w.alloc (.cells #[.string t.s.name, .int .u8 t.s.kind, .bool t.s.down, .int .u8 t.s.nulls, .bool t.s.bnd, .bool t.s.lb, .string t.s.lm, .bool t.s.hb, .string t.s.hm, .int .i64 t.s.most, .int .i64 t.s.st, .bool t.s.sh, .bool t.s.ba, .slice a t.fields.length c] 57)).alloc (.cells #[.int .u8 p.kind, .bool p.yes, .bool p.bel, .string p.mag, .string p.raw, .slice a' p.items.length c'] 30)).alloc (.cells #[.int .i64 0, .int .i64 0, .slice none 0 0] 47) := ⟨_, rfl⟩
    rw [← hW3]
    refine (HC.out W3).mono ?_
    rintro e w2 ⟨rfl, q, hq⟩
    have hb2 : Below W3.heap.size W3 w2 := by rw [hq]; exact ⟨rfl, rfl, rfl, Nat.le_refl _, fun _ _ => rfl⟩
    clear hq
    obtain ⟨hx, hp, hww, hbw, hz2⟩ := inner_boxes _ _ w W3 w2 hW3 hb2
    obtain ⟨x0, x1, x2, x3, x4, x5, x6, x7, x8, x9, x10, x11, x12, x13⟩ := hx.cells
    obtain ⟨p0, p1, p2, p3, p4, p5⟩ := hp.cells
    obtain ⟨g0, g1, g2⟩ := hww.cells
    have f0 := hww.free 0
    have f1 := hww.free 1
    have f2 := hww.free 2
    have HWW := Lib.hid hww
    have HBW := Lib.hid hbw
    clear hx hp hww hbw hb2
    clear hW3 HC
    go_wp2_with fail
    refine bodyPost_ret (by obtain ⟨q0, q1, q2⟩ := HWW.out.filled (.int .i64 125) (.int .i64 (checkV p.raw)) (.slice none 0 0); simp [results, Tryz.results47, go_sem, q0, q1, q2]; try rfl) rfl ?_
    exact ⟨((HBW.out.setCell (by simp only; omega) _).setCell (by simp only; omega) _).setCell (by simp only; omega) _, _, rfl, World.ownsRow_nil _ _ _ _⟩
  · have hs : FT.fit t p = none := by rw [FT.fit_eq, if_neg hk0, if_neg (fun h => h hk), if_neg (fun h => by omega), if_neg (fun h => hm h.2), if_neg (fun h => hu h.2), if_pos (by omega)]
    rw [hs]
    clear hs hk hk0 hkk HB
    go_enter Tryz.func47, Tryz.ntmps47
    go_wp2_with fail
    obtain ⟨W3, hW3⟩ : ∃ W3, W3 = ((w.alloc (.cells #[.string t.s.name, .int .u8 t.s.kind, .bool t.s.down, .int .u8 t.s.nulls, .bool t.s.bnd, .bool t.s.lb, .string t.s.lm, .bool t.s.hb, .string t.s.hm, .int .i64 t.s.most, .int .i64 t.s.st, .bool t.s.sh, .bool t.s.ba, .slice a t.fields.length c] 57)).alloc (.cells #[.int .u8 p.kind, .bool p.yes, .bool p.bel, .string p.mag, .string p.raw, .slice a' p.items.length c'] 30)).alloc (.cells #[.int .i64 0, .int .i64 0, .slice none 0 0] 47) := ⟨_, rfl⟩
    rw [← hW3]
    refine (HC.out W3).mono ?_
    rintro e w2 ⟨rfl, q, hq⟩
    have hb2 : Below W3.heap.size W3 w2 := by rw [hq]; exact ⟨rfl, rfl, rfl, Nat.le_refl _, fun _ _ => rfl⟩
    clear hq
    obtain ⟨hx, hp, hww, hbw, hz2⟩ := inner_boxes _ _ w W3 w2 hW3 hb2
    obtain ⟨x0, x1, x2, x3, x4, x5, x6, x7, x8, x9, x10, x11, x12, x13⟩ := hx.cells
    obtain ⟨p0, p1, p2, p3, p4, p5⟩ := hp.cells
    obtain ⟨g0, g1, g2⟩ := hww.cells
    have f0 := hww.free 0
    have f1 := hww.free 1
    have f2 := hww.free 2
    have HWW := Lib.hid hww
    have HBW := Lib.hid hbw
    clear hx hp hww hbw hb2
    clear hW3 HC
    go_wp2_with fail
    refine bodyPost_ret (by obtain ⟨q0, q1, q2⟩ := HWW.out.filled (.int .i64 0) (.int .i64 0) (.slice none 0 0); simp [results, Tryz.results47, go_sem, q0, q1, q2]; try rfl) rfl ?_
    exact ⟨((HBW.out.setCell (by simp only; omega) _).setCell (by simp only; omega) _).setCell (by simp only; omega) _, rfl⟩
set_option maxRecDepth 100000 in
set_option maxHeartbeats 2000000 in
theorem inner_6 (t : FT) (p : PT) (a : Option Addr) (c : Nat) (a' : Option Addr) (c' : Nat) (w : World) (hk0 : p.kind ≠ 0) (hk : p.kind = t.s.kind) (hkk : t.s.kind = 6) (hr : p.raw.size < 9223372036854775800) :
  Calls Tryz.prog 47 #[.agg #[.string t.s.name, .int .u8 t.s.kind, .bool t.s.down, .int .u8 t.s.nulls, .bool t.s.bnd, .bool t.s.lb, .string t.s.lm, .bool t.s.hb, .string t.s.hm, .int .i64 t.s.most, .int .i64 t.s.st, .bool t.s.sh, .bool t.s.ba, .slice a t.fields.length c], .agg #[.int .u8 p.kind, .bool p.yes, .bool p.bel, .string p.mag, .string p.raw, .slice a' p.items.length c']] w (InnerPost (FT.fit t p) w) := by
  have HB := Lib.hid (fun o o2 o3 => ((((Below.refl w.heap.size w).alloc (Nat.le_refl _) o).alloc (by simp : w.heap.size ≤ (w.alloc o).heap.size) o2).alloc (by simp; omega : w.heap.size ≤ ((w.alloc o).alloc o2).heap.size) o3))
  have HC := Lib.hid (fun W => refcheck_any p.raw W hr)
  have e0 : ((p.kind : Int) == 0) = false := by rw [beq_eq_false_iff_ne]; omega
  have e1 : ((p.kind : Int) == (t.s.kind : Int)) = true := by rw [hk]; simp
  have k2 : ((t.s.kind : Int) == 2) = false := by rw [hkk]; rfl
  have k3 : ((t.s.kind : Int) == 3) = false := by rw [hkk]; rfl
  have k5 : ((t.s.kind : Int) == 5) = false := by rw [hkk]; rfl
  have k6 : ((t.s.kind : Int) == 6) = true := by rw [hkk]; rfl
  have k7 : ((t.s.kind : Int) == 7) = false := by rw [hkk]; rfl
  by_cases hu : 0 ≤ checkV p.raw
  · have hs : FT.fit t p = some (125, checkV p.raw, [], 30) := by rw [FT.fit_eq, if_neg hk0, if_neg (fun h => h hk), if_neg (fun h => by omega), if_neg (fun h => by omega), if_pos ⟨by omega, hu⟩]
    rw [hs]
    clear hs hk hk0 hkk HB
    go_enter Tryz.func47, Tryz.ntmps47
    go_wp2_with fail
    obtain ⟨W3, hW3⟩ : ∃ W3, W3 = ((w.alloc (.cells #[.string t.s.name, .int .u8 t.s.kind, .bool t.s.down, .int .u8 t.s.nulls, .bool t.s.bnd, .bool t.s.lb, .string t.s.lm, .bool t.s.hb, .string t.s.hm, .int .i64 t.s.most, .int .i64 t.s.st, .bool t.s.sh, .bool t.s.ba, .slice a t.fields.length c] 57)).alloc (.cells #[.int .u8 p.kind, .bool p.yes, .bool p.bel, .string p.mag, .string p.raw, .slice a' p.items.length c'] 30)).alloc (.cells #[.int .i64 0, .int .i64 0, .slice none 0 0] 47) := ⟨_, rfl⟩
    rw [← hW3]
    refine (HC.out W3).mono ?_
    rintro e w2 ⟨rfl, q, hq⟩
    have hb2 : Below W3.heap.size W3 w2 := by rw [hq]; exact ⟨rfl, rfl, rfl, Nat.le_refl _, fun _ _ => rfl⟩
    clear hq
    obtain ⟨hx, hp, hww, hbw, hz2⟩ := inner_boxes _ _ w W3 w2 hW3 hb2
    obtain ⟨x0, x1, x2, x3, x4, x5, x6, x7, x8, x9, x10, x11, x12, x13⟩ := hx.cells
    obtain ⟨p0, p1, p2, p3, p4, p5⟩ := hp.cells
    obtain ⟨g0, g1, g2⟩ := hww.cells
    have f0 := hww.free 0
    have f1 := hww.free 1
    have f2 := hww.free 2
    have HWW := Lib.hid hww
    have HBW := Lib.hid hbw
    clear hx hp hww hbw hb2
    clear hW3 HC
    go_wp2_with fail
    refine bodyPost_ret (by obtain ⟨q0, q1, q2⟩ := HWW.out.filled (.int .i64 125) (.int .i64 (checkV p.raw)) (.slice none 0 0); simp [results, Tryz.results47, go_sem, q0, q1, q2]; try rfl) rfl ?_
    exact ⟨((HBW.out.setCell (by simp only; omega) _).setCell (by simp only; omega) _).setCell (by simp only; omega) _, _, rfl, World.ownsRow_nil _ _ _ _⟩
  · have hs : FT.fit t p = none := by rw [FT.fit_eq, if_neg hk0, if_neg (fun h => h hk), if_neg (fun h => by omega), if_neg (fun h => by omega), if_neg (fun h => hu h.2), if_pos (by omega)]
    rw [hs]
    clear hs hk hk0 hkk HB
    go_enter Tryz.func47, Tryz.ntmps47
    go_wp2_with fail
    obtain ⟨W3, hW3⟩ : ∃ W3, W3 = ((w.alloc (.cells #[.string t.s.name, .int .u8 t.s.kind, .bool t.s.down, .int .u8 t.s.nulls, .bool t.s.bnd, .bool t.s.lb, .string t.s.lm, .bool t.s.hb, .string t.s.hm, .int .i64 t.s.most, .int .i64 t.s.st, .bool t.s.sh, .bool t.s.ba, .slice a t.fields.length c] 57)).alloc (.cells #[.int .u8 p.kind, .bool p.yes, .bool p.bel, .string p.mag, .string p.raw, .slice a' p.items.length c'] 30)).alloc (.cells #[.int .i64 0, .int .i64 0, .slice none 0 0] 47) := ⟨_, rfl⟩
    rw [← hW3]
    refine (HC.out W3).mono ?_
    rintro e w2 ⟨rfl, q, hq⟩
    have hb2 : Below W3.heap.size W3 w2 := by rw [hq]; exact ⟨rfl, rfl, rfl, Nat.le_refl _, fun _ _ => rfl⟩
    clear hq
    obtain ⟨hx, hp, hww, hbw, hz2⟩ := inner_boxes _ _ w W3 w2 hW3 hb2
    obtain ⟨x0, x1, x2, x3, x4, x5, x6, x7, x8, x9, x10, x11, x12, x13⟩ := hx.cells
    obtain ⟨p0, p1, p2, p3, p4, p5⟩ := hp.cells
    obtain ⟨g0, g1, g2⟩ := hww.cells
    have f0 := hww.free 0
    have f1 := hww.free 1
    have f2 := hww.free 2
    have HWW := Lib.hid hww
    have HBW := Lib.hid hbw
    clear hx hp hww hbw hb2
    clear hW3 HC
    go_wp2_with fail
    refine bodyPost_ret (by obtain ⟨q0, q1, q2⟩ := HWW.out.filled (.int .i64 0) (.int .i64 0) (.slice none 0 0); simp [results, Tryz.results47, go_sem, q0, q1, q2]; try rfl) rfl ?_
    exact ⟨((HBW.out.setCell (by simp only; omega) _).setCell (by simp only; omega) _).setCell (by simp only; omega) _, rfl⟩
set_option maxRecDepth 100000 in
set_option maxHeartbeats 2000000 in
theorem inner_2 (t : FT) (p : PT) (a : Option Addr) (c : Nat) (a' : Option Addr) (c' : Nat) (w : World) (hk0 : p.kind ≠ 0) (hk : p.kind = t.s.kind) (hkk : t.s.kind = 2) (hm : p.mag.size ≤ 9223372036854775807) (h1 : t.s.lm.size ≤ 9223372036854775807) (h2 : t.s.hm.size ≤ 9223372036854775807) :
  Calls Tryz.prog 47 #[.agg #[.string t.s.name, .int .u8 t.s.kind, .bool t.s.down, .int .u8 t.s.nulls, .bool t.s.bnd, .bool t.s.lb, .string t.s.lm, .bool t.s.hb, .string t.s.hm, .int .i64 t.s.most, .int .i64 t.s.st, .bool t.s.sh, .bool t.s.ba, .slice a t.fields.length c], .agg #[.int .u8 p.kind, .bool p.yes, .bool p.bel, .string p.mag, .string p.raw, .slice a' p.items.length c']] w (InnerPost (FT.fit t p) w) := by
  have HB := Lib.hid (fun o o2 o3 => ((((Below.refl w.heap.size w).alloc (Nat.le_refl _) o).alloc (by simp : w.heap.size ≤ (w.alloc o).heap.size) o2).alloc (by simp; omega : w.heap.size ≤ ((w.alloc o).alloc o2).heap.size) o3))
  have HC1 := Lib.hid (fun W => refCmp_any p.bel p.mag t.s.lb t.s.lm W hm h1)
  have HC2 := Lib.hid (fun W => refCmp_any p.bel p.mag t.s.hb t.s.hm W hm h2)
  have e0 : ((p.kind : Int) == 0) = false := by rw [beq_eq_false_iff_ne]; omega
  have e1 : ((p.kind : Int) == (t.s.kind : Int)) = true := by rw [hk]; simp
  have k2 : ((t.s.kind : Int) == 2) = true := by rw [hkk]; rfl
  have k3 : ((t.s.kind : Int) == 3) = false := by rw [hkk]; rfl
  have k5 : ((t.s.kind : Int) == 5) = false := by rw [hkk]; rfl
  have k6 : ((t.s.kind : Int) == 6) = false := by rw [hkk]; rfl
  have k7 : ((t.s.kind : Int) == 7) = false := by rw [hkk]; rfl
  by_cases hb : t.s.bnd = true
  · by_cases hlo : numCmp p.bel p.mag t.s.lb t.s.lm < 0
    · have hs : FT.fit t p = some (123, 0, [], 0) := by rw [FT.fit_eq, if_neg hk0, if_neg (fun h => h hk), if_pos ⟨hkk, hb, .inl hlo⟩]
      rw [hs]
      rw [hb]
      clear hs hk hk0 hkk HB hb
      go_enter Tryz.func47, Tryz.ntmps47
      go_wp2_with fail
      obtain ⟨W3, hW3⟩ : ∃ W3, W3 = ((w.alloc (.cells #[.string t.s.name, .int .u8 t.s.kind, .bool t.s.down, .int .u8 t.s.nulls, .bool true, .bool t.s.lb, .string t.s.lm, .bool t.s.hb, .string t.s.hm, .int .i64 t.s.most, .int .i64 t.s.st, .bool t.s.sh, .bool t.s.ba, .slice a t.fields.length c] 57)).alloc (.cells #[.int .u8 p.kind, .bool p.yes, .bool p.bel, .string p.mag, .string p.raw, .slice a' p.items.length c'] 30)).alloc (.cells #[.int .i64 0, .int .i64 0, .slice none 0 0] 47) := ⟨_, rfl⟩
      rw [← hW3]
      refine (HC1.out W3).mono ?_
      rintro e w2 ⟨rfl, hb2⟩
      obtain ⟨hx, hp, hww, hbw, hz2⟩ := inner_boxes _ _ w W3 w2 hW3 hb2
      obtain ⟨x0, x1, x2, x3, x4, x5, x6, x7, x8, x9, x10, x11, x12, x13⟩ := hx.cells
      obtain ⟨p0, p1, p2, p3, p4, p5⟩ := hp.cells
      obtain ⟨g0, g1, g2⟩ := hww.cells
      have f0 := hww.free 0
      have f1 := hww.free 1
      have f2 := hww.free 2
      have HWW := Lib.hid hww
      have HBW := Lib.hid hbw
      have HB2 := Lib.hid hb2
      clear hx hp hww hbw hb2
      go_wp2_with fail
      refine (HC2.out w2).mono ?_
      rintro e w4 ⟨rfl, hb4⟩
      clear x0 x1 x2 x3 x4 x5 x6 x7 x8 x9 x10 x11 x12 x13 p0 p1 p2 p3 p4 p5 g0 g1 g2 f0 f1 f2 HWW HBW
      have hb2 : Below W3.heap.size W3 w4 := HB2.out.trans (hb4.mono HB2.out.size)
      clear HB2 hb4
      obtain ⟨hx, hp, hww, hbw, hz4⟩ := inner_boxes _ _ w W3 w4 hW3 hb2
      obtain ⟨x0, x1, x2, x3, x4, x5, x6, x7, x8, x9, x10, x11, x12, x13⟩ := hx.cells
      obtain ⟨p0, p1, p2, p3, p4, p5⟩ := hp.cells
      obtain ⟨g0, g1, g2⟩ := hww.cells
      have f0 := hww.free 0
      have f1 := hww.free 1
      have f2 := hww.free 2
      have HWW := Lib.hid hww
      have HBW := Lib.hid hbw
      clear hx hp hww hbw hb2
      clear hW3 HC1 HC2
      go_wp2_with fail
      all_goals (
        refine bodyPost_ret (by obtain ⟨q0, q1, q2⟩ := HWW.out.filled (.int .i64 123) (.int .i64 0) (.slice none 0 0); simp [results, Tryz.results47, go_sem, q0, q1, q2]; try rfl) rfl ?_
        exact ⟨((HBW.out.setCell (by simp only; omega) _).setCell (by simp only; omega) _).setCell (by simp only; omega) _, _, rfl, World.ownsRow_nil _ _ _ _⟩)
    · by_cases hhi : 0 < numCmp p.bel p.mag t.s.hb t.s.hm
      · have hs : FT.fit t p = some (123, 0, [], 0) := by rw [FT.fit_eq, if_neg hk0, if_neg (fun h => h hk), if_pos ⟨hkk, hb, .inr hhi⟩]
        rw [hs]
        rw [hb]
        clear hs hk hk0 hkk HB hb
        go_enter Tryz.func47, Tryz.ntmps47
        go_wp2_with fail
        obtain ⟨W3, hW3⟩ : ∃ W3, W3 = ((w.alloc (.cells #[.string t.s.name, .int .u8 t.s.kind, .bool t.s.down, .int .u8 t.s.nulls, .bool true, .bool t.s.lb, .string t.s.lm, .bool t.s.hb, .string t.s.hm, .int .i64 t.s.most, .int .i64 t.s.st, .bool t.s.sh, .bool t.s.ba, .slice a t.fields.length c] 57)).alloc (.cells #[.int .u8 p.kind, .bool p.yes, .bool p.bel, .string p.mag, .string p.raw, .slice a' p.items.length c'] 30)).alloc (.cells #[.int .i64 0, .int .i64 0, .slice none 0 0] 47) := ⟨_, rfl⟩
        rw [← hW3]
        refine (HC1.out W3).mono ?_
        rintro e w2 ⟨rfl, hb2⟩
        obtain ⟨hx, hp, hww, hbw, hz2⟩ := inner_boxes _ _ w W3 w2 hW3 hb2
        obtain ⟨x0, x1, x2, x3, x4, x5, x6, x7, x8, x9, x10, x11, x12, x13⟩ := hx.cells
        obtain ⟨p0, p1, p2, p3, p4, p5⟩ := hp.cells
        obtain ⟨g0, g1, g2⟩ := hww.cells
        have f0 := hww.free 0
        have f1 := hww.free 1
        have f2 := hww.free 2
        have HWW := Lib.hid hww
        have HBW := Lib.hid hbw
        have HB2 := Lib.hid hb2
        clear hx hp hww hbw hb2
        go_wp2_with fail
        refine (HC2.out w2).mono ?_
        rintro e w4 ⟨rfl, hb4⟩
        clear x0 x1 x2 x3 x4 x5 x6 x7 x8 x9 x10 x11 x12 x13 p0 p1 p2 p3 p4 p5 g0 g1 g2 f0 f1 f2 HWW HBW
        have hb2 : Below W3.heap.size W3 w4 := HB2.out.trans (hb4.mono HB2.out.size)
        clear HB2 hb4
        obtain ⟨hx, hp, hww, hbw, hz4⟩ := inner_boxes _ _ w W3 w4 hW3 hb2
        obtain ⟨x0, x1, x2, x3, x4, x5, x6, x7, x8, x9, x10, x11, x12, x13⟩ := hx.cells
        obtain ⟨p0, p1, p2, p3, p4, p5⟩ := hp.cells
        obtain ⟨g0, g1, g2⟩ := hww.cells
        have f0 := hww.free 0
        have f1 := hww.free 1
        have f2 := hww.free 2
        have HWW := Lib.hid hww
        have HBW := Lib.hid hbw
        clear hx hp hww hbw hb2
        clear hW3 HC1 HC2
        go_wp2_with fail
        all_goals (
          refine bodyPost_ret (by obtain ⟨q0, q1, q2⟩ := HWW.out.filled (.int .i64 123) (.int .i64 0) (.slice none 0 0); simp [results, Tryz.results47, go_sem, q0, q1, q2]; try rfl) rfl ?_
          exact ⟨((HBW.out.setCell (by simp only; omega) _).setCell (by simp only; omega) _).setCell (by simp only; omega) _, _, rfl, World.ownsRow_nil _ _ _ _⟩)
      · have hs : FT.fit t p = none := by rw [FT.fit_eq, if_neg hk0, if_neg (fun h => h hk), if_neg (fun h => h.2.2.elim hlo hhi), if_neg (fun h => by omega), if_neg (fun h => by omega), if_pos (by omega)]
        rw [hs]
        rw [hb]
        have d1 := decide_eq_false hlo
        have d2 := decide_eq_false hhi
        have hlo' := Int.not_lt.1 hlo
        have hhi' := Int.not_lt.1 hhi
        clear hs hk hk0 hkk HB hb
        go_enter Tryz.func47, Tryz.ntmps47
        go_wp2_with fail
        obtain ⟨W3, hW3⟩ : ∃ W3, W3 = ((w.alloc (.cells #[.string t.s.name, .int .u8 t.s.kind, .bool t.s.down, .int .u8 t.s.nulls, .bool true, .bool t.s.lb, .string t.s.lm, .bool t.s.hb, .string t.s.hm, .int .i64 t.s.most, .int .i64 t.s.st, .bool t.s.sh, .bool t.s.ba, .slice a t.fields.length c] 57)).alloc (.cells #[.int .u8 p.kind, .bool p.yes, .bool p.bel, .string p.mag, .string p.raw, .slice a' p.items.length c'] 30)).alloc (.cells #[.int .i64 0, .int .i64 0, .slice none 0 0] 47) := ⟨_, rfl⟩
        rw [← hW3]
        refine (HC1.out W3).mono ?_
        rintro e w2 ⟨rfl, hb2⟩
        obtain ⟨hx, hp, hww, hbw, hz2⟩ := inner_boxes _ _ w W3 w2 hW3 hb2
        obtain ⟨x0, x1, x2, x3, x4, x5, x6, x7, x8, x9, x10, x11, x12, x13⟩ := hx.cells
        obtain ⟨p0, p1, p2, p3, p4, p5⟩ := hp.cells
        obtain ⟨g0, g1, g2⟩ := hww.cells
        have f0 := hww.free 0
        have f1 := hww.free 1
        have f2 := hww.free 2
        have HWW := Lib.hid hww
        have HBW := Lib.hid hbw
        have HB2 := Lib.hid hb2
        clear hx hp hww hbw hb2
        go_wp2_with fail
        refine (HC2.out w2).mono ?_
        rintro e w4 ⟨rfl, hb4⟩
        clear x0 x1 x2 x3 x4 x5 x6 x7 x8 x9 x10 x11 x12 x13 p0 p1 p2 p3 p4 p5 g0 g1 g2 f0 f1 f2 HWW HBW
        have hb2 : Below W3.heap.size W3 w4 := HB2.out.trans (hb4.mono HB2.out.size)
        clear HB2 hb4
        obtain ⟨hx, hp, hww, hbw, hz4⟩ := inner_boxes _ _ w W3 w4 hW3 hb2
        obtain ⟨x0, x1, x2, x3, x4, x5, x6, x7, x8, x9, x10, x11, x12, x13⟩ := hx.cells
        obtain ⟨p0, p1, p2, p3, p4, p5⟩ := hp.cells
        obtain ⟨g0, g1, g2⟩ := hww.cells
        have f0 := hww.free 0
        have f1 := hww.free 1
        have f2 := hww.free 2
        have HWW := Lib.hid hww
        have HBW := Lib.hid hbw
        clear hx hp hww hbw hb2
        clear hW3 HC1 HC2
        go_wp2_with fail
        all_goals (
          refine bodyPost_ret (by obtain ⟨q0, q1, q2⟩ := HWW.out.filled (.int .i64 0) (.int .i64 0) (.slice none 0 0); simp [results, Tryz.results47, go_sem, q0, q1, q2]; try rfl) rfl ?_
          exact ⟨((HBW.out.setCell (by simp only; omega) _).setCell (by simp only; omega) _).setCell (by simp only; omega) _, rfl⟩)
  · have hbf : t.s.bnd = false := by simpa using hb
    have hs : FT.fit t p = none := by rw [FT.fit_eq, if_neg hk0, if_neg (fun h => h hk), if_neg (fun h => hb h.2.1), if_neg (fun h => by omega), if_neg (fun h => by omega), if_pos (by omega)]
    rw [hs]
    clear hs hk hk0 hkk HC1 HC2
    go_enter Tryz.func47, Tryz.ntmps47
    go_wp2_with fail
    go_returns
    exact ⟨HB.out _ _ _, rfl⟩
end Go.Proofs.YtcjllhdbepchnaaGreatDoor
