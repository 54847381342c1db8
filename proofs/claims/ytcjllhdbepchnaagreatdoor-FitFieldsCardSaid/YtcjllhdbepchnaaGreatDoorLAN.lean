/-
  ref12.least: what stands for a field.
-/
import Derived.Test.YtcjllhdbepchnaaGreatDoorLAL
import Derived.Test.YtcjllhdbepchnaaGreatDoorLAM
namespace Go.Proofs.YtcjllhdbepchnaaGreatDoor
open Go.RowKit Go.WideShapes
set_option linter.unusedVariables false
section
variable {w w' : World} {T : Nat} {cs : Array Value}
theorem FBox.lt (h : FBox w T cs) : T < w.heap.size := (Array.getElem?_eq_some_iff.1 h).1
theorem FBox.set (h : FBox w T cs) {T' o : Nat} {u : Value} (hne : T' ≠ T) : FBox (w.setCell ⟨T', o, none⟩ u) T cs := by
  unfold FBox at *; simp [World.setCell, Array.getElem?_modify, hne, h]
theorem FBox.grown {vt : Value} {tmp : Obj} (h : FBox w T cs) (hg : (w.alloc tmp).grownBy w' vt.ownBlock) (hne : vt.ownBlock ≠ some T) : FBox w' T cs := by
  have hl := h.lt
  refine ((hg.block T (by simp; omega) (fun e => hne e.symm)).trans ?_).trans h
  rw [Below.heap_alloc w tmp T hl]
end
set_option maxRecDepth 100000 in
set_option maxHeartbeats 1000000 in
theorem refLeast_flat (t : FT) (a : Option Addr) (c : Nat) (w : World) (hk : t.s.kind < 256) (h2 : t.s.kind ≠ 2) (h4 : t.s.kind ≠ 4) (h7 : t.s.kind ≠ 7) :
    Calls Tryz.prog 52 #[.agg #[.string t.s.name, .int .u8 t.s.kind, .bool t.s.down, .int .u8 t.s.nulls, .bool t.s.bnd, .bool t.s.lb, .string t.s.lm, .bool t.s.hb, .string t.s.hm, .int .i64 t.s.most, .int .i64 t.s.st, .bool t.s.sh, .bool t.s.ba, .slice a t.fields.length c]] w (TellEx t.least w) := by
  have HB0 := Lib.hid (fun o o2 o3 => (((Below.refl w.heap.size w).alloc (Nat.le_refl _) o).alloc (by simp : w.heap.size ≤ (w.alloc o).heap.size) o2).alloc (by simp; omega : w.heap.size ≤ ((w.alloc o).alloc o2).heap.size) o3)
  have k2 : ((t.s.kind : Int) == 2) = false := by rw [beq_eq_false_iff_ne]; omega
  have k4 : ((t.s.kind : Int) == 4) = false := by rw [beq_eq_false_iff_ne]; omega
  have k7 : ((t.s.kind : Int) == 7) = false := by rw [beq_eq_false_iff_ne]; omega
  have hl : t.least = .mk t.s.kind false false ⟨#[]⟩ ⟨#[]⟩ [] := by
    rw [FT.least_eq, if_neg h2, if_neg h4, if_neg h7]
    have : (t.s.kind == 2) = false := by rw [beq_eq_false_iff_ne]; exact h2
    rw [this]; rfl
  rw [hl]
  have HK := Lib.hid hk
  clear h2 h4 h7 hl hk
  go_enter Tryz.func52, Tryz.ntmps52
  go_wp2_with fail
  go_rounds 1
  all_goals (
    go_returns
    exact ex_flat (a := none) (c := 0) rfl HK.out (Nat.zero_le _) (Nat.zero_le _) rfl (HB0.out _ _ _))
set_option maxRecDepth 100000 in
set_option maxHeartbeats 1000000 in
theorem refLeast_int (t : FT) (a : Option Addr) (c : Nat) (w : World) (h2 : t.s.kind = 2) (hm : t.s.lm.size ≤ maxLen) (hb : t.s.bnd = true) :
    Calls Tryz.prog 52 #[.agg #[.string t.s.name, .int .u8 t.s.kind, .bool t.s.down, .int .u8 t.s.nulls, .bool t.s.bnd, .bool t.s.lb, .string t.s.lm, .bool t.s.hb, .string t.s.hm, .int .i64 t.s.most, .int .i64 t.s.st, .bool t.s.sh, .bool t.s.ba, .slice a t.fields.length c]] w (TellEx t.least w) := by
  have HB0 := Lib.hid (fun o o2 o3 => (((Below.refl w.heap.size w).alloc (Nat.le_refl _) o).alloc (by simp : w.heap.size ≤ (w.alloc o).heap.size) o2).alloc (by simp; omega : w.heap.size ≤ ((w.alloc o).alloc o2).heap.size) o3)
  have hl : t.least = .mk 2 false t.s.lb t.s.lm ⟨#[]⟩ [] := by
    rw [FT.least_eq, if_pos h2, if_neg (by omega), if_neg (by omega), h2]; rfl
  rw [hl, h2, hb]
  rw [show ((2 : Nat) : Int) = 2 from rfl]
  clear h2 hl hb
  have HM := Lib.hid hm
  clear hm
  go_enter Tryz.func52, Tryz.ntmps52
  go_wp2_with fail
  go_rounds 1
  all_goals (
    go_returns
    exact ex_flat (a := none) (c := 0) rfl (show 2 < 256 by omega) HM.out (Nat.zero_le _) rfl (HB0.out _ _ _))
set_option maxRecDepth 100000 in
set_option maxHeartbeats 1000000 in
theorem refLeast_free (t : FT) (a : Option Addr) (c : Nat) (w : World) (h2 : t.s.kind = 2) (hb : t.s.bnd = false) (hlb : t.s.lb = false) (hlm : t.s.lm.size = 0) :
    Calls Tryz.prog 52 #[.agg #[.string t.s.name, .int .u8 t.s.kind, .bool t.s.down, .int .u8 t.s.nulls, .bool t.s.bnd, .bool t.s.lb, .string t.s.lm, .bool t.s.hb, .string t.s.hm, .int .i64 t.s.most, .int .i64 t.s.st, .bool t.s.sh, .bool t.s.ba, .slice a t.fields.length c]] w (TellEx t.least w) := by
  have HB0 := Lib.hid (fun o o2 o3 => (((Below.refl w.heap.size w).alloc (Nat.le_refl _) o).alloc (by simp : w.heap.size ≤ (w.alloc o).heap.size) o2).alloc (by simp; omega : w.heap.size ≤ ((w.alloc o).alloc o2).heap.size) o3)
  have hl : t.least = .mk 2 false false ⟨#[]⟩ ⟨#[]⟩ [] := by
    have e : t.s.lm = ⟨#[]⟩ := by
      rcases he : t.s.lm with ⟨d⟩
      rw [he] at hlm
      have : d = #[] := Array.eq_empty_of_size_eq_zero hlm
      rw [this]
    rw [FT.least_eq, if_pos h2, if_neg (by omega), if_neg (by omega), h2, hlb, e]; rfl
  rw [hl, h2, hb]
  rw [show ((2 : Nat) : Int) = 2 from rfl]
  clear h2 hl hb hlb hlm
  go_enter Tryz.func52, Tryz.ntmps52
  go_wp2_with fail
  go_rounds 1
  all_goals (
    go_returns
    exact ex_flat (a := none) (c := 0) rfl (show 2 < 256 by omega) (Nat.zero_le _) (Nat.zero_le _) rfl (HB0.out _ _ _))
set_option maxRecDepth 100000 in
set_option maxHeartbeats 1000000 in
theorem refLeast_id (t : FT) (a : Option Addr) (c : Nat) (w : World) (h4 : t.s.kind = 4) :
    Calls Tryz.prog 52 #[.agg #[.string t.s.name, .int .u8 t.s.kind, .bool t.s.down, .int .u8 t.s.nulls, .bool t.s.bnd, .bool t.s.lb, .string t.s.lm, .bool t.s.hb, .string t.s.hm, .int .i64 t.s.most, .int .i64 t.s.st, .bool t.s.sh, .bool t.s.ba, .slice a t.fields.length c]] w (TellEx t.least w) := by
  have HB0 := Lib.hid (fun o o2 o3 => (((Below.refl w.heap.size w).alloc (Nat.le_refl _) o).alloc (by simp : w.heap.size ≤ (w.alloc o).heap.size) o2).alloc (by simp; omega : w.heap.size ≤ ((w.alloc o).alloc o2).heap.size) o3)
  have hl : t.least = .mk 4 false false ⟨#[]⟩ zero16 [] := by
    rw [FT.least_eq, if_neg (by omega), if_pos h4, if_neg (by omega), h4]; rfl
  rw [hl, h4]
  rw [show ((4 : Nat) : Int) = 4 from rfl]
  clear h4 hl
  go_enter Tryz.func52, Tryz.ntmps52
  go_wp2_with fail
  go_rounds 1
  all_goals (
    go_returns
    exact ex_flat (a := none) (c := 0) rfl (show 4 < 256 by omega) (Nat.zero_le _) (by decide) rfl (HB0.out _ _ _))
def RefLeastAny (t : FT) : Prop := ∀ (a : Option Addr) (c : Nat) (w : World) (d : Nat) (ahead : List FT), FT.good d ahead t = true → t.count ≤ 64 → t.s.ok → FieldsAt w (· < w.heap.size) t.fields a → Calls Tryz.prog 52 #[.agg #[.string t.s.name, .int .u8 t.s.kind, .bool t.s.down, .int .u8 t.s.nulls, .bool t.s.bnd, .bool t.s.lb, .string t.s.lm, .bool t.s.hb, .string t.s.hm, .int .i64 t.s.most, .int .i64 t.s.st, .bool t.s.sh, .bool t.s.ba, .slice a t.fields.length c]] w (TellEx t.least w)
set_option maxRecDepth 100000 in
set_option maxHeartbeats 4000000 in
theorem refLeast_tup (t : FT) (a : Option Addr) (c : Nat) (w : World) (h7 : t.s.kind = 7) (hl64 : t.fields.length ≤ 64) (hf : FieldsAt w (· < w.heap.size) t.fields a)
    (ih : ∀ x ∈ t.fields, x.s.ok → ∀ (a : Option Addr) (c : Nat) (w : World), FieldsAt w (· < w.heap.size) x.fields a → Calls Tryz.prog 52 #[.agg #[.string x.s.name, .int .u8 x.s.kind, .bool x.s.down, .int .u8 x.s.nulls, .bool x.s.bnd, .bool x.s.lb, .string x.s.lm, .bool x.s.hb, .string x.s.hm, .int .i64 x.s.most, .int .i64 x.s.st, .bool x.s.sh, .bool x.s.ba, .slice a x.fields.length c]] w (TellEx x.least w)) :
    Calls Tryz.prog 52 #[.agg #[.string t.s.name, .int .u8 t.s.kind, .bool t.s.down, .int .u8 t.s.nulls, .bool t.s.bnd, .bool t.s.lb, .string t.s.lm, .bool t.s.hb, .string t.s.hm, .int .i64 t.s.most, .int .i64 t.s.st, .bool t.s.sh, .bool t.s.ba, .slice a t.fields.length c]] w (TellEx t.least w) := by
  obtain ⟨i0, hi, hz0, hz1, hz2⟩ := info_parts part_info
  have hl : t.least = .mk 7 false false ⟨#[]⟩ ⟨#[]⟩ (t.fields.map FT.least) := by
    rw [FT.least_eq, if_neg (by omega), if_neg (by omega), if_pos h7, h7, FT.leastL_map]; rfl
  obtain ⟨L, hL⟩ : ∃ L, L = t.fields.map FT.least := ⟨_, rfl⟩
  rw [← hL] at hl
  have HLl := Lib.hid (show L.length = t.fields.length by rw [hL, List.length_map])
  have HLk := Lib.hid (show ∀ k (h : k < t.fields.length) (h' : k < L.length), L[k] = t.fields[k].least from fun k h h' => by simp [hL])
  rw [hl, h7]
  rw [show ((7 : Nat) : Int) = 7 from rfl]
  have HI := Lib.hid hf
  have HIH := Lib.hid ih
  have HB0 := Lib.hid (fun o o2 o3 => (((Below.refl w.heap.size w).alloc (Nat.le_refl _) o).alloc (by simp : w.heap.size ≤ (w.alloc o).heap.size) o2).alloc (by simp; omega : w.heap.size ≤ ((w.alloc o).alloc o2).heap.size) o3)
  have HF0 := Lib.hid (fun o2 o3 => ((FBox.new w #[.string t.s.name, .int .u8 7, .bool t.s.down, .int .u8 t.s.nulls, .bool t.s.bnd, .bool t.s.lb, .string t.s.lm, .bool t.s.hb, .string t.s.hm, .int .i64 t.s.most, .int .i64 t.s.st, .bool t.s.sh, .bool t.s.ba, .slice a t.fields.length c]).below ((Below.refl _ _).alloc (Nat.le_refl _) o2) (by simp)).below ((Below.refl _ _).alloc (Nat.le_refl _) o3) (by simp; omega))
  have HX0 := Lib.hid (fun o o2 => PBox.new ((w.alloc o).alloc o2) (w.heap.size + 1 + 1) (.slice none 0 0) (by simp))
  have HR0 := Lib.hid (fun o o3 => (RBox.new (w.alloc o) (w.heap.size + 1) (by simp)).below ((Below.refl _ _).alloc (Nat.le_refl _) o3) (by simp : w.heap.size + 1 < ((w.alloc o).alloc _).heap.size))
  have HV0 := Lib.hid (fun W => PRow.start W (w.heap.size + 3) (w.heap.size + 3))
  clear hf ih hl h7 hL
  go_enter Tryz.func52, Tryz.ntmps52
  go_wp2_with fail
  go_loopw [4] (fun i wr => ∃ (k : Nat) (vt : Value) (css : List (List Value)), i = .int .i64 k ∧ k ≤ t.fields.length ∧ Hid (Below w.heap.size w wr) ∧ Hid (FBox wr w.heap.size #[.string t.s.name, .int .u8 7, .bool t.s.down, .int .u8 t.s.nulls, .bool t.s.bnd, .bool t.s.lb, .string t.s.lm, .bool t.s.hb, .string t.s.hm, .int .i64 t.s.most, .int .i64 t.s.st, .bool t.s.sh, .bool t.s.ba, .slice a t.fields.length c]) ∧ Hid (RBox wr (w.heap.size + 1)) ∧ Hid (PBox wr (w.heap.size + 1 + 1) vt) ∧ Hid (PRow wr (w.heap.size + 3) (w.heap.size + 3) vt k (L.take k) css) ∧ w.heap.size + 3 ≤ wr.heap.size) (fun i _ => t.fields.length - (intOf i).toNat)
  case atStart => exact ⟨0, _, [], rfl, by omega, Lib.hid (HB0.out _ _ _), Lib.hid (HF0.out _ _), Lib.hid (HR0.out _ _), Lib.hid (HX0.out _ _), Lib.hid (HV0.out _), by simp⟩
  case round =>
    clear HB0 HX0 HV0 HR0 HF0
    obtain ⟨k, vt, css, rfl, hk, HB, HP, HR, HX, HV, hwz⟩ := hrel
    have hfb := HP.out.cells
    obtain ⟨_, z1, _, _, _, _, _, _, _, _, _, _, _, z13⟩ := hfb
    by_cases hlt : k < t.fields.length
    · obtain ⟨b, o, a3, c3, rfl, hb, hca, hfa⟩ := (HI.out.below HB.out).get hlt
      obtain ⟨k0, k1, k2, k3, k4, k5, k6, k7, k8, k9, k10, k11, k12, k13⟩ := hca.field
      obtain ⟨_, _, ee, hok, hfl0, hfc, hff⟩ := hfa.open
      obtain ⟨rfl, rfl⟩ := fieldCells_inj ee
      have HRc := Lib.hid (HIH.out t.fields[k] (List.getElem_mem hlt) hok a3 c3 wr (hff.wide (by omega)))
      clear hff hfa hca ee hok
      go_wp2_with fail
      refine HRc.out.mono ?_
      rintro e w2 ⟨a2, c2, rfl, hb2, hp2⟩
      obtain ⟨W3, hW3⟩ : ∃ W3, W3 = w2.alloc (Obj.cells #[.int .u8 t.fields[k].least.kind, .bool t.fields[k].least.yes, .bool t.fields[k].least.bel, .string t.fields[k].least.mag, .string t.fields[k].least.raw, .slice a2 t.fields[k].least.items.length c2] 30) := ⟨_, rfl⟩
      have hb3 : Below wr.heap.size wr W3 := by rw [hW3]; exact hb2.alloc hb2.size _
      have hz3 : w2.heap.size + 1 = W3.heap.size := by rw [hW3]; simp
      have hzz2 := hb2.size
      have HY := Lib.hid (show QBox W3 w2.heap.size (.int .u8 t.fields[k].least.kind) (.bool t.fields[k].least.yes) (.bool t.fields[k].least.bel) (.string t.fields[k].least.mag) (.string t.fields[k].least.raw) (.slice a2 t.fields[k].least.items.length c2) by rw [hW3]; exact QBox.new w2 w2.heap.size _ _ _ _ _ _ rfl)
      obtain ⟨y0, y1, y2, y3, y4, y5⟩ := HY.out.cells
      rw [hW3] at y0 y1 y2 y3 y4 y5
      have HV3 := Lib.hid (HV.out.below hb3)
      have HX3 := Lib.hid (HX.out.below hb3 (by omega))
      have HP3 := Lib.hid (HP.out.below hb3 (by omega))
      have HR3 := Lib.hid (HR.out.below hb3 (by omega))
      have hp3 : PartAt W3 (fun b => wr.heap.size ≤ b ∧ b < W3.heap.size) t.fields[k].least (partCells t.fields[k].least a2 c2) := PartAt.more (fun b hb => ⟨hb.1, by have := hb.2; omega⟩) _ _ (PartAt.keep (fun p hp => by rw [hW3]; exact World.cell?_alloc_lt _ _ _ hp.2) _ _ hp2)
      have HPt := Lib.hid hp3
      have HB3 := Lib.hid hb3
      have hxc := HX3.out.cell
      have hxf := HX3.out.free
      rw [hW3] at hxc hxf
      have HW3 := Lib.hid hW3
      have HZ3 := Lib.hid hz3
      have hz3' : w2.heap.size < W3.heap.size := by omega
      clear hW3 hz3
      have hne : vt.ownBlock ≠ some (w.heap.size + 1 + 1) := fun e => by have := row_ge HV.out.own e; omega
      clear hb2 hp2 HRc k0 k1 k2 k3 k4 k5 k6 k7 k8 k9 k10 k11 k12 k13 hb3 hp3 z1 z13
      go_wp2_with (at_builtin; rw [← HW3.out]; refine wpList_append_lies _ rfl _ _ 28 rfl (w.heap.size + 3) 30 i0 (.agg #[.int .u8 0, .bool false, .bool false, .string ⟨#[]⟩, .string ⟨#[]⟩, .slice none 0 0]) 6 72 Tryz.underlying28 hi hz0 hz1 hz2 rfl (by decide) _ _ _ rfl (HV3.out.own.alloc _) ⟨w2.heap.size + 1, 0, none⟩ 1 1 [.int .u8 t.fields[k].least.kind, .bool t.fields[k].least.yes, .bool t.fields[k].least.bel, .string t.fields[k].least.mag, .string t.fields[k].least.raw, .slice a2 t.fields[k].least.items.length c2] rfl rfl (World.news_of_block (cs := #[.int .u8 t.fields[k].least.kind, .bool t.fields[k].least.yes, .bool t.fields[k].least.bel, .string t.fields[k].least.mag, .string t.fields[k].least.raw, .slice a2 t.fields[k].least.items.length c2]) (t := 30) (fr := (0, 0)) (by rw [HZ3.out]; exact heap_alloc_new W3 _)) (by simp [Value.oneCell']) (by omega) (by unfold maxLen; omega) (by omega) (by simp; omega) _ rfl ?_; intro g4 cap4 w4 hown4 hgrow4 hat4 hgl4; have hgrow5 : (W3.alloc (Obj.cells #[.int .u8 t.fields[k].least.kind, .bool t.fields[k].least.yes, .bool t.fields[k].least.bel, .string t.fields[k].least.mag, .string t.fields[k].least.raw, .slice a2 t.fields[k].least.items.length c2] 30)).grownBy w4 vt.ownBlock := hgrow4; have HX4 := Lib.hid (HX3.out.grown hgrow5 hne); have hbc4 := HX4.out.cell; have hbf4 := HX4.out.free)
      have hgrow6 : (W3.alloc (Obj.cells #[.int .u8 t.fields[k].least.kind, .bool t.fields[k].least.yes, .bool t.fields[k].least.bel, .string t.fields[k].least.mag, .string t.fields[k].least.raw, .slice a2 t.fields[k].least.items.length c2] 30)).grownBy w4 vt.ownBlock := hgrow4
      have HB' := ((((HB.out.trans (HB3.out.mono (by omega))).alloc (by omega) _).grown hgrow6 (by simp; omega) (fun j ej => by have := row_ge HV3.out.own ej; omega)).setCell (p := ⟨w.heap.size + 1 + 1, 5, none⟩) (by simp only; omega) (.slice (some ⟨g4, 0, none⟩) (k + 1) cap4))
      have HX' := HX4.out.set (u := .slice (some ⟨g4, 0, none⟩) (k + 1) cap4)
      have HP' := (HP3.out.grown hgrow6 (fun e => by have := row_ge HV3.out.own e; omega)).set (T' := w.heap.size + 1 + 1) (o := 5) (u := .slice (some ⟨g4, 0, none⟩) (k + 1) cap4) (by omega)
      have HR' := (HR3.out.grown hgrow6 (fun e => by have := row_ge HV3.out.own e; omega)).set (T' := w.heap.size + 1 + 1) (o := 5) (u := .slice (some ⟨g4, 0, none⟩) (k + 1) cap4) (by omega)
      have HV' := (HV.out.step (by rfl) HPt.out HB3.out (by omega) hown4 hgrow6 hat4).set (T := w.heap.size + 1 + 1) (u := .slice (some ⟨g4, 0, none⟩) (k + 1) cap4) (by omega) (by omega)
      rw [← HLk.out k hlt (by rw [HLl.out]; exact hlt), ← List.take_succ_eq_append_getElem (by rw [HLl.out]; exact hlt)] at HV'
      have hz4 : W3.heap.size + 1 ≤ w4.heap.size := by have := hgrow6.size; simpa using this
      refine ⟨⟨k + 1, _, _, by go_num, by omega, Lib.hid HB', Lib.hid HP', Lib.hid HR', Lib.hid HX', Lib.hid HV', by simp; omega⟩, by simp [intOf]; omega⟩
    · obtain rfl : k = t.fields.length := by omega
      have hv9 := HV.out
      rw [List.take_of_length_le (by rw [HLl.out]; exact Nat.le_refl _)] at hv9
      obtain ⟨a2, c2, rfl, hc1, hc2, hps⟩ := hv9.parts (by omega)
      clear hv9
      have HPS := Lib.hid hps
      obtain ⟨p0, p1, p2, p3, p4, p5⟩ := HX.out.cells
      obtain ⟨r0, r1, r2, r3, r4, r5⟩ := HR.out.cells
      have f0 := HR.out.free 0
      have f1 := HR.out.free 1
      have f2 := HR.out.free 2
      have f3 := HR.out.free 3
      have f4 := HR.out.free 4
      have f5 := HR.out.free 5
      clear hps
      go_wp2_with fail
      obtain ⟨q0, q1, q2, q3, q4, q5⟩ := HR.out.filled (.int .u8 7) (.bool false) (.bool false) (.string ⟨#[]⟩) (.string ⟨#[]⟩) (.slice a2 L.length c2)
      refine bodyPost_ret (by simp [results, Tryz.results52, go_sem, q0, q1, q2, q3, q4, q5]; try rfl) rfl ?_
      have hk : ∀ p : Addr, w.heap.size + 3 ≤ p.block → ∀ W (o : Nat) (u : Value), (World.setCell W ⟨w.heap.size + 1, o, none⟩ u).cell? p = W.cell? p := fun p hp W o u => World.cell?_setCell_other W _ p u (fun e => by have := congrArg Addr.block e; simp only at this; omega)
      refine ⟨a2, c2, rfl, (((((HB.out.setCell (by simp only; omega) _).setCell (by simp only; omega) _).setCell (by simp only; omega) _).setCell (by simp only; omega) _).setCell (by simp only; omega) _).setCell (by simp only; omega) _, ?_⟩
      refine PartAt.shut (show 7 < 256 by decide) (Nat.zero_le _) (Nat.zero_le _) hc1 hc2 (PartsAt.more (S := fun b => w.heap.size + 3 ≤ b ∧ b < wr.heap.size) (fun b hb => ⟨by omega, by simp; exact hb.2⟩) _ _ (PartsAt.keep (fun p hp => ?_) _ _ HPS.out))
      rw [hk p hp.1, hk p hp.1, hk p hp.1, hk p hp.1, hk p hp.1, hk p hp.1]
set_option maxRecDepth 100000 in
theorem refLeast_any (t : FT) : RefLeastAny t := by
  refine FT.all (M := RefLeastAny) (fun t ih => ?_) t
  intro a c w d ahead hg hc hok hf
  obtain ⟨hk1, hk7, _⟩ := odd_kind (FT.good_odd hg)
  by_cases h2 : t.s.kind = 2
  · have h3 := odd_two (FT.good_odd hg) h2
    by_cases hb : t.s.bnd = true
    · exact refLeast_int t a c w h2 (by have := hok.2.2.2.1; unfold maxLen; omega) hb
    · rw [if_neg hb] at h3
      exact refLeast_free t a c w h2 (by simpa using hb) h3.1 h3.2.1
  by_cases h4 : t.s.kind = 4
  · exact refLeast_id t a c w h4
  by_cases h7 : t.s.kind = 7
  · have h1 := FT.count_len t.fields
    have h3 := FT.count_eq t
    exact refLeast_tup t a c w h7 (by omega) hf fun x hx hokx a c w hfx => ih x hx a c w _ _ (FT.good_sub hg hx) (by have := FT.count_mem hx; omega) hokx hfx
  · exact refLeast_flat t a c w (by omega) h2 h4 h7
end Go.Proofs.YtcjllhdbepchnaaGreatDoor
