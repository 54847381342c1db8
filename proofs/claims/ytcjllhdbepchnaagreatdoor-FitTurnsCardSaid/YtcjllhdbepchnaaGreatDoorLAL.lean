/-
  fit.least: what stands for a field.
-/
import Derived.Test.YtcjllhdbepchnaaGreatDoorLAI
import Derived.Test.YtcjllhdbepchnaaGreatDoorLAJ
import Derived.Test.YtcjllhdbepchnaaGreatDoorLR
import Derived.Test.YtcjllhdbepchnaaGreatDoorLAK
import Derived.Laws.MakeOwn
namespace Go.Proofs.YtcjllhdbepchnaaGreatDoor
open Go.RowKit Go.WideShapes
set_option linter.unusedVariables false
theorem ex_flat {t : PT} {w w' : World} {e : Ending} {a : Option Addr} {c : Nat} (hi : t.items = []) (hk : t.kind < 256) (hm : t.mag.size ≤ maxLen) (hr : t.raw.size ≤ maxLen) (he : e = .returned (.agg #[.int .u8 t.kind, .bool t.yes, .bool t.bel, .string t.mag, .string t.raw, .slice none 0 0])) (hb : Below w.heap.size w w') : TellEx t w e w' := by
  refine ⟨none, 0, by rw [he, hi]; rfl, hb, ?_⟩
  refine PartAt.shut hk hm hr (by rw [hi]; exact Nat.le_refl _) (Nat.zero_le _) (by rw [hi]; trivial)
set_option maxRecDepth 100000 in
set_option maxHeartbeats 1000000 in
theorem least_flat (t : FT) (a : Option Addr) (c : Nat) (w : World) (hk : t.s.kind < 256) (h2 : t.s.kind ≠ 2) (h4 : t.s.kind ≠ 4) (h7 : t.s.kind ≠ 7) :
    Calls Tryz.prog 51 #[.agg #[.string t.s.name, .int .u8 t.s.kind, .bool t.s.down, .int .u8 t.s.nulls, .bool t.s.bnd, .bool t.s.lb, .string t.s.lm, .bool t.s.hb, .string t.s.hm, .int .i64 t.s.most, .int .i64 t.s.st, .bool t.s.sh, .bool t.s.ba, .slice a t.fields.length c]] w (TellEx t.least w) := by
  have HB0 := Lib.hid (fun o o2 o3 => (((Below.refl w.heap.size w).alloc (Nat.le_refl _) o).alloc (by simp : w.heap.size ≤ (w.alloc o).heap.size) o2).alloc (by simp; omega : w.heap.size ≤ ((w.alloc o).alloc o2).heap.size) o3)
  have k2 : ((t.s.kind : Int) == 2) = false := by rw [beq_eq_false_iff_ne]; omega
  have k4 : ((t.s.kind : Int) == 4) = false := by rw [beq_eq_false_iff_ne]; omega
  have k7 : ((t.s.kind : Int) == 7) = false := by rw [beq_eq_false_iff_ne]; omega
  have hl : t.least = .mk t.s.kind false false ⟨#[]⟩ ⟨#[]⟩ [] := by
    rw [FT.least_eq, if_neg h2, if_neg h4, if_neg h7]
    have : (t.s.kind == 2) = false := by rw [beq_eq_false_iff_ne]; exact h2
    rw [this]; rfl
  rw [hl]
  have HK := Lib.hid hk
  clear h2 h4 h7 hl hk
  go_enter Tryz.func51, Tryz.ntmps51
  go_wp2_with fail
  go_returns
  exact ex_flat (a := none) (c := 0) rfl HK.out (Nat.zero_le _) (Nat.zero_le _) rfl (HB0.out _ _ _)
set_option maxRecDepth 100000 in
set_option maxHeartbeats 1000000 in
theorem least_int (t : FT) (a : Option Addr) (c : Nat) (w : World) (h2 : t.s.kind = 2) (hm : t.s.lm.size ≤ maxLen) :
    Calls Tryz.prog 51 #[.agg #[.string t.s.name, .int .u8 t.s.kind, .bool t.s.down, .int .u8 t.s.nulls, .bool t.s.bnd, .bool t.s.lb, .string t.s.lm, .bool t.s.hb, .string t.s.hm, .int .i64 t.s.most, .int .i64 t.s.st, .bool t.s.sh, .bool t.s.ba, .slice a t.fields.length c]] w (TellEx t.least w) := by
  have HB0 := Lib.hid (fun o o2 o3 => (((Below.refl w.heap.size w).alloc (Nat.le_refl _) o).alloc (by simp : w.heap.size ≤ (w.alloc o).heap.size) o2).alloc (by simp; omega : w.heap.size ≤ ((w.alloc o).alloc o2).heap.size) o3)
  have hl : t.least = .mk 2 false t.s.lb t.s.lm ⟨#[]⟩ [] := by
    rw [FT.least_eq, if_pos h2, if_neg (by omega), if_neg (by omega), h2]; rfl
  rw [hl, h2]
  clear h2 hl
  have HM := Lib.hid hm
  clear hm
  go_enter Tryz.func51, Tryz.ntmps51
  go_wp2_with fail
  go_returns
  exact ex_flat (a := none) (c := 0) rfl (show 2 < 256 by omega) HM.out (Nat.zero_le _) rfl (HB0.out _ _ _)
theorem make16 (W : World) : (Instr.makeSlice 153 (.int .i64 16) (.int .i64 16)).run Tryz.prog W = .ok (.slice (some ⟨W.heap.size, 0, none⟩) 16 16) (W.alloc (.cells (madeCells #[Value.int .u8 0] 16) 5)) := by
  obtain ⟨i0, hi, hz0, hz1, hz2⟩ := info_parts u8_info
  have h := run_makeSlice (P := Tryz.prog) (w := W) 153 5 i0 (.int .u8 0) Tryz.underlying153 hi hz0 .i64 .i64 16 16 (by omega) (by omega) (by rw [hz1]; decide) (by rw [hz2]; decide) (by omega)
  rw [hz1] at h
  exact h
theorem string16 (W : World) (g : Nat) (hg : g = W.heap.size) : (convert 153 9 (.slice (some ⟨g, 0, none⟩) 16 16)).run Tryz.prog (W.alloc (.cells (madeCells #[Value.int .u8 0] 16) 5)) = .ok (.string zero16) (W.alloc (.cells (madeCells #[Value.int .u8 0] 16) 5)) := by
  subst hg
  obtain ⟨W', h⟩ : ∃ W', W' = W.alloc (.cells (madeCells #[Value.int .u8 0] 16) 5) := ⟨_, rfl⟩
  rw [← h]
  have hn := World.alloc_heap_new W (.cells (madeCells #[Value.int .u8 0] 16) 5)
  rw [← h] at hn
  refine run_string_row (B := W'.heap.size) (bs := List.replicate 16 0) ⟨some ⟨W.heap.size, 0, none⟩, 16, rfl, by decide, fun _ => ⟨W.heap.size, 0, rfl, by rw [h]; simp, fun j u hu => ?_⟩⟩
  have hj : j < 16 := (List.getElem?_eq_some_iff.1 hu).1
  have h9 : u = .int .u8 0 := by
    have h8 := List.mem_of_getElem? hu
    simp [u8s] at h8
    exact h8
  subst h9
  unfold World.cell?
  simp only [hn]
  show (madeCells #[Value.int .u8 0] 16)[0 + j]? = _
  simp [madeCells, hj, Nat.mod_one]
set_option maxRecDepth 100000 in
set_option maxHeartbeats 1000000 in
theorem least_id (t : FT) (a : Option Addr) (c : Nat) (w : World) (h4 : t.s.kind = 4) :
    Calls Tryz.prog 51 #[.agg #[.string t.s.name, .int .u8 t.s.kind, .bool t.s.down, .int .u8 t.s.nulls, .bool t.s.bnd, .bool t.s.lb, .string t.s.lm, .bool t.s.hb, .string t.s.hm, .int .i64 t.s.most, .int .i64 t.s.st, .bool t.s.sh, .bool t.s.ba, .slice a t.fields.length c]] w (TellEx t.least w) := by
  have HB0 := Lib.hid (fun o o2 o3 => (((Below.refl w.heap.size w).alloc (Nat.le_refl _) o).alloc (by simp : w.heap.size ≤ (w.alloc o).heap.size) o2).alloc (by simp; omega : w.heap.size ≤ ((w.alloc o).alloc o2).heap.size) o3)
  have hl : t.least = .mk 4 false false ⟨#[]⟩ zero16 [] := by
    rw [FT.least_eq, if_neg (by omega), if_pos h4, if_neg (by omega), h4]; rfl
  rw [hl, h4]
  clear h4 hl
  go_enter Tryz.func51, Tryz.ntmps51
  go_wp2_with fail
  rw [make16]
  go_wp2_with fail
  rw [string16 _ _ (by simp)]
  go_wp2_with fail
  go_returns
  exact ex_flat (a := none) (c := 0) rfl (show 4 < 256 by omega) (Nat.zero_le _) (by decide) rfl ((HB0.out _ _ _).alloc (by simp; omega) _)
def LeastAny (t : FT) : Prop := ∀ (a : Option Addr) (c : Nat) (w : World) (d : Nat) (ahead : List FT), FT.good d ahead t = true → t.count ≤ 64 → t.s.ok → FieldsAt w (· < w.heap.size) t.fields a → Calls Tryz.prog 51 #[.agg #[.string t.s.name, .int .u8 t.s.kind, .bool t.s.down, .int .u8 t.s.nulls, .bool t.s.bnd, .bool t.s.lb, .string t.s.lm, .bool t.s.hb, .string t.s.hm, .int .i64 t.s.most, .int .i64 t.s.st, .bool t.s.sh, .bool t.s.ba, .slice a t.fields.length c]] w (TellEx t.least w)
set_option maxRecDepth 100000 in
set_option maxHeartbeats 4000000 in
theorem least_tup (t : FT) (a : Option Addr) (c : Nat) (w : World) (h7 : t.s.kind = 7) (hl64 : t.fields.length ≤ 64) (hf : FieldsAt w (· < w.heap.size) t.fields a)
    (ih : ∀ x ∈ t.fields, x.s.ok → ∀ (a : Option Addr) (c : Nat) (w : World), FieldsAt w (· < w.heap.size) x.fields a → Calls Tryz.prog 51 #[.agg #[.string x.s.name, .int .u8 x.s.kind, .bool x.s.down, .int .u8 x.s.nulls, .bool x.s.bnd, .bool x.s.lb, .string x.s.lm, .bool x.s.hb, .string x.s.hm, .int .i64 x.s.most, .int .i64 x.s.st, .bool x.s.sh, .bool x.s.ba, .slice a x.fields.length c]] w (TellEx x.least w)) :
    Calls Tryz.prog 51 #[.agg #[.string t.s.name, .int .u8 t.s.kind, .bool t.s.down, .int .u8 t.s.nulls, .bool t.s.bnd, .bool t.s.lb, .string t.s.lm, .bool t.s.hb, .string t.s.hm, .int .i64 t.s.most, .int .i64 t.s.st, .bool t.s.sh, .bool t.s.ba, .slice a t.fields.length c]] w (TellEx t.least w) := by
  obtain ⟨i0, hi, hz0, hz1, hz2⟩ := info_parts part_info
  have hl : t.least = .mk 7 false false ⟨#[]⟩ ⟨#[]⟩ (t.fields.map FT.least) := by
    rw [FT.least_eq, if_neg (by omega), if_neg (by omega), if_pos h7, h7, FT.leastL_map]; rfl
  obtain ⟨L, hL⟩ : ∃ L, L = t.fields.map FT.least := ⟨_, rfl⟩
  rw [← hL] at hl
  have HLl := Lib.hid (show L.length = t.fields.length by rw [hL, List.length_map])
  have HLk := Lib.hid (show ∀ k (h : k < t.fields.length) (h' : k < L.length), L[k] = t.fields[k].least from fun k h h' => by simp [hL])
  rw [hl, h7]
  rw [show ((7 : Nat) : Int) = 7 from rfl]
  have HI := Lib.hid hf
  have HIH := Lib.hid ih
  have HB0 := Lib.hid (fun o o2 o3 => (((Below.refl w.heap.size w).alloc (Nat.le_refl _) o).alloc (by simp : w.heap.size ≤ (w.alloc o).heap.size) o2).alloc (by simp; omega : w.heap.size ≤ ((w.alloc o).alloc o2).heap.size) o3)
  have HX0 := Lib.hid (fun o o2 => PBox.new ((w.alloc o).alloc o2) (w.heap.size + 1 + 1) (.slice none 0 0) (by simp))
  have HR0 := Lib.hid (fun o o3 => (RBox.new (w.alloc o) (w.heap.size + 1) (by simp)).below ((Below.refl _ _).alloc (Nat.le_refl _) o3) (by simp : w.heap.size + 1 < ((w.alloc o).alloc _).heap.size))
  have HV0 := Lib.hid (fun W => PRow.start W (w.heap.size + 3) (w.heap.size + 3))
  clear hf ih hl h7 hL
  go_enter Tryz.func51, Tryz.ntmps51
  go_wp2_with fail
  go_loopw [26] (fun i wr => ∃ (k : Nat) (vt : Value) (css : List (List Value)), i = .int .i64 k ∧ k ≤ t.fields.length ∧ Hid (Below w.heap.size w wr) ∧ Hid (RBox wr (w.heap.size + 1)) ∧ Hid (PBox wr (w.heap.size + 1 + 1) vt) ∧ Hid (PRow wr (w.heap.size + 3) (w.heap.size + 3) vt k (L.take k) css) ∧ w.heap.size + 3 ≤ wr.heap.size) (fun i _ => t.fields.length - (intOf i).toNat)
  case atStart => exact ⟨0, _, [], rfl, by omega, Lib.hid (HB0.out _ _ _), Lib.hid (HR0.out _ _), Lib.hid (HX0.out _ _), Lib.hid (HV0.out _), by simp⟩
  case round =>
    clear HB0 HX0 HV0 HR0
    obtain ⟨k, vt, css, rfl, hk, HB, HR, HX, HV, hwz⟩ := hrel
    by_cases hlt : k < t.fields.length
    · obtain ⟨b, o, a3, c3, rfl, hb, hca, hfa⟩ := (HI.out.below HB.out).get hlt
      obtain ⟨k0, k1, k2, k3, k4, k5, k6, k7, k8, k9, k10, k11, k12, k13⟩ := hca.field
      obtain ⟨_, _, ee, hok, hfl0, hfc, hff⟩ := hfa.open
      obtain ⟨rfl, rfl⟩ := fieldCells_inj ee
      obtain ⟨W1, hW1⟩ : ∃ W1, W1 = wr.alloc (.cells #[.string t.fields[k].s.name, .int .u8 t.fields[k].s.kind, .bool t.fields[k].s.down, .int .u8 t.fields[k].s.nulls, .bool t.fields[k].s.bnd, .bool t.fields[k].s.lb, .string t.fields[k].s.lm, .bool t.fields[k].s.hb, .string t.fields[k].s.hm, .int .i64 t.fields[k].s.most, .int .i64 t.fields[k].s.st, .bool t.fields[k].s.sh, .bool t.fields[k].s.ba, .slice a3 t.fields[k].fields.length c3] 57) := ⟨_, rfl⟩
      have hzW : W1.heap.size = wr.heap.size + 1 := by rw [hW1]; simp
      have HBa := Lib.hid (show Below wr.heap.size wr W1 by rw [hW1]; exact below_a1 _ _)
      have HC := Lib.hid (HIH.out t.fields[k] (List.getElem_mem hlt) hok a3 c3 W1.drew ((hff.below (HBa.out.drew.mono (by omega))).wide (by have := HBa.out.size; simp only [World.size_drew]; omega)))
      have HX1 := Lib.hid (HX.out.below HBa.out (by omega))
      have HV1 := Lib.hid (HV.out.below HBa.out)
      have hbc := HX1.out.cell
      have hbf := HX1.out.free
      obtain ⟨x0, x1, x2, x3, x4, x5, x6, x7, x8, x9, x10, x11, x12, x13⟩ := (show FBox W1 wr.heap.size #[.string t.fields[k].s.name, .int .u8 t.fields[k].s.kind, .bool t.fields[k].s.down, .int .u8 t.fields[k].s.nulls, .bool t.fields[k].s.bnd, .bool t.fields[k].s.lb, .string t.fields[k].s.lm, .bool t.fields[k].s.hb, .string t.fields[k].s.hm, .int .i64 t.fields[k].s.most, .int .i64 t.fields[k].s.st, .bool t.fields[k].s.sh, .bool t.fields[k].s.ba, .slice a3 t.fields[k].fields.length c3] by rw [hW1]; exact FBox.new _ _).cells
      clear hff hfa hca ee hok
      have hne : vt.ownBlock ≠ some (w.heap.size + 1 + 1) := fun e => by have := row_ge HV.out.own e; omega
      go_wp2_with fail
      rw [← hW1]
      clear hW1 k0 k1 k2 k3 k4 k5 k6 k7 k8 k9 k10 k11 k12 k13
      have hB1 : Below W1.heap.size W1 W1.drew := (Below.refl _ _).drew
      have HB1 := Lib.hid hB1
      clear hB1
      go_region_law (first
        | (go_simp; go_at_call 51; refine HC.out.mono ?_; rintro e w2 ⟨a2, c2, rfl, hb2, hp2⟩; have HP2 := Lib.hid hp2; clear hp2; have hbr2 := HB1.out.trans (hb2.mono (by simp)); have hzz2 := hbr2.size; have hT2 : w.heap.size + 1 + 1 < w2.heap.size := (by omega); have HV2 := Lib.hid (HV1.out.below hbr2); have HX2 := Lib.hid (HX1.out.below hbr2 (by omega)); have hbc2 := HX2.out.cell)
        | (refine step_append_lies _ (by rfl) _ _ _ (by rfl) (w.heap.size + 3) 30 i0 (.agg #[.int .u8 0, .bool false, .bool false, .string ⟨#[]⟩, .string ⟨#[]⟩, .slice none 0 0]) 6 72 Tryz.underlying28 hi hz0 hz1 hz2 rfl (by omega) vt k css.flatten (by rfl) (HV2.out.own.alloc _) ⟨w2.heap.size, 0, none⟩ 1 1 [.int .u8 t.fields[k].least.kind, .bool t.fields[k].least.yes, .bool t.fields[k].least.bel, .string t.fields[k].least.mag, .string t.fields[k].least.raw, .slice a2 t.fields[k].least.items.length c2] (by rfl) (by rfl) (World.news_of_block (cs := #[.int .u8 t.fields[k].least.kind, .bool t.fields[k].least.yes, .bool t.fields[k].least.bel, .string t.fields[k].least.mag, .string t.fields[k].least.raw, .slice a2 t.fields[k].least.items.length c2]) (t := 30) (fr := (0, 0)) (heap_alloc_new w2 _)) (by simp [Value.oneCell']) (by omega) (by unfold maxLen; omega) (by omega) (by simp; omega) (w2.heap.size + 1) (by simp) ?_; intro g4 cap4 w4 hown4 hgrow4 hat4 hgl4; have HX4 := Lib.hid (HX2.out.grown hgrow4 hne); have hbc4 := HX4.out.cell; have hbf4 := HX4.out.free))
      all_goals (
        have hp2' := PartAt.more (S' := fun b => W1.heap.size ≤ b ∧ b < w2.heap.size) (fun b hb => by have h1 := hb.1; simp at h1; exact ⟨by omega, hb.2⟩) _ _ HP2.out
        have HB' := Lib.hid (((((HB.out.trans ((HBa.out.trans (hbr2.mono (by omega))).mono (by omega))).alloc (by omega) _).grown hgrow4 (by simp; omega) (fun j ej => by have := row_ge HV2.out.own ej; omega)).setCell (p := ⟨w.heap.size + 1 + 1, 5, none⟩) (by simp only; omega) (.slice (some ⟨g4, 0, none⟩) (k + 1) cap4)))
        have HX' := Lib.hid (HX4.out.set (u := .slice (some ⟨g4, 0, none⟩) (k + 1) cap4))
        have HR' := Lib.hid ((((HR.out.below HBa.out (by omega)).below hbr2 (by omega)).grown hgrow4 (fun e => by have := row_ge HV.out.own e; omega)).set (T' := w.heap.size + 1 + 1) (o := 5) (u := .slice (some ⟨g4, 0, none⟩) (k + 1) cap4) (by omega))
        have HV' := Lib.hid ((HV1.out.step (by rfl) hp2' hbr2 (by omega) hown4 hgrow4 (hat4.imp id (fun h => h.trans (by simp)))).set (T := w.heap.size + 1 + 1) (u := .slice (some ⟨g4, 0, none⟩) (k + 1) cap4) (by omega) (by omega))
        rw [← HLk.out k hlt (by rw [HLl.out]; exact hlt), ← List.take_succ_eq_append_getElem (by rw [HLl.out]; exact hlt)] at HV'
        have hz4 : w2.heap.size + 1 ≤ w4.heap.size := by have := hgrow4.size; simpa using this
        clear x0 x1 x2 x3 x4 x5 x6 x7 x8 x9 x10 x11 x12 x13
        go_wp2_with fail
        go_roundw
        case rel => exact ⟨k + 1, _, _, by go_num, by omega, HB', HR', HX', HV', by simp; omega⟩
        case measure => simp [intOf]; omega)
    · obtain rfl : k = t.fields.length := by omega
      have hv9 := HV.out
      rw [List.take_of_length_le (by rw [HLl.out]; exact Nat.le_refl _)] at hv9
      obtain ⟨a2, c2, rfl, hc1, hc2, hps⟩ := hv9.parts (by omega)
      clear hv9
      have HPS := Lib.hid hps
      obtain ⟨p0, p1, p2, p3, p4, p5⟩ := HX.out.cells
      obtain ⟨r0, r1, r2, r3, r4, r5⟩ := HR.out.cells
      have f0 := HR.out.free 0
      have f1 := HR.out.free 1
      have f2 := HR.out.free 2
      have f3 := HR.out.free 3
      have f4 := HR.out.free 4
      have f5 := HR.out.free 5
      clear hps
      go_wp2_with fail
      obtain ⟨q0, q1, q2, q3, q4, q5⟩ := HR.out.filled (.int .u8 7) (.bool false) (.bool false) (.string ⟨#[]⟩) (.string ⟨#[]⟩) (.slice a2 L.length c2)
      refine bodyPost_ret (by simp [results, Tryz.results51, go_sem, q0, q1, q2, q3, q4, q5]; try rfl) rfl ?_
      have hk : ∀ p : Addr, w.heap.size + 3 ≤ p.block → ∀ W (o : Nat) (u : Value), (World.setCell W ⟨w.heap.size + 1, o, none⟩ u).cell? p = W.cell? p := fun p hp W o u => World.cell?_setCell_other W _ p u (fun e => by have := congrArg Addr.block e; simp only at this; omega)
      refine ⟨a2, c2, rfl, (((((HB.out.setCell (by simp only; omega) _).setCell (by simp only; omega) _).setCell (by simp only; omega) _).setCell (by simp only; omega) _).setCell (by simp only; omega) _).setCell (by simp only; omega) _, ?_⟩
      refine PartAt.shut (show 7 < 256 by decide) (Nat.zero_le _) (Nat.zero_le _) hc1 hc2 (PartsAt.more (S := fun b => w.heap.size + 3 ≤ b ∧ b < wr.heap.size) (fun b hb => ⟨by omega, by simp; exact hb.2⟩) _ _ (PartsAt.keep (fun p hp => ?_) _ _ HPS.out))
      rw [hk p hp.1, hk p hp.1, hk p hp.1, hk p hp.1, hk p hp.1, hk p hp.1]
theorem least_any (t : FT) : LeastAny t := by
  refine FT.all (M := LeastAny) (fun t ih => ?_) t
  intro a c w d ahead hg hc hok hf
  obtain ⟨hk1, hk7, _⟩ := odd_kind (FT.good_odd hg)
  by_cases h2 : t.s.kind = 2
  · exact least_int t a c w h2 (by have := hok.2.2.2.1; unfold maxLen; omega)
  by_cases h4 : t.s.kind = 4
  · exact least_id t a c w h4
  by_cases h7 : t.s.kind = 7
  · have h1 := FT.count_len t.fields
    have h3 := FT.count_eq t
    exact least_tup t a c w h7 (by omega) hf fun x hx hokx a c w hfx => ih x hx a c w _ _ (FT.good_sub hg hx) (by have := FT.count_mem hx; omega) hokx hfx
  · exact least_flat t a c w (by omega) h2 h4 h7
end Go.Proofs.YtcjllhdbepchnaaGreatDoor
