/-
  ref18.Map: the document's mapping.
-/
import Derived.Test.YtjgicjgpahnmaaaDoorKQ
import Derived.Handy
namespace Go.Proofs.YtjgicjgpahnmaaaDoor
open Go.RowKit Go.WideShapes
set_option linter.unusedVariables false
set_option maxRecDepth 100000 in
set_option maxHeartbeats 8000000 in
theorem ref18_any (t : PT) (l : List (Int × PT)) (A : Option Addr) (C : Nat) (a : Option Addr) (c : Nat) (w : World) (hmay : t.may = true) (hl : SrcsAt w (· < w.heap.size) l A) (hll : l.length ≤ maxLen) (hp : PartAt w (· < w.heap.size) t (partCells t a c)) :
    Calls Tryd.prog 15 #[.slice A l.length C, .agg (partCells t a c).toArray] w (Ref18Post t l w) := by
  unfold maxLen at hll
  obtain ⟨a1, c1, e1, hk, hm, hr, hlc, hcm, hits⟩ := hp.open
  obtain ⟨rfl, rfl⟩ : a1 = a ∧ c1 = c := by simpa [partCells, eq_comm] using e1
  obtain ⟨i0, hi, hz0, hz1, hz2⟩ := info_parts part_info
  have HL := Lib.hid hl
  have HI := Lib.hid hits
  have HMay := Lib.hid hmay
  have HB0 := Lib.hid (fun o o2 o3 => (((Below.refl w.heap.size w).alloc (Nat.le_refl _) o).alloc (by simp : w.heap.size ≤ (w.alloc o).heap.size) o2).alloc (by simp; omega : w.heap.size ≤ ((w.alloc o).alloc o2).heap.size) o3)
  have HP0 := Lib.hid (fun o2 o3 => ((QBox.new w w.heap.size (.int .u8 t.kind) (.bool t.yes) (.bool t.bel) (.string t.mag) (.string t.raw) (.slice a1 t.items.length c1) rfl).below ((Below.refl _ _).alloc (Nat.le_refl _) o2) (by simp)).below ((Below.refl _ _).alloc (Nat.le_refl _) o3) (by simp; omega))
  have HR0 := Lib.hid (fun o o3 => (RBox.new (w.alloc o) (w.heap.size + 1) (by simp)).below ((Below.refl _ _).alloc (Nat.le_refl _) o3) (by simp : w.heap.size + 1 < ((w.alloc o).alloc _).heap.size))
  have HW0 := Lib.hid (fun o o2 => WBox.new ((w.alloc o).alloc o2) (w.heap.size + 1 + 1) (by simp))
  clear hl hits hmay hp e1 hk hm hr hlc hcm
  unfold partCells
  obtain ⟨W1, hW1⟩ : ∃ W1, W1 = ((w.alloc (Obj.cells #[.int .u8 t.kind, .bool t.yes, .bool t.bel, .string t.mag, .string t.raw, .slice a1 t.items.length c1] 30)).alloc (Obj.cells #[.int .u8 0, .bool false, .bool false, .string ⟨#[]⟩, .string ⟨#[]⟩, .slice none 0 0] 30)).alloc (Obj.cells #[.int .i64 0, .int .i64 0, .slice none 0 0] 50) := ⟨_, rfl⟩
  have HB1 := Lib.hid (show Below w.heap.size w W1 by rw [hW1]; exact HB0.out _ _ _)
  have HP1 := Lib.hid (show QBox W1 w.heap.size (.int .u8 t.kind) (.bool t.yes) (.bool t.bel) (.string t.mag) (.string t.raw) (.slice a1 t.items.length c1) by rw [hW1]; exact HP0.out _ _)
  have HR1 := Lib.hid (show RBox W1 (w.heap.size + 1) by rw [hW1]; exact HR0.out _ _)
  have HW1 := Lib.hid (show WBox W1 (w.heap.size + 1 + 1) by rw [hW1]; exact HW0.out _ _)
  have hz1' : W1.heap.size = w.heap.size + 3 := by rw [hW1]; simp
  obtain ⟨p0, p1, p2, p3, p4, p5⟩ := HP1.out.cells
  rw [hW1] at p0 p1 p2 p3 p4 p5
  have HWE := Lib.hid hW1
  clear HP0 HR0 HW0 hW1
  by_cases h7 : t.kind = 7
  · have hb7 : ((t.kind : Int) != 7) = false := by simp [h7]
    have H7 := Lib.hid h7
    clear h7
    by_cases hmany : 1024 < l.length
    · have hmI : (1024 : Int) < (l.length : Int) := by omega
      go_enter Tryd.func15, Tryd.ntmps15
      go_wp2_with fail
      go_returns
      exact ⟨HB0.out _ _ _, .inl ⟨180, 1024, 0, rfl, .inr (.inl ⟨H7.out, by omega, rfl, rfl, rfl⟩)⟩⟩
    · have hmI : ¬ ((1024 : Int) < (l.length : Int)) := by omega
      have HX0 := Lib.hid (QBox.new W1 (w.heap.size + 1 + 1 + 1) (.int .u8 7) (.bool false) (.bool false) (.string ⟨#[]⟩) (.string ⟨#[]⟩) (.slice none 0 0) (by omega))
      have HB2 := Lib.hid (HB1.out.alloc (by omega) (Obj.cells #[.int .u8 7, .bool false, .bool false, .string ⟨#[]⟩, .string ⟨#[]⟩, .slice none 0 0] 30))
      have HA0 := Lib.hid ((Below.refl W1.heap.size W1).alloc (Nat.le_refl _) (Obj.cells #[.int .u8 7, .bool false, .bool false, .string ⟨#[]⟩, .string ⟨#[]⟩, .slice none 0 0] 30))
      have HP2 := Lib.hid (HP1.out.below HA0.out (by omega))
      have HR2 := Lib.hid (HR1.out.below HA0.out (by omega))
      have HW2 := Lib.hid (HW1.out.below HA0.out (by omega))
      have HV0 := Lib.hid (fun W => PRow.start W (w.heap.size + 4) (w.heap.size + 4))
      go_enter Tryd.func15, Tryd.ntmps15
      go_wp2_with fail
      rw [← HWE.out]
      clear p0 p1 p2 p3 p4 p5 HB0 HWE HB1 HP1 HR1 HW1 hb7
      go_loopw [8] (fun i wr => ∃ (k : Nat) (vt : Value) (its : List PT) (css : List (List Value)), i = .int .i64 k ∧ k ≤ l.length ∧ Hid (Below w.heap.size w wr) ∧ Hid (QBox wr w.heap.size (.int .u8 t.kind) (.bool t.yes) (.bool t.bel) (.string t.mag) (.string t.raw) (.slice a1 t.items.length c1)) ∧ Hid (RBox wr (w.heap.size + 1)) ∧ Hid (WBox wr (w.heap.size + 1 + 1)) ∧ Hid (QBox wr (w.heap.size + 1 + 1 + 1) (.int .u8 7) (.bool false) (.bool false) (.string ⟨#[]⟩) (.string ⟨#[]⟩) vt) ∧ Hid (PRow wr (w.heap.size + 4) (w.heap.size + 4) vt k its css) ∧ Hid (∀ i (hi : i < l.length) (hj : i < its.length), pick t l[i] = some its[i]) ∧ w.heap.size + 4 ≤ wr.heap.size) (fun i _ => l.length - (intOf i).toNat)
      case atStart => exact ⟨0, _, [], [], rfl, by omega, HB2, HP2, HR2, HW2, HX0, Lib.hid (HV0.out _), Lib.hid (fun i hi hj => by simp at hj), by simp; omega⟩
      case round =>
        clear HB2 HP2 HR2 HW2 HX0 HV0 HA0 hz1'
        obtain ⟨k, vt, its, css, rfl, hk, HB, HP, HR, HW, HX, HV, HPk, hwz⟩ := hrel
        have p5 := HP.out.cells.2.2.2.2.2
        have hmI' : l.length ≤ 1024 := by omega
        clear hmI hmany
        by_cases hlt : k < l.length
        · obtain ⟨b, o, aa, cc, rfl, hb, k0, k1, k2, k3, k4, k5, k6, hpa⟩ := (HL.out.below HB.out).cells hlt
          have HPA := Lib.hid hpa
          clear hpa
          by_cases hge : (t.items.length : Int) ≤ l[k].1
          · obtain ⟨r0, r1, r2, r3, r4, r5⟩ := HR.out.cells
            obtain ⟨g0, g1, g2⟩ := HW.out.cells
            have f0 := HR.out.free 0
            have f1 := HR.out.free 1
            have f2 := HR.out.free 2
            have f3 := HR.out.free 3
            have f4 := HR.out.free 4
            have f5 := HR.out.free 5
            have h0 := HW.out.free 0
            have h1 := HW.out.free 1
            have h2 := HW.out.free 2
            go_wp2_with fail
            go_region_law (fail)
            all_goals (
              go_wp2_with fail
              obtain ⟨q0, q1, q2, q3, q4, q5⟩ := HR.out.filled (.int .u8 0) (.bool false) (.bool false) (.string ⟨#[]⟩) (.string ⟨#[]⟩) (.slice none 0 0)
              obtain ⟨v0, v1, v2⟩ := ((((((HW.out.set (T' := w.heap.size + 1) (o := 0) (u := .int .u8 0) (by omega)).set (T' := w.heap.size + 1) (o := 1) (u := .bool false) (by omega)).set (T' := w.heap.size + 1) (o := 2) (u := .bool false) (by omega)).set (T' := w.heap.size + 1) (o := 3) (u := .string ⟨#[]⟩) (by omega)).set (T' := w.heap.size + 1) (o := 4) (u := .string ⟨#[]⟩) (by omega)).set (T' := w.heap.size + 1) (o := 5) (u := .slice none 0 0) (by omega)).filled (.int .i64 180) (.int .i64 k) (.slice none 0 0)
              refine bodyPost_ret (by simp [results, Tryd.results15, go_sem, q0, q1, q2, q3, q4, q5, v0, v1, v2]; try rfl) rfl ?_
              exact ⟨((((((((((HB.out.setCell (by simp only; omega) _).setCell (by simp only; omega) _).setCell (by simp only; omega) _).setCell (by simp only; omega) _).setCell (by simp only; omega) _).setCell (by simp only; omega) _).setCell (by simp only; omega) _).setCell (by simp only; omega) _).setCell (by simp only; omega) _)).drew, .inl ⟨180, k, 0, rfl, .inr (.inr ⟨H7.out, hmI', rfl, k, hlt, rfl, fun i hi => by rw [HPk.out i (by omega) (by rw [HV.out.tl]; exact hi)]; rfl, by unfold badOf; rw [if_pos (by omega), if_neg (by omega)]⟩)⟩⟩)
          · by_cases hx0 : 0 ≤ l[k].1
            · have hn : l[k].1.toNat < t.items.length := by omega
              have hxlt : l[k].1 < (t.items.length : Int) := by omega
              have hmi := (PT.may_items HMay.out H7.out).2 _ (List.getElem_mem hn)
              obtain ⟨b2, o2, a2, c2, rfl, hb2, j0, j1, j2, j3, j4, j5, hpb⟩ := (HI.out.below HB.out).cells hn
              have HRc := Lib.hid (fun (W : World) (h : Below wr.heap.size wr W) => copied_any t.items[l[k].1.toNat] a2 c2 W hmi (((hpb.wide (by omega : w.heap.size ≤ wr.heap.size)).below h).wide h.size))
              unfold partCells at HRc
              clear hpb
              have zj0 := (World.cell?_alloc_lt wr (Obj.cells #[.int .u8 0, .bool false, .bool false, .string ⟨#[]⟩, .string ⟨#[]⟩, .slice none 0 0] 30) _ (by simp only; omega)).trans j0
              have zj1 := (World.cell?_alloc_lt wr (Obj.cells #[.int .u8 0, .bool false, .bool false, .string ⟨#[]⟩, .string ⟨#[]⟩, .slice none 0 0] 30) _ (by simp only; omega)).trans j1
              have zj2 := (World.cell?_alloc_lt wr (Obj.cells #[.int .u8 0, .bool false, .bool false, .string ⟨#[]⟩, .string ⟨#[]⟩, .slice none 0 0] 30) _ (by simp only; omega)).trans j2
              have zj3 := (World.cell?_alloc_lt wr (Obj.cells #[.int .u8 0, .bool false, .bool false, .string ⟨#[]⟩, .string ⟨#[]⟩, .slice none 0 0] 30) _ (by simp only; omega)).trans j3
              have zj4 := (World.cell?_alloc_lt wr (Obj.cells #[.int .u8 0, .bool false, .bool false, .string ⟨#[]⟩, .string ⟨#[]⟩, .slice none 0 0] 30) _ (by simp only; omega)).trans j4
              have zj5 := (World.cell?_alloc_lt wr (Obj.cells #[.int .u8 0, .bool false, .bool false, .string ⟨#[]⟩, .string ⟨#[]⟩, .slice none 0 0] 30) _ (by simp only; omega)).trans j5
              have zk0 := (World.cell?_alloc_lt wr (Obj.cells #[.int .u8 0, .bool false, .bool false, .string ⟨#[]⟩, .string ⟨#[]⟩, .slice none 0 0] 30) _ (by simp only; omega)).trans k0
              have zp5 := (World.cell?_alloc_lt wr (Obj.cells #[.int .u8 0, .bool false, .bool false, .string ⟨#[]⟩, .string ⟨#[]⟩, .slice none 0 0] 30) _ (by simp only; omega)).trans p5
              go_wp2_with fail
              go_region_law (fail)
              all_goals go_wp2_with fail
              all_goals go_region_law (go_simp; go_at_call 33; refine (HRc.out _ (by first | exact (Below.refl _ _).drew.drew | exact ((Below.refl _ _).drew.drew.alloc (by simp) _) | exact ((Below.refl _ _).drew.alloc (by simp) _).drew | exact (Below.refl _ _).drew | exact ((Below.refl _ _).drew.alloc (by simp) _) | exact ((Below.refl _ _).alloc (by simp) _).drew)).mono ?_; rintro e w2 ⟨a3, c3, rfl, hb3, hp3⟩; (try (have hRB := (RBox.new wr.drew.drew wr.heap.size rfl).below hb3 (by simp only [World.size_alloc, World.size_drew]; omega); obtain ⟨r0, r1, r2, r3, r4, r5⟩ := hRB.cells; have f0 := hRB.free 0; have f1 := hRB.free 1; have f2 := hRB.free 2; have f3 := hRB.free 3; have f4 := hRB.free 4; have f5 := hRB.free 5; have HRB := Lib.hid hRB; clear hRB)))
              all_goals (
                first
                  | (generalize hW5 : ((((((w2.setCell ⟨wr.heap.size, 0, none⟩ (.int .u8 t.items[l[k].1.toNat].kind)).setCell ⟨wr.heap.size, 1, none⟩ (.bool t.items[l[k].1.toNat].yes)).setCell ⟨wr.heap.size, 2, none⟩ (.bool t.items[l[k].1.toNat].bel)).setCell ⟨wr.heap.size, 3, none⟩ (.string t.items[l[k].1.toNat].mag)).setCell ⟨wr.heap.size, 4, none⟩ (.string t.items[l[k].1.toNat].raw)).setCell ⟨wr.heap.size, 5, none⟩ (.slice a3 t.items[l[k].1.toNat].items.length c3)) = W5
                     have hb5 : Below wr.heap.size wr W5 := by
                       rw [← hW5]
                       have hb9 : Below wr.heap.size wr w2 := by
                         refine Below.trans ?_ (Below.mono hb3 ?_)
                         · go_grown
                         · simp
                       exact ((((((hb9.setCell (by simp only; omega) _).setCell (by simp only; omega) _).setCell (by simp only; omega) _).setCell (by simp only; omega) _).setCell (by simp only; omega) _).setCell (by simp only; omega) _)
                     have HB5 := Lib.hid hb5
                     have HY := Lib.hid (show QBox W5 wr.heap.size (.int .u8 t.items[l[k].1.toNat].kind) (.bool t.items[l[k].1.toNat].yes) (.bool t.items[l[k].1.toNat].bel) (.string t.items[l[k].1.toNat].mag) (.string t.items[l[k].1.toNat].raw) (.slice a3 t.items[l[k].1.toNat].items.length c3) by
                       rw [← hW5]
                       have h9 := HRB.out
                       unfold RBox at h9
                       unfold QBox
                       simp [World.setCell, Array.getElem?_modify, h9])
                     have hpt : PartAt W5 (fun b => wr.heap.size ≤ b ∧ b < W5.heap.size) t.items[l[k].1.toNat] (partCells t.items[l[k].1.toNat] a3 c3) := by
                       rw [← hW5]
                       refine PartAt.more (S := fun b => wr.heap.size + 1 ≤ b ∧ b < w2.heap.size) (fun b hb => ⟨by omega, by simp; exact hb.2⟩) _ _ (PartAt.keep (fun p hp => ?_) _ _ (PartAt.more (S' := fun b => wr.heap.size + 1 ≤ b ∧ b < w2.heap.size) (fun b hb => ⟨by have h1 := hb.1; simp at h1; exact h1, hb.2⟩) _ _ hp3))
                       have hk : ∀ W (o : Nat) (u : Value), (World.setCell W ⟨wr.heap.size, o, none⟩ u).cell? p = W.cell? p := fun W o u => World.cell?_setCell_other W _ p u (fun e => by have := congrArg Addr.block e; simp only at this; have := hp.1; omega)
                       rw [hk, hk, hk, hk, hk, hk]
                     have HPt := Lib.hid hpt
                     clear hW5 hpt hb5)
                  | (generalize hW5 : w2.alloc (Obj.cells #[.int .u8 t.items[l[k].1.toNat].kind, .bool t.items[l[k].1.toNat].yes, .bool t.items[l[k].1.toNat].bel, .string t.items[l[k].1.toNat].mag, .string t.items[l[k].1.toNat].raw, .slice a3 t.items[l[k].1.toNat].items.length c3] 30) = W5
                     have hb2' : Below wr.heap.size wr w2 := by
                       refine Below.trans ?_ (Below.mono hb3 ?_)
                       · go_grown
                       · simp
                     have hb5 : Below wr.heap.size wr W5 := by rw [← hW5]; exact hb2'.alloc hb2'.size _
                     have HB5 := Lib.hid hb5
                     have HY := Lib.hid (show QBox W5 w2.heap.size (.int .u8 t.items[l[k].1.toNat].kind) (.bool t.items[l[k].1.toNat].yes) (.bool t.items[l[k].1.toNat].bel) (.string t.items[l[k].1.toNat].mag) (.string t.items[l[k].1.toNat].raw) (.slice a3 t.items[l[k].1.toNat].items.length c3) by rw [← hW5]; exact QBox.new w2 w2.heap.size _ _ _ _ _ _ rfl)
                     have hpt : PartAt W5 (fun b => wr.heap.size ≤ b ∧ b < W5.heap.size) t.items[l[k].1.toNat] (partCells t.items[l[k].1.toNat] a3 c3) := by
                       rw [← hW5]
                       exact PartAt.more (fun b hb => ⟨by have h1 := hb.1; simp at h1; omega, by have h2 := hb.2; simp; omega⟩) _ _ (PartAt.keep (fun p hp => World.cell?_alloc_lt _ _ _ hp.2) _ _ hp3)
                     have HPt := Lib.hid hpt
                     clear hW5 hpt hb5 hb2')
                clear hb3 hp3 HRc p5 k0 k1 k2 k3 k4 k5 k6 j0 j1 j2 j3 j4 j5 zj0 zj1 zj2 zj3 zj4 zj5 zk0 zp5
                (try clear r0 r1 r2 r3 r4 r5 f0 f1 f2 f3 f4 f5 HRB)
                obtain ⟨y0, y1, y2, y3, y4, y5⟩ := HY.out.cells
                have hzw5 := HB5.out.size
                have HV3 := Lib.hid (HV.out.below HB5.out)
                have HX3 := Lib.hid (HX.out.below HB5.out (by omega))
                have HP3 := Lib.hid (HP.out.below HB5.out (by omega))
                have HR3 := Lib.hid (HR.out.below HB5.out (by omega))
                have HW3 := Lib.hid (HW.out.below HB5.out (by omega))
                have hxc := HX3.out.cells.2.2.2.2.2
                have hxf := HX3.out.free 5
                have hne : vt.ownBlock ≠ some (w.heap.size + 1 + 1 + 1) := fun e => by have := row_ge HV.out.own e; omega
                go_wp2_with (at_builtin; refine wpList_append_lies _ rfl _ _ 28 rfl (w.heap.size + 4) 30 i0 (.agg #[.int .u8 0, .bool false, .bool false, .string ⟨#[]⟩, .string ⟨#[]⟩, .slice none 0 0]) 6 72 Tryd.underlying28 hi hz0 hz1 hz2 rfl (by decide) _ _ _ rfl (HV3.out.own.alloc _) ⟨W5.heap.size, 0, none⟩ 1 1 [.int .u8 t.items[l[k].1.toNat].kind, .bool t.items[l[k].1.toNat].yes, .bool t.items[l[k].1.toNat].bel, .string t.items[l[k].1.toNat].mag, .string t.items[l[k].1.toNat].raw, .slice a3 t.items[l[k].1.toNat].items.length c3] rfl rfl (World.news_of_block (cs := #[.int .u8 t.items[l[k].1.toNat].kind, .bool t.items[l[k].1.toNat].yes, .bool t.items[l[k].1.toNat].bel, .string t.items[l[k].1.toNat].mag, .string t.items[l[k].1.toNat].raw, .slice a3 t.items[l[k].1.toNat].items.length c3]) (t := 30) (fr := (0, 0)) (heap_alloc_new W5 _)) (by simp [Value.oneCell']) (by omega) (by unfold maxLen; omega) (by omega) (by simp; omega) _ rfl ?_; intro g4 cap4 w4 hown4 hgrow4 hat4 hgl4; have hgrow5 : (W5.alloc (Obj.cells #[.int .u8 t.items[l[k].1.toNat].kind, .bool t.items[l[k].1.toNat].yes, .bool t.items[l[k].1.toNat].bel, .string t.items[l[k].1.toNat].mag, .string t.items[l[k].1.toNat].raw, .slice a3 t.items[l[k].1.toNat].items.length c3] 30)).grownBy w4 vt.ownBlock := hgrow4; have HX4 := Lib.hid (HX3.out.grown hgrow5 hne); have hbc4 := HX4.out.cells.2.2.2.2.2; have hbf4 := HX4.out.free 5)
                have hgrow6 : (W5.alloc (Obj.cells #[.int .u8 t.items[l[k].1.toNat].kind, .bool t.items[l[k].1.toNat].yes, .bool t.items[l[k].1.toNat].bel, .string t.items[l[k].1.toNat].mag, .string t.items[l[k].1.toNat].raw, .slice a3 t.items[l[k].1.toNat].items.length c3] 30)).grownBy w4 vt.ownBlock := hgrow4
                have HB' := ((((HB.out.trans (HB5.out.mono (by omega))).alloc (by omega) _).grown hgrow6 (by simp; omega) (fun j ej => by have := row_ge HV3.out.own ej; omega)).setCell (p := ⟨w.heap.size + 1 + 1 + 1, 5, none⟩) (by simp only; omega) (.slice (some ⟨g4, 0, none⟩) (k + 1) cap4))
                have HX' := HX4.out.set5 (.slice (some ⟨g4, 0, none⟩) (k + 1) cap4)
                have HP' := (HP3.out.grown hgrow6 (fun e => by have := row_ge HV3.out.own e; omega)).set (T' := w.heap.size + 1 + 1 + 1) (o := 5) (u := .slice (some ⟨g4, 0, none⟩) (k + 1) cap4) (by omega)
                have HR' := (HR3.out.grown hgrow6 (fun e => by have := row_ge HV3.out.own e; omega)).set (T' := w.heap.size + 1 + 1 + 1) (o := 5) (u := .slice (some ⟨g4, 0, none⟩) (k + 1) cap4) (by omega)
                have HW' := (HW3.out.grown hgrow6 (fun e => by have := row_ge HV3.out.own e; omega)).set (T' := w.heap.size + 1 + 1 + 1) (o := 5) (u := .slice (some ⟨g4, 0, none⟩) (k + 1) cap4) (by omega)
                have HV' := (HV.out.step (by rfl) HPt.out HB5.out (by omega) hown4 hgrow6 hat4).set (T := w.heap.size + 1 + 1 + 1) (u := .slice (some ⟨g4, 0, none⟩) (k + 1) cap4) (by omega) (by omega)
                have hz4 : W5.heap.size + 1 ≤ w4.heap.size := by have := hgrow6.size; simpa using this
                have hpick : pick t l[k] = some t.items[l[k].1.toNat] := by unfold pick; rw [if_pos hx0]; exact List.getElem?_eq_getElem hn
                refine ⟨⟨k + 1, _, its ++ [t.items[l[k].1.toNat]], _, by go_num, by omega, Lib.hid HB', Lib.hid HP', Lib.hid HR', Lib.hid HW', Lib.hid HX', Lib.hid HV', Lib.hid (fun i hi hj => ?_), by simp; omega⟩, by simp [intOf]; omega⟩
                have hlenI := HV.out.tl
                rw [List.length_append, hlenI, List.length_singleton] at hj
                by_cases e : i = k
                · subst e
                  rw [hpick, List.getElem_append_right (by omega)]; simp [hlenI]
                · rw [List.getElem_append_left (by omega)]; exact HPk.out i hi (by omega))
            · have hxlt : l[k].1 < (t.items.length : Int) := by omega
              have hxI : ¬ ((t.items.length : Int) ≤ l[k].1) := hge
              have HX0n := Lib.hid hx0
              have HMk := Lib.hid (refMake_any l[k].2 aa cc wr.drew (((HPA.out.wide (by omega : w.heap.size ≤ wr.heap.size)).below (Below.refl _ _).drew)))
              unfold partCells at HMk
              go_wp2_with fail
              go_region_law (fail)
              all_goals (
                go_wp2_with fail
                refine HMk.out.mono ?_
                rintro e w3 ⟨rfl, hb3⟩
                have hb3' : Below wr.heap.size wr w3 := Below.trans (Below.refl wr.heap.size wr).drew (hb3.mono (by simp only [World.size_drew]; omega))
                have HB3 := Lib.hid (HB.out.trans (hb3'.mono (by omega)))
                have HBr3 := Lib.hid hb3'
                have hz3 := hb3'.size
                have HR3 := Lib.hid (HR.out.below hb3' (by omega))
                have HW3 := Lib.hid (HW.out.below hb3' (by omega))
                have k1' := (hb3'.cell (p := ⟨b, o + k * 7 + 1, none⟩) (by simp only; omega)).trans k1
                have k2' := (hb3'.cell (p := ⟨b, o + k * 7 + 2, none⟩) (by simp only; omega)).trans k2
                have k3' := (hb3'.cell (p := ⟨b, o + k * 7 + 3, none⟩) (by simp only; omega)).trans k3
                have k4' := (hb3'.cell (p := ⟨b, o + k * 7 + 4, none⟩) (by simp only; omega)).trans k4
                have k5' := (hb3'.cell (p := ⟨b, o + k * 7 + 5, none⟩) (by simp only; omega)).trans k5
                have k6' := (hb3'.cell (p := ⟨b, o + k * 7 + 6, none⟩) (by simp only; omega)).trans k6
                have HPA3 := Lib.hid (((HPA.out.below (hb3'.mono (by omega))).wide (by omega : w.heap.size ≤ w3.heap.size)))
                clear hb3 hb3' HMk k0 k1 k2 k3 k4 k5 k6 p5
                by_cases hwhy : l[k].2.why = 0
                · have hw1 : (l[k].2.why == 0) = true := by simp [hwhy]
                  have HWy := Lib.hid hwhy
                  have HDp := Lib.hid (depth09_any l[k].2 aa cc w3 (by have := PT.why_depth hwhy; omega) HPA3.out)
                  unfold partCells at HDp
                  have hw0 := hwhy
                  clear hw1
                  go_wp2_with fail
                  refine HDp.out.mono ?_
                  rintro e w5 ⟨rfl, hb5⟩
                  have hb5' : Below wr.heap.size wr w5 := HBr3.out.trans (hb5.mono hz3)
                  have HBr5 := Lib.hid hb5'
                  have HB6 := Lib.hid (HB.out.trans (hb5'.mono (by omega)))
                  have hz5 := hb5'.size
                  have k1 := (hb5.cell (p := ⟨b, o + k * 7 + 1, none⟩) (by simp only; omega)).trans k1'
                  have k2 := (hb5.cell (p := ⟨b, o + k * 7 + 2, none⟩) (by simp only; omega)).trans k2'
                  have k3 := (hb5.cell (p := ⟨b, o + k * 7 + 3, none⟩) (by simp only; omega)).trans k3'
                  have k4 := (hb5.cell (p := ⟨b, o + k * 7 + 4, none⟩) (by simp only; omega)).trans k4'
                  have k5 := (hb5.cell (p := ⟨b, o + k * 7 + 5, none⟩) (by simp only; omega)).trans k5'
                  have k6 := (hb5.cell (p := ⟨b, o + k * 7 + 6, none⟩) (by simp only; omega)).trans k6'
                  have HR5 := Lib.hid (HR.out.below hb5' (by omega))
                  have HW5 := Lib.hid (HW.out.below hb5' (by omega))
                  have HPA5 := Lib.hid (((HPA.out.below (hb5'.mono (by omega))).wide (by omega : w.heap.size ≤ w5.heap.size)))
                  clear hb5 hb5' HDp k1' k2' k3' k4' k5' k6' HR3 HW3 HB3 HPA3 HBr3 hz3
                  by_cases hd : l[k].2.depth < 16
                  · have hdI : ¬ ((16 : Int) ≤ (l[k].2.depth : Int)) := by omega
                    have HDl := Lib.hid hd
                    have HRc := Lib.hid (copied_any l[k].2 aa cc w5 (PT.why_may HWy.out) HPA5.out)
                    unfold partCells at HRc
                    clear hd
                    go_wp2_with fail
                    refine HRc.out.mono ?_
                    rintro e w2 ⟨a3, c3, rfl, hb2', hp3⟩
                    have hb2r : Below wr.heap.size wr w2 := HBr5.out.trans (hb2'.mono hz5)
                    obtain ⟨W5, hW5⟩ : ∃ W5, W5 = w2.alloc (Obj.cells #[.int .u8 l[k].2.kind, .bool l[k].2.yes, .bool l[k].2.bel, .string l[k].2.mag, .string l[k].2.raw, .slice a3 l[k].2.items.length c3] 30) := ⟨_, rfl⟩
                    have hb5' : Below wr.heap.size wr W5 := by rw [hW5]; exact hb2r.alloc hb2r.size _
                    have hz5' : w2.heap.size + 1 = W5.heap.size := by rw [hW5]; simp
                    have HB5 := Lib.hid hb5'
                    have HY := Lib.hid (show QBox W5 w2.heap.size (.int .u8 l[k].2.kind) (.bool l[k].2.yes) (.bool l[k].2.bel) (.string l[k].2.mag) (.string l[k].2.raw) (.slice a3 l[k].2.items.length c3) by rw [hW5]; exact QBox.new w2 w2.heap.size _ _ _ _ _ _ rfl)
                    have hpt : PartAt W5 (fun b => wr.heap.size ≤ b ∧ b < W5.heap.size) l[k].2 (partCells l[k].2 a3 c3) := by
                      rw [hW5]
                      exact PartAt.more (fun b hb => ⟨by have h1 := hb.1; omega, by have h2 := hb.2; simp; omega⟩) _ _ (PartAt.keep (fun p hp => World.cell?_alloc_lt _ _ _ hp.2) _ _ hp3)
                    have HPt := Lib.hid hpt
                    clear hpt hb5' hb2r hb2' hp3 HRc k1 k2 k3 k4 k5 k6
                    obtain ⟨y0, y1, y2, y3, y4, y5⟩ := HY.out.cells
                    rw [hW5] at y0 y1 y2 y3 y4 y5
                    have hzw5 := HB5.out.size
                    have HV3 := Lib.hid (HV.out.below HB5.out)
                    have HX3 := Lib.hid (HX.out.below HB5.out (by omega))
                    have HP3 := Lib.hid (HP.out.below HB5.out (by omega))
                    have HR3 := Lib.hid (HR.out.below HB5.out (by omega))
                    have HW3 := Lib.hid (HW.out.below HB5.out (by omega))
                    have hxc := HX3.out.cells.2.2.2.2.2
                    have hxf := HX3.out.free 5
                    rw [hW5] at hxc hxf
                    have HWE5 := Lib.hid hW5
                    have HZ5 := Lib.hid hz5'
                    have hzz5 : w2.heap.size < W5.heap.size := by omega
                    clear hW5 hz5'
                    have hne : vt.ownBlock ≠ some (w.heap.size + 1 + 1 + 1) := fun e => by have := row_ge HV.out.own e; omega
                    go_wp2_with (at_builtin; rw [← HWE5.out]; refine wpList_append_lies _ rfl _ _ 28 rfl (w.heap.size + 4) 30 i0 (.agg #[.int .u8 0, .bool false, .bool false, .string ⟨#[]⟩, .string ⟨#[]⟩, .slice none 0 0]) 6 72 Tryd.underlying28 hi hz0 hz1 hz2 rfl (by decide) _ _ _ rfl (HV3.out.own.alloc _) ⟨w2.heap.size + 1, 0, none⟩ 1 1 [.int .u8 l[k].2.kind, .bool l[k].2.yes, .bool l[k].2.bel, .string l[k].2.mag, .string l[k].2.raw, .slice a3 l[k].2.items.length c3] rfl rfl (World.news_of_block (cs := #[.int .u8 l[k].2.kind, .bool l[k].2.yes, .bool l[k].2.bel, .string l[k].2.mag, .string l[k].2.raw, .slice a3 l[k].2.items.length c3]) (t := 30) (fr := (0, 0)) (by rw [HZ5.out]; exact heap_alloc_new W5 _)) (by simp [Value.oneCell']) (by omega) (by unfold maxLen; omega) (by omega) (by simp; omega) _ rfl ?_; intro g4 cap4 w4 hown4 hgrow4 hat4 hgl4; have hgrow5 : (W5.alloc (Obj.cells #[.int .u8 l[k].2.kind, .bool l[k].2.yes, .bool l[k].2.bel, .string l[k].2.mag, .string l[k].2.raw, .slice a3 l[k].2.items.length c3] 30)).grownBy w4 vt.ownBlock := hgrow4; have HX4 := Lib.hid (HX3.out.grown hgrow5 hne); have hbc4 := HX4.out.cells.2.2.2.2.2; have hbf4 := HX4.out.free 5)
                    have hgrow6 : (W5.alloc (Obj.cells #[.int .u8 l[k].2.kind, .bool l[k].2.yes, .bool l[k].2.bel, .string l[k].2.mag, .string l[k].2.raw, .slice a3 l[k].2.items.length c3] 30)).grownBy w4 vt.ownBlock := hgrow4
                    have HB' := ((((HB.out.trans (HB5.out.mono (by omega))).alloc (by omega) _).grown hgrow6 (by simp; omega) (fun j ej => by have := row_ge HV3.out.own ej; omega)).setCell (p := ⟨w.heap.size + 1 + 1 + 1, 5, none⟩) (by simp only; omega) (.slice (some ⟨g4, 0, none⟩) (k + 1) cap4))
                    have HX' := HX4.out.set5 (.slice (some ⟨g4, 0, none⟩) (k + 1) cap4)
                    have HP' := (HP3.out.grown hgrow6 (fun e => by have := row_ge HV3.out.own e; omega)).set (T' := w.heap.size + 1 + 1 + 1) (o := 5) (u := .slice (some ⟨g4, 0, none⟩) (k + 1) cap4) (by omega)
                    have HR' := (HR3.out.grown hgrow6 (fun e => by have := row_ge HV3.out.own e; omega)).set (T' := w.heap.size + 1 + 1 + 1) (o := 5) (u := .slice (some ⟨g4, 0, none⟩) (k + 1) cap4) (by omega)
                    have HW' := (HW3.out.grown hgrow6 (fun e => by have := row_ge HV3.out.own e; omega)).set (T' := w.heap.size + 1 + 1 + 1) (o := 5) (u := .slice (some ⟨g4, 0, none⟩) (k + 1) cap4) (by omega)
                    have HV' := (HV.out.step (by rfl) HPt.out HB5.out (by omega) hown4 hgrow6 hat4).set (T := w.heap.size + 1 + 1 + 1) (u := .slice (some ⟨g4, 0, none⟩) (k + 1) cap4) (by omega) (by omega)
                    have hz4 : W5.heap.size + 1 ≤ w4.heap.size := by have := hgrow6.size; simpa using this
                    have hpick : pick t l[k] = some l[k].2 := by unfold pick; rw [if_neg (by have := HX0n.out; omega)]; exact if_pos ⟨HWy.out, HDl.out⟩
                    refine ⟨⟨k + 1, _, its ++ [l[k].2], _, by go_num, by omega, Lib.hid HB', Lib.hid HP', Lib.hid HR', Lib.hid HW', Lib.hid HX', Lib.hid HV', Lib.hid (fun i hi hj => ?_), by simp; omega⟩, by simp [intOf]; omega⟩
                    have hlenI := HV.out.tl
                    rw [List.length_append, hlenI, List.length_singleton] at hj
                    by_cases e : i = k
                    · subst e
                      rw [hpick, List.getElem_append_right (by omega)]; simp [hlenI]
                    · rw [List.getElem_append_left (by omega)]; exact HPk.out i hi (by omega)
                  · have hdI : ((16 : Int) ≤ (l[k].2.depth : Int)) := by omega
                    have HDl := Lib.hid hd
                    clear hd hx0 hge hwhy hw0
                    obtain ⟨r0, r1, r2, r3, r4, r5⟩ := HR5.out.cells
                    obtain ⟨g0, g1, g2⟩ := HW5.out.cells
                    have f0 := HR5.out.free 0
                    have f1 := HR5.out.free 1
                    have f2 := HR5.out.free 2
                    have f3 := HR5.out.free 3
                    have f4 := HR5.out.free 4
                    have f5 := HR5.out.free 5
                    have e0 := HW5.out.free 0
                    have e1 := HW5.out.free 1
                    have e2 := HW5.out.free 2
                    go_wp2_with fail
                    obtain ⟨q0, q1, q2, q3, q4, q5⟩ := HR5.out.filled (.int .u8 0) (.bool false) (.bool false) (.string ⟨#[]⟩) (.string ⟨#[]⟩) (.slice none 0 0)
                    obtain ⟨v0, v1, v2⟩ := ((((((HW5.out.set (T' := w.heap.size + 1) (o := 0) (u := .int .u8 0) (by omega)).set (T' := w.heap.size + 1) (o := 1) (u := .bool false) (by omega)).set (T' := w.heap.size + 1) (o := 2) (u := .bool false) (by omega)).set (T' := w.heap.size + 1) (o := 3) (u := .string ⟨#[]⟩) (by omega)).set (T' := w.heap.size + 1) (o := 4) (u := .string ⟨#[]⟩) (by omega)).set (T' := w.heap.size + 1) (o := 5) (u := .slice none 0 0) (by omega)).filled (.int .i64 180) (.int .i64 k) (.slice none 0 0)
                    refine bodyPost_ret (by simp [results, Tryd.results15, go_sem, q0, q1, q2, q3, q4, q5, v0, v1, v2]; try rfl) rfl ?_
                    exact ⟨(((((((((HB6.out.setCell (by simp only; omega) _).setCell (by simp only; omega) _).setCell (by simp only; omega) _).setCell (by simp only; omega) _).setCell (by simp only; omega) _).setCell (by simp only; omega) _).setCell (by simp only; omega) _).setCell (by simp only; omega) _).setCell (by simp only; omega) _), .inl ⟨180, k, 91, rfl, .inr (.inr ⟨H7.out, hmI', rfl, k, hlt, rfl, fun i hi => by rw [HPk.out i (by omega) (by rw [HV.out.tl]; exact hi)]; rfl, by unfold badOf; rw [if_neg (by have := HX0n.out; omega), if_neg (fun h => h HWy.out), if_neg HDl.out]⟩)⟩⟩
                · have hw1 : (l[k].2.why == 0) = false := by simp [hwhy]
                  have hw2 : (l[k].2.why != 0) = true := by simp [hwhy]
                  have HWy := Lib.hid hwhy
                  clear hwhy
                  obtain ⟨r0, r1, r2, r3, r4, r5⟩ := HR3.out.cells
                  obtain ⟨g0, g1, g2⟩ := HW3.out.cells
                  have f0 := HR3.out.free 0
                  have f1 := HR3.out.free 1
                  have f2 := HR3.out.free 2
                  have f3 := HR3.out.free 3
                  have f4 := HR3.out.free 4
                  have f5 := HR3.out.free 5
                  have e0 := HW3.out.free 0
                  have e1 := HW3.out.free 1
                  have e2 := HW3.out.free 2
                  go_wp2_with fail
                  obtain ⟨q0, q1, q2, q3, q4, q5⟩ := HR3.out.filled (.int .u8 0) (.bool false) (.bool false) (.string ⟨#[]⟩) (.string ⟨#[]⟩) (.slice none 0 0)
                  obtain ⟨v0, v1, v2⟩ := ((((((HW3.out.set (T' := w.heap.size + 1) (o := 0) (u := .int .u8 0) (by omega)).set (T' := w.heap.size + 1) (o := 1) (u := .bool false) (by omega)).set (T' := w.heap.size + 1) (o := 2) (u := .bool false) (by omega)).set (T' := w.heap.size + 1) (o := 3) (u := .string ⟨#[]⟩) (by omega)).set (T' := w.heap.size + 1) (o := 4) (u := .string ⟨#[]⟩) (by omega)).set (T' := w.heap.size + 1) (o := 5) (u := .slice none 0 0) (by omega)).filled (.int .i64 180) (.int .i64 k) (.slice none 0 0)
                  refine bodyPost_ret (by simp [results, Tryd.results15, go_sem, q0, q1, q2, q3, q4, q5, v0, v1, v2]; try rfl) rfl ?_
                  exact ⟨(((((((((HB3.out.setCell (by simp only; omega) _).setCell (by simp only; omega) _).setCell (by simp only; omega) _).setCell (by simp only; omega) _).setCell (by simp only; omega) _).setCell (by simp only; omega) _).setCell (by simp only; omega) _).setCell (by simp only; omega) _).setCell (by simp only; omega) _), .inl ⟨180, k, l[k].2.why, rfl, .inr (.inr ⟨H7.out, hmI', rfl, k, hlt, rfl, fun i hi => by rw [HPk.out i (by omega) (by rw [HV.out.tl]; exact hi)]; rfl, by unfold badOf; rw [if_neg (by have := HX0n.out; omega), if_pos HWy.out]⟩)⟩⟩)
        · obtain rfl : k = l.length := by omega
          obtain ⟨a2, c2, rfl, hc1, hc2, hps⟩ := HV.out.parts (by omega)
          have HPS := Lib.hid hps
          obtain ⟨y0, y1, y2, y3, y4, y5⟩ := HX.out.cells
          obtain ⟨r0, r1, r2, r3, r4, r5⟩ := HR.out.cells
          obtain ⟨g0, g1, g2⟩ := HW.out.cells
          have f0 := HR.out.free 0
          have f1 := HR.out.free 1
          have f2 := HR.out.free 2
          have f3 := HR.out.free 3
          have f4 := HR.out.free 4
          have f5 := HR.out.free 5
          have e0 := HW.out.free 0
          have e1 := HW.out.free 1
          have e2 := HW.out.free 2
          have HPd := Lib.hid (show Picked t l its from ⟨HV.out.tl, fun i hi hj => HPk.out i hi hj⟩)
          clear hps p5
          go_wp2_with fail
          obtain ⟨q0, q1, q2, q3, q4, q5⟩ := HR.out.filled (.int .u8 7) (.bool false) (.bool false) (.string ⟨#[]⟩) (.string ⟨#[]⟩) (.slice a2 its.length c2)
          obtain ⟨v0, v1, v2⟩ := ((((((HW.out.set (T' := w.heap.size + 1) (o := 0) (u := .int .u8 7) (by omega)).set (T' := w.heap.size + 1) (o := 1) (u := .bool false) (by omega)).set (T' := w.heap.size + 1) (o := 2) (u := .bool false) (by omega)).set (T' := w.heap.size + 1) (o := 3) (u := .string ⟨#[]⟩) (by omega)).set (T' := w.heap.size + 1) (o := 4) (u := .string ⟨#[]⟩) (by omega)).set (T' := w.heap.size + 1) (o := 5) (u := .slice a2 its.length c2) (by omega)).filled (.int .i64 0) (.int .i64 0) (.slice none 0 0)
          refine bodyPost_ret (by simp [results, Tryd.results15, go_sem, q0, q1, q2, q3, q4, q5, v0, v1, v2]; try rfl) rfl ?_
          have hk1 : ∀ p : Addr, w.heap.size + 4 ≤ p.block → ∀ W (o : Nat) (u : Value), (World.setCell W ⟨w.heap.size + 1, o, none⟩ u).cell? p = W.cell? p := fun p hp W o u => World.cell?_setCell_other W _ p u (fun e => by have := congrArg Addr.block e; simp only at this; omega)
          have hk2 : ∀ p : Addr, w.heap.size + 4 ≤ p.block → ∀ W (o : Nat) (u : Value), (World.setCell W ⟨w.heap.size + 1 + 1, o, none⟩ u).cell? p = W.cell? p := fun p hp W o u => World.cell?_setCell_other W _ p u (fun e => by have := congrArg Addr.block e; simp only at this; omega)
          refine ⟨(((((((((HB.out.setCell (by simp only; omega) _).setCell (by simp only; omega) _).setCell (by simp only; omega) _).setCell (by simp only; omega) _).setCell (by simp only; omega) _).setCell (by simp only; omega) _).setCell (by simp only; omega) _).setCell (by simp only; omega) _).setCell (by simp only; omega) _), .inr ⟨H7.out, hmI', its, a2, c2, HPd.out, rfl, ?_⟩⟩
          refine PartAt.shut (show 7 < 256 by decide) (Nat.zero_le _) (Nat.zero_le _) hc1 hc2 (PartsAt.more (S := fun b => w.heap.size + 4 ≤ b ∧ b < wr.heap.size) (fun b hb => ⟨by omega, by simp; exact hb.2⟩) _ _ (PartsAt.keep (fun p hp => ?_) _ _ HPS.out))
          rw [hk2 p hp.1, hk2 p hp.1, hk2 p hp.1, hk1 p hp.1, hk1 p hp.1, hk1 p hp.1, hk1 p hp.1, hk1 p hp.1, hk1 p hp.1]
  · have hb7 : ((t.kind : Int) != 7) = true := by simp; omega
    have H7 := Lib.hid h7
    clear h7
    go_enter Tryd.func15, Tryd.ntmps15
    go_wp2_with fail
    go_returns
    exact ⟨HB0.out _ _ _, .inl ⟨4, 0, 0, rfl, .inl ⟨H7.out, rfl, rfl, rfl⟩⟩⟩
end Go.Proofs.YtjgicjgpahnmaaaDoor
