/-
  ref11.walk: goes through fields; what is wrong, and where.
-/
import Derived.Test.YtcjllhdbepchnaaGreatDoorMZ
import Derived.Test.YtcjllhdbepchnaaGreatDoorMI
import Derived.Test.YtcjllhdbepchnaaGreatDoorMX
import Derived.RangeFuncBox
namespace Go.Proofs.YtcjllhdbepchnaaGreatDoor
open Go.RowKit Go.WideShapes
set_option linter.unusedVariables false
/-- The block of a verdict. -/
def WBox (w : World) (T : Nat) : Prop := w.heap[T]? = some (.cells #[.int .i64 0, .int .i64 0, .slice none 0 0] 47 (0, 0))
section
variable {w w' : World} {T : Nat}
theorem WBox.cells (h : WBox w T) : w.cell? ⟨T, 0, none⟩ = some (.int .i64 0) ∧ w.cell? ⟨T, 1, none⟩ = some (.int .i64 0) ∧ w.cell? ⟨T, 2, none⟩ = some (.slice none 0 0) := by
  simp [World.cell?, show w.heap[T]? = _ from h]
theorem WBox.free (h : WBox w T) (i : Nat) : w.frozen? ⟨T, i, none⟩ = false := by simp [World.frozen?, show w.heap[T]? = _ from h]
theorem WBox.lt (h : WBox w T) : T < w.heap.size := (Array.getElem?_eq_some_iff.1 h).1
theorem WBox.below {B : Nat} (h : WBox w T) (hb : Below B w w') (hT : T < B) : WBox w' T := (hb.block T hT).trans h
theorem WBox.new (w : World) (T : Nat) (hT : T = w.heap.size) : WBox (w.alloc (.cells #[.int .i64 0, .int .i64 0, .slice none 0 0] 47)) T := by subst hT; exact World.alloc_heap_new w _
theorem WBox.grown {vt : Value} {tmp : Obj} (h : WBox w T) (hg : (w.alloc tmp).grownBy w' vt.ownBlock) (hne : vt.ownBlock ≠ some T) : WBox w' T := by
  have hl : T < w.heap.size := (Array.getElem?_eq_some_iff.1 h).1
  refine ((hg.block T (by simp; omega) (fun e => hne e.symm)).trans ?_).trans h
  rw [Below.heap_alloc w tmp T hl]
theorem WBox.filled (h : WBox w T) (x0 x1 x2 : Value) : (w.setCell ⟨T, 0, none⟩ x0).cell? ⟨T, 0, none⟩ = some x0 ∧ ((w.setCell ⟨T, 0, none⟩ x0).setCell ⟨T, 1, none⟩ x1).cell? ⟨T, 1, none⟩ = some x1 ∧ (((w.setCell ⟨T, 0, none⟩ x0).setCell ⟨T, 1, none⟩ x1).setCell ⟨T, 2, none⟩ x2).cell? ⟨T, 2, none⟩ = some x2 := by
  unfold WBox at h
  refine ⟨?_, ?_, ?_⟩ <;> simp only [World.cell?] <;> simp [World.setCell, Array.getElem?_modify, h]
end
/-- A path that lies in memory. -/
def PathAt (W : World) (lo g n cap : Nat) (p : List Nat) : Prop := lo ≤ g ∧ g < W.heap.size ∧ RowAt W W.heap.size (.slice (some ⟨g, 0, none⟩) n cap) (pathVals p)
theorem PathAt.of_own {W : World} {lo g n cap m : Nat} {p : List Nat} {e : TypeId} (h : W.ownsRow lo e 1 (.slice (some ⟨g, 0, none⟩) n cap) m (pathVals p)) (hp : 0 < p.length) : PathAt W lo g n cap p := by
  refine ⟨row_ge h rfl, ?_, RowAt.of_own h⟩
  obtain ⟨A, c, e, _, h2⟩ := RowAt.of_own h
  obtain ⟨b, o, ea, hb, _⟩ := h2 (by rw [pathVals_len]; exact hp)
  rw [ea] at e
  injection e with e1
  injection e1 with e1
  injection e1 with e1
  rw [e1]; exact hb
theorem PathAt.below {W W' : World} {lo g n cap : Nat} {p : List Nat} (h : PathAt W lo g n cap p) (hb : Below W.heap.size W W') : PathAt W' lo g n cap p := ⟨h.1, Nat.lt_of_lt_of_le h.2.1 hb.size, (h.2.2.below hb).more hb.size⟩
theorem PathAt.set {W : World} {lo g n cap T i : Nat} {p : List Nat} (h : PathAt W lo g n cap p) (hT : T < lo) (u : Value) : PathAt (W.setCell ⟨T, i, none⟩ u) lo g n cap p := by
  obtain ⟨h1, h2, A, c, e, hl, h3⟩ := h
  refine ⟨h1, by simpa using h2, A, c, e, hl, fun hp => ?_⟩
  obtain ⟨b, o, ea, hb, hc⟩ := h3 hp
  refine ⟨b, o, ea, by simpa using hb, hc.keep fun q hq => World.cell?_setCell_other W _ q u (fun e2 => ?_)⟩
  rw [ea] at e
  injection e with e1
  injection e1 with e1
  injection e1 with e1
  subst e2
  simp only at hq
  omega
theorem PathAt.mono {W : World} {lo lo' g n cap : Nat} {p : List Nat} (h : PathAt W lo g n cap p) (hl : lo' ≤ lo) : PathAt W lo' g n cap p := ⟨Nat.le_trans hl h.1, h.2⟩
/-- What is told of what is wrong. -/
def WrongV (w : World) (lo : Nat) : Option (Int × List Nat) → Value → Prop
  | none, v => v = .agg #[.int .i64 0, .int .i64 0, .slice none 0 0]
  | some e, v => ∃ g n cap, v = .agg #[.int .i64 e.1, .int .i64 0, .slice (some ⟨g, 0, none⟩) n cap] ∧ PathAt w lo g n cap e.2
/-- What a walk tells. -/
def RWalk (r : Nat × Option (Int × List Nat)) (w : World) (e : Ending) (w' : World) : Prop := ∃ v, e = .returned (.tuple #[.int .i64 r.1, v]) ∧ Below w.heap.size w w' ∧ WrongV w' w.heap.size r.2 v
theorem RWalk.drew {r : Nat × Option (Int × List Nat)} {w w' : World} {e : Ending} (h : RWalk r w e w') : RWalk r w e w'.drew := by
  obtain ⟨v, rfl, hb, hv⟩ := h
  refine ⟨v, rfl, hb.drew, ?_⟩
  obtain ⟨m, r⟩ := r
  cases r with
  | none => exact hv
  | some e =>
    obtain ⟨g, n, cap, rfl, h⟩ := hv
    exact ⟨g, n, cap, rfl, h.below (Below.refl _ _).drew⟩
theorem RWalk.bring {path : List Nat} {n k m m' lo g cap q : Nat} {e : Int × List Nat} {l : List FT} {w w2 : World} (hE : FT.walkL [] path 0 n l = FT.walkL (l.take k) path k m (l.drop k)) (hk : k < l.length) (hw : FT.walk (l.take k) path k m l[k] = (m', some e)) (hb : Below w.heap.size w w2) (ho : PathAt w2 lo g q cap e.2) (hB : w.heap.size < lo) :
    RWalk (FT.walkL [] path 0 n l) w (.returned (.tuple #[.int .i64 m', .agg #[.int .i64 e.1, .int .i64 0, .slice (some ⟨g, 0, none⟩) q cap]])) (((w2.setCell ⟨w.heap.size, 0, none⟩ (.int .i64 e.1)).setCell ⟨w.heap.size, 1, none⟩ (.int .i64 0)).setCell ⟨w.heap.size, 2, none⟩ (.slice (some ⟨g, 0, none⟩) q cap)) := by
  rw [hE, FT.walkL_some hk hw]
  exact ⟨_, rfl, ((hb.setCell (by simp only; omega) _).setCell (by simp only; omega) _).setCell (by simp only; omega) _, _, _, _, rfl, (((ho.set hB _).set hB _).set hB _).mono (by omega)⟩
theorem RWalk.bad {path : List Nat} {n k m lo gg cap : Nat} {code : Int} {l : List FT} {w w2 : World} (hE : FT.walkL [] path 0 n l = FT.walkL (l.take k) path k m (l.drop k)) (hk : k < l.length) (hw : FT.walk (l.take k) path k m l[k] = (m + 1, some (code, path ++ [k]))) (hb : Below w.heap.size w w2) (ho : PathAt w2 lo gg (path.length + 1) cap (path ++ [k])) (hB : w.heap.size < lo) {a : Int} (ha : a = (m : Int) + 1) :
    RWalk (FT.walkL [] path 0 n l) w (.returned (.tuple #[.int .i64 a, .agg #[.int .i64 code, .int .i64 0, .slice (some ⟨gg, 0, none⟩) (path.length + 1) cap]])) (((w2.setCell ⟨w.heap.size, 0, none⟩ (.int .i64 code)).setCell ⟨w.heap.size, 1, none⟩ (.int .i64 0)).setCell ⟨w.heap.size, 2, none⟩ (.slice (some ⟨gg, 0, none⟩) (path.length + 1) cap)) := by
  rw [hE, FT.walkL_some hk hw]
  subst ha
  exact ⟨_, rfl, ((hb.setCell (by simp only; omega) _).setCell (by simp only; omega) _).setCell (by simp only; omega) _, _, _, _, rfl, (((ho.set hB _).set hB _).set hB _).mono (by omega)⟩
theorem fieldCells_inj {t : FT} {a a' : Option Addr} {c c' : Nat} (h : fieldCells t a c = fieldCells t a' c') : a = a' ∧ c = c' := by
  unfold fieldCells at h
  simp only [List.cons.injEq, Value.slice.injEq, true_and, and_true] at h
  exact h
theorem bytes_list {a b : ByteArray} (h : a.toList = b.toList) : a = b := by
  rw [ByteArray.toList_eq, ByteArray.toList_eq] at h
  obtain ⟨⟨a⟩⟩ := a
  obtain ⟨⟨b⟩⟩ := b
  simp only at h
  rw [h]
theorem CellsAt.field {w : World} {b o : Nat} {t : FT} {a : Option Addr} {c : Nat} (h : CellsAt w b o (fieldCells t a c)) :
    w.cell? ⟨b, o, none⟩ = some (.string t.s.name) ∧ w.cell? ⟨b, o + 1, none⟩ = some (.int .u8 t.s.kind) ∧ w.cell? ⟨b, o + 2, none⟩ = some (.bool t.s.down) ∧ w.cell? ⟨b, o + 3, none⟩ = some (.int .u8 t.s.nulls) ∧ w.cell? ⟨b, o + 4, none⟩ = some (.bool t.s.bnd) ∧ w.cell? ⟨b, o + 5, none⟩ = some (.bool t.s.lb) ∧ w.cell? ⟨b, o + 6, none⟩ = some (.string t.s.lm) ∧ w.cell? ⟨b, o + 7, none⟩ = some (.bool t.s.hb) ∧ w.cell? ⟨b, o + 8, none⟩ = some (.string t.s.hm) ∧ w.cell? ⟨b, o + 9, none⟩ = some (.int .i64 t.s.most) ∧ w.cell? ⟨b, o + 10, none⟩ = some (.int .i64 t.s.st) ∧ w.cell? ⟨b, o + 11, none⟩ = some (.bool t.s.sh) ∧ w.cell? ⟨b, o + 12, none⟩ = some (.bool t.s.ba) ∧ w.cell? ⟨b, o + 13, none⟩ = some (.slice a t.fields.length c) :=
  ⟨h 0 _ rfl, h 1 _ rfl, h 2 _ rfl, h 3 _ rfl, h 4 _ rfl, h 5 _ rfl, h 6 _ rfl, h 7 _ rfl, h 8 _ rfl, h 9 _ rfl, h 10 _ rfl, h 11 _ rfl, h 12 _ rfl, h 13 _ rfl⟩
def RefWalk (l : List FT) : Prop := ∀ (a : Option Addr) (c : Nat) (path : List Nat) (vp : Value) (n : Nat) (w : World), FieldsAt w (· < w.heap.size) l a → l.length ≤ c → c ≤ 140737488351232 → path.length ≤ 16 → n ≤ 64 → RowAt w w.heap.size vp (pathVals path) → Calls Tryz.prog 59 #[.slice a l.length c, vp, .int .i64 n] w (RWalk (FT.walkL [] path 0 n l) w)
set_option maxRecDepth 100000 in
set_option maxHeartbeats 4000000 in
theorem refWalk_step (l : List FT) (ih : ∀ x ∈ l, RefWalk x.fields) : RefWalk l := by
  intro a c path vp n w hf hlc hc hpl hn hrow
  obtain ⟨i0, hi, hz0, hz1, hz2⟩ := info_parts int_info
  have HF := Lib.hid hf
  have HR := Lib.hid hrow
  have HB0 := Lib.hid (below_a1 w (.cells #[.int .i64 0, .int .i64 0, .slice none 0 0] 47))
  have HW0 := Lib.hid (WBox.new w w.heap.size rfl)
  have HI := Lib.hid ih
  have HE0 := Lib.hid (show FT.walkL [] path 0 n l = FT.walkL (l.take 0) path 0 n (l.drop 0) by simp)
  clear hf hrow ih
  go_enter Tryz.func59, Tryz.ntmps59
  go_wp2_with fail
  go_loopw [2, 8] (fun sn i wr => ∃ (k m : Nat), sn = .int .i64 m ∧ i = .int .i64 k ∧ k ≤ l.length ∧ m ≤ 64 ∧ Hid (Below w.heap.size w wr) ∧ Hid (WBox wr w.heap.size) ∧ Hid (FT.walkL [] path 0 n l = FT.walkL (l.take k) path k m (l.drop k))) (fun _ i _ => l.length - (intOf i).toNat)
  case atStart => exact ⟨0, n, rfl, rfl, by omega, hn, HB0, HW0, HE0⟩
  case round =>
    clear HB0 HW0 HE0
    obtain ⟨k, m, rfl, rfl, hk, hm, HB, HW, HE⟩ := hrel
    have hwz := HB.out.size
    have hwl := HW.out.lt
    by_cases hlt : k < l.length
    · go_wp2_with fail
      refine (ints_any path vp wr ((HR.out.below HB.out).more hwz) (by omega)).mono ?_
      rintro e w1 ⟨v1, rfl, hb1, ho1⟩
      have HO1 := Lib.hid ho1
      have HB1 := Lib.hid hb1
      have hz1w := hb1.size
      clear ho1 hb1
      have h2c : ∀ (g c2 : Nat) (w2 : World), w2.ownsRow wr.heap.size 3 1 (.slice (some ⟨g, 0, none⟩) (path.length + 1) c2) (path.length + 1) (pathVals path ++ [.int .i64 (k : Int)]) → (w1.alloc (Obj.cells #[.int .i64 (k : Int)] 3)).grownBy w2 v1.ownBlock → Hid (PathAt w2 wr.heap.size g (path.length + 1) c2 (path ++ [k])) ∧ Hid (Below wr.heap.size wr w2) ∧ Hid (WBox w2 w.heap.size) := by
        intro g c2 w2 ho hg
        rw [← pathVals_snoc] at ho
        refine ⟨Lib.hid (PathAt.of_own ho (by simp)), Lib.hid ?_, Lib.hid ?_⟩
        · exact (HB1.out.alloc hz1w _).grown hg (by simp; omega) (fun j ej => by have := row_ge HO1.out ej; omega)
        · exact ((HW.out.below HB1.out (by omega)).grown hg (fun e => by have := row_ge HO1.out e; omega))
      have H2C := Lib.hid h2c
      clear h2c
      by_cases h1 : 64 < m + 1
      · go_wp2_with (at_builtin; refine wpList_append_own _ rfl _ _ 45 rfl wr.heap.size 3 i0 (.int .i64 0) 1 8 Tryz.underlying45 hi hz0 hz1 hz2 rfl (by decide) _ _ _ rfl (HO1.out.alloc _) ⟨w1.heap.size, 0, none⟩ 1 1 [.int .i64 k] rfl rfl (World.news_of_block (cs := #[.int .i64 k]) (t := 3) (fr := (0, 0)) (heap_alloc_new w1 _)) (by simp [Value.oneCell']) (by unfold maxLen; omega) (by omega) (by simp; omega) ?_; intro v2 w2 hown2 hgrow2 hne2; obtain ⟨gg, cap2, rfl⟩ := ownsRow_succ hown2; obtain ⟨HO2, HB2, HW2⟩ := H2C.out _ _ w2 hown2 hgrow2; clear hown2 hgrow2 hne2; obtain ⟨g0, g1, g2⟩ := HW2.out.cells; have f0 := HW2.out.free 0; have f1 := HW2.out.free 1; have f2 := HW2.out.free 2)
        refine bodyPost_ret (by obtain ⟨q0, q1, q2⟩ := HW2.out.filled (.int .i64 116) (.int .i64 0) (.slice (some ⟨gg, 0, none⟩) (path.length + 1) cap2); simp [results, Tryz.results59, go_sem, q0, q1, q2]; try rfl) rfl ?_
        exact RWalk.bad HE.out hlt (by rw [FT.walk_eq, if_pos h1]) (HB.out.trans (HB2.out.mono hwz)) HO2.out hwl (by first | rfl | omega | (push_cast; rfl))
      by_cases h2 : 16 < path.length + 1
      · go_wp2_with (at_builtin; refine wpList_append_own _ rfl _ _ 45 rfl wr.heap.size 3 i0 (.int .i64 0) 1 8 Tryz.underlying45 hi hz0 hz1 hz2 rfl (by decide) _ _ _ rfl (HO1.out.alloc _) ⟨w1.heap.size, 0, none⟩ 1 1 [.int .i64 k] rfl rfl (World.news_of_block (cs := #[.int .i64 k]) (t := 3) (fr := (0, 0)) (heap_alloc_new w1 _)) (by simp [Value.oneCell']) (by unfold maxLen; omega) (by omega) (by simp; omega) ?_; intro v2 w2 hown2 hgrow2 hne2; obtain ⟨gg, cap2, rfl⟩ := ownsRow_succ hown2; obtain ⟨HO2, HB2, HW2⟩ := H2C.out _ _ w2 hown2 hgrow2; clear hown2 hgrow2 hne2; obtain ⟨g0, g1, g2⟩ := HW2.out.cells; have f0 := HW2.out.free 0; have f1 := HW2.out.free 1; have f2 := HW2.out.free 2)
        refine bodyPost_ret (by obtain ⟨q0, q1, q2⟩ := HW2.out.filled (.int .i64 114) (.int .i64 0) (.slice (some ⟨gg, 0, none⟩) (path.length + 1) cap2); simp [results, Tryz.results59, go_sem, q0, q1, q2]; try rfl) rfl ?_
        exact RWalk.bad HE.out hlt (by rw [FT.walk_eq, if_neg h1, if_pos h2]) (HB.out.trans (HB2.out.mono hwz)) HO2.out hwl (by first | rfl | omega | (push_cast; rfl))
      · go_wp2_with (at_builtin; refine wpList_append_own _ rfl _ _ 45 rfl wr.heap.size 3 i0 (.int .i64 0) 1 8 Tryz.underlying45 hi hz0 hz1 hz2 rfl (by decide) _ _ _ rfl (HO1.out.alloc _) ⟨w1.heap.size, 0, none⟩ 1 1 [.int .i64 k] rfl rfl (World.news_of_block (cs := #[.int .i64 k]) (t := 3) (fr := (0, 0)) (heap_alloc_new w1 _)) (by simp [Value.oneCell']) (by unfold maxLen; omega) (by omega) (by simp; omega) ?_; intro v2 w2 hown2 hgrow2 hne2; obtain ⟨gg, cap2, rfl⟩ := ownsRow_succ hown2; obtain ⟨HO2, HB2, HW2⟩ := H2C.out _ _ w2 hown2 hgrow2; clear hown2 hgrow2 hne2; obtain ⟨b, o, a3, c3, rfl, hb3, hc3, hf3⟩ := (HF.out.below (HB.out.trans (HB2.out.mono hwz))).get hlt; have HF3 := Lib.hid hf3; obtain ⟨k0, k1, k2, k3, k4, k5, k6, k7, k8, k9, k10, k11, k12, k13⟩ := hc3.field; clear hf3 hc3)
        obtain ⟨W3, hW3⟩ : ∃ W3, W3 = w2.alloc (Obj.cells #[.string l[k].s.name, .int .u8 l[k].s.kind, .bool l[k].s.down, .int .u8 l[k].s.nulls, .bool l[k].s.bnd, .bool l[k].s.lb, .string l[k].s.lm, .bool l[k].s.hb, .string l[k].s.hm, .int .i64 l[k].s.most, .int .i64 l[k].s.st, .bool l[k].s.sh, .bool l[k].s.ba, .slice a3 l[k].fields.length c3] 57) := ⟨_, rfl⟩
        rw [← hW3]
        have hb23 : Below w2.heap.size w2 W3 := by rw [hW3]; exact below_a1 _ _
        have hbx3 : FBox W3 w2.heap.size #[.string l[k].s.name, .int .u8 l[k].s.kind, .bool l[k].s.down, .int .u8 l[k].s.nulls, .bool l[k].s.bnd, .bool l[k].s.lb, .string l[k].s.lm, .bool l[k].s.hb, .string l[k].s.hm, .int .i64 l[k].s.most, .int .i64 l[k].s.st, .bool l[k].s.sh, .bool l[k].s.ba, .slice a3 l[k].fields.length c3] := by rw [hW3]; exact FBox.new _ _
        have hz3 : W3.heap.size = w2.heap.size + 1 := by rw [hW3]; simp
        have hz2w := HB2.out.size
        have HOK := Lib.hid HF3.out.open
        obtain ⟨a', c', ee, hok3, hl3, hc3', hff⟩ := HF3.out.open
        obtain ⟨rfl, rfl⟩ : a3 = a' ∧ c3 = c' := fieldCells_inj ee
        have HFF := Lib.hid hff
        clear hff ee
        refine (refName_any l[k].s.name W3 (by obtain ⟨_, _, _, h, _⟩ := HOK.out; exact h.1)).mono ?_
        rintro e w4 ⟨rfl, hb4⟩
        have hz4 := hb4.size
        have HB24 := Lib.hid (hb23.trans (hb4.mono (by omega)))
        have HB4 := Lib.hid (HB2.out.trans (HB24.out.mono hz2w))
        have HW4 := Lib.hid (HW2.out.below HB24.out (by omega))
        have HO4 := Lib.hid (HO2.out.below HB24.out)
        have HX4 := Lib.hid (hbx3.below hb4 (by omega))
        clear hb4 hb23 hbx3 hW3 HW2 HO2 k0 k1 k2 k3 k4 k5 k6 k7 k8 k9 k10 k11 k12 k13
        have h2s : w2.heap.size < w4.heap.size := by omega
        by_cases hnm : nameOk l[k].s.name = true
        · rw [hnm]
          have HB5 := Lib.hid (Below.refl w4.heap.size w4)
          have HN5 := Lib.hid (show ∀ i (hi : i < 0), (l[i]'(by omega)).s.name ≠ l[k].s.name from fun i hi => absurd hi (Nat.not_lt_zero i))
          go_wp2_with fail
          go_loopw [12] (fun i wr2 => ∃ (j : Nat) (hj : j ≤ k), i = .int .i64 j ∧ Hid (Below w4.heap.size w4 wr2) ∧ Hid (∀ i (hi : i < j), (l[i]'(by omega)).s.name ≠ l[k].s.name)) (fun i _ => k - (intOf i).toNat)
          case atStart => exact ⟨0, Nat.zero_le _, rfl, HB5, HN5⟩
          case round =>
            clear HB5 HN5
            obtain ⟨j, hj, rfl, HB5, HN5⟩ := hrel
            by_cases hjk : j < k
            · obtain ⟨bj, oj, aj, cj, ej, hbj, hcj, hfj⟩ := (HF.out.below (HB.out.trans ((HB4.out.trans (HB5.out.mono (by omega))).mono hwz))).get (i := j) (by omega)
              obtain ⟨rfl, rfl⟩ : b = bj ∧ o = oj := by simpa using ej
              have kj := hcj.field.1
              have kx := (HX4.out.below HB5.out h2s).cells.1
              clear hcj hfj ej
              have HWx := Lib.hid (HW4.out.below HB5.out (by omega))
              have HOx := Lib.hid (HO4.out.below HB5.out)
              have HBx := Lib.hid (HB4.out.trans (HB5.out.mono (by omega)))
              have hjl : j < l.length := by omega
              have hjI : (j : Int) < (l.length : Int) := by omega
              by_cases hen : l[j].s.name = l[k].s.name
              · have hel : (l[j].s.name.toList == l[k].s.name.toList) = true := by rw [hen]; simp
                obtain ⟨g0, g1, g2⟩ := HWx.out.cells
                have f0 := HWx.out.free 0
                have f1 := HWx.out.free 1
                have f2 := HWx.out.free 2
                have HWd := HWx.out
                have HBd := HBx.out
                have HOd := HOx.out
                have hany : (l.take k).any (fun x => x.s.name == l[k].s.name) = true := (any_take hk).2 ⟨j, hjk, hen⟩
                have HN := Lib.hid hnm
                obtain ⟨g0, g1, g2⟩ := HWd.cells
                have f0 := HWd.free 0
                have f1 := HWd.free 1
                have f2 := HWd.free 2
                go_wp2_with fail
                go_region_law (fail)
                all_goals (
                  go_wp2_with fail
                  refine bodyPost_ret (by obtain ⟨q0, q1, q2⟩ := HWd.filled (.int .i64 112) (.int .i64 0) (.slice (some ⟨gg, 0, none⟩) (path.length + 1) cap2); simp [results, Tryz.results59, go_sem, q0, q1, q2]; try rfl) rfl ?_
                  refine RWalk.drew ?_
                  exact RWalk.bad HE.out hlt (by rw [FT.walk_eq, if_neg h1, if_neg h2, HN.out, if_neg (by simp), if_pos hany]) (HB.out.trans (HBd.mono hwz)) (HOd) hwl (by first | rfl | omega | (push_cast; rfl)))
              · have hel : (l[j].s.name.toList == l[k].s.name.toList) = false := by
                  rw [beq_eq_false_iff_ne]
                  intro h
                  exact hen (bytes_list h)
                have HBd := Lib.hid HB5.out.drew
                have HNd := Lib.hid (show ∀ i (hi : i < j + 1), (l[i]'(by omega)).s.name ≠ l[k].s.name from fun i hi => by
                  by_cases e : i = j
                  · subst e; exact hen
                  · exact HN5.out i (by omega))
                go_wp2_with fail
                go_region_law (fail)
                all_goals (
                  go_wp2_with fail
                  go_roundw
                  case rel => exact ⟨j + 1, by omega, by go_num, HBd, HNd⟩
                  case measure => simp [intOf]; omega)
            · obtain rfl : k = j := by omega
              have HXx := Lib.hid (HX4.out.below HB5.out h2s)
              obtain ⟨x0, x1, x2, x3, x4, x5, x6, x7, x8, x9, x10, x11, x12, x13⟩ := HXx.out.cells
              have HWx := Lib.hid (HW4.out.below HB5.out (by omega))
              have HOx := Lib.hid (HO4.out.below HB5.out)
              have HBx := Lib.hid (HB4.out.trans (HB5.out.mono (by omega)))
              have hz5 := HB5.out.size
              have hany : (l.take k).any (fun x => x.s.name == l[k].s.name) = false := by
                rw [Bool.eq_false_iff]
                intro h
                obtain ⟨i, hi, h⟩ := (any_take hk).1 h
                exact HN5.out i hi h
              have HRO := Lib.hid (fun W => by obtain ⟨_, _, e, h, h2, h3, _⟩ := HOK.out; exact refOdd_any l[k] a3 c3 W h (by omega))
              unfold fieldCells at HRO
              have HB5' := HB5
              clear HX4 HB4 HW4 HO4 HB5 HN5
              go_wp2_with fail
              refine (HRO.out _).mono ?_
              rintro e w6 ⟨rfl, hb6⟩
              have hz6 := hb6.size
              have HX6 := Lib.hid (HXx.out.below hb6 (by omega))
              obtain ⟨y0, y1, y2, y3, y4, y5, y6, y7, y8, y9, y10, y11, y12, y13⟩ := HX6.out.cells
              have HW6 := Lib.hid (HWx.out.below hb6 (by omega))
              have HO6 := Lib.hid (HOx.out.below hb6)
              have HC26 := Lib.hid ((HB24.out.trans (HB5'.out.mono (by omega))).trans (hb6.mono (by omega)))
              have HB6 := Lib.hid (HBx.out.trans (hb6.mono (by omega)))
              clear HXx HWx HOx HBx hb6 HRO x0 x1 x2 x3 x4 x5 x6 x7 x8 x9 x10 x11 x12 x13
              have HN := Lib.hid hnm
              by_cases hod : l[k].odd = true
              · rw [hod]
                obtain ⟨g0, g1, g2⟩ := HW6.out.cells
                have f0 := HW6.out.free 0
                have f1 := HW6.out.free 1
                have f2 := HW6.out.free 2
                go_wp2_with fail
                refine bodyPost_ret (by obtain ⟨q0, q1, q2⟩ := HW6.out.filled (.int .i64 113) (.int .i64 0) (.slice (some ⟨gg, 0, none⟩) (path.length + 1) cap2); simp [results, Tryz.results59, go_sem, q0, q1, q2]; try rfl) rfl ?_
                exact RWalk.bad HE.out hlt (by rw [FT.walk_eq, if_neg h1, if_neg h2, HN.out, if_neg (by simp), hany, if_neg (by simp), if_pos hod]) (HB.out.trans (HB6.out.mono hwz)) HO6.out hwl (by first | rfl | omega | (push_cast; rfl))
              · rw [Bool.not_eq_true] at hod
                rw [hod]
                by_cases he7 : l[k].s.kind = 7 ∧ l[k].fields.length = 0
                · have e1 : ((l[k].s.kind : Int) == 7) = true := by rw [he7.1]; rfl
                  have e2 : ((l[k].fields.length : Int) == 0) = true := by rw [he7.2]; rfl
                  obtain ⟨g0, g1, g2⟩ := HW6.out.cells
                  have f0 := HW6.out.free 0
                  have f1 := HW6.out.free 1
                  have f2 := HW6.out.free 2
                  go_wp2_with fail
                  refine bodyPost_ret (by obtain ⟨q0, q1, q2⟩ := HW6.out.filled (.int .i64 115) (.int .i64 0) (.slice (some ⟨gg, 0, none⟩) (path.length + 1) cap2); simp [results, Tryz.results59, go_sem, q0, q1, q2]; try rfl) rfl ?_
                  exact RWalk.bad HE.out hlt (by rw [FT.walk_eq, if_neg h1, if_neg h2, HN.out, if_neg (by simp), hany, if_neg (by simp), hod, if_neg (by simp), if_pos he7]) (HB.out.trans (HB6.out.mono hwz)) HO6.out hwl (by first | rfl | omega | (push_cast; rfl))
                · have hcall := HI.out l[k] (List.getElem_mem hlt) a3 c3 (path ++ [k]) (.slice (some ⟨gg, 0, none⟩) (path.length + 1) cap2) (m + 1) w6 ((HFF.out.below ((HC26.out).mono (by omega))).wide (by omega)) hl3 hc3' (by simp; omega) (by omega) HO6.out.2.2
                  rw [show ((m + 1 : Nat) : Int) = (m : Int) + 1 by omega] at hcall
                  have HCA := Lib.hid hcall
                  have htold := FT.walkL_told [] (path ++ [k]) 0 (m + 1) (by simp; omega) (by omega) l[k].fields
                  have hwk : FT.walk (l.take k) path k m l[k] = FT.walkL [] (path ++ [k]) 0 (m + 1) l[k].fields := by
                    rw [FT.walk_eq, if_neg h1, if_neg h2, HN.out, if_neg (by simp), hany, if_neg (by simp), hod, if_neg (by simp), if_neg he7]
                  obtain ⟨r, hr⟩ : ∃ r, r = FT.walkL [] (path ++ [k]) 0 (m + 1) l[k].fields := ⟨_, rfl⟩
                  obtain ⟨m', r⟩ := r
                  have HWK := Lib.hid (hwk.trans hr.symm)
                  have HRR := Lib.hid hr
                  rw [← hr] at htold
                  have HT := Lib.hid htold
                  clear hcall htold hwk hr
                  go_wp2_with fail
                  all_goals (
                    refine HCA.out.mono ?_
                    rintro e w7 ⟨v, rfl, hb7, hwv⟩
                    rw [← HRR.out] at hwv
                    rw [← HRR.out]
                    have hz7 := hb7.size
                    have HW7 := Lib.hid (HW6.out.below hb7 (by omega))
                    have HB7 := Lib.hid (HB6.out.trans (hb7.mono (by omega)))
                    clear hb7 HCA)
                  all_goals (
                    rcases r with _ | e
                    · obtain rfl := hwv
                      have hle : m' ≤ 64 := HT.out
                      have HB8 := Lib.hid ((HB.out.trans (HB7.out.mono hwz)).alloc (by omega) (Obj.cells #[.int .i64 0, .int .i64 0, .slice none 0 0] 47))
                      have HW8 := Lib.hid (HW7.out.below (below_a1 w7 (Obj.cells #[.int .i64 0, .int .i64 0, .slice none 0 0] 47)) (by omega))
                      have HE8 := Lib.hid (HE.out.trans (FT.walkL_none hlt HWK.out))
                      go_wp2_with fail
                      go_roundw
                      case rel => exact ⟨k + 1, m', rfl, by go_num, by omega, hle, HB8, HW8, HE8⟩
                      case measure => simp [intOf]; omega
                    · obtain ⟨g7, n7, cap7, rfl, ho7⟩ := hwv
                      have HO7 := Lib.hid ho7
                      clear ho7
                      have hcode : (e.1 == (0 : Int)) = false := by have := HT.out.1; rw [beq_eq_false_iff_ne]; omega
                      have hba := below_a1 w7 (Obj.cells #[.int .i64 e.1, .int .i64 0, .slice (some ⟨g7, 0, none⟩) n7 cap7] 47)
                      have hwd := HW7.out.below hba (by omega)
                      have HBd := ((HB.out.trans (HB7.out.mono hwz)).alloc (by omega) (Obj.cells #[.int .i64 e.1, .int .i64 0, .slice (some ⟨g7, 0, none⟩) n7 cap7] 47))
                      have HOd := HO7.out.below hba
                      obtain ⟨g0, g1, g2⟩ := hwd.cells
                      have f0 := hwd.free 0
                      have f1 := hwd.free 1
                      have f2 := hwd.free 2
                      go_wp2_with fail
                      go_region_law (fail)
                      all_goals (
                        go_wp2_with fail
                        refine bodyPost_ret (by obtain ⟨q0, q1, q2⟩ := hwd.filled (.int .i64 e.1) (.int .i64 0) (.slice (some ⟨g7, 0, none⟩) n7 cap7); simp [results, Tryz.results59, go_sem, q0, q1, q2]; try rfl) rfl ?_
                        refine RWalk.drew ?_
                        exact RWalk.bring HE.out hlt HWK.out HBd HOd (by omega)))
        · rw [Bool.not_eq_true] at hnm
          rw [hnm]
          obtain ⟨g0, g1, g2⟩ := HW4.out.cells
          have f0 := HW4.out.free 0
          have f1 := HW4.out.free 1
          have f2 := HW4.out.free 2
          go_wp2_with fail
          refine bodyPost_ret (by obtain ⟨q0, q1, q2⟩ := HW4.out.filled (.int .i64 111) (.int .i64 0) (.slice (some ⟨gg, 0, none⟩) (path.length + 1) cap2); simp [results, Tryz.results59, go_sem, q0, q1, q2]; try rfl) rfl ?_
          exact RWalk.bad HE.out hlt (by rw [FT.walk_eq, if_neg h1, if_neg h2, hnm, if_pos (by rfl)]) (HB.out.trans (HB4.out.mono hwz)) HO4.out hwl (by first | rfl | omega | (push_cast; rfl))
    · obtain rfl : k = l.length := by omega
      obtain ⟨g0, g1, g2⟩ := HW.out.cells
      have f0 := HW.out.free 0
      have f1 := HW.out.free 1
      have f2 := HW.out.free 2
      go_wp2_with fail
      refine bodyPost_ret (by obtain ⟨q0, q1, q2⟩ := HW.out.filled (.int .i64 0) (.int .i64 0) (.slice none 0 0); simp [results, Tryz.results59, go_sem, q0, q1, q2]; try rfl) rfl ?_
      rw [HE.out, FT.walkL_end _ _ _ _ (Nat.le_refl _)]
      exact ⟨.agg #[.int .i64 0, .int .i64 0, .slice none 0 0], rfl, ((HB.out.setCell (by simp only; omega) _).setCell (by simp only; omega) _).setCell (by simp only; omega) _, rfl⟩
theorem refWalk_any (l : List FT) : RefWalk l := refWalk_step l (fun x hx => FT.allL (M := fun t => RefWalk t.fields) (fun t h => refWalk_step t.fields h) l x hx)
end Go.Proofs.YtcjllhdbepchnaaGreatDoor
