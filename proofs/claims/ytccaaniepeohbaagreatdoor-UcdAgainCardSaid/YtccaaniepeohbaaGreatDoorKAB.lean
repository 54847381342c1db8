/-
  The law's heavy and lent: marks in memory of their own, with marked room.
-/
import Derived.Test.YtccaaniepeohbaaGreatDoorKAA
namespace Go.Proofs.YtccaaniepeohbaaGreatDoor
open Go.RowKit Go.WideShapes
set_option linter.unusedVariables false
set_option linter.unusedSimpArgs false
def Modest (l : List MK) : Prop := l.length ≤ 1048576 ∧ ∀ x ∈ l, x.parts.length ≤ 1048576
def HeavyPost (l : List MK) (w : World) (e : Ending) (w' : World) : Prop := ∃ r : Bool, e = .returned (.bool r) ∧ Below w.heap.size w w' ∧ (r = false → Modest l)
set_option maxRecDepth 100000 in
set_option maxHeartbeats 2000000 in
theorem heavy_any (l : List MK) (A : Option Addr) (c : Nat) (w : World) (h : MarksAt w w.heap.size l A) (hlc : l.length ≤ c) (hl : l.length ≤ 140737488351232) :
    Calls Tryz.prog 5 #[.slice A l.length c] w (HeavyPost l w) := by
  have HL := Lib.hid h
  have HB0 := Lib.hid (Below.refl w.heap.size w)
  clear h
  go_enter Tryz.func5, Tryz.ntmps5
  go_wp2_with fail
  go_loop [3, 4] (fun t3 i => ∃ (k n : Nat), t3 = .int .i64 n ∧ i = .int .i64 k ∧ k ≤ l.length ∧ n ≤ 1048576 ∧ k ≤ n ∧ Hid (∀ j (h : j < l.length), j < k → l[j].parts.length ≤ 1048576)) (fun _ i => l.length - (intOf i).toNat)
  case atStart => exact ⟨0, 0, rfl, rfl, by omega, by omega, by omega, Lib.hid (fun j _ h => by omega)⟩
  case round =>
    obtain ⟨k, n, rfl, rfl, hk, hn, hkn, HM⟩ := hrel
    by_cases hlt : k < l.length
    · obtain ⟨b, o, rfl⟩ := HL.out.some_ (by omega)
      obtain ⟨hbl, v1, g1, g2, g3, hent⟩ := HL.out.at_ hlt
      have hltI : (k : Int) < (l.length : Int) := by omega
      obtain ⟨A1, c1, rfl, hc1, hm1, _⟩ := hent
      obtain ⟨P, hP⟩ : ∃ P, P = l[k].parts.length := ⟨_, rfl⟩
      rw [← hP] at hc1 hm1 g3
      have HPE := Lib.hid hP
      clear hP
      by_cases hbig : 1048576 < n + 1 + P
      · have hbI : (1048576 : Int) < (n : Int) + 1 + (P : Int) := by omega
        clear hbig
        go_wp2_with fail
        go_ret
        exact ⟨true, rfl, HB0.out, fun h => by cases h⟩
      · have hbI : ¬ (1048576 : Int) < (n : Int) + 1 + (P : Int) := by omega
        have HM' := Lib.hid (show ∀ j (h : j < l.length), j < k + 1 → l[j].parts.length ≤ 1048576 from fun j h hj => by
          by_cases e : j = k
          · subst e
            rw [← HPE.out]
            omega
          · exact HM.out j h (by omega))
        go_wp2_with fail
        go_round
        case rel => exact ⟨k + 1, n + 1 + P, by congr 1, by go_num, by omega, by omega, by omega, HM'⟩
        case measure => simp [intOf]; omega
    · obtain rfl : k = l.length := by omega
      have HF := Lib.hid (show Modest l from ⟨by omega, fun x hx => by
        obtain ⟨i, hi, rfl⟩ := List.getElem_of_mem hx
        exact HM.out i hi hi⟩)
      clear hlt HM
      go_wp2_with fail
      go_ret
      exact ⟨false, rfl, HB0.out, fun _ => HF.out⟩
/-- A mark lent. -/
def LE (w : World) (N : Nat) (x : MK) (v : Value) : Prop := ∃ gp cp, v = .slice (some ⟨gp, 0, none⟩) x.parts.length cp ∧
  w.ownsRow N 3 1 (.slice (some ⟨gp, 0, none⟩) (x.parts.length + 1) cp) (x.parts.length + 1) (intCells x.parts ++ markP)
def LEs (w : World) (N : Nat) (l : List MK) (k : Nat) (vs : List Value) : Prop := ∀ i (h : i < l.length), i < k → ∃ v, vs[i * 3]? = some (.int .i64 l[i].pt) ∧ vs[i * 3 + 1]? = some (.int .i64 l[i].cls) ∧ vs[i * 3 + 2]? = some v ∧ LE w N l[i] v
section
variable {w w' : World} {N k : Nat} {x : MK} {v1 : Value} {l : List MK} {vs : List Value}
theorem LE.below (h : LE w N x v1) (hb : Below w.heap.size w w') : LE w' N x v1 := by
  obtain ⟨gp, cp, e1, h1⟩ := h
  exact ⟨gp, cp, e1, own_below h1 hb⟩
theorem LE.grown (h : LE w N x v1) {v : Value} {N2 n : Nat} {xs : List Value} (ho : w.ownsRow N2 36 3 v n xs) (hg : w.grownBy w' v.ownBlock) : LE w' N x v1 := by
  obtain ⟨gp, cp, e1, h1⟩ := h
  exact ⟨gp, cp, e1, h1.kept hg (own_apart h1 ho (by decide))⟩
theorem LEs.below (h : LEs w N l k vs) (hb : Below w.heap.size w w') : LEs w' N l k vs := fun i hi hk => by
  obtain ⟨v1, g1, g2, g3, g4⟩ := h i hi hk
  exact ⟨v1, g1, g2, g3, g4.below hb⟩
theorem LEs.grown (h : LEs w N l k vs) {v : Value} {N2 n : Nat} {xs : List Value} (ho : w.ownsRow N2 36 3 v n xs) (hg : w.grownBy w' v.ownBlock) : LEs w' N l k vs := fun i hi hk => by
  obtain ⟨v1, g1, g2, g3, g4⟩ := h i hi hk
  exact ⟨v1, g1, g2, g3, g4.grown ho hg⟩
theorem LEs.snoc (h : LEs w N l k vs) (hv : vs.length = k * 3) (hk : k < l.length) (he : LE w N l[k] v1) : LEs w N l (k + 1) (vs ++ [.int .i64 l[k].pt, .int .i64 l[k].cls, v1]) := fun i hi hik => by
  by_cases e : i = k
  · subst e
    refine ⟨v1, ?_, ?_, ?_, he⟩
    · rw [List.getElem?_append_right (by omega), hv]; simp
    · rw [List.getElem?_append_right (by omega), hv]; simp
    · rw [List.getElem?_append_right (by omega), hv]; simp
  · obtain ⟨u1, g1, g2, g3, g4⟩ := h i hi (by omega)
    exact ⟨u1, by rw [List.getElem?_append_left (by omega)]; exact g1, by rw [List.getElem?_append_left (by omega)]; exact g2, by rw [List.getElem?_append_left (by omega)]; exact g3, g4⟩
theorem LEs.more (h : LEs w N l k vs) (hv : vs.length = k * 3) (us : List Value) : LEs w N l k (vs ++ us) := fun i hi hik => by
  obtain ⟨u1, g1, g2, g3, g4⟩ := h i hi hik
  exact ⟨u1, by rw [List.getElem?_append_left (by omega)]; exact g1, by rw [List.getElem?_append_left (by omega)]; exact g2, by rw [List.getElem?_append_left (by omega)]; exact g3, g4⟩
end
/-- All of them, with one more that marks the room. -/
def LentM (w : World) (N : Nat) (l : List MK) (v : Value) : Prop := ∃ g c vs, v = .slice (some ⟨g, 0, none⟩) l.length c ∧ w.ownsRow N 36 3 (.slice (some ⟨g, 0, none⟩) (l.length + 1) c) (l.length + 1) vs ∧ LEs w N l l.length vs ∧ vs[l.length * 3]? = some (.int .i64 (-77))
def LentPost (l : List MK) (w : World) (e : Ending) (w' : World) : Prop := ∃ v, e = .returned v ∧ Below w.heap.size w w' ∧ LentM w' w.heap.size l v
theorem mark_info : (Tryz.prog.info? 36).map (fun i => (i.zero, i.size, i.bytes)) = some (some (.agg #[.int .i64 0, .int .i64 0, .slice none 0 0]), 3, 40) := by kernel_rfl
set_option maxRecDepth 100000 in
set_option maxHeartbeats 4000000 in
theorem lent_any (l : List MK) (A : Option Addr) (c : Nat) (w : World) (h : MarksAt w w.heap.size l A) (hlc : l.length ≤ c) (hm : Modest l) :
    Calls Tryz.prog 6 #[.slice A l.length c] w (LentPost l w) := by
  have HL := Lib.hid h
  have HB0 := Lib.hid (Below.refl w.heap.size w)
  have HO0 := Lib.hid (World.ownsRow_nil w w.heap.size 36 3)
  have HMo := Lib.hid hm.2
  have hl1 := hm.1
  obtain ⟨i0, hi, hz0, hz1, hz2⟩ := info_parts int_info
  obtain ⟨m0, hm0, hx0, hx1, hx2⟩ := info_parts mark_info
  clear h hm
  go_enter Tryz.func6, Tryz.ntmps6
  go_wp2_with fail
  go_loopw [3, 4] (fun t3 i wr => ∃ (k : Nat) (vt : Value) (vs : List Value), t3 = vt ∧ i = .int .i64 k ∧ k ≤ l.length ∧ Hid (Below w.heap.size w wr) ∧ Hid (wr.ownsRow w.heap.size 36 3 vt k vs) ∧ Hid (LEs wr w.heap.size l k vs)) (fun _ i _ => l.length - (intOf i).toNat)
  case atStart => exact ⟨0, _, [], rfl, rfl, by omega, HB0, HO0, Lib.hid (fun i _ h => by omega)⟩
  case round =>
    clear HB0 HO0
    obtain ⟨k, vt, vs, hvt, rfl, hk, HB, HO, HLe⟩ := hrel
    replace hvt := hvt.symm
    subst hvt
    have hwz := HB.out.size
    by_cases hlt : k < l.length
    · obtain ⟨b, o, rfl⟩ := HL.out.some_ (by omega)
      obtain ⟨hbl, v1, g1, g2, g3, hent⟩ := (HL.out.below HB.out).at_ hlt
      have hltI : (k : Int) < (l.length : Int) := by omega
      have hmo := HMo.out l[k] (List.getElem_mem hlt)
      obtain ⟨A1, c1, rfl, hc1, hm1, hr1⟩ := hent
      obtain ⟨x, hx⟩ : ∃ x, x = l[k] := ⟨_, rfl⟩
      rw [← hx] at hr1 hc1 hm1 g1 g2 g3 hmo
      have HXe := Lib.hid hx
      clear hx
      obtain ⟨W1, hW1⟩ : ∃ W1, W1 = wr.alloc (Obj.cells #[.int .i64 x.pt, .int .i64 x.cls, .slice A1 x.parts.length c1] 36) := ⟨_, rfl⟩
      have hb1 : Below wr.heap.size wr W1 := by rw [hW1]; exact below_a1 _ _
      have HX1 := Lib.hid (show MBox W1 wr.heap.size x.pt x.cls (.slice A1 x.parts.length c1) by rw [hW1]; exact MBox.new _ _ _ _)
      have hz1' : W1.heap.size = wr.heap.size + 1 := by rw [hW1]; simp
      have HR1 := Lib.hid (fun (h0 : 0 < x.parts.length) => (match hr1 h0 with | ⟨b, o, e, hbb, hc⟩ => ⟨b, o, e, hc.keep fun p hp => hb1.cell (by rw [hp]; omega)⟩ : ∃ b o, A1 = some ⟨b, o, none⟩ ∧ CellsAt W1 b o (intCells x.parts)))
      have HBx := Lib.hid hb1
      have HKw := Lib.hid (fun (W : World) (hb : Below wr.heap.size wr W) => (hb.cell (p := ⟨b, o + k * 3 + 2, none⟩) (by simp only; omega)).trans g3)
      have HOn1 := Lib.hid (intCells_one x.parts)
      have hg3 := HKw.out W1 hb1
      go_upto_region 6 with fail
      rw [← hW1]
      clear hr1 hb1 g1 g2 g3 hW1
      go_upto_region 8 with (at_builtin; refine wpList_append_row rfl _ _ 34 rfl W1.heap.size 3 i0 (.int .i64 0) 1 8 Tryz.underlying34 hi hz0 hz1 hz2 rfl (by decide) _ 0 [] rfl (World.ownsRow_nil _ _ _ _) A1 x.parts.length c1 (intCells x.parts) rfl hc1 (by rw [intCells_len, Nat.mul_one]) HR1.out HOn1.out (by unfold maxLen; omega) (by omega) (Nat.le_refl _) ?_; intro vp w1 hown1 hgrow1)
      have HB1 := Lib.hid ((Below.refl W1.heap.size W1).grown hgrow1 (Nat.le_refl _) (fun j ej => by cases ej))
      have HP1 := Lib.hid (show w1.ownsRow W1.heap.size 3 1 vp x.parts.length (intCells x.parts) by have h9 := hown1; rwa [Nat.zero_add, List.nil_append] at h9)
      have hs1 := HB1.out.size
      clear hown1 hgrow1 hg3
      go_upto_region 9 with (at_builtin; refine wpList_append_own _ rfl _ _ 34 rfl W1.heap.size 3 i0 (.int .i64 0) 1 8 Tryz.underlying34 hi hz0 hz1 hz2 rfl (by decide) _ _ _ rfl (HP1.out.alloc _) ⟨w1.heap.size, 0, none⟩ 1 1 [.int .i64 (-77)] rfl rfl (World.news_of_block (cs := #[.int .i64 (-77)]) (t := 3) (fr := (0, 0)) (heap_alloc_new w1 _)) (by simp [Value.oneCell']) (by unfold maxLen; omega) (by omega) (by simp; omega) ?_; intro vp2 w2 hown2 hgrow2 hne2)
      have hgrow2' : (w1.alloc (Obj.cells #[.int .i64 (-77)] 3)).grownBy w2 vp.ownBlock := hgrow2
      have HB2 := Lib.hid ((HB1.out.alloc hs1 (Obj.cells #[.int .i64 (-77)] 3)).grown hgrow2' (by simp; omega) (fun j ej => row_ge HP1.out ej))
      have HP2 := Lib.hid (show w2.ownsRow W1.heap.size 3 1 vp2 (x.parts.length + 1) (intCells x.parts ++ markP) from hown2)
      have hs2 := HB2.out.size
      obtain ⟨gp, cp, rfl, hcp, hgp, hgp2⟩ := row_lit HP2.out
      clear hown2 hgrow2 hne2 hgrow2' HP1 HB1
      have HX2 := Lib.hid (HX1.out.below HB2.out (by omega))
      have hBr := HBx.out.trans (HB2.out.mono (by omega))
      have hg3 := HKw.out w2 hBr
      obtain ⟨x0, x1, x2⟩ := HX2.out.cells
      have f2 : w2.frozen? ⟨wr.heap.size, 2, none⟩ = false := by simp [World.frozen?, show w2.heap[wr.heap.size]? = _ from HX2.out]
      have hcpI : (x.parts.length : Int) ≤ (cp : Int) := by omega
      have hpI : (0 : Int) ≤ (x.parts.length : Int) := by omega
      have HBr := Lib.hid hBr
      clear hBr
      obtain ⟨W3, hW3⟩ : ∃ W3, W3 = w2.setCell ⟨wr.heap.size, 2, none⟩ (.slice (some ⟨gp, 0, none⟩) x.parts.length cp) := ⟨_, rfl⟩
      have HBr3 := Lib.hid (show Below wr.heap.size wr W3 by rw [hW3]; exact HBr.out.setCell (by simp only; omega) _)
      have HX3 := Lib.hid (show MBox W3 wr.heap.size x.pt x.cls (.slice (some ⟨gp, 0, none⟩) x.parts.length cp) by
        rw [hW3]
        have h9 : w2.heap[wr.heap.size]? = _ := HX2.out
        unfold MBox
        simp [World.setCell, Array.getElem?_modify, h9])
      have hne3 : gp ≠ wr.heap.size := by omega
      have HP3 := Lib.hid (show W3.ownsRow W1.heap.size 3 1 (.slice (some ⟨gp, 0, none⟩) (x.parts.length + 1) cp) (x.parts.length + 1) (intCells x.parts ++ markP) by
        rw [hW3]
        exact HP2.out.kept (row := some wr.heap.size) ⟨rfl, rfl, rfl, by simp, fun i _ hi => Below.heap_setCell _ _ _ _ (by simp only; intro e; exact hi (by rw [e]))⟩ (by simp [Value.ownBlock, hne3]))
      go_upto_region 10 with fail
      rw [← hW3]
      have HW3 := Lib.hid hW3
      clear hW3 x0 x1 x2 f2 hg3 HX2 HP2 HB2
      have hs3 := HBr3.out.size
      have HO3 := Lib.hid (own_below HO.out HBr3.out)
      have HLe3 := Lib.hid (HLe.out.below HBr3.out)
      have HBw3 := Lib.hid (HB.out.trans (HBr3.out.mono hwz))
      have hz3 : W1.heap.size ≤ W3.heap.size := by rw [HW3.out]; simpa using hs2
      obtain ⟨x0, x1, x2⟩ := HX3.out.cells
      go_wp2_with (at_builtin; refine wpList_append_own _ rfl _ _ 22 rfl w.heap.size 36 m0 (.agg #[.int .i64 0, .int .i64 0, .slice none 0 0]) 3 40 Tryz.underlying22 hm0 hx0 hx1 hx2 rfl (by decide) _ _ _ rfl (HO3.out.alloc _) ⟨W3.heap.size, 0, none⟩ 1 1 [.int .i64 x.pt, .int .i64 x.cls, .slice (some ⟨gp, 0, none⟩) x.parts.length cp] rfl rfl (World.news_of_block (cs := #[.int .i64 x.pt, .int .i64 x.cls, .slice (some ⟨gp, 0, none⟩) x.parts.length cp]) (t := 36) (fr := (0, 0)) (heap_alloc_new W3 _)) (by simp [Value.oneCell']) (by unfold maxLen; omega) (by omega) (by simp; omega) ?_; intro v5 w5 hown5 hgrow5 hne5)
      have hgrow5' : (W3.alloc (Obj.cells #[.int .i64 x.pt, .int .i64 x.cls, .slice (some ⟨gp, 0, none⟩) x.parts.length cp] 36)).grownBy w5 vt.ownBlock := hgrow5
      have hk4 : Below W3.heap.size W3 (W3.alloc (Obj.cells #[.int .i64 x.pt, .int .i64 x.cls, .slice (some ⟨gp, 0, none⟩) x.parts.length cp] 36)) := below_a1 _ _
      have hsn := (HLe3.out.below hk4).snoc HO3.out.1 hlt (v1 := .slice (some ⟨gp, 0, none⟩) x.parts.length cp) (by rw [← HXe.out]; exact ⟨gp, cp, rfl, own_base (own_below HP3.out hk4) (by omega)⟩)
      rw [← HXe.out] at hsn
      have HL5 := Lib.hid (hsn.grown (own_below HO3.out hk4) hgrow5')
      have HB5 := Lib.hid ((HBw3.out.trans (hk4.mono (by omega))).grown hgrow5' (by simp; omega) (fun j ej => row_ge HO3.out ej))
      have HO5 := Lib.hid hown5
      clear hown5 hgrow5 hne5 hgrow5' hk4 hsn x0 x1 x2
      go_wp2_with fail
      go_roundw
      case rel => exact ⟨k + 1, _, _, rfl, by go_num, by omega, HB5, HO5, HL5⟩
      case measure => simp [intOf]; omega
    · obtain rfl : k = l.length := by omega
      clear hlt
      go_wp2_with (at_builtin; refine wpList_append_own _ rfl _ _ 22 rfl w.heap.size 36 m0 (.agg #[.int .i64 0, .int .i64 0, .slice none 0 0]) 3 40 Tryz.underlying22 hm0 hx0 hx1 hx2 rfl (by decide) _ _ _ rfl (HO.out.alloc _) ⟨wr.heap.size, 0, none⟩ 1 1 [.int .i64 (-77), .int .i64 0, .slice none 0 0] rfl rfl (World.news_of_block (cs := #[.int .i64 (-77), .int .i64 0, .slice none 0 0]) (t := 36) (fr := (0, 0)) (heap_alloc_new wr _)) (by simp [Value.oneCell']) (by unfold maxLen; omega) (by omega) (by simp; omega) ?_; intro v5 w5 hown5 hgrow5 hne5; obtain ⟨g5, c5, rfl, hc5, _, _⟩ := row_lit hown5; have hc5I : (l.length : Int) ≤ (c5 : Int) := by omega)
      have hgrow5' : (wr.alloc (Obj.cells #[.int .i64 (-77), .int .i64 0, .slice none 0 0] 36)).grownBy w5 vt.ownBlock := hgrow5
      have hk4 : Below wr.heap.size wr (wr.alloc (Obj.cells #[.int .i64 (-77), .int .i64 0, .slice none 0 0] 36)) := below_a1 _ _
      have HL5 := Lib.hid (((HLe.out.below hk4).more HO.out.1 [.int .i64 (-77), .int .i64 0, .slice none 0 0]).grown (own_below HO.out hk4) hgrow5')
      have HB5 := Lib.hid ((HB.out.trans (hk4.mono hwz)).grown hgrow5' (by simp; omega) (fun j ej => row_ge HO.out ej))
      have HO5 := Lib.hid hown5
      have HM5 := Lib.hid (show (vs ++ [.int .i64 (-77), .int .i64 0, .slice none 0 0])[l.length * 3]? = some (.int .i64 (-77)) by
        rw [List.getElem?_append_right (by rw [HO.out.1]; omega), HO.out.1]; simp)
      clear hown5 hgrow5 hne5 hgrow5' hk4
      go_wp2_with fail
      go_ret
      exact ⟨_, rfl, HB5.out, g5, c5, _, rfl, HO5.out, HL5.out, HM5.out⟩
end Go.Proofs.YtccaaniepeohbaaGreatDoor
