/-
  The law's heavy and lent: entries in memory of their own, with marked room.
-/
import Derived.Test.YtgddihbbickcmaaGreatDoorKK
namespace Go.Proofs.YtgddihbbickcmaaGreatDoor
open Go.RowKit Go.WideShapes
set_option linter.unusedVariables false
set_option linter.unusedSimpArgs false
def Modest (l : List EN) : Prop := l.length ≤ 1048576 ∧ ∀ x ∈ l, x.pts.length ≤ 1048576 ∧ x.els.length ≤ 1048576
def HeavyPost (l : List EN) (w : World) (e : Ending) (w' : World) : Prop := ∃ r : Bool, e = .returned (.bool r) ∧ Below w.heap.size w w' ∧ (r = false → Modest l)
set_option maxRecDepth 100000 in
set_option maxHeartbeats 2000000 in
theorem heavy_any (l : List EN) (A : Option Addr) (c : Nat) (w : World) (h : EntriesAt w w.heap.size l A) (hlc : l.length ≤ c) (hl : l.length ≤ 140737488351232) :
    Calls Tryz.prog 4 #[.slice A l.length c] w (HeavyPost l w) := by
  have HL := Lib.hid h
  have HB0 := Lib.hid (Below.refl w.heap.size w)
  clear h
  go_enter Tryz.func4, Tryz.ntmps4
  go_wp2_with fail
  go_loopw [3, 4] (fun t3 i wr => ∃ (k n : Nat), t3 = .int .i64 n ∧ i = .int .i64 k ∧ k ≤ l.length ∧ n ≤ 1048576 ∧ k ≤ n ∧ Hid (∀ j (h : j < l.length), j < k → l[j].pts.length ≤ 1048576 ∧ l[j].els.length ≤ 1048576) ∧ Hid (Below w.heap.size w wr)) (fun _ i _ => l.length - (intOf i).toNat)
  case atStart => exact ⟨0, 0, rfl, rfl, by omega, by omega, by omega, Lib.hid (fun j _ h => by omega), HB0⟩
  case round =>
    clear HB0
    obtain ⟨k, n, rfl, rfl, hk, hn, hkn, HM, HB⟩ := hrel
    have hwz := HB.out.size
    by_cases hlt : k < l.length
    · obtain ⟨b, o, rfl⟩ := HL.out.some (by omega)
      obtain ⟨hbl, v1, v2, g1, g2, hent⟩ := (HL.out.below HB.out).at_ hlt
      have hltI : (k : Int) < (l.length : Int) := by omega
      obtain ⟨⟨A1, c1, rfl, hc1, hm1, _⟩, ⟨A2, c2, rfl, hc2, hm2, _⟩⟩ := hent
      have HBq := Lib.hid (fun m => below_nq HB.out m)
      obtain ⟨P, hP⟩ : ∃ P, P = l[k].pts.length := ⟨_, rfl⟩
      obtain ⟨E, hE⟩ : ∃ E, E = l[k].els.length := ⟨_, rfl⟩
      rw [← hP] at hc1 hm1 g1
      rw [← hE] at hc2 hm2 g2
      have HPE := Lib.hid (And.intro hP hE)
      clear hP hE
      go_wp2_with fail
      go_quiet (fail)
      by_cases hbig : 1048576 < n + 1 + P + E
      · have hbI : (1048576 : Int) < (n : Int) + 1 + (P : Int) + (E : Int) := by omega
        clear hbig
        go_wp2_with fail
        go_ret
        exact ⟨true, rfl, HBq.out _, fun h => by cases h⟩
      · have hbI : ¬ (1048576 : Int) < (n : Int) + 1 + (P : Int) + (E : Int) := by omega
        have HM' := Lib.hid (show ∀ j (h : j < l.length), j < k + 1 → l[j].pts.length ≤ 1048576 ∧ l[j].els.length ≤ 1048576 from fun j h hj => by
          by_cases e : j = k
          · subst e
            rw [← HPE.out.1, ← HPE.out.2]
            omega
          · exact HM.out j h (by omega))
        go_wp2_with fail
        go_roundw
        case rel => exact ⟨k + 1, n + 1 + P + E, by congr 1, by go_num, by omega, by omega, by omega, HM', Lib.hid (HBq.out _)⟩
        case measure => simp [intOf]; omega
    · obtain rfl : k = l.length := by omega
      have HF := Lib.hid (show Modest l from ⟨by omega, fun x hx => by
        obtain ⟨i, hi, rfl⟩ := List.getElem_of_mem hx
        exact HM.out i hi hi⟩)
      clear hlt HM
      go_wp2_with fail
      go_ret
      exact ⟨false, rfl, HB.out, fun _ => HF.out⟩
theorem own_apart {w : World} {N1 N2 s1 s2 n1 n2 : Nat} {e1 e2 : TypeId} {v1 v2 : Value} {xs1 xs2 : List Value} (h1 : w.ownsRow N1 e1 s1 v1 n1 xs1) (h2 : w.ownsRow N2 e2 s2 v2 n2 xs2) (hne : e1 ≠ e2) : v1.ownBlock = none ∨ v1.ownBlock ≠ v2.ownBlock := by
  rcases h1.2 with ⟨rfl, _⟩ | ⟨g1, c1, u1, rfl, _, k1, _⟩
  · exact .inl rfl
  · rcases h2.2 with ⟨rfl, _⟩ | ⟨g2, c2, u2, rfl, _, k2, _⟩
    · exact .inr (by simp [Value.ownBlock])
    · refine .inr fun h => hne ?_
      simp only [Value.ownBlock, Option.some.injEq] at h
      subst h
      rw [k1] at k2
      injection k2 with k2
      injection k2 with _ k2
/-- The marks. -/
def markP : List Value := [.int .i64 (-77)]
def markE : List Value := [.bool false, .int .i64 (-77), .int .i64 0, .int .i64 0]
/-- An entry lent. -/
def LE (w : World) (N : Nat) (x : EN) (v1 v2 : Value) : Prop := ∃ gp cp ge ce, v1 = .slice (some ⟨gp, 0, none⟩) x.pts.length cp ∧ v2 = .slice (some ⟨ge, 0, none⟩) x.els.length ce ∧
  w.ownsRow N 3 1 (.slice (some ⟨gp, 0, none⟩) (x.pts.length + 1) cp) (x.pts.length + 1) (intCells x.pts ++ markP) ∧ w.ownsRow N 35 4 (.slice (some ⟨ge, 0, none⟩) (x.els.length + 1) ce) (x.els.length + 1) (elsCells x.els ++ markE)
def LEs (w : World) (N : Nat) (l : List EN) (k : Nat) (vs : List Value) : Prop := ∀ i (h : i < l.length), i < k → ∃ v1 v2, vs[i * 2]? = some v1 ∧ vs[i * 2 + 1]? = some v2 ∧ LE w N l[i] v1 v2
section
variable {w w' : World} {N k : Nat} {x : EN} {v1 v2 : Value} {l : List EN} {vs : List Value}
theorem LE.below (h : LE w N x v1 v2) (hb : Below w.heap.size w w') : LE w' N x v1 v2 := by
  obtain ⟨gp, cp, ge, ce, e1, e2, h1, h2⟩ := h
  exact ⟨gp, cp, ge, ce, e1, e2, own_below h1 hb, own_below h2 hb⟩
theorem LE.grown (h : LE w N x v1 v2) {v : Value} {N2 n : Nat} {xs : List Value} (ho : w.ownsRow N2 33 2 v n xs) (hg : w.grownBy w' v.ownBlock) : LE w' N x v1 v2 := by
  obtain ⟨gp, cp, ge, ce, e1, e2, h1, h2⟩ := h
  exact ⟨gp, cp, ge, ce, e1, e2, h1.kept hg (own_apart h1 ho (by decide)), h2.kept hg (own_apart h2 ho (by decide))⟩
theorem LEs.below (h : LEs w N l k vs) (hb : Below w.heap.size w w') : LEs w' N l k vs := fun i hi hk => by
  obtain ⟨v1, v2, g1, g2, g3⟩ := h i hi hk
  exact ⟨v1, v2, g1, g2, g3.below hb⟩
theorem LEs.grown (h : LEs w N l k vs) {v : Value} {N2 n : Nat} {xs : List Value} (ho : w.ownsRow N2 33 2 v n xs) (hg : w.grownBy w' v.ownBlock) : LEs w' N l k vs := fun i hi hk => by
  obtain ⟨v1, v2, g1, g2, g3⟩ := h i hi hk
  exact ⟨v1, v2, g1, g2, g3.grown ho hg⟩
theorem LEs.snoc (h : LEs w N l k vs) (hv : vs.length = k * 2) (hk : k < l.length) (he : LE w N l[k] v1 v2) : LEs w N l (k + 1) (vs ++ [v1, v2]) := fun i hi hik => by
  by_cases e : i = k
  · subst e
    refine ⟨v1, v2, ?_, ?_, he⟩
    · rw [List.getElem?_append_right (by omega), hv]; simp
    · rw [List.getElem?_append_right (by omega), hv]; simp
  · obtain ⟨u1, u2, g1, g2, g3⟩ := h i hi (by omega)
    exact ⟨u1, u2, by rw [List.getElem?_append_left (by omega)]; exact g1, by rw [List.getElem?_append_left (by omega)]; exact g2, g3⟩
theorem LEs.more (h : LEs w N l k vs) (hv : vs.length = k * 2) (us : List Value) : LEs w N l k (vs ++ us) := fun i hi hik => by
  obtain ⟨u1, u2, g1, g2, g3⟩ := h i hi hik
  exact ⟨u1, u2, by rw [List.getElem?_append_left (by omega)]; exact g1, by rw [List.getElem?_append_left (by omega)]; exact g2, g3⟩
end
/-- All of them, with one more that marks the room. -/
def LentE (w : World) (N : Nat) (l : List EN) (v : Value) : Prop := ∃ g c vs, v = .slice (some ⟨g, 0, none⟩) l.length c ∧ w.ownsRow N 33 2 (.slice (some ⟨g, 0, none⟩) (l.length + 1) c) (l.length + 1) vs ∧ LEs w N l l.length vs ∧ ∃ A cm, vs[l.length * 2]? = some (.slice A 1 cm)
def LentPost (l : List EN) (w : World) (e : Ending) (w' : World) : Prop := ∃ v, e = .returned v ∧ Below w.heap.size w w' ∧ LentE w' w.heap.size l v
theorem row_lit {w : World} {N n size : Nat} {e : TypeId} {v : Value} {xs : List Value} (h : w.ownsRow N e size v (n + 1) xs) : ∃ g c, v = .slice (some ⟨g, 0, none⟩) (n + 1) c ∧ n + 1 ≤ c ∧ N ≤ g ∧ g < w.heap.size := by
  rcases h.2 with ⟨_, h0⟩ | ⟨g, c, cur, rfl, hb, hg, hc, _⟩
  · cases h0
  · exact ⟨g, c, rfl, hc, hb, (Array.getElem?_eq_some_iff.1 hg).1⟩
theorem intCells_len (l : List Int) : (intCells l).length = l.length := by simp [intCells]
theorem elsCells_len : ∀ l : List EL, (elsCells l).length = l.length * 4
  | [] => rfl
  | e :: r => by
    have := elsCells_len r
    unfold elsCells at this ⊢
    rw [List.flatMap_cons, List.length_append, this, List.length_cons]
    simp [EL.cells]
    omega
theorem intCells_one (l : List Int) : ∀ u ∈ intCells l, u.oneCell' = true := by
  intro u hu
  obtain ⟨n, _, rfl⟩ := List.mem_map.1 hu
  rfl
theorem elsCells_one (l : List EL) : ∀ u ∈ elsCells l, u.oneCell' = true := by
  intro u hu
  obtain ⟨e, _, h⟩ := List.mem_flatMap.1 hu
  simp [EL.cells] at h
  rcases h with rfl | rfl | rfl | rfl <;> rfl
theorem int_info : (Tryz.prog.info? 3).map (fun i => (i.zero, i.size, i.bytes)) = some (some (.int .i64 0), 1, 8) := by kernel_rfl
theorem el_info : (Tryz.prog.info? 35).map (fun i => (i.zero, i.size, i.bytes)) = some (some (.agg #[.bool false, .int .i64 0, .int .i64 0, .int .i64 0]), 4, 32) := by kernel_rfl
theorem en_info : (Tryz.prog.info? 33).map (fun i => (i.zero, i.size, i.bytes)) = some (some (.agg #[.slice none 0 0, .slice none 0 0]), 2, 48) := by kernel_rfl
set_option maxRecDepth 100000 in
set_option maxHeartbeats 4000000 in
theorem lent_any (l : List EN) (A : Option Addr) (c : Nat) (w : World) (h : EntriesAt w w.heap.size l A) (hlc : l.length ≤ c) (hm : Modest l) :
    Calls Tryz.prog 5 #[.slice A l.length c] w (LentPost l w) := by
  have HL := Lib.hid h
  have HB0 := Lib.hid (Below.refl w.heap.size w)
  have HO0 := Lib.hid (World.ownsRow_nil w w.heap.size 33 2)
  have HMo := Lib.hid hm.2
  have hl1 := hm.1
  obtain ⟨i0, hi, hz0, hz1, hz2⟩ := info_parts int_info
  obtain ⟨j0, hj, hy0, hy1, hy2⟩ := info_parts el_info
  obtain ⟨m0, hm0, hx0, hx1, hx2⟩ := info_parts en_info
  clear h hm
  go_enter Tryz.func5, Tryz.ntmps5
  go_wp2_with fail
  go_loopw [3, 4] (fun t3 i wr => ∃ (k : Nat) (vt : Value) (vs : List Value), t3 = vt ∧ i = .int .i64 k ∧ k ≤ l.length ∧ Hid (Below w.heap.size w wr) ∧ Hid (wr.ownsRow w.heap.size 33 2 vt k vs) ∧ Hid (LEs wr w.heap.size l k vs)) (fun _ i _ => l.length - (intOf i).toNat)
  case atStart => exact ⟨0, _, [], rfl, rfl, by omega, HB0, HO0, Lib.hid (fun i _ h => by omega)⟩
  case round =>
    clear HB0 HO0
    obtain ⟨k, vt, vs, hvt, rfl, hk, HB, HO, HLe⟩ := hrel
    replace hvt := hvt.symm
    subst hvt
    have hwz := HB.out.size
    by_cases hlt : k < l.length
    · obtain ⟨b, o, rfl⟩ := HL.out.some (by omega)
      obtain ⟨hbl, v1, v2, g1, g2, hent⟩ := (HL.out.below HB.out).at_ hlt
      have hltI : (k : Int) < (l.length : Int) := by omega
      have hmo := HMo.out l[k] (List.getElem_mem hlt)
      obtain ⟨⟨A1, c1, rfl, hc1, hm1, hr1⟩, ⟨A2, c2, rfl, hc2, hm2, hr2⟩⟩ := hent
      obtain ⟨x, hx⟩ : ∃ x, x = l[k] := ⟨_, rfl⟩
      rw [← hx] at hr1 hr2 hc1 hc2 hm1 hm2 g1 g2 hmo
      have HXe := Lib.hid hx
      clear hx
      have HR1 := Lib.hid (fun (h0 : 0 < x.pts.length) => (match hr1 h0 with | ⟨b, o, e, _, hc⟩ => ⟨b, o, e, hc⟩ : ∃ b o, A1 = some ⟨b, o, none⟩ ∧ CellsAt wr b o (intCells x.pts)))
      have HR2 := Lib.hid (fun (W : World) (hb : Below w.heap.size wr W) (h0 : 0 < x.els.length) => (match hr2 h0 with | ⟨b, o, e, hbb, hc⟩ => ⟨b, o, e, hc.keep fun p hp => hb.cell (by rw [hp]; exact hbb)⟩ : ∃ b o, A2 = some ⟨b, o, none⟩ ∧ CellsAt W b o (elsCells x.els)))
      have HK := Lib.hid (fun (W : World) (hb : Below wr.heap.size wr W) => (⟨hb, (hb.cell (by simp only; omega)).trans g1, (hb.cell (by simp only; omega)).trans g2⟩ : Below wr.heap.size wr W ∧ W.cell? ⟨b, o + k * 2, none⟩ = some (.slice A1 x.pts.length c1) ∧ W.cell? ⟨b, o + k * 2 + 1, none⟩ = some (.slice A2 x.els.length c2)))
      have HKw := Lib.hid (fun (W : World) (hb : Below w.heap.size wr W) => (⟨(hb.cell (by simp only; omega)).trans g1, (hb.cell (by simp only; omega)).trans g2⟩ : W.cell? ⟨b, o + k * 2, none⟩ = some (.slice A1 x.pts.length c1) ∧ W.cell? ⟨b, o + k * 2 + 1, none⟩ = some (.slice A2 x.els.length c2)))
      have HKw2 := Lib.hid (fun (W : World) (hb : Below w.heap.size w W) => (⟨(hb.cell (by simp only; omega)).trans ((HB.out.cell (by simp only; omega)).symm.trans g1), (hb.cell (by simp only; omega)).trans ((HB.out.cell (by simp only; omega)).symm.trans g2)⟩ : W.cell? ⟨b, o + k * 2, none⟩ = some (.slice A1 x.pts.length c1) ∧ W.cell? ⟨b, o + k * 2 + 1, none⟩ = some (.slice A2 x.els.length c2)))
      have HOn1 := Lib.hid (intCells_one x.pts)
      have HOn2 := Lib.hid (elsCells_one x.els)
      clear hr1 hr2
      obtain ⟨hmo1, hmo2⟩ := hmo
      go_upto_region 7 with (at_builtin; refine wpList_append_row rfl _ _ 30 rfl wr.heap.size 3 i0 (.int .i64 0) 1 8 Tryz.underlying30 hi hz0 hz1 hz2 rfl (by decide) _ 0 [] rfl (World.ownsRow_nil _ _ _ _) A1 x.pts.length c1 (intCells x.pts) rfl hc1 (by rw [intCells_len, Nat.mul_one]) HR1.out HOn1.out (by unfold maxLen; omega) (by omega) (Nat.le_refl _) ?_; intro vp w1 hown1 hgrow1)
      have HB1 := Lib.hid ((Below.refl wr.heap.size wr).grown hgrow1 (Nat.le_refl _) (fun j ej => by cases ej))
      have HP1 := Lib.hid (show w1.ownsRow wr.heap.size 3 1 vp x.pts.length (intCells x.pts) by have h9 := hown1; rwa [Nat.zero_add, List.nil_append] at h9)
      have hs1 := HB1.out.size
      clear hown1 hgrow1 g1 g2
      go_upto_region 8 with (at_builtin; refine wpList_append_own _ rfl _ _ 30 rfl wr.heap.size 3 i0 (.int .i64 0) 1 8 Tryz.underlying30 hi hz0 hz1 hz2 rfl (by decide) _ _ _ rfl (HP1.out.alloc _) ⟨w1.heap.size, 0, none⟩ 1 1 [.int .i64 (-77)] rfl rfl (World.news_of_block (cs := #[.int .i64 (-77)]) (t := 3) (fr := (0, 0)) (heap_alloc_new w1 _)) (by simp [Value.oneCell']) (by unfold maxLen; omega) (by omega) (by simp; omega) ?_; intro vp2 w2 hown2 hgrow2 hne2)
      have hgrow2' : (w1.alloc (Obj.cells #[.int .i64 (-77)] 3)).grownBy w2 vp.ownBlock := hgrow2
      have HB2 := Lib.hid ((HB1.out.alloc hs1 (Obj.cells #[.int .i64 (-77)] 3)).grown hgrow2' (by simp; omega) (fun j ej => row_ge HP1.out ej))
      have HP2 := Lib.hid (show w2.ownsRow wr.heap.size 3 1 vp2 (x.pts.length + 1) (intCells x.pts ++ markP) from hown2)
      have hs2 := HB2.out.size
      obtain ⟨gp, cp, rfl, hcp, hgp, hgp2⟩ := row_lit HP2.out
      clear hown2 hgrow2 hne2 hgrow2'
      obtain ⟨_, g1, g2⟩ := HK.out w2 HB2.out
      go_upto_region 10 with (at_builtin; refine wpList_append_row rfl _ _ 31 rfl wr.heap.size 35 j0 (.agg #[.bool false, .int .i64 0, .int .i64 0, .int .i64 0]) 4 32 Tryz.underlying31 hj hy0 hy1 hy2 rfl (by decide) _ 0 [] rfl (World.ownsRow_nil _ _ _ _) A2 x.els.length c2 (elsCells x.els) rfl hc2 (elsCells_len _) (HR2.out w2 (HB2.out.mono hwz)) HOn2.out (by unfold maxLen; omega) (by omega) hs2 ?_; intro ve w3 hown3 hgrow3)
      have HB3' := Lib.hid ((Below.refl w2.heap.size w2).grown hgrow3 (Nat.le_refl _) (fun j ej => by cases ej))
      have HB3 := Lib.hid (HB2.out.trans (HB3'.out.mono hs2))
      have HQ3 := Lib.hid (show w3.ownsRow wr.heap.size 35 4 ve x.els.length (elsCells x.els) by have h9 := hown3; rwa [Nat.zero_add, List.nil_append] at h9)
      have HP3 := Lib.hid (own_below HP2.out HB3'.out)
      have hs3 := HB3.out.size
      clear hown3 hgrow3 g1 g2 HB3'
      go_upto_region 11 with (at_builtin; refine wpList_append_own _ rfl _ _ 31 rfl wr.heap.size 35 j0 (.agg #[.bool false, .int .i64 0, .int .i64 0, .int .i64 0]) 4 32 Tryz.underlying31 hj hy0 hy1 hy2 rfl (by decide) _ _ _ rfl (HQ3.out.alloc _) ⟨w3.heap.size, 0, none⟩ 1 1 markE rfl rfl (World.news_of_block (cs := #[.bool false, .int .i64 (-77), .int .i64 0, .int .i64 0]) (t := 35) (fr := (0, 0)) (heap_alloc_new w3 _)) (by simp [markE, Value.oneCell']) (by unfold maxLen; omega) (by omega) (by simp; omega) ?_; intro ve2 w4 hown4 hgrow4 hne4)
      have hgrow4' : (w3.alloc (Obj.cells #[.bool false, .int .i64 (-77), .int .i64 0, .int .i64 0] 35)).grownBy w4 ve.ownBlock := hgrow4
      have HB4 := Lib.hid ((HB3.out.alloc hs3 (Obj.cells #[.bool false, .int .i64 (-77), .int .i64 0, .int .i64 0] 35)).grown hgrow4' (by simp; omega) (fun j ej => row_ge HQ3.out ej))
      have HQ4 := Lib.hid (show w4.ownsRow wr.heap.size 35 4 ve2 (x.els.length + 1) (elsCells x.els ++ markE) from hown4)
      have HP4 := Lib.hid ((HP3.out.alloc (.cells #[.bool false, .int .i64 (-77), .int .i64 0, .int .i64 0] 35)).kept hgrow4' (own_apart HP3.out HQ3.out (by decide)))
      have hs4 := HB4.out.size
      obtain ⟨ge, ce, rfl, hce, hge, hge2⟩ := row_lit HQ4.out
      clear hown4 hgrow4 hne4 hgrow4' HP1 HP2 HP3 HQ3 HB1 HB2 HB3
      have HO4 := Lib.hid (own_below HO.out HB4.out)
      have HLe4 := Lib.hid (HLe.out.below HB4.out)
      have HBw4 := Lib.hid (HB.out.trans (HB4.out.mono hwz))
      have hcpI : (x.pts.length : Int) ≤ (cp : Int) := by omega
      have hceI : (x.els.length : Int) ≤ (ce : Int) := by omega
      have hpI : (0 : Int) ≤ (x.pts.length : Int) := by omega
      have heI : (0 : Int) ≤ (x.els.length : Int) := by omega
      refine wp_region_noPanic ?_
      refine wp_region_held_drew (S := fun W => W.cell? ⟨b, o + k * 2, none⟩ = some (.slice A1 x.pts.length c1) ∧ W.cell? ⟨b, o + k * 2 + 1, none⟩ = some (.slice A2 x.els.length c2)) (by kernel_rfl) (HKw.out _ (HB4.out.drew.mono hwz)) (fun hHeld0 => ?_)
      (try simp only [Act.put, List.setIfInBounds_toArray, List.set_cons_zero, List.set_cons_succ])
      refine wpAnyH_take (i := 0) (oi := ?_) (v := ?_) ?_ (by kernel_rfl) (by kernel_rfl) (by kernel_rfl) (fun _ _ _ h => h) (Or.inl ⟨?_, ?_⟩) hHeld0 ?_
      rotate_left 2
      · (simp only [List.getElem?_toArray, List.getElem?_cons_zero]; rfl)
      · rfl
      · (intro w hSw; (try dsimp only at hSw); go_simp; (try with_reducible rfl))
      (try simp only [Act.put, List.setIfInBounds_toArray, List.set_cons_zero, List.set_cons_succ])
      refine wpAnyH_take (i := 1) (oi := ?_) (v := ?_) ?_ (by kernel_rfl) (by kernel_rfl) (by kernel_rfl) (fun _ _ _ h => h) (Or.inl ⟨?_, ?_⟩) hHeld0 ?_
      rotate_left 2
      · (simp only [List.getElem?_toArray, List.getElem?_cons_succ, List.getElem?_cons_zero]; rfl)
      · rfl
      · (intro w hSw; (try dsimp only at hSw); go_simp; (try with_reducible rfl))
      (try simp only [Act.put, List.setIfInBounds_toArray, List.set_cons_zero, List.set_cons_succ])
      refine wpAnyH_take (i := 2) (oi := ?_) (v := ?_) ?_ (by kernel_rfl) (by kernel_rfl) (by kernel_rfl) (fun _ _ _ h => h) (Or.inl ⟨?_, ?_⟩) hHeld0 ?_
      rotate_left 2
      · (simp only [List.getElem?_toArray, List.getElem?_cons_succ, List.getElem?_cons_zero]; rfl)
      · rfl
      · (intro w hSw; (try dsimp only at hSw); go_simp; (try with_reducible rfl))
      (try simp only [Act.put, List.setIfInBounds_toArray, List.set_cons_zero, List.set_cons_succ])
      refine wpAnyH_take (i := 3) (oi := ?_) (v := ?_) ?_ (by kernel_rfl) (by kernel_rfl) (by kernel_rfl) (fun _ _ _ h => h) (Or.inl ⟨?_, ?_⟩) hHeld0 ?_
      rotate_left 2
      · (simp only [List.getElem?_toArray, List.getElem?_cons_succ, List.getElem?_cons_zero]; rfl)
      · rfl
      · (intro w hSw; (try dsimp only at hSw); go_simp; (try with_reducible rfl))
      (try simp only [Act.put, List.setIfInBounds_toArray, List.set_cons_zero, List.set_cons_succ])
      refine wpAnyH_take (i := 4) (oi := ?_) (v := ?_) ?_ (by kernel_rfl) (by kernel_rfl) (by kernel_rfl) (fun _ _ _ h => h) (Or.inl ⟨?_, ?_⟩) hHeld0 ?_
      rotate_left 2
      · (simp only [List.getElem?_toArray, List.getElem?_cons_succ, List.getElem?_cons_zero]; rfl)
      · rfl
      · (intro w hSw; (try dsimp only at hSw); go_simp; (try with_reducible rfl))
      (try simp only [Act.put, List.setIfInBounds_toArray, List.set_cons_zero, List.set_cons_succ])
      refine wpAnyH_take (i := 5) (oi := ?_) (v := ?_) ?_ (by kernel_rfl) (by kernel_rfl) (by kernel_rfl) (fun _ _ _ h => h) (Or.inl ⟨?_, ?_⟩) hHeld0 ?_
      rotate_left 2
      · (simp only [List.getElem?_toArray, List.getElem?_cons_succ, List.getElem?_cons_zero]; rfl)
      · rfl
      · (intro w hSw; (try dsimp only at hSw); go_simp; (try with_reducible rfl))
      (try simp only [Act.put, List.setIfInBounds_toArray, List.set_cons_zero, List.set_cons_succ])
      refine wpAnyH_take (i := 6) (oi := ?_) (v := ?_) ?_ (by kernel_rfl) (by kernel_rfl) (by kernel_rfl) (fun _ _ _ h => h) (Or.inl ⟨?_, ?_⟩) hHeld0 ?_
      rotate_left 2
      · (simp only [List.getElem?_toArray, List.getElem?_cons_succ, List.getElem?_cons_zero]; rfl)
      · rfl
      · (intro w hSw; (try dsimp only at hSw); go_simp; (try with_reducible rfl))
      (try simp only [Act.put, List.setIfInBounds_toArray, List.set_cons_zero, List.set_cons_succ])
      refine wpAnyH_take (i := 7) (oi := ?_) (v := ?_) ?_ (by kernel_rfl) (by kernel_rfl) (by kernel_rfl) (fun _ _ _ h => h) (Or.inl ⟨?_, ?_⟩) hHeld0 ?_
      rotate_left 2
      · (simp only [List.getElem?_toArray, List.getElem?_cons_succ, List.getElem?_cons_zero]; rfl)
      · rfl
      · (intro w hSw; (try dsimp only at hSw); go_simp; (try with_reducible rfl))
      (try simp only [Act.put, List.setIfInBounds_toArray, List.set_cons_zero, List.set_cons_succ])
      refine wpAnyH_take (i := 8) (oi := ?_) (v := ?_) ?_ (by kernel_rfl) (by kernel_rfl) (by kernel_rfl) (fun _ _ _ h => h) (Or.inl ⟨?_, ?_⟩) hHeld0 ?_
      rotate_left 2
      · (simp only [List.getElem?_toArray, List.getElem?_cons_succ, List.getElem?_cons_zero]; rfl)
      · rfl
      · (intro w hSw; (try dsimp only at hSw); go_simp; (try with_reducible rfl))
      (try simp only [Act.put, List.setIfInBounds_toArray, List.set_cons_zero, List.set_cons_succ])
      refine wpAnyH_take (i := 9) (oi := ?_) (v := ?_) ?_ (by kernel_rfl) (by kernel_rfl) (by kernel_rfl) (fun _ _ _ h => h) (Or.inl ⟨?_, ?_⟩) hHeld0 ?_
      rotate_left 2
      · (simp only [List.getElem?_toArray, List.getElem?_cons_succ, List.getElem?_cons_zero]; rfl)
      · rfl
      · (intro w hSw; (try dsimp only at hSw); go_simp; (try with_reducible rfl))
      (try simp only [Act.put, List.setIfInBounds_toArray, List.set_cons_zero, List.set_cons_succ])
      refine wpAnyH_take (i := 10) (oi := ?_) (v := ?_) ?_ (by kernel_rfl) (by kernel_rfl) (by kernel_rfl) (fun _ _ _ h => h) (Or.inl ⟨?_, ?_⟩) hHeld0 ?_
      rotate_left 2
      · (simp only [List.getElem?_toArray, List.getElem?_cons_succ, List.getElem?_cons_zero]; rfl)
      · rfl
      · (intro w hSw; (try dsimp only at hSw); go_simp; (try with_reducible rfl))
      (try simp only [Act.put, List.setIfInBounds_toArray, List.set_cons_zero, List.set_cons_succ])
      refine wpAnyH_take (i := 11) (oi := ?_) (v := ?_) ?_ (by kernel_rfl) (by kernel_rfl) (by kernel_rfl) (fun _ _ _ h => h) (Or.inl ⟨?_, ?_⟩) hHeld0 ?_
      rotate_left 2
      · (simp only [List.getElem?_toArray, List.getElem?_cons_succ, List.getElem?_cons_zero]; rfl)
      · rfl
      · (intro w hSw; (try dsimp only at hSw); go_simp; (try with_reducible rfl))
      (try simp only [Act.put, List.setIfInBounds_toArray, List.set_cons_zero, List.set_cons_succ])
      refine wpAnyH_take (i := 12) (oi := ?_) (v := ?_) ?_ (by kernel_rfl) (by kernel_rfl) (by kernel_rfl) (fun _ _ _ h => h) (Or.inl ⟨?_, ?_⟩) hHeld0 ?_
      rotate_left 2
      · (simp only [List.getElem?_toArray, List.getElem?_cons_succ, List.getElem?_cons_zero]; rfl)
      · rfl
      · (intro w hSw; (try dsimp only at hSw); go_simp; (try with_reducible rfl))
      (try simp only [Act.put, List.setIfInBounds_toArray, List.set_cons_zero, List.set_cons_succ])
      refine wpAnyH_take (i := 13) (oi := ?_) (v := ?_) ?_ (by kernel_rfl) (by kernel_rfl) (by kernel_rfl) (fun _ _ _ h => h) (Or.inl ⟨?_, ?_⟩) hHeld0 ?_
      rotate_left 2
      · (simp only [List.getElem?_toArray, List.getElem?_cons_succ, List.getElem?_cons_zero]; rfl)
      · rfl
      · (intro w hSw; (try dsimp only at hSw); go_simp; (try with_reducible rfl))
      (try simp only [Act.put, List.setIfInBounds_toArray, List.set_cons_zero, List.set_cons_succ])
      refine wpAnyH_take (i := 14) (oi := ?_) (v := ?_) ?_ (by kernel_rfl) (by kernel_rfl) (by kernel_rfl) (fun _ _ _ h => h) (Or.inl ⟨?_, ?_⟩) hHeld0 ?_
      rotate_left 2
      · (simp only [List.getElem?_toArray, List.getElem?_cons_succ, List.getElem?_cons_zero]; rfl)
      · rfl
      · (intro w hSw; (try dsimp only at hSw); go_simp; (try with_reducible rfl))
      (try simp only [Act.put, List.setIfInBounds_toArray, List.set_cons_zero, List.set_cons_succ])
      refine wpAnyH_take (i := 15) (oi := ?_) (v := ?_) ?_ (by kernel_rfl) (by kernel_rfl) (by kernel_rfl) (fun _ _ _ h => h) (Or.inl ⟨?_, ?_⟩) hHeld0 ?_
      rotate_left 2
      · (simp only [List.getElem?_toArray, List.getElem?_cons_succ, List.getElem?_cons_zero]; rfl)
      · rfl
      · (intro w hSw; (try dsimp only at hSw); go_simp; (try with_reducible rfl))
      (try simp only [Act.put, List.setIfInBounds_toArray, List.set_cons_zero, List.set_cons_succ])
      refine wpAnyH_take (i := 16) (oi := ?_) (v := ?_) ?_ (by kernel_rfl) (by kernel_rfl) (by kernel_rfl) (fun _ _ _ h => h) (Or.inl ⟨?_, ?_⟩) hHeld0 ?_
      rotate_left 2
      · (simp only [List.getElem?_toArray, List.getElem?_cons_succ, List.getElem?_cons_zero]; rfl)
      · rfl
      · (intro w hSw; (try dsimp only at hSw); go_simp; (try with_reducible rfl))
      (try simp only [Act.put, List.setIfInBounds_toArray, List.set_cons_zero, List.set_cons_succ])
      refine wpAnyH_take (i := 17) (oi := ?_) (v := ?_) ?_ (by kernel_rfl) (by kernel_rfl) (by kernel_rfl) (fun _ _ _ h => h) (Or.inl ⟨?_, ?_⟩) hHeld0 ?_
      rotate_left 2
      · (simp only [List.getElem?_toArray, List.getElem?_cons_succ, List.getElem?_cons_zero]; rfl)
      · rfl
      · (intro w hSw; (try dsimp only at hSw); go_simp; (try with_reducible rfl))
      (try simp only [Act.put, List.setIfInBounds_toArray, List.set_cons_zero, List.set_cons_succ])
      refine wpAnyH_ready (rs := [18]) (by kernel_rfl) (by simp) ?_
      refine AllReadyH.cons (by rfl) (fun K hK => ?_) AllReadyH.nil
      go_simp
      refine hK.out _ _ (HKw.out _ ((HB4.out.drew.alloc (by simp; omega) _).mono hwz)) (fun hHeld1 => ?_)
      clear hK K
      (try simp only [Act.put, List.setIfInBounds_toArray, List.set_cons_zero, List.set_cons_succ])
      refine wpAnyH_ready (rs := [19]) (by kernel_rfl) (by simp) ?_
      refine AllReadyH.cons (by rfl) (fun K hK => ?_) AllReadyH.nil
      rw [if_pos (by rfl)]
      refine wp_append_own _ _ _ 22 rfl w.heap.size 33 m0 (.agg #[.slice none 0 0, .slice none 0 0]) 2 48 Tryz.underlying22 hm0 hx0 hx1 hx2 rfl (by decide) _ _ _ rfl ((own_below HO4.out (Below.refl _ _).drew).alloc _) ⟨w4.drew.heap.size, 0, none⟩ 1 1 [.slice (some ⟨gp, 0, none⟩) x.pts.length cp, .slice (some ⟨ge, 0, none⟩) x.els.length ce] rfl rfl (World.news_of_block (cs := #[.slice (some ⟨gp, 0, none⟩) x.pts.length cp, .slice (some ⟨ge, 0, none⟩) x.els.length ce]) (t := 33) (fr := (0, 0)) (heap_alloc_new w4.drew _)) (by simp [Value.oneCell']) (by unfold maxLen; omega) (by omega) (by simp; omega) ?_
      intro v5 w5 hown5 hgrow5 hne5
      have hgrow5' : (w4.drew.alloc (Obj.cells #[.slice (some ⟨gp, 0, none⟩) x.pts.length cp, .slice (some ⟨ge, 0, none⟩) x.els.length ce] 33)).grownBy w5 vt.ownBlock := hgrow5
      have hk4 : Below w4.heap.size w4 (w4.drew.alloc (Obj.cells #[.slice (some ⟨gp, 0, none⟩) x.pts.length cp, .slice (some ⟨ge, 0, none⟩) x.els.length ce] 33)) := ((Below.refl _ _).drew).alloc (by simp) _
      have HLe5 := (((HLe4.out.below hk4).snoc HO4.out.1 hlt (by rw [← HXe.out]; exact ⟨gp, cp, ge, ce, rfl, rfl, own_base (own_below HP4.out hk4) hwz, own_base (own_below HQ4.out hk4) hwz⟩)).grown (own_below HO4.out hk4) hgrow5')
      have HB5 := ((HBw4.out.trans (hk4.mono (by omega))).grown hgrow5' (by simp; omega) (fun j ej => row_ge HO4.out ej))
      have HSS := HKw2.out w5 HB5
      clear hgrow5 hne5 hgrow5'
      refine hK.out _ _ (HSS) (fun hHeld2 => ?_)
      clear hK K
      (try simp only [Act.put, List.setIfInBounds_toArray, List.set_cons_zero, List.set_cons_succ])
      refine wpAnyH_take (i := 20) (oi := ?_) (v := ?_) ?_ (by kernel_rfl) (by kernel_rfl) (by kernel_rfl) (fun _ _ _ h => h) (Or.inl ⟨?_, ?_⟩) hHeld2 ?_
      rotate_left 2
      · (simp only [List.getElem?_toArray, List.getElem?_cons_succ, List.getElem?_cons_zero]; rfl)
      · rfl
      · (intro w hSw; (try dsimp only at hSw); go_simp; (try with_reducible rfl))
      (try simp only [Act.put, List.setIfInBounds_toArray, List.set_cons_zero, List.set_cons_succ])
      refine wpAnyH_done (by kernel_rfl) ?_ _
      refine NoPanic.normal ?_
      have HL5 := Lib.hid HLe5
      have HO5 := Lib.hid hown5
      have HBz := Lib.hid HB5
      go_wp2_with fail
      go_roundw
      case rel => exact ⟨k + 1, _, _, rfl, by go_num, by omega, HBz, HO5, HL5⟩
      case measure => simp [intOf]; omega
    · obtain rfl : k = l.length := by omega
      clear hlt
      have HBa := Lib.hid (below_a1 wr (.cells #[.int .i64 (-77)] 3))
      go_wp2_with (at_builtin; refine wpList_append_own _ rfl _ _ 22 rfl w.heap.size 33 m0 (.agg #[.slice none 0 0, .slice none 0 0]) 2 48 Tryz.underlying22 hm0 hx0 hx1 hx2 rfl (by decide) _ _ _ rfl ((HO.out.alloc _).alloc _) ⟨wr.heap.size + 1, 0, none⟩ 1 1 [.slice (some ⟨wr.heap.size, 0, none⟩) 1 1, .slice none 0 0] rfl rfl (World.news_of_block (cs := #[.slice (some ⟨wr.heap.size, 0, none⟩) 1 1, .slice none 0 0]) (t := 33) (fr := (0, 0)) (by have h9 := heap_alloc_new (wr.alloc (Obj.cells #[.int .i64 (-77)] 3)) (Obj.cells #[.slice (some ⟨wr.heap.size, 0, none⟩) 1 1, .slice none 0 0] 33); simpa using h9)) (by simp [Value.oneCell']) (by unfold maxLen; omega) (by omega) (by simp; omega) ?_; intro v5 w5 hown5 hgrow5 hne5; obtain ⟨g5, c5, rfl, hc5, _, _⟩ := row_lit hown5; have hc5I : (l.length : Int) ≤ (c5 : Int) := by omega)
      have hgrow5' : ((wr.alloc (Obj.cells #[.int .i64 (-77)] 3)).alloc (Obj.cells #[.slice (some ⟨wr.heap.size, 0, none⟩) 1 1, .slice none 0 0] 33)).grownBy w5 vt.ownBlock := hgrow5
      have hk4 : Below wr.heap.size wr ((wr.alloc (Obj.cells #[.int .i64 (-77)] 3)).alloc (Obj.cells #[.slice (some ⟨wr.heap.size, 0, none⟩) 1 1, .slice none 0 0] 33)) := below_a2 _ _ _
      have HL5 := Lib.hid (((HLe.out.below hk4).more HO.out.1 [.slice (some ⟨wr.heap.size, 0, none⟩) 1 1, .slice none 0 0]).grown (own_below HO.out hk4) hgrow5')
      have HB5 := Lib.hid ((HB.out.trans (hk4.mono hwz)).grown hgrow5' (by simp; omega) (fun j ej => row_ge HO.out ej))
      have HO5 := Lib.hid hown5
      have HM5 := Lib.hid (show (vs ++ [.slice (some ⟨wr.heap.size, 0, none⟩) 1 1, .slice none 0 0])[l.length * 2]? = some (.slice (some ⟨wr.heap.size, 0, none⟩) 1 1) by
        rw [List.getElem?_append_right (by rw [HO.out.1]; omega), HO.out.1]; simp)
      clear hown5 hgrow5 hne5 hgrow5' hk4
      go_wp2_with fail
      go_ret
      exact ⟨_, rfl, HB5.out, g5, c5, _, rfl, HO5.out, HL5.out, _, _, HM5.out⟩
end Go.Proofs.YtgddihbbickcmaaGreatDoor
