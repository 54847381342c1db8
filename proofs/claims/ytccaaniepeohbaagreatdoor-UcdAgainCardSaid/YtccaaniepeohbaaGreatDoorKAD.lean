/-
  (*ucd.Data).Marks: the map gone through, sorted.
-/
import Derived.Test.YtccaaniepeohbaaGreatDoorKZ
import Derived.Test.YtccaaniepeohbaaGreatDoorKAC
namespace Go.Proofs.YtccaaniepeohbaaGreatDoor
open Go.RowKit Go.WideShapes
set_option linter.unusedVariables false
set_option linter.unusedSimpArgs false
theorem markInfo : (Tryz.prog.info? 36).map (fun i => (i.zero, i.size, i.bytes)) = some (some (.agg #[.int .i64 0, .int .i64 0, .slice none 0 0]), 3, 40) := by kernel_rfl
theorem RangeAt.left_eq {w : World} {b r : Nat} {K : Value → Prop} {l left : List (Value × Value)} (h : RangeAt w b r K l left) : w.rangeLeft b r = left.length := by
  obtain ⟨es, clock, since, seen, c0, h1, h2, h3, h4, h5, h6, h7, h8, rfl⟩ := h
  unfold World.rangeLeft
  simp [h1, h5]
theorem own_lower {w : World} {b b' n s : Nat} {e : TypeId} {v : Value} {xs : List Value} (h : w.ownsRow b e s v n xs) (hb : b' ≤ b) : w.ownsRow b' e s v n xs := by
  refine ⟨h.1, ?_⟩
  rcases h.2 with h2 | ⟨g, cap, cur, h1, h2, h3⟩
  · exact Or.inl h2
  · exact Or.inr ⟨g, cap, cur, h1, Nat.le_trans hb h2, h3⟩
theorem own_oneCell {w : World} {b n s : Nat} {e : TypeId} {v : Value} {xs : List Value} (h : w.ownsRow b e s v n xs) : v.oneCell' = true := by
  rcases h.2 with ⟨rfl, _⟩ | ⟨g, cap, cur, rfl, _⟩ <;> rfl
/-- Which marks are still to come. -/
def RestM (w : World) (Q : Nat → Prop) (rest : List MK) (left : List (Value × Value)) : Prop := rest.length = left.length ∧ ∀ (i : Nat) x p, rest[i]? = some x → left[i]? = some p → MarkM w Q x p
theorem RestM.keep {w w' : World} {Q : Nat → Prop} {rest : List MK} {left : List (Value × Value)} (h : RestM w Q rest left) (hk : ∀ p : Addr, Q p.block → w'.cell? p = w.cell? p) : RestM w' Q rest left :=
  ⟨h.1, fun i x p hx hp => by
    obtain ⟨e1, v, e2, e3⟩ := h.2 i x p hx hp
    exact ⟨e1, v, e2, e3.cells hk (fun _ h => h)⟩⟩
theorem RestM.pick {w : World} {Q : Nat → Prop} {rest : List MK} {l1 l2 : List (Value × Value)} {p : Value × Value} (h : RestM w Q rest (l1 ++ p :: l2)) : ∃ r1 x r2, rest = r1 ++ x :: r2 ∧ MarkM w Q x p ∧ RestM w Q (r1 ++ r2) (l1 ++ l2) := by
  have hlen := h.1
  simp at hlen
  have hi : l1.length < rest.length := by omega
  have e : rest = rest.take l1.length ++ rest[l1.length] :: rest.drop (l1.length + 1) := by rw [← List.drop_eq_getElem_cons hi, List.take_append_drop]
  refine ⟨rest.take l1.length, rest[l1.length], rest.drop (l1.length + 1), e, h.2 l1.length _ _ (List.getElem?_eq_getElem hi) (by simp), ?_, ?_⟩
  · simp; omega
  · intro i x q hx hq
    by_cases hil : i < l1.length
    · rw [List.getElem?_append_left (by simp; omega)] at hx
      rw [List.getElem?_append_left hil] at hq
      rw [List.getElem?_take_of_lt hil] at hx
      exact h.2 i x q hx (by rw [List.getElem?_append_left hil]; exact hq)
    · rw [List.getElem?_append_right (by simp; omega)] at hx
      rw [List.getElem?_append_right (by omega)] at hq
      simp only [List.length_take, List.getElem?_drop] at hx
      rw [Nat.min_eq_left (by omega)] at hx
      exact h.2 (i + 1) x q (by rw [show i + 1 = l1.length + 1 + (i - l1.length) by omega]; exact hx) (by
        rw [List.getElem?_append_right (by omega), show i + 1 - l1.length = (i - l1.length) + 1 by omega, List.getElem?_cons_succ]; exact hq)
/-- What holds while the map is gone through. -/
structure MksInv (w wr : World) (Q : Nat → Prop) (b1 r : Nat) (l : List MK) (mm left : List (Value × Value)) (outl : List (MK × Value)) (rest : List MK) (vo : Value) : Prop where
  bl : Below w.heap.size w wr
  g : RangeAt wr b1 r IntKey mm left
  nb : b1 < w.heap.size
  m : RestM wr Q rest left
  p : ((outl.map Prod.fst) ++ rest).Perm l
  o : wr.ownsRow (w.heap.size + 1) 36 3 vo outl.length (outCells outl)
  e : ∀ t ∈ outl, wr.ownsRow w.heap.size 3 1 t.2 t.1.parts.length (intCells t.1.parts)
  z : w.heap.size + 1 ≤ wr.heap.size
theorem perm_sorted : ∀ (a b : List MK), a.Perm b → a.Pairwise (fun x y => ¬ y.pt < x.pt) → b.Pairwise (fun x y => x.pt < y.pt) → a = b
  | [], b, h, _, _ => (List.nil_perm.1 h).symm
  | x :: a, [], h, _, _ => absurd h.length_eq (by simp)
  | x :: a, y :: b, h, h1, h2 => by
    rw [List.pairwise_cons] at h1 h2
    by_cases e : x = y
    · subst e
      rw [perm_sorted a b ((List.perm_cons x).1 h) h1.2 h2.2]
    · exfalso
      have hx : x ∈ b := by
        have := h.mem_iff.1 (List.mem_cons_self (a := x) (l := a))
        rcases List.mem_cons.1 this with h | h
        · exact absurd h e
        · exact h
      have hy : y ∈ a := by
        have := h.mem_iff.2 (List.mem_cons_self (a := y) (l := b))
        rcases List.mem_cons.1 this with h | h
        · exact absurd h.symm e
        · exact h
      exact h1.1 y hy (h2.1 x hx)
theorem own_keepBut {w w' : World} {B blk n cap m : Nat} {v : Value} {xs ys : List Value} {b : Nat} (h : w.ownsRow B 3 1 v m ys) (ho : w.ownsRow b 36 3 (.slice (some ⟨blk, 0, none⟩) n cap) n xs) (hk : ∀ b, b < w.heap.size → b ≠ blk → w'.heap[b]? = w.heap[b]?) : w'.ownsRow B 3 1 v m ys := by
  have ha := own_apart h ho (by decide)
  refine ⟨h.1, ?_⟩
  rcases h.2 with h2 | ⟨g, c, cur, e1, e2, e3, e4⟩
  · exact Or.inl h2
  · refine Or.inr ⟨g, c, cur, e1, e2, ?_, e4⟩
    rw [hk g (Array.getElem?_eq_some_iff.1 e3).1 (by
      rw [e1] at ha
      simpa [Value.ownBlock] using ha)]
    exact e3
theorem own_rowM {w : World} {base n size : Nat} {e : TypeId} {v : Value} {xs : List Value} (h : w.ownsRow base e size v n xs) (hn : n ≤ 140737488351232) : RowM w w.heap.size v n xs := by
  rcases h.2 with ⟨e, h0⟩ | ⟨g, cap, cur, rfl, hb, hg, h1, _, h3, h4⟩
  · subst h0
    exact ⟨_, _, e, Nat.le_refl _, by omega, fun h => absurd h (by omega)⟩
  · refine ⟨_, _, rfl, h1, hn, fun _ => ⟨g, 0, rfl, (Array.getElem?_eq_some_iff.1 hg).1, fun i u hu => ?_⟩⟩
    have hi : i < xs.length := (List.getElem?_eq_some_iff.1 hu).1
    simp only [World.cell?, hg, Nat.zero_add]
    rw [← h4, List.getElem?_take] at hu
    split at hu
    · simpa using hu
    · cases hu
theorem marks_made {w' : World} {blk : Nat} {outl' : List (MK × Value)} {l : List MK} (hl : outl'.map Prod.fst = l) (hb : blk < w'.heap.size) (hc : CellsAt w' blk 0 (outCells outl')) {B : Nat} (he : ∀ t ∈ outl', w'.ownsRow B 3 1 t.2 t.1.parts.length (intCells t.1.parts)) (h8 : ∀ t ∈ outl', t.1.parts.length ≤ 100000) :
    MarksAt w' w'.heap.size l (some ⟨blk, 0, none⟩) := fun h0 => by
  refine ⟨blk, 0, rfl, hb, fun i hi => ?_⟩
  have hi2 : i < outl'.length := by rw [← hl] at hi; simpa using hi
  have e0 := outCells_at (l := outl') (k := i) (j := 0) hi2 (by omega)
  have e1 := outCells_at (l := outl') (k := i) (j := 1) hi2 (by omega)
  have e2 := outCells_at (l := outl') (k := i) (j := 2) hi2 (by omega)
  have hm : outl'[i] ∈ outl' := List.getElem_mem hi2
  have hle : l[i] = outl'[i].1 := by subst hl; simp
  refine ⟨outl'[i].2, ?_, ?_, ?_, ?_⟩
  · have := hc (i * 3) _ e0
    rw [hle]
    exact this
  · have := hc (i * 3 + 1) _ e1
    rw [hle]
    rwa [show 0 + (i * 3 + 1) = 0 + i * 3 + 1 by omega] at this
  · have := hc (i * 3 + 2) _ e2
    rwa [show 0 + (i * 3 + 2) = 0 + i * 3 + 2 by omega] at this
  · rw [hle]
    exact own_rowM (he _ hm) (by have := h8 _ hm; omega)
set_option maxRecDepth 100000 in
set_option maxHeartbeats 8000000 in
theorem marks_ok (Q : Nat → Prop) (D b1 : Nat) (l : List MK) (hP : ∀ x ∈ l, x.parts.length ≤ 100000) (hpt : ∀ x ∈ l, 0 ≤ x.pt ∧ x.pt ≤ 1114111) (hsort : l.Pairwise (fun x y => x.pt < y.pt)) (hlen : l.length ≤ 4096) (w : World) (hd : DataM w Q D b1 l) (hQ : ∀ g, Q g → g < w.heap.size) :
    Calls Tryz.prog 13 #[.pointer (some ⟨D, 0, none⟩)] w fun e w' => ∃ A c, e = .returned (.slice A l.length c) ∧ l.length ≤ c ∧ MarksAt w' w'.heap.size l A ∧ Below w.heap.size w w' := by
  have HP := Lib.hid hP
  have HPT := Lib.hid hpt
  have HSRT := Lib.hid hsort
  have HQ := Lib.hid hQ
  have hTc : w.cell? ⟨D, 0, none⟩ = some (.map (some b1)) := by simp [World.cell?, hd.d]
  obtain ⟨mm, hma, hml, hme⟩ := hd.m
  obtain ⟨w1, hrg, hR1, hbr, hsr⟩ := hma.run_range (P := Tryz.prog) Tryz.underlying50
  have hlt := hma.lt
  have HI0 := Lib.hid (show MksInv w w1 Q b1 w.heap.size l mm mm [] l (.slice none 0 0) from ⟨hbr, hR1, hlt, RestM.keep ⟨hml.symm, hme⟩ (fun p hp => hbr.cell (hQ _ hp)), by simp, World.ownsRow_nil _ _ _ _, by simp, by omega⟩)
  clear hma hml hme hR1 hbr hd hP hpt hsort hQ
  go_enter Tryz.func13, Tryz.ntmps13
  go_wp2_with fail
  go_loopw [3] (fun t3 wr => ∃ (left : List (Value × Value)) (outl : List (MK × Value)) (rest : List MK), Hid (MksInv w wr Q b1 w.heap.size l mm left outl rest t3)) (fun _ wr => wr.rangeLeft b1 w.heap.size)
  case atStart => exact ⟨mm, [], l, HI0⟩
  case round =>
    clear HI0 hrg
    obtain ⟨left, outl, rest, HI⟩ := hrel
    have hrl := Lib.hid HI.out.g.left_eq
    rcases HI.out.g.run_next (P := Tryz.prog) 0 with ⟨hle, hnx⟩ | ⟨l1, l2, key, v, w2, hle, hkey, hnx, hg2, hgr, hs2, hen⟩
    · subst hle
      have hr0 : rest = [] := by have := HI.out.m.1; simpa using this
      subst hr0
      have hpm : (outl.map Prod.fst).Perm l := by have := HI.out.p; simpa using this
      have hol : outl.length = l.length := by have := hpm.length_eq; simpa using this
      have HPm := Lib.hid hpm
      have hin : ∀ t ∈ outl, t.1 ∈ l := fun t ht => hpm.mem_iff.1 (List.mem_map.2 ⟨t, ht, rfl⟩)
      have HIn := Lib.hid hin
      clear hpm hin
      by_cases h0 : l.length = 0
      · obtain ⟨p, cap, rfl⟩ : ∃ p cap, u3 = .slice p 0 cap := by
          rcases HI.out.o.2 with ⟨e, _⟩ | ⟨g, cap, cur, e, _⟩
          · exact ⟨none, 0, e⟩
          · exact ⟨_, cap, by rw [e, hol, h0]⟩
        have HNO := Lib.hid (AnyF.slices_SortFunc_none lays31 p cap (.func (.func 32) #[] #[]) wr)
        go_wp2_with fail
        refine HNO.out.mono ?_
        rintro e w9 ⟨rfl, rfl⟩
        go_wp2_with fail
        go_ret
        exact ⟨p, cap, by rw [h0]; rfl, by omega, (fun h => absurd h (by omega)), HI.out.bl⟩
      · obtain ⟨g, cap, rfl, hcap, hgN, hgs⟩ : ∃ g cap, u3 = .slice (some ⟨g, 0, none⟩) l.length cap ∧ l.length ≤ cap ∧ w.heap.size ≤ g ∧ g < wr.heap.size := by
          rcases HI.out.o.2 with ⟨_, e⟩ | ⟨g, cap, cur, e, h1, h2, h3, _⟩
          · exact absurd e (by omega)
          · exact ⟨g, cap, by rw [e, hol], by omega, by omega, (Array.getElem?_eq_some_iff.1 h2).1⟩
        have HOW := HI.out.o
        rw [← hol] at HOW
        have hsrt := sort_ok w.heap.size g cap outl (by omega) (by omega) wr (own_lower HOW (by omega)) (fun t ht => ⟨own_oneCell (HI.out.e t ht), HPT.out _ (HIn.out t ht)⟩)
        have HSO := Lib.hid hsrt
        rw [hol] at HSO
        clear hsrt
        go_wp2_with fail
        refine HSO.out.mono ?_
        rintro e w9 ⟨rfl, outl', hp, hs, hc, hk, hb⟩
        have hfl : outl'.map Prod.fst = l := perm_sorted _ _ ((hp.map _).trans HPm.out) (by rw [List.pairwise_map]; exact hs.imp (fun h => by omega)) HSRT.out
        have HEA := Lib.hid (marks_made hfl (Nat.lt_of_lt_of_le hgs hb.size) hc (B := w.heap.size) (fun t ht => own_keepBut (HI.out.e t (hp.mem_iff.1 ht)) HOW hk) (fun t ht => HP.out _ (HIn.out t (hp.mem_iff.1 ht))))
        have HB9 := Lib.hid (HI.out.bl.trans (hb.mono hgN))
        clear hfl hc hk hb hs hp HSO
        go_wp2_with fail
        go_ret
        exact ⟨_, cap, rfl, hcap, HEA.out, HB9.out⟩
    · subst hle
      obtain ⟨r1, x, r2, hrest, hx, hR2⟩ := HI.out.m.pick
      have hxl : x ∈ l := HI.out.p.mem_iff.1 (by rw [hrest]; simp)
      have hxp := HP.out x hxl
      obtain ⟨hk0, vp, hv0, hpm⟩ := hx
      simp only at hk0 hv0
      subst hk0 hv0
      have hnw : w.heap.size ≤ wr.heap.size := HI.out.bl.size
      have hk2 : ∀ p : Addr, p.block < w.heap.size → w2.cell? p = wr.cell? p := fun p hp => World.cell?_of_block (hgr.block p.block (by omega) (by simp; omega))
      have HR2 := Lib.hid (hR2.keep (fun p hp => hk2 p (HQ.out _ hp)))
      have HG2 := Lib.hid hg2
      have HOO := Lib.hid (HI.out.o.kept hgr (by
        cases h3 : u3.ownBlock with
        | none => exact Or.inl rfl
        | some g => exact Or.inr (by intro e; cases e; have := (HI.out.o.lt _ h3).1; omega)))
      have HE2 := Lib.hid (show ∀ t ∈ outl, w2.ownsRow w.heap.size 3 1 t.2 t.1.parts.length (intCells t.1.parts) from fun t ht => by
        have h := HI.out.e t ht
        have hri := HI.out.g
        obtain ⟨_, _, _, _, _, _, _, _, _, g5, _⟩ := hri
        refine h.kept hgr ?_
        rcases h.2 with ⟨e, _⟩ | ⟨g, cap, cur, e, _, hg, _⟩
        · rw [e]; exact Or.inl rfl
        · rw [e]
          refine Or.inr fun hh => ?_
          have : g = w.heap.size := by simpa [Value.ownBlock] using hh
          rw [this, g5] at hg
          cases hg)
      have HB2 := Lib.hid (HI.out.bl.grown hgr (by have := HI.out.z; omega) (fun j e => by cases e; exact Nat.le_refl _))
      have HP2 := Lib.hid (show (((outl ++ [(x, Value.slice none 0 0)]).map Prod.fst) ++ (r1 ++ r2)).Perm l from by
        refine List.Perm.trans ?_ HI.out.p
        rw [hrest]
        simp only [List.map_append, List.map_cons, List.map_nil, List.append_assoc]
        refine List.Perm.append_left _ ?_
        exact (List.perm_middle (a := x) (l₁ := r1) (l₂ := r2)).symm)
      have hz2 : w.heap.size + 1 ≤ w2.heap.size := by have := HI.out.z; omega
      have hpm2 : PartsM w2 Q vp x.parts := hpm.cells (fun p hp => hk2 p (HQ.out _ hp)) (fun _ h => h)
      obtain ⟨A0, c0, rfl⟩ : ∃ A0 c0, vp = .slice A0 x.parts.length c0 := by
        rcases hpm with ⟨rfl, e⟩ | ⟨g, c, e, _⟩
        · exact ⟨none, 0, by rw [e]; rfl⟩
        · exact ⟨_, _, e⟩
      have hb3 : Below w2.heap.size w2 (w2.alloc (.cells #[.int .i64 x.pt, .int .i64 x.cls, .slice A0 x.parts.length c0] 36)) := (Below.refl _ w2).alloc (Nat.le_refl _) _
      have hY3 := World.alloc_heap_new w2 (.cells #[.int .i64 x.pt, .int .i64 x.cls, .slice A0 x.parts.length c0] 36)
      rw [hs2] at hY3
      have HCP := Lib.hid (cloneParts_ok _ x.parts _ (hpm2.cells (w' := w2.alloc (.cells #[.int .i64 x.pt, .int .i64 x.cls, .slice A0 x.parts.length c0] 36)) (fun p hp => hb3.cell (by have := HQ.out _ hp; omega)) (fun _ h => h)) (by omega))
      clear hpm hpm2
      go_upto_region 7 with fail
      generalize w2.alloc (.cells #[.int .i64 x.pt, .int .i64 x.cls, .slice A0 x.parts.length c0] 36) = w3 at hb3 hY3 HCP ⊢
      have hcy2 : w3.cell? ⟨wr.heap.size, 2, none⟩ = some (.slice A0 x.parts.length c0) := by simp [World.cell?, hY3]
      have hY3l : wr.heap.size < w3.heap.size := (Array.getElem?_eq_some_iff.1 hY3).1
      go_wp2_with fail
      refine HCP.out.mono ?_
      rintro e w4 ⟨v4, rfl, ho4, hb4⟩
      obtain ⟨A1, c1, rfl⟩ : ∃ A1 c1, v4 = .slice A1 x.parts.length c1 := by
        rcases ho4.2 with ⟨e, h0⟩ | ⟨g, cap, cur, e, _⟩
        · exact ⟨none, 0, by rw [e, h0]⟩
        · exact ⟨_, _, e⟩
      have hY4 := (hb4.block _ hY3l).trans hY3
      have hcy4 : w4.cell? ⟨wr.heap.size, 2, none⟩ = some (.slice A0 x.parts.length c0) := by simp [World.cell?, hY4]
      have hfy4 : w4.frozen? ⟨wr.heap.size, 2, none⟩ = false := by simp [World.frozen?, hY4]
      have hY5 := heap_setCell_same w4 wr.heap.size 2 _ _ (.slice A1 x.parts.length c1) hY4
      have hb25 : Below w2.heap.size w2 (w4.setCell ⟨wr.heap.size, 2, none⟩ (.slice A1 x.parts.length c1)) := (hb3.trans (hb4.mono hb3.size)).setCell (p := ⟨wr.heap.size, 2, none⟩) (by show w2.heap.size ≤ wr.heap.size; omega) _
      have HN5 := Lib.hid (show (w4.setCell ⟨wr.heap.size, 2, none⟩ (.slice A1 x.parts.length c1)).ownsRow w.heap.size 3 1 (.slice A1 x.parts.length c1) x.parts.length (intCells x.parts) from by
        refine ⟨ho4.1, ?_⟩
        rcases ho4.2 with h9 | ⟨g, cap, cur, e, h2, h3, h4⟩
        · exact Or.inl h9
        · refine Or.inr ⟨g, cap, cur, e, by omega, ?_, h4⟩
          rw [Below.heap_setCell _ _ _ _ (by show g ≠ wr.heap.size; omega)]
          exact h3)
      clear hcy2 HCP ho4 hb3 hY3
      go_upto_region 8 with fail
      generalize w4.setCell ⟨wr.heap.size, 2, none⟩ (.slice A1 x.parts.length c1) = w5 at hY5 hb25 HN5 ⊢
      have hd0 : w5.cell? ⟨wr.heap.size, 0, none⟩ = some (.int .i64 x.pt) := by simp [World.cell?, hY5]
      have hd1 : w5.cell? ⟨wr.heap.size, 1, none⟩ = some (.int .i64 x.cls) := by simp [World.cell?, hY5]
      have hd2 : w5.cell? ⟨wr.heap.size, 2, none⟩ = some (.slice A1 x.parts.length c1) := by simp [World.cell?, hY5]
      have HOO5 := Lib.hid (own_under HOO.out hb25)
      have HE5 := Lib.hid (show ∀ t ∈ outl, w5.ownsRow w.heap.size 3 1 t.2 t.1.parts.length (intCells t.1.parts) from fun t ht => own_under (HE2.out t ht) hb25)
      have HR5 := Lib.hid (HR2.out.keep (fun p hp => hb25.cell (by have := HQ.out _ hp; omega)))
      have hb12 : b1 < w2.heap.size := by have := HI.out.nb; omega
      have HG5 := Lib.hid (HG2.out.keep (hb25.block b1 hb12) (hb25.block w.heap.size (by omega)))
      have HB5 := Lib.hid (HB2.out.trans (hb25.mono (by omega)))
      have hz5 : w.heap.size + 1 ≤ w5.heap.size := by have := hb25.size; omega
      have hol : outl.length ≤ 4096 := by have h := HP2.out.length_eq; simp at h; omega
      clear hb25 HOO HE2 HR2 HG2 HB2 hY5 hcy4 hfy4 hb4 hY4
      obtain ⟨i6, ihi, ihz0, ihz1, ihz2⟩ := info_parts markInfo
      go_wp2_with (at_builtin; refine wpList_append_own _ rfl _ _ 22 rfl (w.heap.size + 1) 36 i6 (.agg #[.int .i64 0, .int .i64 0, .slice none 0 0]) 3 40 Tryz.underlying22 ihi ihz0 ihz1 ihz2 rfl (by decide) _ _ _ rfl (HOO5.out.alloc _) ⟨w5.heap.size, 0, none⟩ 1 1 [.int .i64 x.pt, .int .i64 x.cls, .slice A1 x.parts.length c1] rfl rfl (World.news_of_block (cs := #[.int .i64 x.pt, .int .i64 x.cls, .slice A1 x.parts.length c1]) (t := 36) (fr := (0, 0)) (heap_alloc_new w5 _)) (by simp [Value.oneCell']) (by unfold maxLen; omega) (by omega) (by simp; omega) ?_; intro v6 w6 hown6 hgrow6 hnil6)
      have hb6 : Below w5.heap.size w5 (w5.alloc (.cells #[.int .i64 x.pt, .int .i64 x.cls, .slice A1 x.parts.length c1] 36)) := (Below.refl _ w5).alloc (Nat.le_refl _) _
      have hou : ∀ g, u3.ownBlock = some g → w.heap.size + 1 ≤ g := fun g hg => (HOO5.out.lt g hg).1
      have hnb := HI.out.nb
      have hk6 : ∀ b, b < w.heap.size + 1 → w6.heap[b]? = w5.heap[b]? := fun b hb => (hgrow6.block b (by simp; omega) (fun e => by have := hou b e.symm; omega)).trans (hb6.block b (by omega))
      have HG6 := HG5.out.keep (hk6 b1 (by omega)) (hk6 w.heap.size (by omega))
      refine ⟨⟨l1 ++ l2, outl ++ [(x, .slice A1 x.parts.length c1)], r1 ++ r2, Lib.hid ⟨(HB5.out.trans (hb6.mono (by omega))).grown hgrow6 (by simp; omega) (fun j e => by have := hou j e; omega), HG6, hnb, HR5.out.keep (fun p hp => World.cell?_of_block (hk6 p.block (by have := HQ.out _ hp; omega))), ?_, ?_, ?_, ?_⟩⟩, ?_⟩
      · have h := HP2.out
        simpa using h
      · rw [outCells_snoc, List.length_append]
        exact hown6
      · intro t ht
        rcases List.mem_append.1 ht with ht | ht
        · exact (own_under (HE5.out t ht) hb6).kept hgrow6 (own_apart (own_under (HE5.out t ht) hb6) (HOO5.out.alloc _) (by decide))
        · rw [List.mem_singleton] at ht
          subst ht
          exact (own_under HN5.out hb6).kept hgrow6 (own_apart (own_under HN5.out hb6) (HOO5.out.alloc _) (by decide))
      · have := hgrow6.size; simp at this; omega
      · rw [HG6.left_eq, hrl.out]
        simp
end Go.Proofs.YtccaaniepeohbaaGreatDoor
