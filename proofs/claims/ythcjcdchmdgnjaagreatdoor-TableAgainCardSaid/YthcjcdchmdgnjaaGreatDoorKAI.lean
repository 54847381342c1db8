/-
  (*table.Table).Entries: the map gone through.
-/
import Derived.Test.YthcjcdchmdgnjaaGreatDoorKAH
import Derived.Shelf.SlSortCmp.NoneTotal
namespace Go.Proofs.YthcjcdchmdgnjaaGreatDoor
open Go.RowKit Go.WideShapes
set_option linter.unusedVariables false
set_option linter.unusedSimpArgs false
/-- What holds while the map is gone through. -/
structure EntrInv (w wr : World) (b1 r : Nat) (l : List EN) (mm left : List (Value × Value)) (outl : List (EN × Value × Value)) (rest : List EN) (vo : Value) : Prop where
  b : Below w.heap.size w wr
  g : RangeAt wr b1 r RowKey mm left
  nb : b1 < w.heap.size
  nr : r = w.heap.size
  m : RestM wr w.heap.size rest left
  p : ((outl.map Prod.fst) ++ rest).Perm l
  o : wr.ownsRow (w.heap.size + 1) 36 2 vo outl.length (outCells outl)
  e : ∀ t ∈ outl, OwnE wr w.heap.size t
  z : w.heap.size + 1 ≤ wr.heap.size
theorem perm_sorted : ∀ (a b : List EN), a.Perm b → a.Pairwise (fun x y => ¬ ahead y.pts x.pts < 0) → b.Pairwise (fun x y => ahead x.pts y.pts < 0) → a = b
  | [], b, h, _, _ => (List.nil_perm.1 h).symm
  | x :: a, [], h, _, _ => absurd h.length_eq (by simp)
  | x :: a, y :: b, h, h1, h2 => by
    rw [List.pairwise_cons] at h1 h2
    by_cases e : x = y
    · subst e
      rw [perm_sorted a b ((List.perm_cons x).1 h) h1.2 h2.2]
    · exfalso
      have hx : x ∈ b := by
        have := h.mem_iff.1 (List.mem_cons_self (a := x) (l := a))
        rcases List.mem_cons.1 this with h | h
        · exact absurd h e
        · exact h
      have hy : y ∈ a := by
        have := h.mem_iff.2 (List.mem_cons_self (a := y) (l := b))
        rcases List.mem_cons.1 this with h | h
        · exact absurd h.symm e
        · exact h
      exact h1.1 y hy (h2.1 x hx)
theorem OwnE.keepBut {w w' : World} {B : Nat} {t : EN × Value × Value} {blk n cap : Nat} {xs : List Value} {b : Nat} (h : OwnE w B t) (ho : w.ownsRow b 36 2 (.slice (some ⟨blk, 0, none⟩) n cap) n xs) (hk : ∀ b, b < w.heap.size → b ≠ blk → w'.heap[b]? = w.heap[b]?) : OwnE w' B t := by
  have key : ∀ {e m s : Nat} {v : Value} {ys : List Value}, w.ownsRow B e s v m ys → e ≠ 36 → w'.ownsRow B e s v m ys := fun h3 hne => by
    have ha := own_apart2 h3 ho hne
    refine ⟨h3.1, ?_⟩
    rcases h3.2 with h2 | ⟨g, c, cur, e1, e2, e3, e4⟩
    · exact Or.inl h2
    · refine Or.inr ⟨g, c, cur, e1, e2, ?_, e4⟩
      rw [hk g (Array.getElem?_eq_some_iff.1 e3).1 (by
        rw [e1] at ha
        simpa [Value.ownBlock] using ha)]
      exact e3
  exact ⟨key h.1 (by decide), key h.2 (by decide)⟩
theorem entries_made {w' : World} {blk : Nat} {outl' : List (EN × Value × Value)} {l : List EN} (hl : outl'.map Prod.fst = l) (hb : blk < w'.heap.size) (hc : CellsAt w' blk 0 (outCells outl')) {B : Nat} (he : ∀ t ∈ outl', OwnE w' B t) (h8 : ∀ t ∈ outl', t.1.pts.length ≤ 8 ∧ t.1.els.length ≤ 16) :
    EntriesAt w' w'.heap.size l (some ⟨blk, 0, none⟩) := fun h0 => by
  refine ⟨blk, 0, rfl, hb, fun i hi => ?_⟩
  have hi2 : i < outl'.length := by rw [← hl] at hi; simpa using hi
  have e0 := outCells_at (l := outl') (k := i) (j := 0) hi2 (by omega)
  have e1 := outCells_at (l := outl') (k := i) (j := 1) hi2 (by omega)
  have hm : outl'[i] ∈ outl' := List.getElem_mem hi2
  have hle : l[i] = outl'[i].1 := by subst hl; simp
  refine ⟨outl'[i].2.1, outl'[i].2.2, ?_, ?_, ?_⟩
  · have := hc (i * 2) _ e0
    rwa [show 0 + i * 2 = 0 + 2 * i by omega] at this
  · have := hc (i * 2 + 1) _ e1
    rwa [show 0 + (i * 2 + 1) = 0 + 2 * i + 1 by omega] at this
  · rw [hle]
    exact ⟨own_rowM (he _ hm).1 (by have := h8 _ hm; omega), own_rowM (he _ hm).2 (by have := h8 _ hm; omega)⟩
set_option maxRecDepth 100000 in
set_option maxHeartbeats 8000000 in
theorem entries_ok (T b1 b2 : Nat) (l : List EN) (hmay : ∀ x ∈ l, x.may = true) (hsort : l.Pairwise (fun x y => ahead x.pts y.pts < 0)) (hlen : l.length ≤ 4096) (w : World) (hT : w.heap[T]? = some (.cells #[.map (some b1), .map (some b2)] 52 (0, 0))) (hM : TabM w w.heap.size b1 b2 l) :
    Calls Tryz.prog 9 #[.pointer (some ⟨T, 0, none⟩)] w fun e w' => ∃ A c, e = .returned (.slice A l.length c) ∧ l.length ≤ c ∧ EntriesAt w' w'.heap.size l A ∧ Below w.heap.size w w' := by
  have HB0 := Lib.hid (Below.refl w.heap.size w)
  have HMAY := Lib.hid hmay
  have HSRT := Lib.hid hsort
  have hTc : w.cell? ⟨T, 0, none⟩ = some (.map (some b1)) := by simp [World.cell?, hT]
  obtain ⟨mm, m2, hma, hml, hme, _, _⟩ := hM
  obtain ⟨w1, hrg, hR1, hbr, hsr⟩ := hma.run_range (P := Tryz.prog) Tryz.underlying49
  have hlt := hma.lt
  have HI0 := Lib.hid (show EntrInv w w1 b1 w.heap.size l mm mm [] l (.slice none 0 0) from ⟨hbr, hR1, hlt, rfl, RestM.keep ⟨hml.symm, hme⟩ (fun p hp => hbr.cell hp), by simp, World.ownsRow_nil _ _ _ _, by simp, by omega⟩)
  clear hma hml hme hR1 hbr hT hmay hsort
  go_enter Tryz.func9, Tryz.ntmps9
  go_wp2_with fail
  go_loopw [3] (fun t3 wr => ∃ (left : List (Value × Value)) (outl : List (EN × Value × Value)) (rest : List EN), Hid (EntrInv w wr b1 w.heap.size l mm left outl rest t3)) (fun _ wr => wr.rangeLeft b1 w.heap.size)
  case atStart => exact ⟨mm, [], l, HI0⟩
  case round =>
    clear HI0 hrg
    obtain ⟨left, outl, rest, HI⟩ := hrel
    have hrl := Lib.hid HI.out.g.left_eq
    rcases HI.out.g.run_next (P := Tryz.prog) 0 with ⟨hle, hnx⟩ | ⟨l1, l2, key, v, w2, hle, hkey, hnx, hg2, hgr, hs2, hen⟩
    · subst hle
      have hr0 : rest = [] := by have := HI.out.m.1; simpa using this
      subst hr0
      have hpm : (outl.map Prod.fst).Perm l := by have := HI.out.p; simpa using this
      have hol : outl.length = l.length := by have := hpm.length_eq; simpa using this
      have HP := Lib.hid hpm
      have h8 : ∀ t ∈ outl, t.1.pts.length ≤ 8 ∧ t.1.els.length ≤ 16 := fun t ht => by
        have := HMAY.out t.1 (hpm.mem_iff.1 (List.mem_map.2 ⟨t, ht, rfl⟩))
        simp only [EN.may, Bool.and_eq_true, decide_eq_true_eq] at this
        exact ⟨this.1.1.2.1, this.1.1.2.2.2⟩
      have H8 := Lib.hid h8
      clear hpm h8
      by_cases h0 : l.length = 0
      · obtain ⟨p, cap, rfl⟩ : ∃ p cap, u3 = .slice p 0 cap := by
          rcases HI.out.o.2 with ⟨e, _⟩ | ⟨g, cap, cur, e, _⟩
          · exact ⟨none, 0, e⟩
          · exact ⟨_, cap, by rw [e, hol, h0]⟩
        have HNO := Lib.hid (AnyF.slices_SortFunc_none lays25 p cap (.func (.func 10) #[] #[]) wr)
        go_wp2_with fail
        refine HNO.out.mono ?_
        rintro e w9 ⟨rfl, rfl⟩
        go_wp2_with fail
        go_ret
        exact ⟨p, cap, by rw [h0]; rfl, by omega, fun h => absurd h (by omega), HI.out.b⟩
      · obtain ⟨g, cap, rfl, hcap, hgN, hgs⟩ : ∃ g cap, u3 = .slice (some ⟨g, 0, none⟩) l.length cap ∧ l.length ≤ cap ∧ w.heap.size ≤ g ∧ g < wr.heap.size := by
          rcases HI.out.o.2 with ⟨_, e⟩ | ⟨g, cap, cur, e, h1, h2, h3, _⟩
          · exact absurd e (by omega)
          · exact ⟨g, cap, by rw [e, hol], by omega, by omega, (Array.getElem?_eq_some_iff.1 h2).1⟩
        have HOW := HI.out.o
        rw [← hol] at HOW
        have hsrt := sort_ok w.heap.size g cap outl (by omega) (by omega) wr (own_lower HOW (by omega)) HI.out.e (fun t ht => (H8.out t ht).1)
        have HSO := Lib.hid hsrt
        rw [hol] at HSO
        clear hsrt
        go_wp2_with fail
        refine HSO.out.mono ?_
        rintro e w9 ⟨rfl, outl', hp, hs, hc, hk, hb⟩
        have hfl : outl'.map Prod.fst = l := perm_sorted _ _ ((hp.map _).trans HP.out) (by rw [List.pairwise_map]; exact hs.imp (fun h => by omega)) HSRT.out
        have HEA := Lib.hid (entries_made hfl (Nat.lt_of_lt_of_le hgs hb.size) hc (B := w.heap.size) (fun t ht => (HI.out.e t (hp.mem_iff.1 ht)).keepBut HOW hk) (fun t ht => H8.out t (hp.mem_iff.1 ht)))
        have HB9 := Lib.hid (HI.out.b.trans (hb.mono hgN))
        clear hfl hc hk hb hs hp HSO
        go_wp2_with fail
        go_ret
        exact ⟨_, cap, rfl, hcap, HEA.out, HB9.out⟩
    · subst hle
      obtain ⟨r1, x, r2, hrest, hx, hR2⟩ := HI.out.m.pick
      have hxl : x ∈ l := HI.out.p.mem_iff.1 (by rw [hrest]; simp)
      have hxm := HMAY.out x hxl
      simp only [EN.may, Bool.and_eq_true, decide_eq_true_eq] at hxm
      obtain ⟨zb, zc, zd, ze, zf, zg, zh, zj, hrow⟩ := rowCells_head hxm.1.1.2.1
      obtain ⟨A, c, hv, hvc, hvn, hvA⟩ := hx.2
      obtain ⟨b, o, rfl, hbb, hbc⟩ := hvA (by omega)
      have hky : key = .agg #[Value.int .i64 x.pts.length, Value.int .i64 zb, Value.int .i64 zc, Value.int .i64 zd, Value.int .i64 ze, Value.int .i64 zf, Value.int .i64 zg, Value.int .i64 zh, Value.int .i64 zj] := by have h := hx.1; rw [rowVal, hrow] at h; exact h
      subst hv hky
      have hnw : w.heap.size ≤ wr.heap.size := HI.out.b.size
      have hk2 : ∀ p : Addr, p.block < w.heap.size → w2.cell? p = wr.cell? p := fun p hp => World.cell?_of_block (hgr.block p.block (by omega) (by simp; omega))
      have HR2 := Lib.hid (hR2.keep hk2)
      have HG2 := Lib.hid hg2
      have HOO := Lib.hid (HI.out.o.kept hgr (by
        cases h3 : u3.ownBlock with
        | none => exact Or.inl rfl
        | some g => exact Or.inr (by intro e; cases e; have := (HI.out.o.lt _ h3).1; omega)))
      have HE2 := Lib.hid (show ∀ t ∈ outl, OwnE w2 w.heap.size t from fun t ht => by
        have h := HI.out.e t ht
        have hri := HI.out.g
        obtain ⟨_, _, _, _, _, _, _, _, _, g5, _⟩ := hri
        have apart : ∀ {e n s : Nat} {v : Value} {xs : List Value}, wr.ownsRow w.heap.size e s v n xs → v.ownBlock = none ∨ v.ownBlock ≠ some w.heap.size := fun ho => by
          rcases ho.2 with ⟨rfl, _⟩ | ⟨g, cap, cur, rfl, _, hg, _⟩
          · exact Or.inl rfl
          · refine Or.inr fun hh => ?_
            have : g = w.heap.size := by simpa [Value.ownBlock] using hh
            rw [this, g5] at hg
            cases hg
        exact ⟨h.1.kept hgr (apart h.1), h.2.kept hgr (apart h.2)⟩)
      have HB2 := Lib.hid (HI.out.b.grown hgr (by have := HI.out.z; omega) (fun j e => by cases e; exact Nat.le_refl _))
      have HP2 := Lib.hid (show (((outl ++ [(x, Value.slice none 0 0, Value.slice none 0 0)]).map Prod.fst) ++ (r1 ++ r2)).Perm l from by
        refine List.Perm.trans ?_ HI.out.p
        rw [hrest]
        simp only [List.map_append, List.map_cons, List.map_nil, List.append_assoc]
        refine List.Perm.append_left _ ?_
        exact (List.perm_middle (a := x) (l₁ := r1) (l₂ := r2)).symm)
      have hz2 : w.heap.size + 1 ≤ w2.heap.size := by have := HI.out.z; omega
      have HC := Lib.hid (show CellsAt w2 b o (elsCells x.els) from hbc.keep fun p hp => hk2 p (by rw [hp]; exact hbb))
      have hbb2 : b < w2.heap.size := by have := hbb; omega
      have hp8I : (x.pts.length : Int) ≤ 8 := by have := hxm.1.1.2.1; omega
      have hp0I : (0 : Int) ≤ x.pts.length := by omega
      have hsl : ∀ W : World, (Instr.sliceAt 57 (.pointer (some ⟨wr.heap.size, 0, none⟩)) (some (.int .i64 1)) (some (.int .i64 (1 + (x.pts.length : Int)))) none).run Tryz.prog W = .ok (.slice (some ⟨wr.heap.size, 1, none⟩) x.pts.length 8) W := fun W => by
        rw [run_sliceAt_array_lh W 57 ⟨wr.heap.size, 0, none⟩ (by kernel_rfl) .i64 .i64 1 (1 + (x.pts.length : Int)) (by omega) (by omega) (by rw [show Tryz.prog.arrayLen 57 = 9 from by kernel_rfl]; omega)]
        rw [show Tryz.prog.arrayLen 57 = 9 from by kernel_rfl, show Tryz.prog.elem 57 = 3 from by kernel_rfl, Tryz.sizeOf3]
        simp only [Result.andThen, slicedAt, Addr.add_lit]
        rw [if_neg (by decide), show ((1 : Int) + (x.pts.length : Int)).toNat - (1 : Int).toNat = x.pts.length by omega]
        rfl
      go_wp2_with fail
      have hb3 : Below w2.heap.size w2 (w2.alloc (.cells #[Value.int .i64 x.pts.length, Value.int .i64 zb, Value.int .i64 zc, Value.int .i64 zd, Value.int .i64 ze, Value.int .i64 zf, Value.int .i64 zg, Value.int .i64 zh, Value.int .i64 zj] 57)) := (Below.refl _ w2).alloc (Nat.le_refl _) _
      have hY3 := World.alloc_heap_new w2 (.cells #[Value.int .i64 x.pts.length, Value.int .i64 zb, Value.int .i64 zc, Value.int .i64 zd, Value.int .i64 ze, Value.int .i64 zf, Value.int .i64 zg, Value.int .i64 zh, Value.int .i64 zj] 57)
      rw [hs2] at hY3
      generalize w2.alloc (.cells #[Value.int .i64 x.pts.length, Value.int .i64 zb, Value.int .i64 zc, Value.int .i64 zd, Value.int .i64 ze, Value.int .i64 zf, Value.int .i64 zg, Value.int .i64 zh, Value.int .i64 zj] 57) = w3 at hb3 hY3 ⊢
      have hcp : CellsAt w3 wr.heap.size 1 (intCells x.pts) := fun i u hu => by
        have h := rowCells_pts x.pts i u hu
        rw [hrow] at h
        simp only [World.cell?, hY3]
        simpa using h
      have HCP := Lib.hid (cloneInts_ok wr.heap.size 1 8 x.pts w3 hcp hxm.1.1.2.1)
      have hC3 : CellsAt w3 b o (elsCells x.els) := HC.out.keep fun p hp => hb3.cell (by rw [hp]; exact hbb2)
      refine HCP.out.mono ?_
      rintro e w4 ⟨v1, rfl, ho1, hb4⟩
      have hbb3 : b < w3.heap.size := Nat.lt_of_lt_of_le hbb2 hb3.size
      have HO1 := Lib.hid ho1
      have HCE := Lib.hid (cloneEls_ok b o c x.els w4 (hC3.keep fun p hp => hb4.cell (by rw [hp]; exact hbb3)) hxm.1.1.2.2.2)
      have HB4 := Lib.hid ((hb3.mono (Nat.le_refl _)).trans (hb4.mono hb3.size))
      obtain ⟨g1, c1, rfl⟩ : ∃ g c, v1 = .slice (some ⟨g, 0, none⟩) x.pts.length c := by
        rcases ho1.2 with ⟨e, h0⟩ | ⟨g, cap, cur, e, _⟩
        · exact absurd h0 (by have := hxm.1.1.1; omega)
        · exact ⟨g, cap, e⟩
      have hz3 : w.heap.size + 1 ≤ w3.heap.size := by have := hb3.size; omega
      have hz4 : w.heap.size + 1 ≤ w4.heap.size := by have := hb4.size; omega
      clear hb3 hY3 hcp HCP hC3 ho1 hb4
      go_wp2_with fail
      refine HCE.out.mono ?_
      rintro e w5 ⟨v2, rfl, ho2, hb5⟩
      have HO2 := Lib.hid ho2
      obtain ⟨g2, c2, rfl⟩ : ∃ g c, v2 = .slice (some ⟨g, 0, none⟩) x.els.length c := by
        rcases ho2.2 with ⟨e, h0⟩ | ⟨g, cap, cur, e, _⟩
        · exact absurd h0 (by have := hxm.1.1.2.2.1; omega)
        · exact ⟨g, cap, e⟩
      have hb25 := HB4.out.trans (hb5.mono HB4.out.size)
      have HO15 := Lib.hid (own_under HO1.out hb5)
      have HOO5 := Lib.hid (own_under HOO.out hb25)
      have HE5 := Lib.hid (show ∀ t ∈ outl, OwnE w5 w.heap.size t from fun t ht => (HE2.out t ht).under hb25)
      have HR5 := Lib.hid (HR2.out.keep (fun p hp => hb25.cell (by omega)))
      have hb12 : b1 < w2.heap.size := by have := HI.out.nb; omega
      have HG5 := Lib.hid (HG2.out.keep (hb25.block b1 hb12) (hb25.block w.heap.size (by omega)))
      have HB5 := Lib.hid (HB2.out.trans (hb25.mono (by omega)))
      have hz5 : w.heap.size + 1 ≤ w5.heap.size := by have := hb25.size; omega
      have hol : outl.length ≤ 4096 := by have h := HP2.out.length_eq; simp at h; omega
      clear HCE ho2 hb5 hb25 HO1 HOO HE2 HR2 HG2 HB2 HB4 HC
      obtain ⟨i6, ihi, ihz0, ihz1, ihz2⟩ := info_parts entInfo
      go_wp2_with (at_builtin; refine wpList_append_own _ rfl _ _ 22 rfl (w.heap.size + 1) 36 i6 (.agg #[.slice none 0 0, .slice none 0 0]) 2 48 Tryz.underlying22 ihi ihz0 ihz1 ihz2 rfl (by decide) _ _ _ rfl (HOO5.out.alloc _) ⟨w5.heap.size, 0, none⟩ 1 1 [.slice (some ⟨g1, 0, none⟩) x.pts.length c1, .slice (some ⟨g2, 0, none⟩) x.els.length c2] rfl rfl (World.news_of_block (cs := #[.slice (some ⟨g1, 0, none⟩) x.pts.length c1, .slice (some ⟨g2, 0, none⟩) x.els.length c2]) (t := 36) (fr := (0, 0)) (heap_alloc_new w5 _)) (by simp [Value.oneCell']) (by unfold maxLen; omega) (by omega) (by simp; omega) ?_; intro v6 w6 hown6 hgrow6 hnil6)
      have hb6 : Below w5.heap.size w5 (w5.alloc (.cells #[.slice (some ⟨g1, 0, none⟩) x.pts.length c1, .slice (some ⟨g2, 0, none⟩) x.els.length c2] 36)) := (Below.refl _ w5).alloc (Nat.le_refl _) _
      have hou : ∀ g, u3.ownBlock = some g → w.heap.size + 1 ≤ g := fun g hg => (HOO5.out.lt g hg).1
      have hnb := HI.out.nb
      have hk6 : ∀ b, b < w.heap.size + 1 → w6.heap[b]? = w5.heap[b]? := fun b hb => (hgrow6.block b (by simp; omega) (fun e => by have := hou b e.symm; omega)).trans (hb6.block b (by omega))
      have HG6 := HG5.out.keep (hk6 b1 (by omega)) (hk6 w.heap.size (by omega))
      refine ⟨⟨l1 ++ l2, outl ++ [(x, .slice (some ⟨g1, 0, none⟩) x.pts.length c1, .slice (some ⟨g2, 0, none⟩) x.els.length c2)], r1 ++ r2, Lib.hid ⟨(HB5.out.trans (hb6.mono (by omega))).grown hgrow6 (by simp; omega) (fun j e => by have := hou j e; omega), HG6, hnb, rfl, HR5.out.keep (fun p hp => World.cell?_of_block (hk6 p.block (by omega))), ?_, ?_, ?_, ?_⟩⟩, ?_⟩
      · have h := HP2.out
        simpa using h
      · rw [outCells_snoc, List.length_append]
        exact hown6
      · intro t ht
        rcases List.mem_append.1 ht with ht | ht
        · exact ((HE5.out t ht).under hb6).grown (HOO5.out.alloc _) hgrow6
        · rw [List.mem_singleton] at ht
          subst ht
          exact OwnE.grown (OwnE.under ⟨own_lower HO15.out (by omega), own_lower HO2.out (by omega)⟩ hb6) (HOO5.out.alloc _) hgrow6
      · have := hgrow6.size; simp at this; omega
      · rw [HG6.left_eq, hrl.out]
        simp
end Go.Proofs.YthcjcdchmdgnjaaGreatDoor
