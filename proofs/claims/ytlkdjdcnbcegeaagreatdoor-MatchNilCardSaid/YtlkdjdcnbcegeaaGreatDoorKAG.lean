/-
  table.Load, of a table's text.
-/
import Derived.Test.YtlkdjdcnbcegeaaGreatDoorKAD
import Derived.Carry
namespace Go.Proofs.YtlkdjdcnbcegeaaGreatDoor
open Go.RowKit Go.WideShapes
set_option linter.unusedVariables false
set_option linter.unusedSimpArgs false
theorem splitLines_ok (l : List EN) (hs : (txt (tabText l)).size < 4294967281) (m : Int) (w : World) (hm : w.cell? ⟨lays146_ren.g 1, 0, none⟩ = some (.int .i64 m)) :
    Calls Tryz.prog 53 #[.string (txt (tabText l)), .string (txt [10])] w fun e w' => e = .returned (.slice (some ⟨w.heap.size, 0, none⟩) (tabLs l).length (tabLs l).length) ∧ w' = w.alloc (.cells (((tabLs l).map fun o => Value.string (txt (oText o)))).toArray 9) := by
  obtain ⟨x, r, hx⟩ : ∃ x r, (tabLs l).map oText = x :: r := by
    cases h : (tabLs l).map oText with
    | nil =>
      exfalso
      have h2 : tabLs l = [] := by simpa using h
      unfold tabLs at h2
      split at h2 <;> simp_all
    | cons x r => exact ⟨x, r, rfl⟩
  have hno : ∀ y ∈ x :: r, (10 : UInt8) ∉ y := by
    rw [← hx]
    intro y hy
    obtain ⟨o, _, rfl⟩ := List.mem_map.1 hy
    exact oText_no10 o
  have hj := split_joinT 10 r x hno
  have hT : tabText l = Lib.join (x :: r) [10] := by rw [← hx, tabLs_text]
  have hlen : (tabLs l).length = r.length + 1 := by
    have := congrArg List.length hx
    simpa using this
  rw [hT] at hs ⊢
  refine (Any.strings_Split lays146 (by kernel_rfl) (txt (Lib.join (x :: r) [10])) (txt [10]) m w hs hm (by decide)).mono ?_
  rintro e w' ⟨rfl, rfl⟩
  rw [hj.1, hj.2, ← hx, hlen]
  refine ⟨rfl, ?_⟩
  simp only [List.map_map]
  rfl
/-- What Load hands back. -/
def LoadPost (l : List EN) (w : World) (e : Ending) (w' : World) : Prop :=
  ∃ T b1 b2, e = .returned (.tuple #[.pointer (some ⟨T, 0, none⟩), .int .i64 0, .int .i64 0]) ∧ Below w.heap.size w w' ∧ w.heap.size ≤ T ∧ w.heap.size ≤ b1 ∧ w'.heap[T]? = some (.cells #[.map (some b1), .map (some b2)] 101 (0, 0)) ∧ TabM w' w'.heap.size b1 b2 l
/-- What holds while the lines are gone through. -/
structure LoadInv (w wr : World) (b1 b2 T R : Nat) (l : List EN) (k : Nat) : Prop where
  b : Below w.heap.size w wr
  n1 : w.heap.size ≤ b1
  n2 : w.heap.size ≤ b2
  n12 : b1 ≠ b2
  nT : w.heap.size ≤ T
  tl : T ≠ b1 ∧ T ≠ b2 ∧ R ≠ b1 ∧ R ≠ b2 ∧ w.heap.size ≤ R
  t : wr.heap[T]? = some (.cells #[.map (some b1), .map (some b2)] 101 (0, 0))
  r : wr.heap[R]? = some (.cells (((tabLs l).map fun o => Value.string (txt (oText o)))).toArray 9 (0, 0))
  m : TabM wr wr.heap.size b1 b2 (((tabLs l).take k).filterMap id)
theorem LoadInv.T_lt {w wr : World} {b1 b2 T R : Nat} {l : List EN} {k : Nat} (h : LoadInv w wr b1 b2 T R l k) : T < wr.heap.size := (Array.getElem?_eq_some_iff.1 h.t).1
theorem LoadInv.R_lt {w wr : World} {b1 b2 T R : Nat} {l : List EN} {k : Nat} (h : LoadInv w wr b1 b2 T R l k) : R < wr.heap.size := (Array.getElem?_eq_some_iff.1 h.r).1
theorem LoadInv.below {w wr w' : World} {b1 b2 T R : Nat} {l : List EN} {k : Nat} (h : LoadInv w wr b1 b2 T R l k) (hb : Below wr.heap.size wr w') : LoadInv w w' b1 b2 T R l k :=
  ⟨h.b.trans (hb.mono h.b.size), h.n1, h.n2, h.n12, h.nT, h.tl, (hb.block T h.T_lt).trans h.t, (hb.block R h.R_lt).trans h.r, h.m.below hb⟩
/-- A line that says nothing. -/
theorem LoadInv.skip {w wr : World} {b1 b2 T R : Nat} {l : List EN} {k : Nat} (h : LoadInv w wr b1 b2 T R l k) (hk : k < (tabLs l).length) (hn : (tabLs l)[k] = none) : LoadInv w wr b1 b2 T R l (k + 1) :=
  ⟨h.b, h.n1, h.n2, h.n12, h.nT, h.tl, h.t, h.r, by rw [List.take_succ_eq_append_getElem hk, hn, List.filterMap_append]; simpa using h.m⟩
/-- What holds while one entry is looked at. -/
structure EInv (w wr : World) (b1 b2 T R : Nat) (l : List EN) (k X : Nat) (v1 v2 : Value) (pts : List Int) (els : List EL) : Prop where
  i : LoadInv w wr b1 b2 T R l k
  x : wr.heap[X]? = some (.cells #[v1, v2] 65 (0, 0))
  nx : w.heap.size ≤ X
  p : RowM wr wr.heap.size v1 pts.length (intCells pts)
  e : RowM wr wr.heap.size v2 els.length (elsCells els)
theorem EInv.below {w wr w' : World} {b1 b2 T R : Nat} {l : List EN} {k X : Nat} {v1 v2 : Value} {pts : List Int} {els : List EL} (h : EInv w wr b1 b2 T R l k X v1 v2 pts els) (hb : Below wr.heap.size wr w') : EInv w w' b1 b2 T R l k X v1 v2 pts els :=
  ⟨h.i.below hb, (hb.block X (Array.getElem?_eq_some_iff.1 h.x).1).trans h.x, h.nx, (h.p.below hb).more hb.size, (h.e.below hb).more hb.size⟩
theorem EInv.start {w wr : World} {b1 b2 T R : Nat} {l : List EN} {k : Nat} {v1 v2 : Value} {pts : List Int} {els : List EL} (h : LoadInv w wr b1 b2 T R l k) (h1 : RowM wr wr.heap.size v1 pts.length (intCells pts)) (h2 : RowM wr wr.heap.size v2 els.length (elsCells els)) :
    EInv w (wr.alloc (.cells #[v1, v2] 65)) b1 b2 T R l k wr.heap.size v1 v2 pts els := by
  have hb : Below wr.heap.size wr (wr.alloc (.cells #[v1, v2] 65)) := (Below.refl _ wr).alloc (Nat.le_refl _) _
  exact ⟨h.below hb, World.alloc_heap_new wr _, h.b.size, (h1.below hb).more hb.size, (h2.below hb).more hb.size⟩
theorem prev_ahead {l : List EN} {k : Nat} {x : EN} (hk : k < (tabLs l).length) (ho : (tabLs l)[k] = some x) : ∃ rest, l = ((tabLs l).take k).filterMap id ++ x :: rest ∧ ((tabLs l).take (k + 1)).filterMap id = ((tabLs l).take k).filterMap id ++ [x] := by
  refine ⟨((tabLs l).drop (k + 1)).filterMap id, ?_, ?_⟩
  · have h := tabLs_id l
    rw [← List.take_append_drop k (tabLs l), List.filterMap_append, List.drop_eq_getElem_cons hk, ho, List.filterMap_cons] at h
    exact h.symm
  · rw [List.take_succ_eq_append_getElem hk, ho, List.filterMap_append]; rfl
/-- A line's entry is laid into the maps. -/
theorem LoadInv.step {w w8 w8' w9 w10 : World} {b1 b2 T R : Nat} {l : List EN} {k : Nat} {x : EN} {v : Value} {mm m2 m2' : List (Value × Value)} (h : LoadInv w w8 b1 b2 T R l k)
    (hent : ∀ (i : Nat) x p, (((tabLs l).take k).filterMap id)[i]? = some x → mm[i]? = some p → EntM w8 w8.heap.size x p) (hml : mm.length = (((tabLs l).take k).filterMap id).length)
    (hv : RowM w8 w8.heap.size v x.els.length (elsCells x.els)) (hl2 : ((tabLs l).take (k + 1)).filterMap id = ((tabLs l).take k).filterMap id ++ [x])
    (hd : Below w8.heap.size w8 w8') (hds : w8'.heap.size = w8.heap.size) (hg9 : w8'.grownBy w9 (some b1)) (hs9 : w9.heap.size = w8'.heap.size) (hm8 : MapAt w8' b1 RowKey mm) (hm9 : MapAt w9 b1 RowKey (mm ++ [(rowVal x.pts, v)]))
    (hg10 : w9.drew.grownBy w10 (some b2)) (hs10 : w10.heap.size = w9.drew.heap.size) (hm29 : MapAt w9.drew b2 IntKeyT m2) (hm10 : MapAt w10 b2 IntKeyT m2') (hi : ∀ p ∈ m2', ∃ a, p.2 = Value.int .i64 a) : LoadInv w w10 b1 b2 T R l (k + 1) := by
  have hs : w9.drew.heap.size = w8.heap.size := by show w9.heap.size = _; omega
  have hb9 : ∀ b, b < w8.heap.size → b ≠ b1 → w9.heap[b]? = w8.heap[b]? := fun b hb hne => (hg9.block b (by omega) (by simp [hne])).trans (hd.block b hb)
  have hb10 : ∀ b, b < w8.heap.size → b ≠ b1 → b ≠ b2 → w10.heap[b]? = w8.heap[b]? := fun b hb hne hne2 => (hg10.block b (by omega) (by simp [hne2])).trans (hb9 b hb hne)
  have hk : ∀ p : Addr, p.block < w8.heap.size → w10.cell? p = w8.cell? p := fun p hp => (cell_mapT hg10 hm29 hm10 p (by omega)).trans ((cell_mapT hg9 hm8 hm9 p (by omega)).trans (hd.cell hp))
  have hT := h.T_lt
  have hR := h.R_lt
  have hbw := h.b.size
  have hB9 : Below w.heap.size w w9 := (h.b.trans (hd.mono hbw)).grown hg9 (by omega) (fun j e => by cases e; exact h.n1)
  have hB10 : Below w.heap.size w w10 := hB9.drew.grown hg10 (by omega) (fun j e => by cases e; exact h.n2)
  refine ⟨hB10, h.n1, h.n2, h.n12, h.nT, h.tl, (hb10 T hT h.tl.1 h.tl.2.1).trans h.t, (hb10 R hR h.tl.2.2.1 h.tl.2.2.2.1).trans h.r, ?_⟩
  rw [hl2]
  refine ⟨mm ++ [(rowVal x.pts, v)], m2', hm9.keep (hg10.block b1 (by have := hm9.lt; exact this) (by have := h.n12; simp; omega)), by simp [hml], ?_, hm10, hi⟩
  intro i y p hy hp
  by_cases hil : i < mm.length
  · rw [List.getElem?_append_left (by omega)] at hy
    rw [List.getElem?_append_left hil] at hp
    exact ⟨(hent i y p hy hp).1, (hent i y p hy hp).2.cells hk (by omega)⟩
  · have hi2 : i = mm.length := by
      have := (List.getElem?_eq_some_iff.1 hp).1
      simp at this
      omega
    subst hi2
    rw [List.getElem?_append_right (by omega)] at hy hp
    simp [← hml] at hy hp
    subst hy hp
    exact ⟨rfl, hv.cells hk (by omega)⟩
theorem loadInv_start (w : World) (l : List EN) : LoadInv w ((((w.alloc (.map #[] 0)).alloc (.map #[] 0)).alloc (.cells #[Value.map (some w.heap.size), Value.map (some (w.heap.size + 1))] 101)).alloc (.cells (((tabLs l).map fun o => Value.string (txt (oText o)))).toArray 9)) w.heap.size (w.heap.size + 1) (w.heap.size + 1 + 1) (w.heap.size + 1 + 1 + 1) l 0 := by
  have a1 := World.alloc_heap_new w (.map #[] 0)
  have a2 := World.alloc_heap_new (w.alloc (.map #[] 0)) (.map #[] 0)
  have a3 := World.alloc_heap_new ((w.alloc (.map #[] 0)).alloc (.map #[] 0)) (.cells #[Value.map (some w.heap.size), Value.map (some (w.heap.size + 1))] 101)
  have a4 := World.alloc_heap_new (((w.alloc (.map #[] 0)).alloc (.map #[] 0)).alloc (.cells #[Value.map (some w.heap.size), Value.map (some (w.heap.size + 1))] 101)) (.cells (((tabLs l).map fun o => Value.string (txt (oText o)))).toArray 9)
  simp only [World.size_alloc] at a1 a2 a3 a4
  refine ⟨(((((Below.refl _ w).alloc (Nat.le_refl _) _).alloc (by simp) _).alloc (by simp; omega) _).alloc (by simp; omega) _), Nat.le_refl _, by omega, by omega, by omega, ⟨by omega, by omega, by omega, by omega, by omega⟩, ?_, a4, ?_⟩
  · rw [Below.heap_alloc _ _ _ (by simp)]; exact a3
  · refine ⟨[], [], ?_, rfl, by simp, ?_, by simp⟩
    · refine MapAt.keep (MapAt.made w RowKey) ?_
      rw [Below.heap_alloc _ _ _ (by simp; omega), Below.heap_alloc _ _ _ (by simp; omega), Below.heap_alloc _ _ _ (by simp)]
    · have h := MapAt.made (w.alloc (.map #[] 0)) IntKeyT
      rw [World.size_alloc] at h
      refine h.keep ?_
      rw [Below.heap_alloc _ _ _ (by simp), Below.heap_alloc _ _ _ (by simp)]
set_option maxRecDepth 100000 in
set_option maxHeartbeats 8000000 in
theorem load_ok (l : List EN) (hmay : ∀ x ∈ l, x.may = true) (hnd : (l.map EN.pts).Nodup) (hlen : l.length ≤ 4096) (hsz : (txt (tabText l)).size ≤ 65536) (m : Int) (w : World) (HX : HexHere w) (hm : w.cell? ⟨lays145_ren.g 1, 0, none⟩ = some (.int .i64 m)) :
    Calls Tryz.prog 28 #[.string (txt (tabText l))] w (LoadPost l w) := by
  have HB0 := Lib.hid (Below.refl w.heap.size w)
  have HX0 := Lib.hid HX
  have HM := Lib.hid hm
  have HMAY := Lib.hid hmay
  have HND := Lib.hid hnd
  have HS := Lib.hid (fun W hW => splitLines_ok l (by omega) m W hW)
  have hM0 : lays145_ren.g 1 < w.heap.size := Lib.lt_of_cell hm
  clear HX hm hmay hnd
  generalize hSS : txt (tabText l) = S at HS hsz ⊢
  clear hSS
  obtain ⟨sz, hsz'⟩ : ∃ sz : Int, sz = (S.size : Int) := ⟨_, rfl⟩
  have hsz1 : ¬ 65536 < (S.size : Int) := by omega
  clear hsz
  have hmk : ∀ (t : TypeId) (w : World), (Instr.makeMap t none).run Tryz.prog w = .ok (.map (some w.heap.size)) (w.alloc (.map #[] 0)) := fun t w => rfl
  go_enter Tryz.func28, Tryz.ntmps28
  go_wp2_with fail
  have HB1 := Lib.hid (((HB0.out.alloc (Nat.le_refl _) (.map #[] 0)).alloc (by simp) (.map #[] 0)).alloc (by simp; omega) (.cells #[Value.map (some w.heap.size), Value.map (some (w.heap.size + 1))] 101))
  refine (HS.out _ ((HB1.out.cell (p := ⟨lays146_ren.g 1, 0, none⟩) hM0).trans HM.out)).mono ?_
  rintro e w1 ⟨rfl, rfl⟩
  go_wp2_with fail
  have HI0 := Lib.hid (loadInv_start w l)
  have HL := Lib.hid (show ∀ k (hk : k < (tabLs l).length), (((tabLs l).map fun o => Value.string (txt (oText o)))).toArray[k]? = some (.string (txt (oText (tabLs l)[k]))) from fun k hk => by rw [List.getElem?_toArray, List.getElem?_map, List.getElem?_eq_getElem hk]; rfl)
  have hlL : (tabLs l).length ≤ 4096 := by unfold tabLs; split <;> simp; omega
  generalize hR : w.heap.size + 1 + 1 + 1 = R at HI0 ⊢
  generalize hT : w.heap.size + 1 + 1 = T at HI0 HB1 ⊢
  generalize hb2 : w.heap.size + 1 = b2 at HI0 HB1 ⊢
  clear HB1 HB0 HS hR hT hb2
  go_loopw [26] (fun t26 wr => ∃ k : Nat, t26 = .int .i64 k ∧ k ≤ (tabLs l).length ∧ Hid (LoadInv w wr w.heap.size b2 T R l k)) (fun t26 _ => (tabLs l).length - (intOf t26).toNat)
  case atStart => exact ⟨0, rfl, by omega, HI0⟩
  case round =>
    clear HI0
    obtain ⟨k, rfl, hk, HI⟩ := hrel
    by_cases hkl : k < (tabLs l).length
    · have hc : wr.cell? ⟨R, k, none⟩ = some (.string (txt (oText (tabLs l)[k]))) := by simp only [World.cell?, HI.out.r]; exact HL.out k hkl
      cases ho : (tabLs l)[k] with
      | none =>
        rw [ho] at hc
        have HI2 := Lib.hid (HI.out.skip hkl ho)
        have hem : (txt (oText none)).toList.isEmpty = true := by
          rw [← decide_eq_emptyBytes]; exact decide_eq_true rfl
        generalize txt (oText none) = s0 at hc hem
        clear HI
        go_wp2_with fail
        go_roundw
        case rel => exact ⟨k + 1, by go_num, by omega, HI2⟩
        case measure => simp [intOf]; omega
      | some x =>
        have hxl : x ∈ l := tabLs_mem (ho ▸ List.getElem_mem hkl)
        have hxm := HMAY.out x hxl
        rw [ho] at hc
        have hsz5 : (txt x.text).size < 4294967281 := by have := enText_few hxm; rw [txt_size]; omega
        simp only [EN.may, Bool.and_eq_true, decide_eq_true_eq] at hxm
        obtain ⟨c0, r0, ht0, hc35⟩ := enText_head (x := x) hxm.1.1.1
        have hem : (txt (oText (some x))).toList.isEmpty = false := by
          show (txt x.text).toList.isEmpty = false
          rw [ht0, ← decide_eq_emptyBytes]
          exact decide_eq_false (fun h => by have := congrArg ByteArray.size h; rw [txt_size] at this; simp at this)
        have hs1 : 0 < (txt (oText (some x))).size := by show 0 < (txt x.text).size; rw [txt_size, ht0]; simp
        have hb0 : ∀ h : 0 < (txt (oText (some x))).size, ((((txt (oText (some x)))[0]'h).toNat : Int) == 35) = false := by
          intro h
          rw [beq_eq_false_iff_ne]
          intro e
          apply hc35
          have e2 : ((txt (oText (some x)))[0]'h) = c0 := by
            show ((txt x.text)[0]'(by exact h)) = c0
            have e3 : (txt x.text).data.toList[0]? = some c0 := by rw [txt_list, ht0]; rfl
            have h' : 0 < (txt x.text).data.toList.length := by have h2 : 0 < (txt x.text).size := h; simpa using h2
            rw [List.getElem?_eq_getElem h'] at e3
            have h5 := Option.some.inj e3
            simp only [Array.getElem_toList] at h5
            exact h5
          rw [e2] at e
          exact UInt8.toNat_inj.1 (show c0.toNat = 35 by omega)
        obtain ⟨pts, els⟩ := x
        obtain ⟨p0, pr, rfl⟩ : ∃ p0 pr, pts = p0 :: pr := by
          cases pts with
          | nil => simp at hxm
          | cons a b => exact ⟨a, b, rfl⟩
        have hfour : els.all EL.four = true := by
          rw [List.all_eq_true]
          intro y hy
          have := rightB_of (List.all_eq_true.1 hxm.2 y hy)
          simp only [EL.four, decide_eq_true_eq]
          omega
        have hj5 : (txt (Lib.join ((p0 :: pr).map fun p => hexW p.toNat) [32])).size < 4294967281 := by
          rw [txt_size] at hsz5 ⊢
          have e : (EN.mk (p0 :: pr) els).text.length = (Lib.join ((p0 :: pr).map fun p => hexW p.toNat) [32]).length + 1 + ((els.map EL.text).flatten).length := by simp [EN.text]; omega
          omega
        have HE := Lib.hid (entry_ok p0 pr els (by have := hxm.1.1.2.1; simp at this; omega) hxm.1.2 hxm.1.1.2.2.1 hxm.1.1.2.2.2 hfour hsz5 hj5 m wr (HX0.out.on HI.out.b) ((HI.out.b.cell hM0).trans HM.out))
        have HXM := Lib.hid hxm
        have HXL := Lib.hid hxl
        clear hxm hxl hj5 hsz5 hfour hc35 ht0
        have hS5 : oText (some (EN.mk (p0 :: pr) els)) = (EN.mk (p0 :: pr) els).text := rfl
        rw [hS5] at hc hem hs1 hb0
        generalize txt (EN.mk (p0 :: pr) els).text = s0 at hc hem hs1 hb0 HE
        go_wp2_with fail
        refine HE.out.mono ?_
        rintro e w5 ⟨v1, v2, rfl, hb5, ho1, ho2⟩
        have HI5 := Lib.hid (HI.out.below hb5)
        have HO1 := Lib.hid ho1
        have HO2 := Lib.hid ho2
        clear HE HI hc hb0 hem hb5
        obtain ⟨g1, c1, rfl⟩ : ∃ g c, v1 = .slice (some ⟨g, 0, none⟩) (pr.length + 1) c := by
          rcases ho1.2 with ⟨e, h0⟩ | ⟨g, cap, cur, e, _⟩
          · exact absurd h0 (by omega)
          · exact ⟨g, cap, e⟩
        have he1 : 1 ≤ els.length := HXM.out.1.1.2.2.1
        have he16 : els.length ≤ 16 := HXM.out.1.1.2.2.2
        obtain ⟨g2, c2, rfl⟩ : ∃ g c, v2 = .slice (some ⟨g, 0, none⟩) els.length c := by
          rcases ho2.2 with ⟨e, h0⟩ | ⟨g, cap, cur, e, _⟩
          · exact absurd h0 (by omega)
          · exact ⟨g, cap, e⟩
        clear ho1 ho2
        go_wp2_with fail
        have HE0 := Lib.hid (EInv.start HI5.out (own_rowM (n := (p0 :: pr).length) HO1.out (by have := HXM.out.1.1.2.1; simp at this; simp; omega)) (own_rowM HO2.out (by omega)))
        generalize hX : w5.heap.size = X at HE0 ⊢
        clear HI5 HO1 HO2 hX
        go_loopw [50] (fun t50 wr => ∃ j : Nat, t50 = .int .i64 j ∧ j ≤ els.length ∧ Hid (EInv w wr w.heap.size b2 T R l k X (.slice (some ⟨g1, 0, none⟩) (pr.length + 1) c1) (.slice (some ⟨g2, 0, none⟩) els.length c2) (p0 :: pr) els)) (fun t50 _ => els.length - (intOf t50).toNat)
        case atStart => exact ⟨0, rfl, by omega, HE0⟩
        case round =>
          clear HE0
          obtain ⟨j, rfl, hj, HEI⟩ := hrel
          by_cases hjl : j < els.length
          · obtain ⟨b, o, c, ev, hb, hd0, hd1, hd2, hd3⟩ := HEI.out.e.el hjl
            have hR := HXM.out.2
            have hRj : rightB els[j] = true := List.all_eq_true.1 hR _ (List.getElem_mem hjl)
            injection ev with ea _ ec
            injection ea with ea
            injection ea with eb eo
            subst eb eo ec
            have HRt := Lib.hid (fun W => tabRight_any els[j] W)
            rw [hRj] at HRt
            generalize els[j] = el at hd0 hd1 hd2 hd3 HRt
            simp only [Nat.zero_add] at hd0 hd1 hd2 hd3
            clear hR hRj hb
            go_wp2_with fail
            refine (HRt.out _).mono ?_
            rintro e w7 ⟨rfl, hb7⟩
            have HE7 := Lib.hid (HEI.out.below (((Below.refl _ wr).alloc (Nat.le_refl _) _).trans (hb7.mono (by simp))))
            clear hb7 HEI
            go_wp2_with fail
            go_roundw
            case rel => exact ⟨j + 1, by go_num, by omega, HE7⟩
            case measure => simp [intOf]; omega
          · have hjj : j = els.length := by omega
            subst hjj
            have hcx0 : wr.cell? ⟨X, 0, none⟩ = some (.slice (some ⟨g1, 0, none⟩) (pr.length + 1) c1) := by simp [World.cell?, HEI.out.x]
            have hp8 : (p0 :: pr).length ≤ 8 := HXM.out.1.1.2.1
            obtain ⟨a, b, d, e, f, g, h, i, j, hrow⟩ := rowCells_ints hp8
            have HV := Lib.hid (show rowVal (p0 :: pr) = .agg #[.int .i64 a, .int .i64 b, .int .i64 d, .int .i64 e, .int .i64 f, .int .i64 g, .int .i64 h, .int .i64 i, .int .i64 j] by rw [rowVal, hrow])
            clear hrow
            have HRO := Lib.hid (rowOf_ok (p0 :: pr) hp8 _ wr HEI.out.p)
            rw [HV.out] at HRO
            go_wp2_with fail
            refine HRO.out.mono ?_
            rintro e9 w7 ⟨rfl, hb7⟩
            have HE7 := Lib.hid (HEI.out.below hb7)
            clear hb7 HEI hcx0 HRO
            go_wp2_with fail
            have HE8 := Lib.hid (HE7.out.below (((Below.refl _ w7).alloc (Nat.le_refl _) (.cells #[Value.int .i64 a, Value.int .i64 b, Value.int .i64 d, Value.int .i64 e, Value.int .i64 f, Value.int .i64 g, Value.int .i64 h, Value.int .i64 i, Value.int .i64 j] 95))))
            have hY8 := World.alloc_heap_new w7 (.cells #[Value.int .i64 a, Value.int .i64 b, Value.int .i64 d, Value.int .i64 e, Value.int .i64 f, Value.int .i64 g, Value.int .i64 h, Value.int .i64 i, Value.int .i64 j] 95)
            generalize hY : w7.heap.size = Y at hY8 ⊢
            generalize (w7.alloc (.cells #[Value.int .i64 a, Value.int .i64 b, Value.int .i64 d, Value.int .i64 e, Value.int .i64 f, Value.int .i64 g, Value.int .i64 h, Value.int .i64 i, Value.int .i64 j] 95)) = w8 at hY8 HE8 ⊢
            have hYw : w.heap.size ≤ Y := by rw [← hY]; exact HE7.out.i.b.size
            clear hY HE7
            obtain ⟨rest, hl1, hl2⟩ := prev_ahead hkl ho
            have hpl : ∀ y ∈ ((tabLs l).take k).filterMap id, y ∈ l := fun y hy => by rw [hl1]; simp [hy]
            obtain ⟨mm, hma, hml, hme, hmn⟩ := HE8.out.i.m.fresh (EN.mk (p0 :: pr) els) (fun y hy => by
              have := HMAY.out y (hpl y hy)
              simp only [EN.may, Bool.and_eq_true, decide_eq_true_eq] at this
              exact this.1.1.2.1) hp8 (fun y hy e => by
              have hn := HND.out
              rw [hl1, List.map_append, List.map_cons] at hn
              exact (List.nodup_append.1 hn).2.2 y.pts (List.mem_map.2 ⟨y, hy, rfl⟩) _ (List.mem_cons_self ..) e)
            have hml2 : ¬ ((mm.length : Int) = 4096) := by
              have := congrArg List.length hl1
              simp at this
              omega
            simp only [HV.out] at hmn
            have hlk : ∀ n, (Instr.lookup 98 (.map (some w.heap.size)) (.agg #[.int .i64 a, .int .i64 b, .int .i64 d, .int .i64 e, .int .i64 f, .int .i64 g, .int .i64 h, .int .i64 i, .int .i64 j]) true).run Tryz.prog (w8.drewN n) = .ok (.tuple #[.slice none 0 0, .bool false]) (w8.drewN n) := fun n => by
              have hm' : MapAt (w8.drewN n) w.heap.size RowKey mm := hma.keep (by simp)
              rcases hm'.run_look row_keyOk Tryz.underlying98 (Tryz.zeroValue43 _) (HV.out ▸ rowKey_of hp8) true with ⟨h, _⟩ | ⟨v, _, h⟩
              · exact h
              · exact absurd h (hmn v)
            have hln : ∀ n ty, (Builtin.len_ #[98] ty #[.map (some w.heap.size)]).run Tryz.prog (w8.drewN n) = .ok (.int .i64 mm.length) (w8.drewN n) := fun n ty => (hma.keep (w' := w8.drewN n) (by simp)).run_len Tryz.underlying98
            have hct0 : w8.cell? ⟨T, 0, none⟩ = some (.map (some w.heap.size)) := by simp [World.cell?, HE8.out.i.t]
            have hct1 : w8.cell? ⟨T, 1, none⟩ = some (.map (some b2)) := by simp [World.cell?, HE8.out.i.t]
            have hcx0 : w8.cell? ⟨X, 0, none⟩ = some (.slice (some ⟨g1, 0, none⟩) (pr.length + 1) c1) := by simp [World.cell?, HE8.out.x]
            have hcx1 : w8.cell? ⟨X, 1, none⟩ = some (.slice (some ⟨g2, 0, none⟩) els.length c2) := by simp [World.cell?, HE8.out.x]
            have hcy0 : w8.cell? ⟨Y, 0, none⟩ = some (.int .i64 a) := by simp [World.cell?, hY8]
            have hcy1 : w8.cell? ⟨Y, 1, none⟩ = some (.int .i64 b) := by simp [World.cell?, hY8]
            have hcy2 : w8.cell? ⟨Y, 2, none⟩ = some (.int .i64 d) := by simp [World.cell?, hY8]
            have hcy3 : w8.cell? ⟨Y, 3, none⟩ = some (.int .i64 e) := by simp [World.cell?, hY8]
            have hcy4 : w8.cell? ⟨Y, 4, none⟩ = some (.int .i64 f) := by simp [World.cell?, hY8]
            have hcy5 : w8.cell? ⟨Y, 5, none⟩ = some (.int .i64 g) := by simp [World.cell?, hY8]
            have hcy6 : w8.cell? ⟨Y, 6, none⟩ = some (.int .i64 h) := by simp [World.cell?, hY8]
            have hcy7 : w8.cell? ⟨Y, 7, none⟩ = some (.int .i64 i) := by simp [World.cell?, hY8]
            have hcy8 : w8.cell? ⟨Y, 8, none⟩ = some (.int .i64 j) := by simp [World.cell?, hY8]
            generalize (mm.length : Int) = ml at hml2 hln
            have HL2 := Lib.hid hl2
            have HMN := Lib.hid hmn
            have HMA := Lib.hid hma
            have HML := Lib.hid hml
            have HME := Lib.hid hme
            clear hl1 hl2 hpl hmn hma hml hme
            go_quiet (fail)
            go_wp2_with fail
            have HE9 := Lib.hid (HE8.out.below (w' := w8.drewN (nq + 1)) ⟨rfl, rfl, rfl, Nat.le_refl _, fun _ _ => rfl⟩)
            obtain ⟨w9, l9, hup, hm9, hg9, hs9, _, hnew, _⟩ := (HMA.out.keep (w' := w8.drewN (nq + 1)) rfl).run_put row_keyOk Tryz.underlying98 (key := .agg #[.int .i64 a, .int .i64 b, .int .i64 d, .int .i64 e, .int .i64 f, .int .i64 g, .int .i64 h, .int .i64 i, .int .i64 j]) (val := .slice (some ⟨g2, 0, none⟩) els.length c2) (HV.out ▸ rowKey_of hp8)
            have hk9 : ∀ p : Addr, p.block < w8.heap.size → w9.cell? p = w8.cell? p := fun p hp => cell_mapT hg9 (HMA.out.keep (w' := w8.drewN (nq + 1)) rfl) hm9 p hp
            have hl9 := hnew HMN.out
            clear hnew hlk hln
            have HG9 := Lib.hid hg9
            have HM9 := Lib.hid hm9
            have HK9 := Lib.hid hk9
            have HL9 := Lib.hid hl9
            have HS9 := Lib.hid hs9
            clear hg9 hm9 hk9 hl9 hs9
            have hTl : T < w8.heap.size := HE8.out.i.T_lt
            have hXl : X < w8.heap.size := (Array.getElem?_eq_some_iff.1 HE8.out.x).1
            have hYl : Y < w8.heap.size := (Array.getElem?_eq_some_iff.1 hY8).1
            have hdt0 := (HK9.out ⟨T, 0, none⟩ hTl).trans hct0
            have hdt1 := (HK9.out ⟨T, 1, none⟩ hTl).trans hct1
            have hdx0 := (HK9.out ⟨X, 0, none⟩ hXl).trans hcx0
            have hdx1 := (HK9.out ⟨X, 1, none⟩ hXl).trans hcx1
            have hdy0 := (HK9.out ⟨Y, 0, none⟩ hYl).trans hcy0
            have hdy1 := (HK9.out ⟨Y, 1, none⟩ hYl).trans hcy1
            have hdy2 := (HK9.out ⟨Y, 2, none⟩ hYl).trans hcy2
            have hdy3 := (HK9.out ⟨Y, 3, none⟩ hYl).trans hcy3
            have hdy4 := (HK9.out ⟨Y, 4, none⟩ hYl).trans hcy4
            have hdy5 := (HK9.out ⟨Y, 5, none⟩ hYl).trans hcy5
            have hdy6 := (HK9.out ⟨Y, 6, none⟩ hYl).trans hcy6
            have hdy7 := (HK9.out ⟨Y, 7, none⟩ hYl).trans hcy7
            have hdy8 := (HK9.out ⟨Y, 8, none⟩ hYl).trans hcy8
            have hrg8 : w8.rangeAt Y 0 [Value.int .i64 a, Value.int .i64 b, Value.int .i64 d, Value.int .i64 e, Value.int .i64 f, Value.int .i64 g, Value.int .i64 h, Value.int .i64 i, Value.int .i64 j] := by
              intro q v hq
              simp only [World.cell?, hY8]
              simpa using hq
            have hrg9 : w9.rangeAt Y 0 [Value.int .i64 a, Value.int .i64 b, Value.int .i64 d, Value.int .i64 e, Value.int .i64 f, Value.int .i64 g, Value.int .i64 h, Value.int .i64 i, Value.int .i64 j] := fun q v hq => (HK9.out _ hYl).trans (hrg8 q v hq)
            have hun := Tryz.underlying95
            have hsz9 : (Tryz.prog.info? 95).map (·.size) = some [Value.int .i64 a, Value.int .i64 b, Value.int .i64 d, Value.int .i64 e, Value.int .i64 f, Value.int .i64 g, Value.int .i64 h, Value.int .i64 i, Value.int .i64 j].length := by kernel_rfl
            go_region_held3 (fun W => W.cell? ⟨T, 0, none⟩ = some (.map (some w.heap.size)) ∧ W.cell? ⟨X, 1, none⟩ = some (.slice (some ⟨g2, 0, none⟩) els.length c2) ∧ W.rangeAt Y 0 [Value.int .i64 a, Value.int .i64 b, Value.int .i64 d, Value.int .i64 e, Value.int .i64 f, Value.int .i64 g, Value.int .i64 h, Value.int .i64 i, Value.int .i64 j])
              (first | exact ⟨hct0, hcx1, hrg8⟩ | exact ⟨hdt0, hdx1, hrg9⟩)
              (first | fail)
            have hb28 : b2 < w8.heap.size := by obtain ⟨_, _, _, _, _, a4, _⟩ := HE8.out.i.m; exact a4.lt
            obtain ⟨_, m2, _, _, _, hm2, hi2⟩ := HE8.out.i.m
            have hm29 : MapAt w9.drew b2 IntKeyT m2 := hm2.keep (HG9.out.block b2 hb28 (by have := HE8.out.i.n12; simp; omega))
            obtain ⟨a2, hlk2⟩ : ∃ a2 : Int, (Instr.lookup 99 (.map (some b2)) (.int .i64 p0) false).run Tryz.prog w9.drew = .ok (.int .i64 a2) w9.drew := by
              rcases hm29.run_look (keyOk_int Tryz.underlying3) Tryz.underlying99 (Tryz.zeroValue3 _) (key := .int .i64 p0) ⟨p0, rfl⟩ false with ⟨h, _⟩ | ⟨v, h, hv⟩
              · exact ⟨0, h⟩
              · obtain ⟨a, ha⟩ := hi2 _ hv
                refine ⟨a, ?_⟩
                rw [h, ← ha]; rfl
            have hput : ∀ c : Int, ∃ w' : World, ∃ l' : List (Value × Value), (Instr.mapUpdate 99 (.map (some b2)) (.int .i64 p0) (.int .i64 c)).run Tryz.prog w9.drew = .ok () w' ∧ MapAt w' b2 IntKeyT l' ∧ w9.drew.grownBy w' (some b2) ∧ w'.heap.size = w9.drew.heap.size ∧ ∀ p ∈ l', ∃ a, p.2 = Value.int .i64 a := fun c => by
              obtain ⟨w', l', r1, r2, r3, r4, r5, _, _⟩ := hm29.run_put (keyOk_int Tryz.underlying3) Tryz.underlying99 (key := .int .i64 p0) (val := .int .i64 c) ⟨p0, rfl⟩
              refine ⟨w', l', r1, r2, r3, r4, fun p hp => ?_⟩
              rcases r5 p hp with h | h
              · exact hi2 p h
              · exact ⟨c, by rw [h]⟩
            obtain ⟨f10, hf10⟩ := Classical.axiomOfChoice hput
            have hup2 : ∀ c : Int, (Instr.mapUpdate 99 (.map (some b2)) (.int .i64 p0) (.int .i64 c)).run Tryz.prog w9.drew = .ok () (f10 c) := fun c => by obtain ⟨l', h, _⟩ := hf10 c; exact h
            have hk10 : ∀ (c : Int) (p : Addr), p.block < w9.heap.size → (f10 c).cell? p = w9.cell? p := fun c p hp => by
              obtain ⟨l', _, r2, r3, _⟩ := hf10 c
              exact (cell_mapT r3 hm29 r2 p hp)
            have HF := Lib.hid hf10
            have HK10 := Lib.hid hk10
            have HM29 := Lib.hid hm29
            have hs98 : w9.heap.size = w8.heap.size := HS9.out
            obtain ⟨gb, go_, gc, gev, gbl, gd⟩ := HE8.out.p.int (k := 0) (by simp)
            injection gev with ga glen gec
            injection ga with ga
            injection ga with gab gao gsp
            clear glen gsp
            subst gab gao gec
            have hdp := (HK9.out ⟨g1, 0, none⟩ gbl).trans gd
            rw [show (p0 :: pr)[0] = p0 from rfl] at hdp
            have het1 := fun c : Int => (HK10.out c ⟨T, 1, none⟩ (by show T < _; omega)).trans hdt1
            have hex0 := fun c : Int => (HK10.out c ⟨X, 0, none⟩ (by show X < _; omega)).trans hdx0
            have hep := fun c : Int => (HK10.out c ⟨g1, 0, none⟩ (by show g1 < _; omega)).trans hdp
            clear hf10 hk10 hput hm29 hm2 hi2 gd
            clear hrg8 hrg9 hun hsz9 hcy0 hdy0 hcy1 hdy1 hcy2 hdy2 hcy3 hdy3 hcy4 hdy4 hcy5 hdy5 hcy6 hdy6 hcy7 hdy7 hcy8 hdy8 hct0 hct1 hcx0 hcx1 hdt0 hdx1 hY8 hup gbl hTl hXl hYl hb28 hYw
            go_wp2_with fail
            go_region_held3 (fun W => W.cell? ⟨T, 1, none⟩ = some (.map (some b2)) ∧ W.cell? ⟨X, 0, none⟩ = some (.slice (some ⟨g1, 0, none⟩) (pr.length + 1) c1) ∧ W.cell? ⟨g1, 0, none⟩ = some (.int .i64 p0))
              (first | exact ⟨hdt1, hdx0, hdp⟩ | exact ⟨het1 _, hex0 _, hep _⟩)
              (first | fail)
            have HZ : ∀ c : Int, Hid (LoadInv w (f10 c) w.heap.size b2 T R l (k + 1)) := fun c => Lib.hid (by
              obtain ⟨l', _, r2, r3, r4, r5⟩ := HF.out c
              have hm9 := HM9.out
              rw [HL9.out, ← HV.out] at hm9
              exact HE8.out.i.step HME.out HML.out (x := EN.mk (p0 :: pr) els) (w8' := w8.drewN (nq + 1)) HE8.out.e HL2.out ⟨rfl, rfl, rfl, Nat.le_refl _, fun _ _ => rfl⟩ rfl HG9.out HS9.out (HMA.out.keep rfl) hm9 r3 r4 HM29.out r2 r5)
            clear HE9 HG9 HM9 HK9 HL9 HS9 HF HK10 HM29 het1 hex0 hep hup2 hdt1 hdx0 hdp hlk2 HMA HML HME HMN HL2 HE8
            generalize max a2 ((pr.length : Int) + 1) = cz
            go_wp2_with fail
            go_roundw
            case rel => exact ⟨k + 1, by go_num, by omega, HZ cz⟩
            case measure => simp [intOf]; omega
    · have hkk : k = (tabLs l).length := by omega
      subst hkk
      go_wp2_with fail
      have HI2 := HI.out
      rw [show (tabLs l).length = (tabLs l).length from rfl] at HI2
      go_ret3
      refine ⟨T, w.heap.size, b2, rfl, HI.out.b, HI.out.nT, HI.out.n1, HI.out.t, ?_⟩
      have h := HI.out.m
      rwa [List.take_length, tabLs_id] at h
end Go.Proofs.YtlkdjdcnbcegeaaGreatDoor
