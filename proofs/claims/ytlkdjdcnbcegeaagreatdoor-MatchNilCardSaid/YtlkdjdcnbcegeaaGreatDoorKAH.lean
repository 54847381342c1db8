/-
  table.Load, of any text.
-/
import Derived.Test.YtlkdjdcnbcegeaaGreatDoorKAD
import Derived.Test.YtlkdjdcnbcegeaaGreatDoorKAF
import Derived.Test.YtlkdjdcnbcegeaaGreatDoorKAG
import Derived.Carry
namespace Go.Proofs.YtlkdjdcnbcegeaaGreatDoor
open Go.RowKit Go.WideShapes
set_option linter.unusedVariables false
set_option linter.unusedSimpArgs false
/-- Lines gone through, and their entries. -/
inductive TScan : List (List UInt8) → List EN → Prop
  | nil : TScan [] []
  | skip {Ls dn s} : TScan Ls dn → (s = [] ∨ s.head? = some 35) → TScan (Ls ++ [s]) dn
  | ent {Ls dn x} : TScan Ls dn → EN.may x = true → TScan (Ls ++ [x.text]) (dn ++ [x])
theorem TScan.may {Ls : List (List UInt8)} {dn : List EN} (h : TScan Ls dn) : ∀ x ∈ dn, x.may = true := by
  induction h with
  | nil => simp
  | skip _ _ ih => exact ih
  | ent _ hm ih =>
    intro x hx
    rcases List.mem_append.1 hx with hx | hx
    · exact ih x hx
    · rw [List.mem_singleton.1 hx]; exact hm
/-- What a table that was read has. -/
structure TFine (l : List EN) : Prop where
  may : ∀ x ∈ l, x.may = true
  nd : (l.map EN.pts).Nodup
  len : l.length ≤ 4096
/-- What Load hands back. -/
def TLoadAny (w : World) (e : Ending) (w' : World) : Prop :=
  Below w.heap.size w w' ∧ ((∃ l T b1 b2, e = .returned (.tuple #[.pointer (some ⟨T, 0, none⟩), .int .i64 0, .int .i64 0]) ∧ w'.heap[T]? = some (.cells #[.map (some b1), .map (some b2)] 101 (0, 0)) ∧ TabX w' w'.heap.size b1 b2 l ∧ TFine l ∧ w.heap.size ≤ T ∧ w.heap.size ≤ b1 ∧ w.heap.size ≤ b2) ∨
    ∃ code line : Int, e = .returned (.tuple #[.pointer none, .int .i64 code, .int .i64 line]) ∧ 1 ≤ code)
/-- What holds while the lines are gone through. -/
structure LoadInvX (w wr : World) (b1 b2 T R : Nat) (Ls : List (List UInt8)) (l : List EN) : Prop where
  b : Below w.heap.size w wr
  n1 : w.heap.size ≤ b1
  n2 : w.heap.size ≤ b2
  n12 : b1 ≠ b2
  nT : w.heap.size ≤ T
  tl : T ≠ b1 ∧ T ≠ b2 ∧ R ≠ b1 ∧ R ≠ b2 ∧ w.heap.size ≤ R
  t : wr.heap[T]? = some (.cells #[.map (some b1), .map (some b2)] 101 (0, 0))
  r : wr.heap[R]? = some (.cells (Ls.map fun y => Value.string (txt y)).toArray 9 (0, 0))
  m : TabX wr wr.heap.size b1 b2 l
theorem LoadInvX.T_lt {w wr : World} {b1 b2 T R : Nat} {Ls : List (List UInt8)} {l : List EN} (h : LoadInvX w wr b1 b2 T R Ls l) : T < wr.heap.size := (Array.getElem?_eq_some_iff.1 h.t).1
theorem LoadInvX.R_lt {w wr : World} {b1 b2 T R : Nat} {Ls : List (List UInt8)} {l : List EN} (h : LoadInvX w wr b1 b2 T R Ls l) : R < wr.heap.size := (Array.getElem?_eq_some_iff.1 h.r).1
theorem LoadInvX.below {w wr w' : World} {b1 b2 T R : Nat} {Ls : List (List UInt8)} {l : List EN} (h : LoadInvX w wr b1 b2 T R Ls l) (hb : Below wr.heap.size wr w') : LoadInvX w w' b1 b2 T R Ls l :=
  ⟨h.b.trans (hb.mono h.b.size), h.n1, h.n2, h.n12, h.nT, h.tl, (hb.block T h.T_lt).trans h.t, (hb.block R h.R_lt).trans h.r, h.m.below hb⟩
/-- What holds while one entry is looked at. -/
structure EInvX (w wr : World) (b1 b2 T R : Nat) (Ls : List (List UInt8)) (l : List EN) (X : Nat) (v1 v2 : Value) (pts : List Int) (els : List EL) : Prop where
  i : LoadInvX w wr b1 b2 T R Ls l
  x : wr.heap[X]? = some (.cells #[v1, v2] 65 (0, 0))
  nx : w.heap.size ≤ X
  p : RowM wr wr.heap.size v1 pts.length (intCells pts)
  e : RowM wr wr.heap.size v2 els.length (elsCells els)
theorem EInvX.below {w wr w' : World} {b1 b2 T R : Nat} {Ls : List (List UInt8)} {l : List EN} {X : Nat} {v1 v2 : Value} {pts : List Int} {els : List EL} (h : EInvX w wr b1 b2 T R Ls l X v1 v2 pts els) (hb : Below wr.heap.size wr w') : EInvX w w' b1 b2 T R Ls l X v1 v2 pts els :=
  ⟨h.i.below hb, (hb.block X (Array.getElem?_eq_some_iff.1 h.x).1).trans h.x, h.nx, (h.p.below hb).more hb.size, (h.e.below hb).more hb.size⟩
theorem EInvX.start {w wr : World} {b1 b2 T R : Nat} {Ls : List (List UInt8)} {l : List EN} {v1 v2 : Value} {pts : List Int} {els : List EL} (h : LoadInvX w wr b1 b2 T R Ls l) (h1 : RowM wr wr.heap.size v1 pts.length (intCells pts)) (h2 : RowM wr wr.heap.size v2 els.length (elsCells els)) :
    EInvX w (wr.alloc (.cells #[v1, v2] 65)) b1 b2 T R Ls l wr.heap.size v1 v2 pts els := by
  have hb : Below wr.heap.size wr (wr.alloc (.cells #[v1, v2] 65)) := (Below.refl _ wr).alloc (Nat.le_refl _) _
  exact ⟨h.below hb, World.alloc_heap_new wr _, h.b.size, (h1.below hb).more hb.size, (h2.below hb).more hb.size⟩
/-- A line's entry is laid into the maps. -/
theorem LoadInvX.step {w w8 w8' w9 w10 : World} {b1 b2 T R : Nat} {Ls : List (List UInt8)} {l : List EN} {x : EN} {v : Value} {mm m2 m2' : List (Value × Value)} (h : LoadInvX w w8 b1 b2 T R Ls l)
    (hent : ∀ (i : Nat) x p, (l)[i]? = some x → mm[i]? = some p → EntM w8 w8.heap.size x p) (hml : mm.length = (l).length)
    (hv : RowM w8 w8.heap.size v x.els.length (elsCells x.els))
    (hd : Below w8.heap.size w8 w8') (hds : w8'.heap.size = w8.heap.size) (hg9 : w8'.grownBy w9 (some b1)) (hs9 : w9.heap.size = w8'.heap.size) (hm8 : MapAt w8' b1 RowKey mm) (hm9 : MapAt w9 b1 RowKey (mm ++ [(rowVal x.pts, v)]))
    (hg10 : w9.drew.grownBy w10 (some b2)) (hs10 : w10.heap.size = w9.drew.heap.size) (hm29 : MapAt w9.drew b2 IntKeyT m2) (hm10 : MapAt w10 b2 IntKeyT m2') (hlo : LongM w10 b2 (l ++ [x])) : LoadInvX w w10 b1 b2 T R Ls (l ++ [x]) := by
  have hs : w9.drew.heap.size = w8.heap.size := by show w9.heap.size = _; omega
  have hb9 : ∀ b, b < w8.heap.size → b ≠ b1 → w9.heap[b]? = w8.heap[b]? := fun b hb hne => (hg9.block b (by omega) (by simp [hne])).trans (hd.block b hb)
  have hb10 : ∀ b, b < w8.heap.size → b ≠ b1 → b ≠ b2 → w10.heap[b]? = w8.heap[b]? := fun b hb hne hne2 => (hg10.block b (by omega) (by simp [hne2])).trans (hb9 b hb hne)
  have hk : ∀ p : Addr, p.block < w8.heap.size → w10.cell? p = w8.cell? p := fun p hp => (cell_mapT hg10 hm29 hm10 p (by omega)).trans ((cell_mapT hg9 hm8 hm9 p (by omega)).trans (hd.cell hp))
  have hT := h.T_lt
  have hR := h.R_lt
  have hbw := h.b.size
  have hB9 : Below w.heap.size w w9 := (h.b.trans (hd.mono hbw)).grown hg9 (by omega) (fun j e => by cases e; exact h.n1)
  have hB10 : Below w.heap.size w w10 := hB9.drew.grown hg10 (by omega) (fun j e => by cases e; exact h.n2)
  refine ⟨hB10, h.n1, h.n2, h.n12, h.nT, h.tl, (hb10 T hT h.tl.1 h.tl.2.1).trans h.t, (hb10 R hR h.tl.2.2.1 h.tl.2.2.2.1).trans h.r, ?_⟩
  refine ⟨⟨mm ++ [(rowVal x.pts, v)], hm9.keep (hg10.block b1 (by have := hm9.lt; exact this) (by have := h.n12; simp; omega)), by simp [hml], ?_⟩, hlo⟩
  intro i y p hy hp
  by_cases hil : i < mm.length
  · rw [List.getElem?_append_left (by omega)] at hy
    rw [List.getElem?_append_left hil] at hp
    exact ⟨(hent i y p hy hp).1, (hent i y p hy hp).2.cells hk (by omega)⟩
  · have hi2 : i = mm.length := by
      have := (List.getElem?_eq_some_iff.1 hp).1
      simp at this
      omega
    subst hi2
    rw [List.getElem?_append_right (by omega)] at hy hp
    simp [← hml] at hy hp
    subst hy hp
    exact ⟨rfl, hv.cells hk (by omega)⟩
theorem loadInvX_start (w : World) (Ls : List (List UInt8)) : LoadInvX w ((((w.alloc (.map #[] 0)).alloc (.map #[] 0)).alloc (.cells #[Value.map (some w.heap.size), Value.map (some (w.heap.size + 1))] 101)).alloc (.cells (Ls.map fun y => Value.string (txt y)).toArray 9)) w.heap.size (w.heap.size + 1) (w.heap.size + 1 + 1) (w.heap.size + 1 + 1 + 1) Ls [] := by
  have a1 := World.alloc_heap_new w (.map #[] 0)
  have a2 := World.alloc_heap_new (w.alloc (.map #[] 0)) (.map #[] 0)
  have a3 := World.alloc_heap_new ((w.alloc (.map #[] 0)).alloc (.map #[] 0)) (.cells #[Value.map (some w.heap.size), Value.map (some (w.heap.size + 1))] 101)
  have a4 := World.alloc_heap_new (((w.alloc (.map #[] 0)).alloc (.map #[] 0)).alloc (.cells #[Value.map (some w.heap.size), Value.map (some (w.heap.size + 1))] 101)) (.cells (Ls.map fun y => Value.string (txt y)).toArray 9)
  simp only [World.size_alloc] at a1 a2 a3 a4
  refine ⟨(((((Below.refl _ w).alloc (Nat.le_refl _) _).alloc (by simp) _).alloc (by simp; omega) _).alloc (by simp; omega) _), Nat.le_refl _, by omega, by omega, by omega, ⟨by omega, by omega, by omega, by omega, by omega⟩, ?_, a4, ?_⟩
  · rw [Below.heap_alloc _ _ _ (by simp)]; exact a3
  · refine ⟨⟨[], ?_, rfl, by simp⟩, [], ?_, by simp, fun p hp => absurd rfl hp⟩
    · refine MapAt.keep (MapAt.made w RowKey) ?_
      rw [Below.heap_alloc _ _ _ (by simp; omega), Below.heap_alloc _ _ _ (by simp; omega), Below.heap_alloc _ _ _ (by simp)]
    · have h := MapAt.made (w.alloc (.map #[] 0)) IntKeyT
      rw [World.size_alloc] at h
      refine h.keep ?_
      rw [Below.heap_alloc _ _ _ (by simp), Below.heap_alloc _ _ _ (by simp)]
set_option maxRecDepth 100000 in
set_option maxHeartbeats 16000000 in
theorem tload_any (S0 : List UInt8) (hsz0 : S0.length ≤ 65536) (m : Int) (w : World) (HX : HexHere w) (HF : HexFew w) (hE : ErrHere w) (hm : w.cell? ⟨lays145_ren.g 1, 0, none⟩ = some (.int .i64 m)) :
    Calls Tryz.prog 28 #[.string (txt S0)] w (TLoadAny w) := by
  have HB0 := Lib.hid (Below.refl w.heap.size w)
  have HX0 := Lib.hid HX
  have HF0 := Lib.hid HF
  have HE0 := Lib.hid hE
  have HM := Lib.hid hm
  have hM0 : lays145_ren.g 1 < w.heap.size := Lib.lt_of_cell hm
  obtain ⟨Ls, hLs, h10, rfl⟩ := cut_at 10 S0
  have hll : Lib.lens Ls ≤ 65536 := by have := join_lens Ls [10]; omega
  have hln : Ls.length ≤ 65537 := by
    have h9 := join_lensN Ls [10]
    simp only [List.length_singleton, Nat.mul_one] at h9
    omega
  have HLL := Lib.hid hll
  have HS := Lib.hid (fun W hW => splitBy_ok 10 Ls hLs h10 (by rw [txt_size]; omega) m W hW)
  have hsz1 : ¬ 65536 < ((txt (Lib.join Ls [10])).size : Int) := by rw [txt_size]; omega
  clear HX HF hE hm hLs h10 hsz0 hll
  generalize txt (Lib.join Ls [10]) = S at HS hsz1 ⊢
  have hmk : ∀ (t : TypeId) (w : World), (Instr.makeMap t none).run Tryz.prog w = .ok (.map (some w.heap.size)) (w.alloc (.map #[] 0)) := fun t w => rfl
  go_enter Tryz.func28, Tryz.ntmps28
  go_wp2_with fail
  have HB1 := Lib.hid (((HB0.out.alloc (Nat.le_refl _) (.map #[] 0)).alloc (by simp) (.map #[] 0)).alloc (by simp; omega) (.cells #[Value.map (some w.heap.size), Value.map (some (w.heap.size + 1))] 101))
  refine (HS.out _ ((HB1.out.cell (p := ⟨lays146_ren.g 1, 0, none⟩) hM0).trans HM.out)).mono ?_
  rintro e w1 ⟨rfl, rfl⟩
  go_wp2_with fail
  have HI0 := Lib.hid (loadInvX_start w Ls)
  have HL := Lib.hid (show ∀ k (hk : k < Ls.length), ((Ls.map fun y => Value.string (txt y))).toArray[k]? = some (.string (txt Ls[k])) from fun k hk => by rw [List.getElem?_toArray, List.getElem?_map, List.getElem?_eq_getElem hk]; rfl)
  generalize hR : w.heap.size + 1 + 1 + 1 = R at HI0 ⊢
  generalize hT : w.heap.size + 1 + 1 = T at HI0 HB1 ⊢
  generalize hb2 : w.heap.size + 1 = b2 at HI0 HB1 ⊢
  clear HB1 HB0 HS hR hT hb2
  go_loopw [26] (fun t26 wr => ∃ (k : Nat) (l : List EN), t26 = .int .i64 k ∧ k ≤ Ls.length ∧ l.length ≤ 4096 ∧ Hid (LoadInvX w wr w.heap.size b2 T R Ls l) ∧ Hid (TScan (Ls.take k) l ∧ (l.map EN.pts).Nodup)) (fun t26 _ => Ls.length - (intOf t26).toNat)
  case atStart => exact ⟨0, [], rfl, by omega, by simp, HI0, Lib.hid ⟨TScan.nil, by simp⟩⟩
  case round =>
    clear HI0
    obtain ⟨k, l, rfl, hk, hl4, HI, HSC⟩ := hrel
    by_cases hkl : k < Ls.length
    · have hc : wr.cell? ⟨R, k, none⟩ = some (.string (txt Ls[k])) := by simp only [World.cell?, HI.out.r]; exact HL.out k hkl
      have HTk := Lib.hid (show Ls.take (k + 1) = Ls.take k ++ [Ls[k]] from List.take_succ_eq_append_getElem hkl)
      have HLt := Lib.hid (show Ls[k].length ≤ 65536 from Nat.le_trans (lens_mem (List.getElem_mem hkl)) HLL.out)
      generalize Ls[k] = s at hc HTk HLt
      cases s with
      | nil =>
        have HS3 := Lib.hid (show TScan (Ls.take (k + 1)) l ∧ (l.map EN.pts).Nodup from ⟨by rw [HTk.out]; exact HSC.out.1.skip (.inl rfl), HSC.out.2⟩)
        have hem : (txt ([] : List UInt8)).toList.isEmpty = true := by
          rw [← decide_eq_emptyBytes]; exact decide_eq_true rfl
        generalize txt ([] : List UInt8) = s0 at hc hem
        go_wp2_with fail
        go_roundw
        case rel => exact ⟨k + 1, l, by go_num, by omega, hl4, HI, HS3⟩
        case measure => simp [intOf]; omega
      | cons c0 r0 =>
        have hem : (txt (c0 :: r0)).toList.isEmpty = false := by
          rw [← decide_eq_emptyBytes]
          exact decide_eq_false (fun h => by have := congrArg ByteArray.size h; rw [txt_size] at this; simp at this)
        have hs1 : 0 < (txt (c0 :: r0)).size := by rw [txt_size]; simp
        have hfst : ∀ h : 0 < (txt (c0 :: r0)).size, (txt (c0 :: r0))[0]'h = c0 := fun h => rfl
        by_cases hc35 : c0 = 35
        · have HS3 := Lib.hid (show TScan (Ls.take (k + 1)) l ∧ (l.map EN.pts).Nodup from ⟨by rw [HTk.out]; exact HSC.out.1.skip (.inr (by rw [hc35]; rfl)), HSC.out.2⟩)
          have hb0 : ∀ h : 0 < (txt (c0 :: r0)).size, ((((txt (c0 :: r0))[0]'h).toNat : Int) == 35) = true := by
            intro h
            rw [hfst h, hc35]; rfl
          clear hfst
          generalize txt (c0 :: r0) = s0 at hc hem hs1 hb0
          have hb1 : (((s0[0]'hs1).toNat : Int) == 35) = true := hb0 hs1
          go_wp2_with fail
          go_roundw
          case rel => exact ⟨k + 1, l, by go_num, by omega, hl4, HI, HS3⟩
          case measure => simp [intOf]; omega
        · have hb0 : ∀ h : 0 < (txt (c0 :: r0)).size, ((((txt (c0 :: r0))[0]'h).toNat : Int) == 35) = false := by
            intro h
            rw [beq_eq_false_iff_ne, hfst h]
            intro e
            exact hc35 (UInt8.toNat_inj.1 (show c0.toNat = 35 by omega))
          clear hfst
          have HE := Lib.hid (entry_any (c0 :: r0) HLt.out m wr (HX0.out.on HI.out.b) (HF0.out.on HI.out.b) (HE0.out.on HI.out.b) ((HI.out.b.cell hM0).trans HM.out))
          generalize txt (c0 :: r0) = s0 at hc hem hs1 hb0 HE
          clear hc35 HLt
          go_wp2_with fail
          refine HE.out.mono ?_
          rintro e w5 ⟨A1, n1, k1, A2, n2, k2, ok, rfl, hb5, hyes⟩
          have HI5 := Lib.hid (HI.out.below hb5)
          clear HE HI hc hb0 hem
          cases ok with
          | false =>
            clear hyes
            have HB6 := Lib.hid (HI5.out.b.alloc HI5.out.b.size (.cells #[Value.slice A1 n1 k1, Value.slice A2 n2 k2] 65))
            go_wp2_with fail
            go_ret3
            exact ⟨HB6.out, Or.inr ⟨60, _, rfl, by omega⟩⟩
          | true =>
            obtain ⟨x, hxt, hp1, hp8, hpb, he1, he16, he4, ho1, ho2⟩ := hyes rfl
            clear hyes
            obtain ⟨g1, c1, e1⟩ : ∃ g c, Value.slice A1 n1 k1 = .slice (some ⟨g, 0, none⟩) x.pts.length c := by
              rcases ho1.2 with ⟨e, h0⟩ | ⟨g, cap, cur, e, _⟩
              · exact absurd h0 (by omega)
              · exact ⟨g, cap, e⟩
            obtain ⟨g2, c2, e2⟩ : ∃ g c, Value.slice A2 n2 k2 = .slice (some ⟨g, 0, none⟩) x.els.length c := by
              rcases ho2.2 with ⟨e, h0⟩ | ⟨g, cap, cur, e, _⟩
              · exact absurd h0 (by omega)
              · exact ⟨g, cap, e⟩
            rw [e1] at ho1
            rw [e2] at ho2
            rw [e1, e2]
            have HO1 := Lib.hid ho1
            have HO2 := Lib.hid ho2
            have HXT := Lib.hid (And.intro hxt (And.intro hpb he4))
            clear ho1 ho2 e1 e2 hxt hpb he4
            clear A1 n1 k1 A2 n2 k2
            go_wp2_with fail
            have HE0' := Lib.hid (EInvX.start HI5.out (own_rowM HO1.out (by omega)) (own_rowM HO2.out (by omega)))
            generalize hX : w5.heap.size = X at HE0' ⊢
            clear HI5 HO1 HO2 hX
            go_loopw [50] (fun t50 wr => ∃ j : Nat, t50 = .int .i64 j ∧ j ≤ x.els.length ∧ Hid (∀ i (h : i < x.els.length), i < j → rightB x.els[i] = true) ∧ Hid (EInvX w wr w.heap.size b2 T R Ls l X (.slice (some ⟨g1, 0, none⟩) x.pts.length c1) (.slice (some ⟨g2, 0, none⟩) x.els.length c2) x.pts x.els)) (fun t50 _ => x.els.length - (intOf t50).toNat)
            case atStart => exact ⟨0, rfl, by omega, Lib.hid (fun i h h0 => by omega), HE0'⟩
            case round =>
              clear HE0'
              obtain ⟨j, rfl, hj, HRT, HEI⟩ := hrel
              by_cases hjl : j < x.els.length
              · obtain ⟨b, o, c, ev, hb, hd0, hd1, hd2, hd3⟩ := HEI.out.e.el hjl
                injection ev with ea _ ec
                injection ea with ea
                injection ea with eb eo
                subst eb eo ec
                have HRt := Lib.hid (fun W => tabRight_any x.els[j] W)
                have HRj := Lib.hid (show rightB x.els[j] = true → ∀ i (h : i < x.els.length), i < j + 1 → rightB x.els[i] = true from fun hr i h hi => by
                  by_cases hij : i = j
                  · subst hij; exact hr
                  · exact HRT.out i h (by omega))
                generalize x.els[j] = el at hd0 hd1 hd2 hd3 HRt HRj
                simp only [Nat.zero_add] at hd0 hd1 hd2 hd3
                clear hb
                go_wp2_with fail
                refine (HRt.out _).mono ?_
                rintro e w7 ⟨rfl, hb7⟩
                have HE7 := Lib.hid (HEI.out.below (((Below.refl _ wr).alloc (Nat.le_refl _) _).trans (hb7.mono (by simp))))
                clear hb7 HEI HRt
                cases hr : rightB el with
                | true =>
                  have HR2 := Lib.hid (HRj.out hr)
                  go_wp2_with fail
                  go_roundw
                  case rel => exact ⟨j + 1, by go_num, by omega, HR2, HE7⟩
                  case measure => simp [intOf]; omega
                | false =>
                  go_wp2_with fail
                  go_ret3
                  exact ⟨HE7.out.i.b, Or.inr ⟨62, _, rfl, by omega⟩⟩
              · have hjj : j = x.els.length := by omega
                subst hjj
                have HMY := Lib.hid (show x.may = true from by
                  have hr : x.els.all rightB = true := List.all_eq_true.2 fun y hy => by
                    obtain ⟨i, hi, rfl⟩ := List.getElem_of_mem hy
                    exact HRT.out i hi hi
                  simp only [EN.may, Bool.and_eq_true, decide_eq_true_eq]
                  exact ⟨⟨⟨hp1, hp8, he1, he16⟩, HXT.out.2.1⟩, hr⟩)
                obtain ⟨pts, els⟩ := x
                obtain ⟨p0, pr, rfl⟩ : ∃ p0 pr, pts = p0 :: pr := by
                  cases pts with
                  | nil => simp at hp1
                  | cons a b => exact ⟨a, b, rfl⟩
                have HEI := Lib.hid (show EInvX w wr w.heap.size b2 T R Ls l X (.slice (some ⟨g1, 0, none⟩) (pr.length + 1) c1) (.slice (some ⟨g2, 0, none⟩) els.length c2) (p0 :: pr) els from HEI.out)
                have hp8 : (p0 :: pr).length ≤ 8 := hp8
                have he1 : 1 ≤ els.length := he1
                have he16 : els.length ≤ 16 := he16
                clear HRT hjl hj hp1
                have hcx0 : wr.cell? ⟨X, 0, none⟩ = some (.slice (some ⟨g1, 0, none⟩) (pr.length + 1) c1) := by simp [World.cell?, HEI.out.x]
                obtain ⟨a, b, d, e, f, g, h, i, j, hrow⟩ := rowCells_ints hp8
                have HV := Lib.hid (show rowVal (p0 :: pr) = .agg #[.int .i64 a, .int .i64 b, .int .i64 d, .int .i64 e, .int .i64 f, .int .i64 g, .int .i64 h, .int .i64 i, .int .i64 j] by rw [rowVal, hrow])
                clear hrow
                have HRO := Lib.hid (rowOf_ok (p0 :: pr) hp8 _ wr HEI.out.p)
                rw [HV.out] at HRO
                go_wp2_with fail
                refine HRO.out.mono ?_
                rintro e9 w7 ⟨rfl, hb7⟩
                have HE7 := Lib.hid (HEI.out.below hb7)
                clear hb7 HEI hcx0 HRO
                go_wp2_with fail
                have HE8 := Lib.hid (HE7.out.below (((Below.refl _ w7).alloc (Nat.le_refl _) (.cells #[Value.int .i64 a, Value.int .i64 b, Value.int .i64 d, Value.int .i64 e, Value.int .i64 f, Value.int .i64 g, Value.int .i64 h, Value.int .i64 i, Value.int .i64 j] 95))))
                have hY8 := World.alloc_heap_new w7 (.cells #[Value.int .i64 a, Value.int .i64 b, Value.int .i64 d, Value.int .i64 e, Value.int .i64 f, Value.int .i64 g, Value.int .i64 h, Value.int .i64 i, Value.int .i64 j] 95)
                generalize hY : w7.heap.size = Y at hY8 ⊢
                generalize (w7.alloc (.cells #[Value.int .i64 a, Value.int .i64 b, Value.int .i64 d, Value.int .i64 e, Value.int .i64 f, Value.int .i64 g, Value.int .i64 h, Value.int .i64 i, Value.int .i64 j] 95)) = w8 at hY8 HE8 ⊢
                have hYw : w.heap.size ≤ Y := by rw [← hY]; exact HE7.out.i.b.size
                clear hY HE7
                by_cases hdup : (p0 :: pr) ∈ l.map EN.pts
                · as_aux_lemma =>
                    obtain ⟨y, hy, hyx⟩ := List.mem_map.1 hdup
                    obtain ⟨mm, hma, v7, hv7, A7, n7, k7, hv7e⟩ := HE8.out.i.m.twice (EN.mk (p0 :: pr) els) hy hyx
                    rw [HV.out, hv7e] at hv7
                    have hlk : ∀ n, (Instr.lookup 98 (.map (some w.heap.size)) (.agg #[.int .i64 a, .int .i64 b, .int .i64 d, .int .i64 e, .int .i64 f, .int .i64 g, .int .i64 h, .int .i64 i, .int .i64 j]) true).run Tryz.prog (w8.drewN n) = .ok (.tuple #[.slice A7 n7 k7, .bool true]) (w8.drewN n) := fun n => by
                      have hm' : MapAt (w8.drewN n) w.heap.size RowKey mm := hma.keep (by simp)
                      rcases hm'.run_look row_keyOk Tryz.underlying98 (Tryz.zeroValue43 _) (HV.out ▸ rowKey_of hp8) true with ⟨h, hno⟩ | ⟨v, h, hv⟩
                      · exact absurd hv7 (hno _)
                      · rw [h, hma.one' hv hv7]; rfl
                    clear hv7 hv7e hma hy hyx hdup
                    have hct0 : w8.cell? ⟨T, 0, none⟩ = some (.map (some w.heap.size)) := by simp [World.cell?, HE8.out.i.t]
                    have hct1 : w8.cell? ⟨T, 1, none⟩ = some (.map (some b2)) := by simp [World.cell?, HE8.out.i.t]
                    have hcx0 : w8.cell? ⟨X, 0, none⟩ = some (.slice (some ⟨g1, 0, none⟩) (pr.length + 1) c1) := by simp [World.cell?, HE8.out.x]
                    have hcx1 : w8.cell? ⟨X, 1, none⟩ = some (.slice (some ⟨g2, 0, none⟩) els.length c2) := by simp [World.cell?, HE8.out.x]
                    have hcy0 : w8.cell? ⟨Y, 0, none⟩ = some (.int .i64 a) := by simp [World.cell?, hY8]
                    have hcy1 : w8.cell? ⟨Y, 1, none⟩ = some (.int .i64 b) := by simp [World.cell?, hY8]
                    have hcy2 : w8.cell? ⟨Y, 2, none⟩ = some (.int .i64 d) := by simp [World.cell?, hY8]
                    have hcy3 : w8.cell? ⟨Y, 3, none⟩ = some (.int .i64 e) := by simp [World.cell?, hY8]
                    have hcy4 : w8.cell? ⟨Y, 4, none⟩ = some (.int .i64 f) := by simp [World.cell?, hY8]
                    have hcy5 : w8.cell? ⟨Y, 5, none⟩ = some (.int .i64 g) := by simp [World.cell?, hY8]
                    have hcy6 : w8.cell? ⟨Y, 6, none⟩ = some (.int .i64 h) := by simp [World.cell?, hY8]
                    have hcy7 : w8.cell? ⟨Y, 7, none⟩ = some (.int .i64 i) := by simp [World.cell?, hY8]
                    have hcy8 : w8.cell? ⟨Y, 8, none⟩ = some (.int .i64 j) := by simp [World.cell?, hY8]
                    go_quiet (fail)
                    go_wp2_with fail
                    go_ret3
                    exact ⟨HE8.out.i.b.trans ⟨rfl, rfl, rfl, Nat.le_refl _, fun _ _ => rfl⟩, Or.inr ⟨61, _, rfl, by omega⟩⟩
                · by_cases hfull : l.length = 4096
                  · as_aux_lemma =>
                      obtain ⟨mm, hma, hml, hme, hmn⟩ := HE8.out.i.m.fresh (EN.mk (p0 :: pr) els) (fun y hy => by
                        have := HSC.out.1.may y hy
                        simp only [EN.may, Bool.and_eq_true, decide_eq_true_eq] at this
                        exact this.1.1.2.1) hp8 (fun y hy e => hdup (List.mem_map.2 ⟨y, hy, e⟩))
                      have hml2 : ((mm.length : Int) = 4096) := by omega
                      have hml3 : ((mm.length : Int) == 4096) = true := by rw [beq_iff_eq]; exact hml2
                      simp only [HV.out] at hmn
                      have hlk : ∀ n, (Instr.lookup 98 (.map (some w.heap.size)) (.agg #[.int .i64 a, .int .i64 b, .int .i64 d, .int .i64 e, .int .i64 f, .int .i64 g, .int .i64 h, .int .i64 i, .int .i64 j]) true).run Tryz.prog (w8.drewN n) = .ok (.tuple #[.slice none 0 0, .bool false]) (w8.drewN n) := fun n => by
                        have hm' : MapAt (w8.drewN n) w.heap.size RowKey mm := hma.keep (by simp)
                        rcases hm'.run_look row_keyOk Tryz.underlying98 (Tryz.zeroValue43 _) (HV.out ▸ rowKey_of hp8) true with ⟨h, _⟩ | ⟨v, _, h⟩
                        · exact h
                        · exact absurd h (hmn v)
                      have hln : ∀ n ty, (Builtin.len_ #[98] ty #[.map (some w.heap.size)]).run Tryz.prog (w8.drewN n) = .ok (.int .i64 mm.length) (w8.drewN n) := fun n ty => (hma.keep (w' := w8.drewN n) (by simp)).run_len Tryz.underlying98
                      have hct0 : w8.cell? ⟨T, 0, none⟩ = some (.map (some w.heap.size)) := by simp [World.cell?, HE8.out.i.t]
                      have hct1 : w8.cell? ⟨T, 1, none⟩ = some (.map (some b2)) := by simp [World.cell?, HE8.out.i.t]
                      have hcx0 : w8.cell? ⟨X, 0, none⟩ = some (.slice (some ⟨g1, 0, none⟩) (pr.length + 1) c1) := by simp [World.cell?, HE8.out.x]
                      have hcx1 : w8.cell? ⟨X, 1, none⟩ = some (.slice (some ⟨g2, 0, none⟩) els.length c2) := by simp [World.cell?, HE8.out.x]
                      have hcy0 : w8.cell? ⟨Y, 0, none⟩ = some (.int .i64 a) := by simp [World.cell?, hY8]
                      have hcy1 : w8.cell? ⟨Y, 1, none⟩ = some (.int .i64 b) := by simp [World.cell?, hY8]
                      have hcy2 : w8.cell? ⟨Y, 2, none⟩ = some (.int .i64 d) := by simp [World.cell?, hY8]
                      have hcy3 : w8.cell? ⟨Y, 3, none⟩ = some (.int .i64 e) := by simp [World.cell?, hY8]
                      have hcy4 : w8.cell? ⟨Y, 4, none⟩ = some (.int .i64 f) := by simp [World.cell?, hY8]
                      have hcy5 : w8.cell? ⟨Y, 5, none⟩ = some (.int .i64 g) := by simp [World.cell?, hY8]
                      have hcy6 : w8.cell? ⟨Y, 6, none⟩ = some (.int .i64 h) := by simp [World.cell?, hY8]
                      have hcy7 : w8.cell? ⟨Y, 7, none⟩ = some (.int .i64 i) := by simp [World.cell?, hY8]
                      have hcy8 : w8.cell? ⟨Y, 8, none⟩ = some (.int .i64 j) := by simp [World.cell?, hY8]
                      generalize (mm.length : Int) = ml at hml2 hml3 hln
                      clear hmn hma hml hme
                      go_quiet (fail)
                      go_wp2_with fail
                      go_ret3
                      exact ⟨HE8.out.i.b.trans ⟨rfl, rfl, rfl, Nat.le_refl _, fun _ _ => rfl⟩, Or.inr ⟨2, _, rfl, by omega⟩⟩
                  ·
                    obtain ⟨mm, hma, hml, hme, hmn⟩ := HE8.out.i.m.fresh (EN.mk (p0 :: pr) els) (fun y hy => by
                      have := HSC.out.1.may y hy
                      simp only [EN.may, Bool.and_eq_true, decide_eq_true_eq] at this
                      exact this.1.1.2.1) hp8 (fun y hy e => hdup (List.mem_map.2 ⟨y, hy, e⟩))
                    have hml2 : ¬ ((mm.length : Int) = 4096) := by omega
                    simp only [HV.out] at hmn
                    have hlk : ∀ n, (Instr.lookup 98 (.map (some w.heap.size)) (.agg #[.int .i64 a, .int .i64 b, .int .i64 d, .int .i64 e, .int .i64 f, .int .i64 g, .int .i64 h, .int .i64 i, .int .i64 j]) true).run Tryz.prog (w8.drewN n) = .ok (.tuple #[.slice none 0 0, .bool false]) (w8.drewN n) := fun n => by
                      have hm' : MapAt (w8.drewN n) w.heap.size RowKey mm := hma.keep (by simp)
                      rcases hm'.run_look row_keyOk Tryz.underlying98 (Tryz.zeroValue43 _) (HV.out ▸ rowKey_of hp8) true with ⟨h, _⟩ | ⟨v, _, h⟩
                      · exact h
                      · exact absurd h (hmn v)
                    have hln : ∀ n ty, (Builtin.len_ #[98] ty #[.map (some w.heap.size)]).run Tryz.prog (w8.drewN n) = .ok (.int .i64 mm.length) (w8.drewN n) := fun n ty => (hma.keep (w' := w8.drewN n) (by simp)).run_len Tryz.underlying98
                    have hct0 : w8.cell? ⟨T, 0, none⟩ = some (.map (some w.heap.size)) := by simp [World.cell?, HE8.out.i.t]
                    have hct1 : w8.cell? ⟨T, 1, none⟩ = some (.map (some b2)) := by simp [World.cell?, HE8.out.i.t]
                    have hcx0 : w8.cell? ⟨X, 0, none⟩ = some (.slice (some ⟨g1, 0, none⟩) (pr.length + 1) c1) := by simp [World.cell?, HE8.out.x]
                    have hcx1 : w8.cell? ⟨X, 1, none⟩ = some (.slice (some ⟨g2, 0, none⟩) els.length c2) := by simp [World.cell?, HE8.out.x]
                    have hcy0 : w8.cell? ⟨Y, 0, none⟩ = some (.int .i64 a) := by simp [World.cell?, hY8]
                    have hcy1 : w8.cell? ⟨Y, 1, none⟩ = some (.int .i64 b) := by simp [World.cell?, hY8]
                    have hcy2 : w8.cell? ⟨Y, 2, none⟩ = some (.int .i64 d) := by simp [World.cell?, hY8]
                    have hcy3 : w8.cell? ⟨Y, 3, none⟩ = some (.int .i64 e) := by simp [World.cell?, hY8]
                    have hcy4 : w8.cell? ⟨Y, 4, none⟩ = some (.int .i64 f) := by simp [World.cell?, hY8]
                    have hcy5 : w8.cell? ⟨Y, 5, none⟩ = some (.int .i64 g) := by simp [World.cell?, hY8]
                    have hcy6 : w8.cell? ⟨Y, 6, none⟩ = some (.int .i64 h) := by simp [World.cell?, hY8]
                    have hcy7 : w8.cell? ⟨Y, 7, none⟩ = some (.int .i64 i) := by simp [World.cell?, hY8]
                    have hcy8 : w8.cell? ⟨Y, 8, none⟩ = some (.int .i64 j) := by simp [World.cell?, hY8]
                    generalize (mm.length : Int) = ml at hml2 hln
                    have HMN := Lib.hid hmn
                    have HMA := Lib.hid hma
                    have HML := Lib.hid hml
                    have HME := Lib.hid hme
                    clear hmn hma hml hme
                    go_quiet (fail)
                    go_wp2_with fail
                    have HE9 := Lib.hid (HE8.out.below (w' := w8.drewN (nq + 1)) ⟨rfl, rfl, rfl, Nat.le_refl _, fun _ _ => rfl⟩)
                    obtain ⟨w9, l9, hup, hm9, hg9, hs9, _, hnew, _⟩ := (HMA.out.keep (w' := w8.drewN (nq + 1)) rfl).run_put row_keyOk Tryz.underlying98 (key := .agg #[.int .i64 a, .int .i64 b, .int .i64 d, .int .i64 e, .int .i64 f, .int .i64 g, .int .i64 h, .int .i64 i, .int .i64 j]) (val := .slice (some ⟨g2, 0, none⟩) els.length c2) (HV.out ▸ rowKey_of hp8)
                    have hk9 : ∀ p : Addr, p.block < w8.heap.size → w9.cell? p = w8.cell? p := fun p hp => cell_mapT hg9 (HMA.out.keep (w' := w8.drewN (nq + 1)) rfl) hm9 p hp
                    have hl9 := hnew HMN.out
                    clear hnew hlk hln
                    have HG9 := Lib.hid hg9
                    have HM9 := Lib.hid hm9
                    have HK9 := Lib.hid hk9
                    have HL9 := Lib.hid hl9
                    have HS9 := Lib.hid hs9
                    clear hg9 hm9 hk9 hl9 hs9
                    have hTl : T < w8.heap.size := HE8.out.i.T_lt
                    have hXl : X < w8.heap.size := (Array.getElem?_eq_some_iff.1 HE8.out.x).1
                    have hYl : Y < w8.heap.size := (Array.getElem?_eq_some_iff.1 hY8).1
                    have hdt0 := (HK9.out ⟨T, 0, none⟩ hTl).trans hct0
                    have hdt1 := (HK9.out ⟨T, 1, none⟩ hTl).trans hct1
                    have hdx0 := (HK9.out ⟨X, 0, none⟩ hXl).trans hcx0
                    have hdx1 := (HK9.out ⟨X, 1, none⟩ hXl).trans hcx1
                    have hdy0 := (HK9.out ⟨Y, 0, none⟩ hYl).trans hcy0
                    have hdy1 := (HK9.out ⟨Y, 1, none⟩ hYl).trans hcy1
                    have hdy2 := (HK9.out ⟨Y, 2, none⟩ hYl).trans hcy2
                    have hdy3 := (HK9.out ⟨Y, 3, none⟩ hYl).trans hcy3
                    have hdy4 := (HK9.out ⟨Y, 4, none⟩ hYl).trans hcy4
                    have hdy5 := (HK9.out ⟨Y, 5, none⟩ hYl).trans hcy5
                    have hdy6 := (HK9.out ⟨Y, 6, none⟩ hYl).trans hcy6
                    have hdy7 := (HK9.out ⟨Y, 7, none⟩ hYl).trans hcy7
                    have hdy8 := (HK9.out ⟨Y, 8, none⟩ hYl).trans hcy8
                    have hrg8 : w8.rangeAt Y 0 [Value.int .i64 a, Value.int .i64 b, Value.int .i64 d, Value.int .i64 e, Value.int .i64 f, Value.int .i64 g, Value.int .i64 h, Value.int .i64 i, Value.int .i64 j] := by
                      intro q v hq
                      simp only [World.cell?, hY8]
                      simpa using hq
                    have hrg9 : w9.rangeAt Y 0 [Value.int .i64 a, Value.int .i64 b, Value.int .i64 d, Value.int .i64 e, Value.int .i64 f, Value.int .i64 g, Value.int .i64 h, Value.int .i64 i, Value.int .i64 j] := fun q v hq => (HK9.out _ hYl).trans (hrg8 q v hq)
                    have hun := Tryz.underlying95
                    have hsz9 : (Tryz.prog.info? 95).map (·.size) = some [Value.int .i64 a, Value.int .i64 b, Value.int .i64 d, Value.int .i64 e, Value.int .i64 f, Value.int .i64 g, Value.int .i64 h, Value.int .i64 i, Value.int .i64 j].length := by kernel_rfl
                    go_region_held3 (fun W => W.cell? ⟨T, 0, none⟩ = some (.map (some w.heap.size)) ∧ W.cell? ⟨X, 1, none⟩ = some (.slice (some ⟨g2, 0, none⟩) els.length c2) ∧ W.rangeAt Y 0 [Value.int .i64 a, Value.int .i64 b, Value.int .i64 d, Value.int .i64 e, Value.int .i64 f, Value.int .i64 g, Value.int .i64 h, Value.int .i64 i, Value.int .i64 j])
                      (first | exact ⟨hct0, hcx1, hrg8⟩ | exact ⟨hdt0, hdx1, hrg9⟩)
                      (first | fail)
                    have hb28 : b2 < w8.heap.size := HE8.out.i.m.lo.lt
                    have hlo9 : LongM w9.drew b2 l := HE8.out.i.m.lo.keep (HG9.out.block b2 hb28 (by have := HE8.out.i.n12; simp; omega))
                    obtain ⟨a2, ha2⟩ : ∃ a2 : Int, a2 = (longP l p0 : Int) := ⟨_, rfl⟩
                    have hlk2 : (Instr.lookup 99 (.map (some b2)) (.int .i64 p0) false).run Tryz.prog w9.drew = .ok (.int .i64 a2) w9.drew := by rw [ha2]; exact hlo9.look p0
                    obtain ⟨w10, hup2, hlo10, hg10, hs10, mA, mB, hm29, hm10⟩ := hlo9.put (EN.mk (p0 :: pr) els) p0 rfl (max a2 ((pr.length : Int) + 1)) (by rw [ha2]; simp)
                    have hk10 : ∀ (p : Addr), p.block < w9.heap.size → w10.cell? p = w9.cell? p := fun p hp => cell_mapT hg10 hm29 hm10 p hp
                    have HLO := Lib.hid hlo10
                    have HG10 := Lib.hid hg10
                    have HS10 := Lib.hid hs10
                    have HM10 := Lib.hid hm10
                    have HK10 := Lib.hid hk10
                    have ha2b : 0 ≤ a2 := by omega
                    have HM29 := Lib.hid hm29
                    have hs98 : w9.heap.size = w8.heap.size := HS9.out
                    obtain ⟨gb, go_, gc, gev, gbl, gd⟩ := HE8.out.p.int (k := 0) (by simp)
                    injection gev with ga glen gec
                    injection ga with ga
                    injection ga with gab gao gsp
                    clear glen gsp
                    subst gab gao gec
                    have hdp := (HK9.out ⟨g1, 0, none⟩ gbl).trans gd
                    rw [show (p0 :: pr)[0] = p0 from rfl] at hdp
                    have het1 := (HK10.out ⟨T, 1, none⟩ (by show T < _; omega)).trans hdt1
                    have hex0 := (HK10.out ⟨X, 0, none⟩ (by show X < _; omega)).trans hdx0
                    have hep := (HK10.out ⟨g1, 0, none⟩ (by show g1 < _; omega)).trans hdp
                    clear hk10 hlo9 hlo10 hg10 hs10 hm10 hm29 gd ha2
                    clear hrg8 hrg9 hun hsz9 hcy0 hdy0 hcy1 hdy1 hcy2 hdy2 hcy3 hdy3 hcy4 hdy4 hcy5 hdy5 hcy6 hdy6 hcy7 hdy7 hcy8 hdy8 hct0 hct1 hcx0 hcx1 hdt0 hdx1 hY8 hup gbl hTl hXl hYl hb28 hYw
                    go_wp2_with fail
                    go_region_held3 (fun W => W.cell? ⟨T, 1, none⟩ = some (.map (some b2)) ∧ W.cell? ⟨X, 0, none⟩ = some (.slice (some ⟨g1, 0, none⟩) (pr.length + 1) c1) ∧ W.cell? ⟨g1, 0, none⟩ = some (.int .i64 p0))
                      (first | exact ⟨hdt1, hdx0, hdp⟩ | exact ⟨het1, hex0, hep⟩)
                      (first | fail)
                    have HZ := Lib.hid (show LoadInvX w w10 w.heap.size b2 T R Ls (l ++ [EN.mk (p0 :: pr) els]) from by
                      have hm9 := HM9.out
                      rw [HL9.out, ← HV.out] at hm9
                      exact HE8.out.i.step HME.out HML.out (x := EN.mk (p0 :: pr) els) (w8' := w8.drewN (nq + 1)) HE8.out.e ⟨rfl, rfl, rfl, Nat.le_refl _, fun _ _ => rfl⟩ rfl HG9.out HS9.out (HMA.out.keep rfl) hm9 HG10.out HS10.out HM29.out HM10.out HLO.out)
                    have HSN := Lib.hid (show TScan (Ls.take (k + 1)) (l ++ [EN.mk (p0 :: pr) els]) ∧ ((l ++ [EN.mk (p0 :: pr) els]).map EN.pts).Nodup from by
                      refine ⟨by rw [HTk.out, HXT.out.1]; exact HSC.out.1.ent HMY.out, ?_⟩
                      rw [List.map_append, List.nodup_append]
                      refine ⟨HSC.out.2, by simp, fun u hu v hv => ?_⟩
                      simp at hv
                      subst hv
                      intro e
                      subst e
                      exact hdup hu)
                    clear HE9 HG9 HM9 HK9 HL9 HS9 HK10 HM29 HM10 HG10 HS10 HLO het1 hex0 hep hup2 hdt1 hdx0 hdp hlk2 HMA HML HME HMN HE8
                    generalize max a2 ((pr.length : Int) + 1) = cz
                    go_wp2_with fail
                    go_roundw
                    case rel => exact ⟨k + 1, _, by go_num, by omega, by rw [List.length_append]; simp; omega, HZ, HSN⟩
                    case measure => simp [intOf]; omega
    · have hkk : k = Ls.length := by omega
      subst hkk
      go_wp2_with fail
      go_ret3
      have hsc := HSC.out
      rw [List.take_length] at hsc
      exact ⟨HI.out.b, Or.inl ⟨l, T, w.heap.size, b2, rfl, HI.out.t, HI.out.m, ⟨hsc.1.may, hsc.2, hl4⟩, HI.out.nT, HI.out.n1, HI.out.n2⟩⟩
end Go.Proofs.YtlkdjdcnbcegeaaGreatDoor
