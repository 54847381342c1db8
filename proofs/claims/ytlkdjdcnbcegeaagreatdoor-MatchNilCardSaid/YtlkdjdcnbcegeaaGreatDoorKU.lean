/-
  ucd.read, of a text that is no point's: a fault.
-/
import Derived.Test.YtlkdjdcnbcegeaaGreatDoorKM
import Derived.Test.YtlkdjdcnbcegeaaGreatDoorKT
import Derived.Test.YtlkdjdcnbcegeaaGreatDoorKP
import Derived.Lib.SlicesS
import Derived.RegionDies
/-! ucd.read, of a text that is no point's: a fault. -/
namespace Go.Proofs.YtlkdjdcnbcegeaaGreatDoor
open Go.RowKit Go.WideShapes
set_option linter.unusedVariables false
set_option linter.unusedSimpArgs false
/-- A fault is thrown. -/
def Faults (c : Int) (w : World) (e : Ending) (w' : World) : Prop := e = .panicked [{ v := .iface 109 (.agg #[.int .i64 c]), recovered := false }] ∧ Below w.heap.size w w'
def DigHere (w : World) : Prop := ∀ v : Int, -2147483648 ≤ v → v ≤ 2147483647 → ∀ W, Below w.heap.size w W → Calls Tryz.prog 109 #[.int .i64 v] W fun e w' => ∃ t : ByteArray, e = .returned (.string t) ∧ Below W.heap.size W w'
theorem DigHere.on {w W : World} (h : DigHere w) (hb : Below w.heap.size w W) : DigHere W := fun v h0 h1 W' hb' => h v h0 h1 W' (hb.trans (hb'.mono hb.size))
set_option maxRecDepth 100000 in
set_option maxHeartbeats 4000000 in
theorem read_bad (s : ByteArray) (hs : s.size ≤ 65536) (hno : ∀ p, fitsB p = true → s ≠ txt (hexW p.toNat)) (w : World) (HX : UHere w) (HD : DigHere w) (HE : ErrHere w) : Calls Tryz.prog 83 #[.string s] w (Faults 40 w) := by
  have HX0 := Lib.hid HX
  have HD0 := Lib.hid HD
  have HNO := Lib.hid hno
  have HP := Lib.hid (pint32_all s (by omega) w HE)
  have HI := Lib.hid (fun p W => ucdPoint_any p W)
  have HS := Lib.hid (fun p W => ucdSyl_any p W)
  clear HX HD HE hno
  go_enter Tryz.func83, Tryz.ntmps83
  go_wp2_with fail
  refine HP.out.mono ?_
  rintro e w2 ⟨v, er, rfl, hu, hb2⟩
  have HB2 := Lib.hid hb2
  clear hb2 HP
  rcases hu with ⟨rfl, h0, h1⟩ | ⟨T, p, rfl⟩
  · have HDig : Hid (Calls Tryz.prog 109 #[.int .i64 v] w2 fun e w' => ∃ t : ByteArray, e = .returned (.string t) ∧ (t = s → pointB v = false ∨ sylB v = true) ∧ Below w2.heap.size w2 w') := by
      refine Lib.hid ?_
      by_cases hr : 0 ≤ v ∧ v ≤ 1114111
      · obtain ⟨n, rfl⟩ := Int.eq_ofNat_of_zero_le hr.1
        refine (HX0.out n (by omega) w2 HB2.out).mono ?_
        rintro e w' ⟨rfl, hb⟩
        refine ⟨_, rfl, fun ht => ?_, hb⟩
        have hf : fitsB (n : Int) = false := by
          cases hf : fitsB (n : Int) with
          | false => rfl
          | true => exact absurd ht.symm (HNO.out _ hf)
        unfold fitsB at hf
        simp only [Bool.and_eq_false_iff, Bool.not_eq_false'] at hf
        exact hf
      · refine (HD0.out v h0 h1 w2 HB2.out).mono ?_
        rintro e w' ⟨t, rfl, hb⟩
        refine ⟨_, rfl, fun _ => Or.inl ?_, hb⟩
        simp only [pointB, decide_eq_false_iff_not]
        omega
    go_wp2_with fail
    refine HDig.out.mono ?_
    rintro e w3 ⟨t, rfl, hts, hb3⟩
    have HB3 := Lib.hid (HB2.out.trans (hb3.mono HB2.out.size))
    clear hb3 HDig HB2
    by_cases ht : t = s
    · subst ht
      have hps := hts rfl
      clear hts
      go_wp2_with fail
      refine (HI.out v _).mono ?_
      rintro e w4 ⟨rfl, hb4⟩
      have HB4 := Lib.hid (HB3.out.trans (hb4.mono HB3.out.size))
      clear hb4
      cases hpb : pointB v with
      | false =>
        go_wp2_with fail
        exact ⟨rfl, rfl, HB4.out⟩
      | true =>
        have hsy : sylB v = true := by rcases hps with h | h; (· rw [hpb] at h; cases h); exact h
        go_wp2_with fail
        refine (HS.out v _).mono ?_
        rintro e w5 ⟨rfl, hb5⟩
        rw [hsy]
        have HB5 := Lib.hid (HB4.out.trans (hb5.mono HB4.out.size))
        clear hb5
        go_wp2_with fail
        exact ⟨rfl, rfl, HB5.out⟩
    · clear hts
      have hd : (t.toList == s.toList) = false := by
        cases h : (t.toList == s.toList) with
        | false => rfl
        | true => exact absurd ((Lib.bytes_beq_iff t s).1 h) ht
      go_wp2_with fail
      exact ⟨rfl, rfl, HB3.out⟩
  · go_wp2_with fail
    exact ⟨rfl, rfl, HB2.out⟩
/-- What Atoi answers at whatever text. -/
def AtoiPost (w : World) (e : Ending) (w' : World) : Prop := ∃ (v : Int) (er : Value), e = .returned (.tuple #[.int .i64 v, er]) ∧ (er = .nilIface ∨ ∃ T p, er = .iface T p) ∧ Below w.heap.size w w'
theorem atoi_all (s : ByteArray) (hs : s.size ≤ 65536) (w : World) (HE : ErrHere w) : Calls Tryz.prog 84 #[.string s] w (AtoiPost w) := by
  obtain ⟨⟨te, pe, h15⟩, ⟨tr, pr, h16⟩⟩ := HE
  rcases h : Lib.atoiAll s.data.toList with v | _ | _
  ·
    refine (Any.strconv_Atoi_ok lays172c s (by omega) v h w).mono ?_
    rintro e w' ⟨rfl, rfl | ⟨t, rfl⟩⟩
    · exact ⟨_, _, rfl, Or.inl rfl, Below.refl _ _⟩
    · exact ⟨_, _, rfl, Or.inl rfl, Lib.bytesWorld_below w _ t⟩
  ·
    refine (Any.strconv_Atoi_syntax lays172c s (by omega) h _ w h15 (Or.inr ⟨te, pe, rfl⟩)).mono ?_
    rintro e w' ⟨N, rfl, _, _, hb⟩
    exact ⟨_, _, rfl, Or.inr ⟨_, _, rfl⟩, hb⟩
  ·
    refine (Any.strconv_Atoi_range lays172c s (by omega) h _ w h16 (Or.inr ⟨tr, pr, rfl⟩)).mono ?_
    rintro e w' ⟨N, rfl, _, _, hb⟩
    exact ⟨_, _, rfl, Or.inr ⟨_, _, rfl⟩, hb⟩
end Go.Proofs.YtlkdjdcnbcegeaaGreatDoor

/-! ucd.mark, of a text whose parts are not all points: a fault. -/
namespace Go.Proofs.YtlkdjdcnbcegeaaGreatDoor
open Go.RowKit Go.WideShapes
set_option linter.unusedVariables false
set_option linter.unusedSimpArgs false
theorem join_lensN (ts : List (List UInt8)) (sep : List UInt8) : ts.length * sep.length ≤ (Lib.join ts sep).length + sep.length := by
  cases ts with
  | nil => simp
  | cons x r =>
    rw [Lib.join_cons, List.length_append, Lib.joinTail_length, List.length_cons, Nat.succ_mul]
    rw [Nat.mul_comm sep.length] at *
    omega
theorem join_lens (ts : List (List UInt8)) (sep : List UInt8) : Lib.lens ts ≤ (Lib.join ts sep).length := by
  cases ts with
  | nil => simp [Lib.lens]
  | cons x r =>
    rw [Lib.join_cons, List.length_append, Lib.joinTail_length]
    simp only [Lib.lens, List.map_cons, List.sum_cons]
    omega
/-- What holds while a mark's parts are read. -/
structure MInvX (LL : List (List UInt8)) (w wr : World) (T R2 : Nat) (m : MK) (k : Nat) (vo : Value) : Prop where
  b : Below w.heap.size w wr
  t : wr.heap[T]? = some (.cells #[.int .i64 m.pt, .int .i64 m.cls, vo] 75 (0, 0))
  r : wr.heap[R2]? = some (.cells (LL.map fun y => Value.string (txt y)).toArray 9 (0, 0))
  q : wr.heap[w.heap.size]? = some (.cells #[.int .i64 0, .int .i64 0, .slice none 0 0] 75 (0, 0))
  o : wr.ownsRow (T + 1) 3 1 vo k (intCells (m.parts.take k))
  nT : w.heap.size < T
  z : T < wr.heap.size
theorem MInvX.below {LL : List (List UInt8)} {w wr w' : World} {T R2 : Nat} {m : MK} {k : Nat} {vo : Value} (h : MInvX LL w wr T R2 m k vo) (hb : Below wr.heap.size wr w') : MInvX LL w w' T R2 m k vo :=
  ⟨h.b.trans (hb.mono h.b.size), (hb.block T h.z).trans h.t, (hb.block R2 (Array.getElem?_eq_some_iff.1 h.r).1).trans h.r, (hb.block _ (by have := h.nT; have := h.z; omega)).trans h.q, own_under h.o hb, h.nT, Nat.lt_of_lt_of_le h.z hb.size⟩
theorem mInvX_next {LL : List (List UInt8)} {w wa w5 : World} {T R2 k g c : Nat} {m : MK} {vo : Value} {p : Int} (h : MInvX LL w wa T R2 m k vo) (hg : wa.grownBy w5 vo.ownBlock) (ho : w5.ownsRow (T + 1) 3 1 (.slice (some ⟨g, 0, none⟩) (k + 1) c) (k + 1) (intCells (m.parts.take k) ++ [.int .i64 p])) (hk : m.parts.take (k + 1) = m.parts.take k ++ [p]) (hR : R2 ≠ T) :
    MInvX LL w (w5.setCell ⟨T, 2, none⟩ (.slice (some ⟨g, 0, none⟩) (k + 1) c)) T R2 m (k + 1) (.slice (some ⟨g, 0, none⟩) (k + 1) c) := by
  have hT := h.z
  have hN := h.nT
  have hlo : ∀ j, vo.ownBlock = some j → T + 1 ≤ j := fun j e => (h.o.lt j e).1
  have hT5 := (hg.block T h.z (own_box_off h.o h.t (by decide))).trans h.t
  have hR5 := (hg.block R2 (Array.getElem?_eq_some_iff.1 h.r).1 (own_box_off h.o h.r (by decide))).trans h.r
  have hQ5 := (hg.block w.heap.size (by omega) (own_box_off h.o h.q (by decide))).trans h.q
  have hgl : T + 1 ≤ g := (ho.lt g rfl).1
  have hT6 := heap_setCell_same w5 T 2 _ _ (.slice (some ⟨g, 0, none⟩) (k + 1) c) hT5
  refine ⟨(h.b.grown hg h.b.size (fun j e => by have := hlo j e; omega)).setCell (p := ⟨T, 2, none⟩) (show w.heap.size ≤ T by omega) _, by simpa using hT6, (Below.heap_setCell _ _ _ _ (by show R2 ≠ T; exact hR)).trans hR5, (Below.heap_setCell _ _ _ _ (by show w.heap.size ≠ T; omega)).trans hQ5, ?_, hN, by simp; have := hg.size; omega⟩
  rw [hk]
  have e : intCells (m.parts.take k ++ [p]) = intCells (m.parts.take k) ++ [.int .i64 p] := by simp [intCells]
  rw [e]
  refine ⟨ho.1, ?_⟩
  rcases ho.2 with ⟨e, _⟩ | ⟨g', cap, cur, e, h2, h3, h4⟩
  · cases e
  · refine Or.inr ⟨g', cap, cur, e, h2, ?_, h4⟩
    rw [Below.heap_setCell _ _ _ _ (by show g' ≠ T; omega)]
    exact h3
set_option maxRecDepth 100000 in
set_option maxHeartbeats 8000000 in
theorem mark_late (m : MK) (hm : m.may = true) (y : List UInt8) (rest : List (List UInt8)) (hsz : (txt (Lib.join [hexW m.pt.toNat, Lib.decDigits m.cls.toNat, Lib.join (hexs m.parts ++ y :: rest) [32]] [59])).size ≤ 65536) (h32 : ∀ z ∈ y :: rest, (32 : UInt8) ∉ z) (h59 : (59 : UInt8) ∉ Lib.join (hexs m.parts ++ y :: rest) [32]) (hne : Lib.join (hexs m.parts ++ y :: rest) [32] ≠ []) (hbad : ∀ p, fitsB p = true → txt y ≠ txt (hexW p.toNat)) (mx : Int) (w : World) (HX : UHere w) (HI : ItoaHere w) (HD : DigHere w) (HE : ErrHere w) (hmx : w.cell? ⟨lays146_ren.g 1, 0, none⟩ = some (.int .i64 mx)) :
    Calls Tryz.prog 54 #[.string (txt (Lib.join [hexW m.pt.toNat, Lib.decDigits m.cls.toNat, Lib.join (hexs m.parts ++ y :: rest) [32]] [59]))] w (Faults 40 w) := by
  have HD0 := Lib.hid HD
  have HE0 := Lib.hid HE
  have HBad := Lib.hid hbad
  have H32 := Lib.hid h32
  obtain ⟨hfp, hcl, hpa⟩ := may_of hm
  have HX0 := Lib.hid HX
  have HI0 := Lib.hid HI
  have HM := Lib.hid hmx
  have hM0 : lays146_ren.g 1 < w.heap.size := Lib.lt_of_cell hmx
  have HB0 := Lib.hid (Below.refl w.heap.size w)
  obtain ⟨X, hX⟩ : ∃ X, X = Lib.join (hexs m.parts ++ y :: rest) [32] := ⟨_, rfl⟩
  rw [← hX] at hsz h59 hne ⊢
  have hXs : X.length ≤ 65536 := by
    rw [txt_size] at hsz
    have := join_lens [hexW m.pt.toNat, Lib.decDigits m.cls.toNat, X] [59]
    simp only [Lib.lens, List.map_cons, List.sum_cons, List.map_nil, List.sum_nil] at this
    omega
  have hys : (txt y).size ≤ 65536 := by
    rw [txt_size]
    have := join_lens (hexs m.parts ++ y :: rest) [32]
    rw [← hX] at this
    simp only [Lib.lens, List.map_append, List.sum_append, List.map_cons, List.sum_cons] at this
    omega
  have hns : (hexs m.parts ++ y :: rest).length ≤ 65537 := by
    have h9 := join_lensN (hexs m.parts ++ y :: rest) [32]
    rw [← hX] at h9
    simp only [List.length_singleton, Nat.mul_one] at h9
    omega
  have HS := Lib.hid (fun W hW => splitBy_ok 59 [hexW m.pt.toNat, Lib.decDigits m.cls.toNat, X] (by simp) (fun z hz => by
    simp only [List.mem_cons, List.not_mem_nil, or_false] at hz
    rcases hz with rfl | rfl | rfl
    · exact hexW_no hexU_ne59 _
    · exact dec_no59 (by omega)
    · exact h59) (by omega) mx W hW)
  have HFP := Lib.hid hfp
  have HPA := Lib.hid hpa
  obtain ⟨C, hC⟩ := Int.eq_ofNat_of_zero_le hcl.1
  have hC2 : C ≤ 254 := by omega
  have HXS := Lib.hid (And.intro hX hXs)
  have hem : (txt X).toList.isEmpty = false := by
    rw [← decide_eq_emptyBytes]
    refine decide_eq_false fun h => ?_
    have h2 := congrArg ByteArray.size h
    rw [txt_size] at h2
    exact hne (List.eq_nil_of_length_eq_zero h2)
  have HEm := Lib.hid hem
  clear HX HI HD HE hbad h32 h59 hne hX hXs hem hmx hfp hpa hsz hm
  generalize txt (Lib.join [hexW m.pt.toNat, Lib.decDigits m.cls.toNat, X] [59]) = S at HS ⊢
  go_enter Tryz.func54, Tryz.ntmps54
  go_wp2_with fail
  have HQ0 := Lib.hid (World.alloc_heap_new w (.cells #[Value.int .i64 0, Value.int .i64 0, Value.slice none 0 0] 75))
  have HB1 := Lib.hid (HB0.out.alloc (Nat.le_refl _) (.cells #[Value.int .i64 0, Value.int .i64 0, Value.slice none 0 0] 75))
  refine (HS.out _ ((HB1.out.cell (p := ⟨lays146_ren.g 1, 0, none⟩) hM0).trans HM.out)).mono ?_
  rintro e w2 ⟨rfl, rfl⟩
  rw [show ([hexW m.pt.toNat, Lib.decDigits m.cls.toNat, X] : List (List UInt8)).length = 3 from rfl]
  have hQ2 : ((w.alloc (.cells #[Value.int .i64 0, Value.int .i64 0, Value.slice none 0 0] 75)).alloc (.cells (([hexW m.pt.toNat, Lib.decDigits m.cls.toNat, X] : List (List UInt8)).map fun y => Value.string (txt y)).toArray 9)).heap[w.heap.size]? = some (.cells #[Value.int .i64 0, Value.int .i64 0, Value.slice none 0 0] 75 (0, 0)) := by
    rw [Below.heap_alloc _ _ _ (by simp)]; exact HQ0.out
  have hR2 := World.alloc_heap_new (w.alloc (.cells #[Value.int .i64 0, Value.int .i64 0, Value.slice none 0 0] 75)) (.cells (([hexW m.pt.toNat, Lib.decDigits m.cls.toNat, X] : List (List UInt8)).map fun y => Value.string (txt y)).toArray 9)
  have hB2 := HB1.out.alloc (by simp) (.cells (([hexW m.pt.toNat, Lib.decDigits m.cls.toNat, X] : List (List UInt8)).map fun y => Value.string (txt y)).toArray 9)
  rw [World.size_alloc] at hR2 ⊢
  generalize ((w.alloc (.cells #[Value.int .i64 0, Value.int .i64 0, Value.slice none 0 0] 75)).alloc (.cells (([hexW m.pt.toNat, Lib.decDigits m.cls.toNat, X] : List (List UInt8)).map fun y => Value.string (txt y)).toArray 9)) = w2 at hQ2 hR2 hB2 ⊢
  have hc0 : w2.cell? ⟨w.heap.size + 1, 0, none⟩ = some (.string (txt (hexW m.pt.toNat))) := by simp [World.cell?, hR2]
  have HB2 := Lib.hid hB2
  have HQ2 := Lib.hid hQ2
  have HR2 := Lib.hid hR2
  have HRd := Lib.hid (read_ok HFP.out w2 (HX0.out.on hB2))
  have hz2 : w.heap.size + 1 < w2.heap.size := (Array.getElem?_eq_some_iff.1 hR2).1
  clear hQ2 hR2 hB2 HQ0 HB1 HB0 HS
  go_wp2_with fail
  refine HRd.out.mono ?_
  rintro e w3 ⟨rfl, hb3⟩
  have HB3 := Lib.hid (HB2.out.trans (hb3.mono (by omega)))
  have HQ3 := Lib.hid ((hb3.block _ (by omega)).trans HQ2.out)
  have HR3 := Lib.hid ((hb3.block _ hz2).trans HR2.out)
  have hz3 : w.heap.size + 1 < w3.heap.size := by have := hb3.size; omega
  have hc1 : w3.cell? ⟨w.heap.size + 1, 1, none⟩ = some (.string (txt (Lib.decDigits C))) := by simp [World.cell?, HR3.out, hC]
  have HAt := Lib.hid (fun W => atoi_ok C hC2 W)
  have HIt := Lib.hid (fun W hb => HI0.out C hC2 W hb)
  clear hb3 HB2 HQ2 HR2 hc0 HRd
  generalize txt (Lib.decDigits C) = s1 at hc1 HAt HIt
  go_wp2_with fail
  have HB4 := Lib.hid (HB3.out.alloc (by omega) (.cells #[Value.int .i64 m.pt, Value.int .i64 0, Value.slice none 0 0] 75))
  have hT4 := World.alloc_heap_new w3 (.cells #[Value.int .i64 m.pt, Value.int .i64 0, Value.slice none 0 0] 75)
  have hQ4 := (Below.heap_alloc w3 (.cells #[Value.int .i64 m.pt, Value.int .i64 0, Value.slice none 0 0] 75) w.heap.size (by omega)).trans HQ3.out
  have hR4 := (Below.heap_alloc w3 (.cells #[Value.int .i64 m.pt, Value.int .i64 0, Value.slice none 0 0] 75) (w.heap.size + 1) hz3).trans HR3.out
  have hs4 : (w3.alloc (.cells #[Value.int .i64 m.pt, Value.int .i64 0, Value.slice none 0 0] 75)).heap.size = w3.heap.size + 1 := by simp
  generalize (w3.alloc (.cells #[Value.int .i64 m.pt, Value.int .i64 0, Value.slice none 0 0] 75)) = w4 at HB4 hT4 hQ4 hR4 hs4 ⊢
  generalize hT : w3.heap.size = T at hT4 hs4 ⊢
  have hTz : w.heap.size + 1 < T := by omega
  refine (HAt.out w4).mono ?_
  rintro e w5 ⟨rfl, hb5⟩
  have HB5 := Lib.hid (HB4.out.trans (hb5.mono (by omega)))
  have hz5 : T < w5.heap.size := by have := hb5.size; omega
  have HT5 := Lib.hid ((hb5.block _ (by omega)).trans hT4)
  have HQ5 := Lib.hid ((hb5.block _ (by omega)).trans hQ4)
  have HR5 := Lib.hid ((hb5.block _ (by omega)).trans hR4)
  have hc1' : w5.cell? ⟨w.heap.size + 1, 1, none⟩ = some (.string s1) := by
    rw [hb5.cell (by show w.heap.size + 1 < _; omega), ← hc1]
    simp only [World.cell?, hR4, HR3.out]
  have hC254 : decide ((254 : Int) < C) = false := decide_eq_false (by omega)
  have hC255 : ((254 : Int) < C) = False := eq_false (by omega)
  have hC0 : decide ((C : Int) < 0) = false := decide_eq_false (by omega)
  clear hT4 hQ4 hR4 HB4 hb5 HQ3 HR3 HB3 hc1 HAt hT hs4 hz3
  go_wp2_with fail
  have hS0 : Below w5.heap.size w5 w5 ∧ w5.cell? ⟨w.heap.size + 1, 1, none⟩ = some (.string s1) := ⟨Below.refl _ _, hc1'⟩
  clear hc1'
  go_region_held3 (fun W => Below w5.heap.size w5 W ∧ W.cell? ⟨w.heap.size + 1, 1, none⟩ = some (.string s1))
    (first | exact hS0 | exact ⟨hS0.1.drew, hS0.2⟩)
    (first | (go_at_call 85; refine (HIt.out _ (by first | exact HB5.out.trans (hS0.1.mono (by omega)) | exact HB5.out.trans (hS0.1.drew.mono (by omega)))).mono ?_; rintro e w6 ⟨rfl, hb6⟩; have hS0 : Below w5.heap.size w5 w6 ∧ w6.cell? ⟨w.heap.size + 1, 1, none⟩ = some (.string s1) := ⟨hS0.1.drew.trans (hb6.mono (by exact hS0.1.drew.size)), (hb6.cell (by show w.heap.size + 1 < _; have := hS0.1.drew.size; omega)).trans hS0.2⟩))
  have HB6 := Lib.hid (HB5.out.trans (hS0.1.mono (by omega)))
  have hT6 := (hS0.1.block T hz5).trans HT5.out
  have HQ6 := Lib.hid ((hS0.1.block w.heap.size (by omega)).trans HQ5.out)
  have HR6 := Lib.hid ((hS0.1.block (w.heap.size + 1) (by omega)).trans HR5.out)
  have hz6 : T < w6.heap.size := Nat.lt_of_lt_of_le hz5 hS0.1.size
  have hcT1 : w6.cell? ⟨T, 1, none⟩ = some (.int .i64 0) := by simp [World.cell?, hT6]
  have hfT1 : w6.frozen? ⟨T, 1, none⟩ = false := by simp [World.frozen?, hT6]
  have hc2 : w6.cell? ⟨w.heap.size + 1, 2, none⟩ = some (.string (txt X)) := by simp [World.cell?, HR6.out]
  have HT6 := Lib.hid hT6
  have HTC := Lib.hid (show w6.heap[T]? = some (.cells #[.int .i64 m.pt, .int .i64 0, .slice none 0 0] 75 (0, 0)) from hT6)
  clear hS0 hT6 HT5 HQ5 HR5 HB5 HIt hC254 hC255
  clear hb6
  clear hc2
  go_upto_region 9 with fail
  have hT7 := heap_setCell_same w6 T 1 _ _ (.int .i64 C) HTC.out
  have HT7 := Lib.hid (show (w6.setCell ⟨T, 1, none⟩ (.int .i64 C)).heap[T]? = some (.cells #[.int .i64 m.pt, .int .i64 C, .slice none 0 0] 75 (0, 0)) by simpa using hT7)
  have HQ7 := Lib.hid ((Below.heap_setCell w6 ⟨T, 1, none⟩ (.int .i64 C) w.heap.size (by show w.heap.size ≠ T; omega)).trans HQ6.out)
  have HR7 := Lib.hid ((Below.heap_setCell w6 ⟨T, 1, none⟩ (.int .i64 C) (w.heap.size + 1) (by show w.heap.size + 1 ≠ T; omega)).trans HR6.out)
  have HB7 := Lib.hid (HB6.out.setCell (p := ⟨T, 1, none⟩) (show w.heap.size ≤ T by omega) (.int .i64 C))
  have hz7 : T < (w6.setCell ⟨T, 1, none⟩ (.int .i64 C)).heap.size := by simpa using hz6
  clear hT7
  generalize w6.setCell ⟨T, 1, none⟩ (.int .i64 C) = w7 at HT7 HQ7 HR7 HB7 hz7 ⊢
  have hc2 : w7.cell? ⟨w.heap.size + 1, 2, none⟩ = some (.string (txt X)) := by simp [World.cell?, HR7.out]
  clear HB6 HQ6 HR6 HT6 HTC hcT1 hfT1 hz6
  have hmc : m.cls = (C : Int) := hC
  · have hem := HEm.out
    have HSp := Lib.hid (splitBy_ok 32 (hexs m.parts ++ y :: rest) (by simp) (fun z hz => by
      rcases List.mem_append.1 hz with hz | hz
      · obtain ⟨p, _, rfl⟩ := List.mem_map.1 hz
        exact hexW_no hexU_ne32 _
      · exact H32.out z hz) (by rw [← HXS.out.1, txt_size]; have := HXS.out.2; omega) mx w7 ((HB7.out.cell hM0).trans HM.out))
    rw [← HXS.out.1] at HSp
    obtain ⟨n, hn⟩ : ∃ n, n = (hexs m.parts ++ y :: rest).length := ⟨_, rfl⟩
    have hnp : m.parts.length < n := by rw [hn]; simp [hexs]
    rw [← hn] at hns HSp
    obtain ⟨LL, hLL⟩ : ∃ LL, LL = hexs m.parts ++ y :: rest := ⟨_, rfl⟩
    rw [← hLL] at HSp
    have HLL := Lib.hid hLL
    clear hLL hn
    have hlen7 : m.parts.length ≤ 4294967281 := by omega
    generalize txt X = s2 at hc2 hem HSp
    go_wp2_with fail
    refine HSp.out.mono ?_
    rintro e w8 ⟨rfl, rfl⟩
    have hb8 : Below w7.heap.size w7 (w7.alloc (.cells (LL.map fun y => Value.string (txt y)).toArray 9)) := (Below.refl _ w7).alloc (Nat.le_refl _) _
    have HI8 := Lib.hid (show MInvX LL w (w7.alloc (.cells (LL.map fun y => Value.string (txt y)).toArray 9)) T w7.heap.size m 0 (.slice none 0 0) from ⟨HB7.out.trans (hb8.mono (by omega)), by rw [hmc]; exact (hb8.block T hz7).trans HT7.out, World.alloc_heap_new w7 _, (hb8.block _ (by omega)).trans HQ7.out, World.ownsRow_nil _ _ _ _, by omega, by simp; omega⟩)
    have hR2T : w7.heap.size ≠ T := by omega
    clear hb8 hc2 HSp
    generalize w7.heap.size = R2 at HI8 hR2T ⊢
    clear HT7 HQ7 HR7 HB7 hz7
    obtain ⟨i6, ihi, ihz0, ihz1, ihz2⟩ := info_parts int_info
    go_wp2_with fail
    go_loopw [59] (fun t59 wr => ∃ (k : Nat) (vo : Value), t59 = .int .i64 k ∧ k ≤ m.parts.length ∧ Hid (MInvX LL w wr T R2 m k vo)) (fun t59 _ => m.parts.length + 1 - (intOf t59).toNat)
    case atStart => exact ⟨0, _, rfl, by omega, HI8⟩
    case round =>
      clear HI8
      obtain ⟨k, vo, rfl, hk, HMI⟩ := hrel
      by_cases hkl : k < m.parts.length
      · have hcl : wr.cell? ⟨R2, k, none⟩ = some (.string (txt (hexW m.parts[k].toNat))) := by
          simp only [World.cell?, HMI.out.r]
          rw [HLL.out]
          simp [hexs, hkl, List.getElem?_append]
        have HK1 := Lib.hid (show m.parts.take (k + 1) = m.parts.take k ++ [m.parts[k]] from List.take_succ_eq_append_getElem hkl)
        have hfk : fitsB m.parts[k] = true := List.all_eq_true.1 HPA.out _ (List.getElem_mem hkl)
        have HRp := Lib.hid (read_ok hfk wr.drew (show UHere wr.drew from HX0.out.on HMI.out.b.drew))
        generalize m.parts[k] = p at hcl HK1 HRp
        generalize txt (hexW p.toNat) = s3 at hcl HRp
        have hcd : wr.drew.cell? ⟨T, 2, none⟩ = some vo := by show wr.cell? _ = _; simp [World.cell?, HMI.out.t]
        clear hfk
        go_upto_region 13 with fail
        refine wp_region_noPanic ?_
        refine wp_region_held_drew (S := fun _ => True) (by kernel_rfl) trivial (fun hHd0 => ?_)
        (try simp only [Act.put, List.setIfInBounds_toArray, List.set_cons_zero, List.set_cons_succ])
        refine wpAnyH_take (i := 0) (oi := ?_) (v := ?_) ?_ (by kernel_rfl) (by kernel_rfl) (by kernel_rfl) (fun _ _ _ h => h) (Or.inl ⟨?_, ?_⟩) hHd0 ?_
        rotate_left 2
        · (simp only [List.getElem?_toArray, List.getElem?_cons_zero]; rfl)
        · rfl
        · (intro w hSw; go_simp; (try with_reducible rfl))
        (try simp only [Act.put, List.setIfInBounds_toArray, List.set_cons_zero, List.set_cons_succ])
        refine wpAnyH_take (i := 2) (oi := ?_) (v := ?_) ?_ (by kernel_rfl) (by kernel_rfl) (by kernel_rfl) (fun _ _ _ h => h) (Or.inl ⟨?_, ?_⟩) hHd0 ?_
        rotate_left 2
        · (simp only [List.getElem?_toArray, List.getElem?_cons_succ, List.getElem?_cons_zero]; rfl)
        · rfl
        · (intro w hSw; go_simp; (try with_reducible rfl))
        (try simp only [Act.put, List.setIfInBounds_toArray, List.set_cons_zero, List.set_cons_succ])
        refine wpAnyH_ready (rs := [1, 3]) (by kernel_rfl) (by simp) ?_
        refine AllReadyH.cons (by rfl) (fun K hK => ?_) ?_
        · go_simp
          refine hK.out _ _ trivial (fun hHd1 => ?_)
          clear hK K
          (try simp only [Act.put, List.setIfInBounds_toArray, List.set_cons_zero, List.set_cons_succ])
          refine wpAnyH_ready (rs := [3]) (by kernel_rfl) (by simp) ?_
          refine AllReadyH.cons (by rfl) (fun K hK => ?_) AllReadyH.nil
          go_simp
          go_at_call 83
          refine (HRp.out).mono ?_
          rintro e w2 ⟨rfl, hb2⟩
          have hB2 := (Below.refl wr.heap.size wr).drew.trans hb2
          have hs2 : wr.heap.size ≤ w2.heap.size := hB2.size
          have hI2 := HMI.out.below hB2
          have hcv2 : w2.cell? ⟨T, 2, none⟩ = some vo := by simp [World.cell?, hI2.t]
          have hIa := hI2.below ((Below.refl _ w2).alloc (Nat.le_refl _) (.cells #[Value.int .i64 p] 3))
          have hcva : (w2.alloc (.cells #[Value.int .i64 p] 3)).cell? ⟨T, 2, none⟩ = some vo := by simp [World.cell?, hIa.t]
          have HI2 := Lib.hid hI2
          have HIa := Lib.hid hIa
          clear hb2 hB2 hI2 hIa hcd
          refine hK.out _ _ trivial (fun hHd2 => ?_)
          clear hK K
          (try simp only [Act.put, List.setIfInBounds_toArray, List.set_cons_zero, List.set_cons_succ])
          refine wpAnyH_ready (rs := [4]) (by kernel_rfl) (by simp) ?_
          refine AllReadyH.cons (by rfl) (fun K hK => ?_) AllReadyH.nil
          go_simp
          refine hK.out _ _ trivial (fun hHd3 => ?_)
          clear hK K
          (try simp only [Act.put, List.setIfInBounds_toArray, List.set_cons_zero, List.set_cons_succ])
          refine wpAnyH_ready (rs := [5]) (by kernel_rfl) (by simp) ?_
          refine AllReadyH.cons (by rfl) (fun K hK => ?_) AllReadyH.nil
          rw [if_pos (by rfl)]
          refine wp_append_own _ _ _ 24 rfl (T + 1) 3 i6 (.int .i64 0) 1 8 Tryz.underlying24 ihi ihz0 ihz1 ihz2 rfl (by decide) _ _ _ rfl HIa.out.o ⟨w2.heap.size, 0, none⟩ 1 1 [.int .i64 p] rfl rfl (World.news_of_block (cs := #[.int .i64 p]) (t := 3) (fr := (0, 0)) (heap_alloc_new w2 _)) (by simp [Value.oneCell']) (by unfold maxLen; omega) (by omega) (by have := HIa.out.z; omega) ?_
          intro v5 w5 hown5 hgrow5 hne5
          obtain ⟨g5, c5, rfl⟩ : ∃ g c, v5 = .slice (some ⟨g, 0, none⟩) (k + 1) c := by
            rcases hown5.2 with ⟨e, h0⟩ | ⟨g, cap, cur, e, _⟩
            · exact absurd h0 (by omega)
            · exact ⟨g, cap, e⟩
          have hne6 : some T ≠ vo.ownBlock := own_box_off HIa.out.o HIa.out.t (by decide)
          have hT5 := (hgrow5.block T HIa.out.z hne6).trans HIa.out.t
          have hc5 : w5.cell? ⟨T, 2, none⟩ = some vo := by simp [World.cell?, hT5]
          have hf5 : w5.frozen? ⟨T, 2, none⟩ = false := by simp [World.frozen?, hT5]
          have HT5 := Lib.hid hT5
          have HO5 := Lib.hid hown5
          have HG5 := Lib.hid hgrow5
          clear hT5 hown5 hgrow5 hne5 hcv2 hcva
          refine hK.out _ _ trivial (fun hHd4 => ?_)
          clear hK K
          (try simp only [Act.put, List.setIfInBounds_toArray, List.set_cons_zero, List.set_cons_succ])
          refine wpAnyH_take (i := 6) (oi := ?_) (v := ?_) ?_ (by kernel_rfl) (by kernel_rfl) (by kernel_rfl) (fun _ _ _ h => h) (Or.inl ⟨?_, ?_⟩) hHd4 ?_
          rotate_left 2
          · (simp only [List.getElem?_toArray, List.getElem?_cons_succ, List.getElem?_cons_zero]; rfl)
          · rfl
          · (intro w hSw; go_simp; (try with_reducible rfl))
          (try simp only [Act.put, List.setIfInBounds_toArray, List.set_cons_zero, List.set_cons_succ])
          refine wpAnyH_ready (rs := [7]) (by kernel_rfl) (by simp) ?_
          refine AllReadyH.cons (by rfl) (fun K hK => ?_) AllReadyH.nil
          go_simp
          refine hK.out _ _ trivial (fun hHd5 => ?_)
          clear hK K
          (try simp only [Act.put, List.setIfInBounds_toArray, List.set_cons_zero, List.set_cons_succ])
          refine wpAnyH_done (by kernel_rfl) ?_ _
          refine NoPanic.normal ?_
          have HN := Lib.hid (show MInvX LL w (w5.setCell ⟨T, 2, none⟩ (.slice (some ⟨g5, 0, none⟩) (k + 1) c5)) T R2 m (k + 1) (.slice (some ⟨g5, 0, none⟩) (k + 1) c5) from mInvX_next HIa.out HG5.out HO5.out HK1.out hR2T)
          clear HT5 HO5 HG5 hc5 hf5 HI2 HIa
          go_wp2_with fail
          go_roundw
          case rel => exact ⟨k + 1, _, by go_num, by omega, HN⟩
          case measure => simp [intOf]; omega
        refine AllReadyH.cons (by rfl) (fun K hK => ?_) AllReadyH.nil
        go_simp
        go_at_call 83
        refine (HRp.out).mono ?_
        rintro e w2 ⟨rfl, hb2⟩
        have hB2 := (Below.refl wr.heap.size wr).drew.trans hb2
        have hs2 : wr.heap.size ≤ w2.heap.size := hB2.size
        have hI2 := HMI.out.below hB2
        have hcv2 : w2.cell? ⟨T, 2, none⟩ = some vo := by simp [World.cell?, hI2.t]
        have hIa := hI2.below ((Below.refl _ w2).alloc (Nat.le_refl _) (.cells #[Value.int .i64 p] 3))
        have hcva : (w2.alloc (.cells #[Value.int .i64 p] 3)).cell? ⟨T, 2, none⟩ = some vo := by simp [World.cell?, hIa.t]
        have HI2 := Lib.hid hI2
        have HIa := Lib.hid hIa
        clear hb2 hB2 hI2 hIa hcd
        refine hK.out _ _ trivial (fun hHd6 => ?_)
        clear hK K
        (try simp only [Act.put, List.setIfInBounds_toArray, List.set_cons_zero, List.set_cons_succ])
        refine wpAnyH_ready (rs := [1, 4]) (by kernel_rfl) (by simp) ?_
        refine AllReadyH.cons (by rfl) (fun K hK => ?_) ?_
        · go_simp
          refine hK.out _ _ trivial (fun hHd7 => ?_)
          clear hK K
          (try simp only [Act.put, List.setIfInBounds_toArray, List.set_cons_zero, List.set_cons_succ])
          refine wpAnyH_ready (rs := [4]) (by kernel_rfl) (by simp) ?_
          refine AllReadyH.cons (by rfl) (fun K hK => ?_) AllReadyH.nil
          go_simp
          refine hK.out _ _ trivial (fun hHd8 => ?_)
          clear hK K
          (try simp only [Act.put, List.setIfInBounds_toArray, List.set_cons_zero, List.set_cons_succ])
          refine wpAnyH_ready (rs := [5]) (by kernel_rfl) (by simp) ?_
          refine AllReadyH.cons (by rfl) (fun K hK => ?_) AllReadyH.nil
          rw [if_pos (by rfl)]
          refine wp_append_own _ _ _ 24 rfl (T + 1) 3 i6 (.int .i64 0) 1 8 Tryz.underlying24 ihi ihz0 ihz1 ihz2 rfl (by decide) _ _ _ rfl HIa.out.o ⟨w2.heap.size, 0, none⟩ 1 1 [.int .i64 p] rfl rfl (World.news_of_block (cs := #[.int .i64 p]) (t := 3) (fr := (0, 0)) (heap_alloc_new w2 _)) (by simp [Value.oneCell']) (by unfold maxLen; omega) (by omega) (by have := HIa.out.z; omega) ?_
          intro v5 w5 hown5 hgrow5 hne5
          obtain ⟨g5, c5, rfl⟩ : ∃ g c, v5 = .slice (some ⟨g, 0, none⟩) (k + 1) c := by
            rcases hown5.2 with ⟨e, h0⟩ | ⟨g, cap, cur, e, _⟩
            · exact absurd h0 (by omega)
            · exact ⟨g, cap, e⟩
          have hne6 : some T ≠ vo.ownBlock := own_box_off HIa.out.o HIa.out.t (by decide)
          have hT5 := (hgrow5.block T HIa.out.z hne6).trans HIa.out.t
          have hc5 : w5.cell? ⟨T, 2, none⟩ = some vo := by simp [World.cell?, hT5]
          have hf5 : w5.frozen? ⟨T, 2, none⟩ = false := by simp [World.frozen?, hT5]
          have HT5 := Lib.hid hT5
          have HO5 := Lib.hid hown5
          have HG5 := Lib.hid hgrow5
          clear hT5 hown5 hgrow5 hne5 hcv2 hcva
          refine hK.out _ _ trivial (fun hHd9 => ?_)
          clear hK K
          (try simp only [Act.put, List.setIfInBounds_toArray, List.set_cons_zero, List.set_cons_succ])
          refine wpAnyH_take (i := 6) (oi := ?_) (v := ?_) ?_ (by kernel_rfl) (by kernel_rfl) (by kernel_rfl) (fun _ _ _ h => h) (Or.inl ⟨?_, ?_⟩) hHd9 ?_
          rotate_left 2
          · (simp only [List.getElem?_toArray, List.getElem?_cons_succ, List.getElem?_cons_zero]; rfl)
          · rfl
          · (intro w hSw; go_simp; (try with_reducible rfl))
          (try simp only [Act.put, List.setIfInBounds_toArray, List.set_cons_zero, List.set_cons_succ])
          refine wpAnyH_ready (rs := [7]) (by kernel_rfl) (by simp) ?_
          refine AllReadyH.cons (by rfl) (fun K hK => ?_) AllReadyH.nil
          go_simp
          refine hK.out _ _ trivial (fun hHd10 => ?_)
          clear hK K
          (try simp only [Act.put, List.setIfInBounds_toArray, List.set_cons_zero, List.set_cons_succ])
          refine wpAnyH_done (by kernel_rfl) ?_ _
          refine NoPanic.normal ?_
          have HN := Lib.hid (show MInvX LL w (w5.setCell ⟨T, 2, none⟩ (.slice (some ⟨g5, 0, none⟩) (k + 1) c5)) T R2 m (k + 1) (.slice (some ⟨g5, 0, none⟩) (k + 1) c5) from mInvX_next HIa.out HG5.out HO5.out HK1.out hR2T)
          clear HT5 HO5 HG5 hc5 hf5 HI2 HIa
          go_wp2_with fail
          go_roundw
          case rel => exact ⟨k + 1, _, by go_num, by omega, HN⟩
          case measure => simp [intOf]; omega
        refine AllReadyH.cons (by rfl) (fun K hK => ?_) AllReadyH.nil
        go_simp
        refine hK.out _ _ trivial (fun hHd11 => ?_)
        clear hK K
        (try simp only [Act.put, List.setIfInBounds_toArray, List.set_cons_zero, List.set_cons_succ])
        refine wpAnyH_ready (rs := [1]) (by kernel_rfl) (by simp) ?_
        refine AllReadyH.cons (by rfl) (fun K hK => ?_) AllReadyH.nil
        go_simp
        refine hK.out _ _ trivial (fun hHd12 => ?_)
        clear hK K
        (try simp only [Act.put, List.setIfInBounds_toArray, List.set_cons_zero, List.set_cons_succ])
        refine wpAnyH_ready (rs := [5]) (by kernel_rfl) (by simp) ?_
        refine AllReadyH.cons (by rfl) (fun K hK => ?_) AllReadyH.nil
        rw [if_pos (by rfl)]
        refine wp_append_own _ _ _ 24 rfl (T + 1) 3 i6 (.int .i64 0) 1 8 Tryz.underlying24 ihi ihz0 ihz1 ihz2 rfl (by decide) _ _ _ rfl HIa.out.o ⟨w2.heap.size, 0, none⟩ 1 1 [.int .i64 p] rfl rfl (World.news_of_block (cs := #[.int .i64 p]) (t := 3) (fr := (0, 0)) (heap_alloc_new w2 _)) (by simp [Value.oneCell']) (by unfold maxLen; omega) (by omega) (by have := HIa.out.z; omega) ?_
        intro v5 w5 hown5 hgrow5 hne5
        obtain ⟨g5, c5, rfl⟩ : ∃ g c, v5 = .slice (some ⟨g, 0, none⟩) (k + 1) c := by
          rcases hown5.2 with ⟨e, h0⟩ | ⟨g, cap, cur, e, _⟩
          · exact absurd h0 (by omega)
          · exact ⟨g, cap, e⟩
        have hne6 : some T ≠ vo.ownBlock := own_box_off HIa.out.o HIa.out.t (by decide)
        have hT5 := (hgrow5.block T HIa.out.z hne6).trans HIa.out.t
        have hc5 : w5.cell? ⟨T, 2, none⟩ = some vo := by simp [World.cell?, hT5]
        have hf5 : w5.frozen? ⟨T, 2, none⟩ = false := by simp [World.frozen?, hT5]
        have HT5 := Lib.hid hT5
        have HO5 := Lib.hid hown5
        have HG5 := Lib.hid hgrow5
        clear hT5 hown5 hgrow5 hne5 hcv2 hcva
        refine hK.out _ _ trivial (fun hHd13 => ?_)
        clear hK K
        (try simp only [Act.put, List.setIfInBounds_toArray, List.set_cons_zero, List.set_cons_succ])
        refine wpAnyH_take (i := 6) (oi := ?_) (v := ?_) ?_ (by kernel_rfl) (by kernel_rfl) (by kernel_rfl) (fun _ _ _ h => h) (Or.inl ⟨?_, ?_⟩) hHd13 ?_
        rotate_left 2
        · (simp only [List.getElem?_toArray, List.getElem?_cons_succ, List.getElem?_cons_zero]; rfl)
        · rfl
        · (intro w hSw; go_simp; (try with_reducible rfl))
        (try simp only [Act.put, List.setIfInBounds_toArray, List.set_cons_zero, List.set_cons_succ])
        refine wpAnyH_ready (rs := [7]) (by kernel_rfl) (by simp) ?_
        refine AllReadyH.cons (by rfl) (fun K hK => ?_) AllReadyH.nil
        go_simp
        refine hK.out _ _ trivial (fun hHd14 => ?_)
        clear hK K
        (try simp only [Act.put, List.setIfInBounds_toArray, List.set_cons_zero, List.set_cons_succ])
        refine wpAnyH_done (by kernel_rfl) ?_ _
        refine NoPanic.normal ?_
        have HN := Lib.hid (show MInvX LL w (w5.setCell ⟨T, 2, none⟩ (.slice (some ⟨g5, 0, none⟩) (k + 1) c5)) T R2 m (k + 1) (.slice (some ⟨g5, 0, none⟩) (k + 1) c5) from mInvX_next HIa.out HG5.out HO5.out HK1.out hR2T)
        clear HT5 HO5 HG5 hc5 hf5 HI2 HIa
        go_wp2_with fail
        go_roundw
        case rel => exact ⟨k + 1, _, by go_num, by omega, HN⟩
        case measure => simp [intOf]; omega
      · have hkk : k = m.parts.length := by omega
        subst hkk
        have hcl : wr.cell? ⟨R2, m.parts.length, none⟩ = some (.string (txt y)) := by
          simp only [World.cell?, HMI.out.r]
          rw [HLL.out]
          simp [hexs]
        have HRp := Lib.hid (fun W hb => read_bad (txt y) hys HBad.out W (HX0.out.on hb) (HD0.out.on hb) (HE0.out.on hb))
        have hcd : wr.drew.cell? ⟨T, 2, none⟩ = some vo := by show wr.cell? _ = _; simp [World.cell?, HMI.out.t]
        generalize txt y = s3 at hcl HRp
        go_upto_region 13 with fail
        go_region_dies
        all_goals (
          refine (HRp.out wr.drew HMI.out.b.drew).mono ?_
          rintro e w2 ⟨rfl, hb2⟩
          go_simp
          exact ⟨rfl, rfl, HMI.out.b.drew.trans (hb2.mono HMI.out.b.drew.size)⟩)
end Go.Proofs.YtlkdjdcnbcegeaaGreatDoor

/-! ucd.mark, of a text that is no mark's: a fault. -/
namespace Go.Proofs.YtlkdjdcnbcegeaaGreatDoor
open Go.RowKit Go.WideShapes
set_option linter.unusedVariables false
set_option linter.unusedSimpArgs false
/-- A text cut at a byte. -/
theorem cut_at (c : UInt8) : ∀ s : List UInt8, ∃ L : List (List UInt8), L ≠ [] ∧ (∀ y ∈ L, c ∉ y) ∧ s = Lib.join L [c]
  | [] => ⟨[[]], by simp, by simp, by simp [Lib.join, List.intercalate, List.intersperse]⟩
  | a :: r => by
    obtain ⟨L, h1, h2, h3⟩ := cut_at c r
    obtain ⟨x, L', rfl⟩ : ∃ x L', L = x :: L' := by
      cases L with
      | nil => exact absurd rfl h1
      | cons x L' => exact ⟨x, L', rfl⟩
    by_cases ha : a = c
    · subst ha
      exact ⟨[] :: x :: L', by simp, by simpa using h2, by rw [join_more, ← h3]; simp⟩
    · refine ⟨(a :: x) :: L', by simp, fun y hy => ?_, ?_⟩
      · rcases List.mem_cons.1 hy with rfl | hy
        · intro h
          rcases List.mem_cons.1 h with h | h
          · exact ha h.symm
          · exact h2 x (by simp) h
        · exact h2 y (by simp [hy])
      · rw [h3, Lib.join_cons, Lib.join_cons]; simp
set_option maxRecDepth 100000 in
set_option maxHeartbeats 4000000 in
theorem mark_early1 (L : List (List UInt8)) (hL : L ≠ []) (h59 : ∀ y ∈ L, (59 : UInt8) ∉ y) (hl : L.length ≠ 3) (hsz : (txt (Lib.join L [59])).size ≤ 65536) (mx : Int) (w : World) (hmx : w.cell? ⟨lays146_ren.g 1, 0, none⟩ = some (.int .i64 mx)) :
    Calls Tryz.prog 54 #[.string (txt (Lib.join L [59]))] w (Faults 40 w) := by
  have HM := Lib.hid hmx
  have hM0 : lays146_ren.g 1 < w.heap.size := Lib.lt_of_cell hmx
  have HS := Lib.hid (fun W hW => splitBy_ok 59 L hL h59 (by omega) mx W hW)
  have hns : L.length ≤ 65537 := by
    have h9 := join_lensN L [59]
    rw [txt_size] at hsz
    simp only [List.length_singleton, Nat.mul_one] at h9
    omega
  have HB0 := Lib.hid (Below.refl w.heap.size w)
  generalize txt (Lib.join L [59]) = S at HS ⊢
  have hl3 : ¬ ((L.length : Int) = 3) := by omega
  go_enter Tryz.func54, Tryz.ntmps54
  go_wp2_with fail
  have HB1 := Lib.hid (HB0.out.alloc (Nat.le_refl _) (.cells #[Value.int .i64 0, Value.int .i64 0, Value.slice none 0 0] 75))
  refine (HS.out _ ((HB1.out.cell (p := ⟨lays146_ren.g 1, 0, none⟩) hM0).trans HM.out)).mono ?_
  rintro e w2 ⟨rfl, rfl⟩
  have HB2 := Lib.hid (HB1.out.alloc (by simp) (.cells (L.map fun y => Value.string (txt y)).toArray 9))
  clear HS hmx h59
  go_wp2_with fail
  exact ⟨rfl, rfl, HB2.out⟩
set_option maxRecDepth 100000 in
set_option maxHeartbeats 8000000 in
theorem mark_early2 (a b X : List UInt8) (h59 : ∀ z ∈ [a, b, X], (59 : UInt8) ∉ z) (hbad : ∀ p, fitsB p = true → txt a ≠ txt (hexW p.toNat)) (hsz : (txt (Lib.join [a, b, X] [59])).size ≤ 65536) (mx : Int) (w : World) (HX : UHere w) (HI : ItoaHere w) (HD : DigHere w) (HE : ErrHere w) (hmx : w.cell? ⟨lays146_ren.g 1, 0, none⟩ = some (.int .i64 mx)) :
    Calls Tryz.prog 54 #[.string (txt (Lib.join [a, b, X] [59]))] w (Faults 40 w) := by
  have HX0 := Lib.hid HX
  have HI0 := Lib.hid HI
  have HD0 := Lib.hid HD
  have HE0 := Lib.hid HE
  have HM := Lib.hid hmx
  have hM0 : lays146_ren.g 1 < w.heap.size := Lib.lt_of_cell hmx
  have HB0 := Lib.hid (Below.refl w.heap.size w)
  have hab : (txt a).size ≤ 65536 ∧ (txt b).size ≤ 65536 := by
    rw [txt_size] at hsz
    rw [txt_size, txt_size]
    have := join_lens [a, b, X] [59]
    simp only [Lib.lens, List.map_cons, List.sum_cons, List.map_nil, List.sum_nil] at this
    omega
  have HS := Lib.hid (fun W hW => splitBy_ok 59 [a, b, X] (by simp) h59 (by omega) mx W hW)
  have HBad := Lib.hid hbad
  clear hbad
  generalize txt (Lib.join [a, b, X] [59]) = S at HS ⊢
  clear HX HI HD HE hmx h59 hsz
  go_enter Tryz.func54, Tryz.ntmps54
  go_wp2_with fail
  have HQ0 := Lib.hid (World.alloc_heap_new w (.cells #[Value.int .i64 0, Value.int .i64 0, Value.slice none 0 0] 75))
  have HB1 := Lib.hid (HB0.out.alloc (Nat.le_refl _) (.cells #[Value.int .i64 0, Value.int .i64 0, Value.slice none 0 0] 75))
  refine (HS.out _ ((HB1.out.cell (p := ⟨lays146_ren.g 1, 0, none⟩) hM0).trans HM.out)).mono ?_
  rintro e w2 ⟨rfl, rfl⟩
  rw [show ([a, b, X] : List (List UInt8)).length = 3 from rfl]
  have hQ2 : ((w.alloc (.cells #[Value.int .i64 0, Value.int .i64 0, Value.slice none 0 0] 75)).alloc (.cells (([a, b, X] : List (List UInt8)).map fun y => Value.string (txt y)).toArray 9)).heap[w.heap.size]? = some (.cells #[Value.int .i64 0, Value.int .i64 0, Value.slice none 0 0] 75 (0, 0)) := by
    rw [Below.heap_alloc _ _ _ (by simp)]; exact HQ0.out
  have hR2 := World.alloc_heap_new (w.alloc (.cells #[Value.int .i64 0, Value.int .i64 0, Value.slice none 0 0] 75)) (.cells (([a, b, X] : List (List UInt8)).map fun y => Value.string (txt y)).toArray 9)
  have hB2 := HB1.out.alloc (by simp) (.cells (([a, b, X] : List (List UInt8)).map fun y => Value.string (txt y)).toArray 9)
  rw [World.size_alloc] at hR2 ⊢
  generalize ((w.alloc (.cells #[Value.int .i64 0, Value.int .i64 0, Value.slice none 0 0] 75)).alloc (.cells (([a, b, X] : List (List UInt8)).map fun y => Value.string (txt y)).toArray 9)) = w2 at hQ2 hR2 hB2 ⊢
  have hc0 : w2.cell? ⟨w.heap.size + 1, 0, none⟩ = some (.string (txt a)) := by simp [World.cell?, hR2]
  have HB2 := Lib.hid hB2
  have HQ2 := Lib.hid hQ2
  have HR2 := Lib.hid hR2
  have HRd := Lib.hid (read_bad (txt a) hab.1 HBad.out w2 (HX0.out.on hB2) (HD0.out.on hB2) (HE0.out.on hB2))
  clear hQ2 hR2 hB2 HQ0 HB1 HB0 HS
  generalize txt a = s3 at hc0 HRd
  go_wp2_with fail
  refine HRd.out.mono ?_
  rintro e w3 ⟨rfl, hb3⟩
  go_wp2_with fail
  exact ⟨rfl, rfl, HB2.out.trans (hb3.mono HB2.out.size)⟩
set_option maxRecDepth 100000 in
set_option maxHeartbeats 8000000 in
theorem mark_early3 (a b X : List UInt8) (h59 : ∀ z ∈ [a, b, X], (59 : UInt8) ∉ z) (p : Int) (hp : fitsB p = true) (hap : a = hexW p.toNat) (hbad : ∀ C : Nat, C ≤ 254 → txt b ≠ txt (Lib.decDigits C)) (hsz : (txt (Lib.join [a, b, X] [59])).size ≤ 65536) (mx : Int) (w : World) (HX : UHere w) (HI : ItoaHere w) (HD : DigHere w) (HE : ErrHere w) (hmx : w.cell? ⟨lays146_ren.g 1, 0, none⟩ = some (.int .i64 mx)) :
    Calls Tryz.prog 54 #[.string (txt (Lib.join [a, b, X] [59]))] w (Faults 40 w) := by
  have HX0 := Lib.hid HX
  have HI0 := Lib.hid HI
  have HD0 := Lib.hid HD
  have HE0 := Lib.hid HE
  have HM := Lib.hid hmx
  have hM0 : lays146_ren.g 1 < w.heap.size := Lib.lt_of_cell hmx
  have HB0 := Lib.hid (Below.refl w.heap.size w)
  have hab : (txt a).size ≤ 65536 ∧ (txt b).size ≤ 65536 := by
    rw [txt_size] at hsz
    rw [txt_size, txt_size]
    have := join_lens [a, b, X] [59]
    simp only [Lib.lens, List.map_cons, List.sum_cons, List.map_nil, List.sum_nil] at this
    omega
  have HS := Lib.hid (fun W hW => splitBy_ok 59 [a, b, X] (by simp) h59 (by omega) mx W hW)
  have HBad := Lib.hid hbad
  have HFP := Lib.hid hp
  clear hbad hp
  generalize txt (Lib.join [a, b, X] [59]) = S at HS ⊢
  clear HX HI HD HE hmx h59 hsz
  go_enter Tryz.func54, Tryz.ntmps54
  go_wp2_with fail
  have HQ0 := Lib.hid (World.alloc_heap_new w (.cells #[Value.int .i64 0, Value.int .i64 0, Value.slice none 0 0] 75))
  have HB1 := Lib.hid (HB0.out.alloc (Nat.le_refl _) (.cells #[Value.int .i64 0, Value.int .i64 0, Value.slice none 0 0] 75))
  refine (HS.out _ ((HB1.out.cell (p := ⟨lays146_ren.g 1, 0, none⟩) hM0).trans HM.out)).mono ?_
  rintro e w2 ⟨rfl, rfl⟩
  rw [show ([a, b, X] : List (List UInt8)).length = 3 from rfl]
  have hQ2 : ((w.alloc (.cells #[Value.int .i64 0, Value.int .i64 0, Value.slice none 0 0] 75)).alloc (.cells (([a, b, X] : List (List UInt8)).map fun y => Value.string (txt y)).toArray 9)).heap[w.heap.size]? = some (.cells #[Value.int .i64 0, Value.int .i64 0, Value.slice none 0 0] 75 (0, 0)) := by
    rw [Below.heap_alloc _ _ _ (by simp)]; exact HQ0.out
  have hR2 := World.alloc_heap_new (w.alloc (.cells #[Value.int .i64 0, Value.int .i64 0, Value.slice none 0 0] 75)) (.cells (([a, b, X] : List (List UInt8)).map fun y => Value.string (txt y)).toArray 9)
  have hB2 := HB1.out.alloc (by simp) (.cells (([a, b, X] : List (List UInt8)).map fun y => Value.string (txt y)).toArray 9)
  rw [World.size_alloc] at hR2 ⊢
  generalize ((w.alloc (.cells #[Value.int .i64 0, Value.int .i64 0, Value.slice none 0 0] 75)).alloc (.cells (([a, b, X] : List (List UInt8)).map fun y => Value.string (txt y)).toArray 9)) = w2 at hQ2 hR2 hB2 ⊢
  have hc0 : w2.cell? ⟨w.heap.size + 1, 0, none⟩ = some (.string (txt a)) := by simp [World.cell?, hR2]
  have HB2 := Lib.hid hB2
  have HQ2 := Lib.hid hQ2
  have HR2 := Lib.hid hR2
  rw [hap] at hc0
  have HRd := Lib.hid (read_ok HFP.out w2 (HX0.out.on hB2))
  have hz2 : w.heap.size + 1 < w2.heap.size := (Array.getElem?_eq_some_iff.1 hR2).1
  clear hQ2 hR2 hB2 HQ0 HB1 HB0 HS
  go_wp2_with fail
  refine HRd.out.mono ?_
  rintro e w3 ⟨rfl, hb3⟩
  have HB3 := Lib.hid (HB2.out.trans (hb3.mono (by omega)))
  have HQ3 := Lib.hid ((hb3.block _ (by omega)).trans HQ2.out)
  have HR3 := Lib.hid ((hb3.block _ hz2).trans HR2.out)
  have hz3 : w.heap.size + 1 < w3.heap.size := by have := hb3.size; omega
  have hc1 : w3.cell? ⟨w.heap.size + 1, 1, none⟩ = some (.string (txt b)) := by simp [World.cell?, HR3.out]
  have HAt := Lib.hid (fun W hb => atoi_all (txt b) hab.2 W (HE0.out.on hb))
  clear hb3 HB2 HQ2 HR2 hc0 HRd
  generalize txt b = s1 at hc1 HAt HBad
  go_wp2_with fail
  have HB4 := Lib.hid (HB3.out.alloc (by omega) (.cells #[Value.int .i64 p, Value.int .i64 0, Value.slice none 0 0] 75))
  have hT4 := World.alloc_heap_new w3 (.cells #[Value.int .i64 p, Value.int .i64 0, Value.slice none 0 0] 75)
  have hQ4 := (Below.heap_alloc w3 (.cells #[Value.int .i64 p, Value.int .i64 0, Value.slice none 0 0] 75) w.heap.size (by omega)).trans HQ3.out
  have hR4 := (Below.heap_alloc w3 (.cells #[Value.int .i64 p, Value.int .i64 0, Value.slice none 0 0] 75) (w.heap.size + 1) hz3).trans HR3.out
  have hs4 : (w3.alloc (.cells #[Value.int .i64 p, Value.int .i64 0, Value.slice none 0 0] 75)).heap.size = w3.heap.size + 1 := by simp
  generalize (w3.alloc (.cells #[Value.int .i64 p, Value.int .i64 0, Value.slice none 0 0] 75)) = w4 at HB4 hT4 hQ4 hR4 hs4 ⊢
  generalize hT : w3.heap.size = T at hT4 hs4 ⊢
  have hTz : w.heap.size + 1 < T := by omega
  refine (HAt.out w4 HB4.out).mono ?_
  rintro e w5 ⟨v, er, rfl, her, hb5⟩
  have HB5 := Lib.hid (HB4.out.trans (hb5.mono (by omega)))
  have hz5 : T < w5.heap.size := by have := hb5.size; omega
  have HT5 := Lib.hid ((hb5.block _ (by omega)).trans hT4)
  have HQ5 := Lib.hid ((hb5.block _ (by omega)).trans hQ4)
  have HR5 := Lib.hid ((hb5.block _ (by omega)).trans hR4)
  have hc1' : w5.cell? ⟨w.heap.size + 1, 1, none⟩ = some (.string s1) := by
    rw [hb5.cell (by show w.heap.size + 1 < _; omega), ← hc1]
    simp only [World.cell?, hR4, HR3.out]
  have hS0 : Below w5.heap.size w5 w5 ∧ w5.cell? ⟨w.heap.size + 1, 1, none⟩ = some (.string s1) := ⟨Below.refl _ _, hc1'⟩
  clear hc1' hT4 hQ4 hR4 HB4 hb5 HQ3 HR3 HB3 hc1 HAt hT hs4 hz3
  rcases her with rfl | ⟨ET, EP, rfl⟩
  · rcases Int.lt_or_le v 0 with hv | hv
    · obtain ⟨k, rfl⟩ : ∃ k : Nat, v = Int.negSucc k := ⟨(-v - 1).toNat, by omega⟩
      clear hv
      have hv3 : decide (Int.negSucc k < 0) = true := decide_eq_true (Int.negSucc_lt_zero k)
      go_wp2_with fail
      go_region
      go_wp2_with fail
      exact ⟨rfl, rfl, HB5.out.trans (hS0.1.drew.mono (by omega))⟩
    · have hv0 : decide (v < 0) = false := decide_eq_false (by omega)
      have hv4 : (v < 0) = False := eq_false (by omega)
      by_cases hv2 : (254 : Int) < v
      · have hv1 : decide ((254 : Int) < v) = true := decide_eq_true hv2
        have hv3 : ((254 : Int) < v) = True := eq_true hv2
        go_wp2_with fail
        go_region
        go_wp2_with fail
        exact ⟨rfl, rfl, HB5.out.trans (hS0.1.drew.mono (by omega))⟩
      · obtain ⟨C, rfl⟩ := Int.eq_ofNat_of_zero_le hv
        have hC2 : C ≤ 254 := by omega
        have HIt := Lib.hid (fun W hb => HI0.out C hC2 W hb)
        have hne : ((txt (Lib.decDigits C)).toList == s1.toList) = false := by
          cases h : ((txt (Lib.decDigits C)).toList == s1.toList) with
          | false => rfl
          | true => exact absurd ((Lib.bytes_beq_iff _ _).1 h).symm (HBad.out C hC2)
        generalize txt (Lib.decDigits C) = s4 at HIt hne
        have hC254 : decide ((254 : Int) < C) = false := decide_eq_false (by omega)
        have hC255 : ((254 : Int) < C) = False := eq_false (by omega)
        have hC0 : decide ((C : Int) < 0) = false := decide_eq_false (by omega)
        go_wp2_with fail
        go_region_held3 (fun W => Below w5.heap.size w5 W ∧ W.cell? ⟨w.heap.size + 1, 1, none⟩ = some (.string s1))
          (first | exact hS0 | exact ⟨hS0.1.drew, hS0.2⟩)
          (first | (go_at_call 85; refine (HIt.out _ (by first | exact HB5.out.trans (hS0.1.mono (by omega)) | exact HB5.out.trans (hS0.1.drew.mono (by omega)))).mono ?_; rintro e w6 ⟨rfl, hb6⟩; have hS0 : Below w5.heap.size w5 w6 ∧ w6.cell? ⟨w.heap.size + 1, 1, none⟩ = some (.string s1) := ⟨hS0.1.drew.trans (hb6.mono (by exact hS0.1.drew.size)), (hb6.cell (by show w.heap.size + 1 < _; have := hS0.1.drew.size; omega)).trans hS0.2⟩))
        go_wp2_with fail
        exact ⟨rfl, rfl, HB5.out.trans (hS0.1.mono (by omega))⟩
  · go_wp2_with fail
    go_region
    go_wp2_with fail
    exact ⟨rfl, rfl, HB5.out.trans (hS0.1.drew.mono (by omega))⟩
/-- The first piece that is no point's text. -/
theorem first_bad : ∀ L : List (List UInt8), (∃ ps : List Int, ps.all fitsB = true ∧ L = hexs ps) ∨ ∃ (ps : List Int) (y : List UInt8) (rest : List (List UInt8)), ps.all fitsB = true ∧ L = hexs ps ++ y :: rest ∧ ∀ p, fitsB p = true → y ≠ hexW p.toNat
  | [] => .inl ⟨[], rfl, rfl⟩
  | x :: r => by
    by_cases hx : ∃ p, fitsB p = true ∧ x = hexW p.toNat
    · obtain ⟨p, hp, rfl⟩ := hx
      rcases first_bad r with ⟨ps, h1, rfl⟩ | ⟨ps, y, rest, h1, rfl, h3⟩
      · exact .inl ⟨p :: ps, by simp [hp]; simpa using h1, rfl⟩
      · exact .inr ⟨p :: ps, y, rest, by simp [hp]; simpa using h1, rfl, h3⟩
    · exact .inr ⟨[], x, r, rfl, rfl, fun p hp h => hx ⟨p, hp, h⟩⟩
theorem mark_bad (S : List UInt8) (hs : (txt S).size ≤ 65536) (hno : ∀ m : MK, m.may = true → S ≠ m.text) (mx : Int) (w : World) (HX : UHere w) (HI : ItoaHere w) (HD : DigHere w) (HE : ErrHere w) (hmx : w.cell? ⟨lays146_ren.g 1, 0, none⟩ = some (.int .i64 mx)) :
    Calls Tryz.prog 54 #[.string (txt S)] w (Faults 40 w) := by
  obtain ⟨L, hL, h59, rfl⟩ := cut_at 59 S
  by_cases hl : L.length = 3
  · obtain ⟨a, b, X, rfl⟩ : ∃ a b X, L = [a, b, X] := by
      match L, hl with
      | [a, b, X], _ => exact ⟨a, b, X, rfl⟩
    by_cases ha : ∃ p, fitsB p = true ∧ a = hexW p.toNat
    · obtain ⟨p, hp, rfl⟩ := ha
      by_cases hb : ∃ C : Nat, C ≤ 254 ∧ b = Lib.decDigits C
      · obtain ⟨C, hC, rfl⟩ := hb
        have hmay : ∀ ps : List Int, ps.all fitsB = true → (MK.mk p C ps).may = true := fun ps h => by
          unfold MK.may
          simp only [hp, h, Bool.true_and, Bool.and_true, decide_eq_true_eq]
          omega
        have htext : ∀ ps : List Int, (MK.mk p C ps).text = Lib.join [hexW p.toNat, Lib.decDigits C, ptsText ps] [59] := fun ps => by
          have := mk_cut (MK.mk p C ps)
          simpa [mkCut] using this
        by_cases hX : X = []
        · subst hX
          exact absurd (htext []).symm (hno _ (hmay [] rfl))
        · obtain ⟨L2, hL2, h32, rfl⟩ := cut_at 32 X
          rcases first_bad L2 with ⟨ps, h1, rfl⟩ | ⟨ps, y, rest, h1, rfl, h3⟩
          · exact absurd (htext ps).symm (hno _ (hmay ps h1))
          · exact mark_late (MK.mk p C ps) (hmay ps h1) y rest (by simpa using hs) (fun z hz => h32 z (by simp at hz ⊢; exact Or.inr hz)) (h59 _ (by simp)) hX (fun q hq h => h3 q hq (txt_inj h)) mx w HX HI HD HE hmx
      · exact mark_early3 _ b X h59 p hp rfl (fun C hC h => hb ⟨C, hC, txt_inj h⟩) hs mx w HX HI HD HE hmx
    · exact mark_early2 a b X h59 (fun p hp h => ha ⟨p, hp, txt_inj h⟩) hs mx w HX HI HD HE hmx
  · exact mark_early1 L hL h59 hl hs mx w hmx
end Go.Proofs.YtlkdjdcnbcegeaaGreatDoor
