/-
  rekey.Map: a tuple made of another one's fields.
-/
import Derived.Test.YtjgicjgpahnmaaaDoorJS
/-! rekey.Map: a tuple made of another one's fields. -/
namespace Go.Proofs.YtjgicjgpahnmaaaDoor
open Go.RowKit Go.WideShapes
set_option linter.unusedVariables false
/-- One value more, in blocks that are not the row's. -/
theorem VRow.push {w w2 w3 : World} {base : Nat} {vt : Value} {k : Nat} {l : List PT} {vs : List Value} {v : Value} {t : PT} {tmp : Obj} {g cap : Nat} (h : VRow w 0 base vt k l vs) (hl : l.length = k)
    (hv : ValueAt w2 (fun b => b < w2.heap.size ∧ vt.ownBlock ≠ some b) t v) (hb : Below w.heap.size w w2)
    (hown : w3.ownsRow base 35 1 (.slice (some ⟨g, 0, none⟩) (k + 1) cap) (k + 1) (vs ++ [v])) (hgrow : (w2.alloc tmp).grownBy w3 vt.ownBlock) (hat : vt.ownBlock = some g ∨ g = (w2.alloc tmp).heap.size) :
    VRow w3 0 base (.slice (some ⟨g, 0, none⟩) (k + 1) cap) (k + 1) (l ++ [t]) (vs ++ [v]) := by
  have h2 := h.below hb
  have hz : (w2.alloc tmp).heap.size = w2.heap.size + 1 := by simp
  have hz3 := hgrow.size
  have hcell : ∀ p : Addr, p.block < w2.heap.size → vt.ownBlock ≠ some p.block → w3.cell? p = w2.cell? p := fun p hp hne => by
    rw [hgrow.cell_far p (by omega) (fun e => hne e.symm), World.cell?_alloc_lt w2 tmp p hp]
  have hg : ∀ b, b < w2.heap.size → vt.ownBlock ≠ some b → (Value.slice (some ⟨g, 0, none⟩) (k + 1) cap).ownBlock ≠ some b := fun b hb hne e => by
    simp only [Value.ownBlock, Option.some.injEq] at e
    subst e
    rcases hat with hat | hat
    · exact hne hat
    · omega
  refine ⟨by simp [h.len], hown, fun i hi hv' => ?_⟩
  rw [List.length_append, h.len, List.length_singleton] at hv'
  by_cases e : i = k
  · subst e
    have e1 : (vs ++ [v])[i]'(by rw [List.length_append, h.len, List.length_singleton]; omega) = v := by
      rw [List.getElem_append_right (by rw [h.len]; omega)]; simp [h.len]
    have e2 : (l ++ [t])[i]'hi = t := by
      rw [List.getElem_append_right (by rw [hl]; omega)]; simp [hl]
    rw [e1, e2]
    refine ValueAt.more (fun b hb' => ?_) _ _ (ValueAt.keep (fun p hp => hcell p hp.1 hp.2) _ _ hv)
    exact ⟨Nat.zero_le _, by have := hb'.1; omega, hg b hb'.1 hb'.2⟩
  · have hik : i < vs.length := by rw [h.len]; omega
    have hil : i < l.length := by rw [hl]; omega
    have e1 : (vs ++ [v])[i]'(by rw [List.length_append, h.len, List.length_singleton]; omega) = vs[i] := List.getElem_append_left hik
    have e2 : (l ++ [t])[i]'hi = l[i] := List.getElem_append_left hil
    rw [e1, e2]
    refine ValueAt.more (fun b hb' => ?_) _ _ (ValueAt.keep (fun p hp => hcell p hp.2.1 hp.2.2) _ _ (h2.val i hil hik))
    exact ⟨hb'.1, by omega, hg b hb'.2.1 hb'.2.2⟩
/-- A fault comes back. -/
def FaultPost (e : Ending) : Prop := ∃ t x, e = .returned (.tuple #[.nilIface, .iface t x])
/-- A tuple of the items comes back. -/
def TuplePost (its : List PT) (e : Ending) (w' : World) : Prop := ∃ a c, e = .returned (.tuple #[.iface 88 (.agg #[.slice a its.length c]), .nilIface]) ∧ its.length ≤ c ∧ c ≤ maxLen ∧ ValuesAt w' (· < w'.heap.size) its a
/-- The items that sources pick. -/
def Picked (t : PT) (l : List (Int × PT)) (its : List PT) : Prop := its.length = l.length ∧ ∀ i (hi : i < l.length) (hj : i < its.length), pick t l[i] = some its[i]
def MapPost (t : PT) (l : List (Int × PT)) (w : World) (e : Ending) (w' : World) : Prop := Below w.heap.size w w' ∧
  ((FaultPost e ∧ (1024 < l.length ∨ ∃ s ∈ l, pick t s = none)) ∨ (l.length ≤ 1024 ∧ ∃ its, Picked t l its ∧ TuplePost its e w'))
theorem pick_depth {t p : PT} {s : Int × PT} (ht : t.depth ≤ 16) (h7 : t.kind = 7) (h : pick t s = some p) : p.depth < 16 := by
  unfold pick at h
  split at h
  · have hm : p ∈ t.items := List.mem_of_getElem? h
    have := PT.depth_tuple h7
    have := PT.depthL_le.1 (Nat.le_refl (PT.depthL t.items)) p hm
    omega
  · split at h
    · rename_i hc
      injection h with h
      subst h
      exact hc.2
    · cases h
set_option maxRecDepth 100000 in
set_option maxHeartbeats 4000000 in
theorem map_any {w0 : World} (h0 : laidMetH Tryd.prog Rows.rekeyGoesUptoRow.laid w0) (t : PT) (l : List (Int × PT)) (A : Option Addr) (C : Nat) (tv : Value) (w : World) (hb0 : Below w0.heap.size w0 w) (hw0 : 0 < w0.heap.size) (h7 : t.kind = 7) (ht : t.depth ≤ 16)
    (hl : SrcsAt w (· < w.heap.size) l A) (hll : l.length ≤ maxLen) (hv : ValueAt w (· < w.heap.size) t tv) : Calls Tryd.prog 10 #[.slice A l.length C, tv] w (MapPost t l w) := by
  unfold maxLen at hll
  obtain ⟨a', c', rfl, hlc, hcm, hits⟩ := (ValueAt.tuple h7).1 hv
  obtain ⟨i0, hi, hz0, hz1, hz2⟩ := info_parts value_info
  have hw : 0 < w.heap.size := by have := hb0.size; omega
  have HLi := Lib.hid (list_tuple t.items a' c' w w.heap.size hits)
  have HL := Lib.hid hl
  have HB0 := Lib.hid (Below.refl w.heap.size w)
  have HN := Lib.hid ((none_met h0).below hb0 hw0)
  have HH := Lib.hid h0
  have HBw := Lib.hid hb0
  have HT := Lib.hid (show t.items.length ≤ maxLen by omega)
  have HPD := Lib.hid (fun (p : PT) (s : Int × PT) (h : pick t s = some p) => pick_depth ht h7 h)
  clear hv hits hl h0 hcm hlc ht h7
  go_enter Tryd.func10, Tryd.ntmps10
  go_wp2_with fail
  refine HLi.out.mono ?_
  rintro e w1 ⟨a2, c2, rfl, hb1, hits⟩
  have HB1 := Lib.hid hb1
  have HI := Lib.hid hits
  have hz1' := hb1.size
  clear hb1 HLi HB0 hits
  by_cases hmany : 1024 < l.length
  · have HMany := Lib.hid hmany
    go_wp2_with fail
    go_ret2
    exact ⟨HB1.out.alloc (by omega) _, .inl ⟨⟨_, _, rfl⟩, .inl HMany.out⟩⟩
  · go_wp2_with fail
    have HMany := Lib.hid hmany
    have hll2 : l.length ≤ 1024 := by omega
    clear hmany
    go_loopw [8, 33] (fun t8 i wr => ∃ (k : Nat) (vt : Value) (its : List PT) (vs : List Value), t8 = vt ∧ i = .int .i64 k ∧ k ≤ l.length ∧ Hid (Below w.heap.size w wr) ∧ Hid (VRow wr 0 w.heap.size vt k its vs) ∧ Hid (its.length = k ∧ ∀ i (hi : i < l.length) (hj : i < its.length), pick t l[i] = some its[i]) ∧ Hid (k = 0 → vt = .slice none 0 0) ∧ w.heap.size ≤ wr.heap.size) (fun _ i _ => l.length - (intOf i).toNat)
    case atStart => exact ⟨0, _, [], [], rfl, rfl, by omega, HB1, Lib.hid (VRow.start _ _ _ _), Lib.hid ⟨rfl, fun i hi hj => by simp at hj⟩, Lib.hid (fun _ => rfl), by omega⟩
    case round =>
      clear HB1 hz1'
      obtain ⟨k, vt, its, vs, hvt, rfl, hk, HB, HV, HP, HZ, hwz⟩ := hrel
      replace hvt := hvt.symm
      subst hvt
      by_cases hlt : k < l.length
      · obtain ⟨b, o, a3, c3, rfl, hb, k0, k1, k2, k3, k4, k5, k6, hpa⟩ := (HL.out.below HB.out).cells hlt
        have HPA := Lib.hid hpa
        obtain ⟨W1, hW1⟩ : ∃ W1, W1 = wr.alloc (.cells (Value.int .i64 l[k].1 :: partCells l[k].2 a3 c3).toArray 39) := ⟨_, rfl⟩
        have hbr : Below wr.heap.size wr W1 := by rw [hW1]; exact (Below.refl wr.heap.size wr).alloc (Nat.le_refl _) _
        have HB2 := Lib.hid (HB.out.trans (hbr.mono hwz))
        have HC2 : CellsAt W1 wr.heap.size 0 (Value.int .i64 l[k].1 :: partCells l[k].2 a3 c3) := by rw [hW1]; exact new_cells _ _ _
        have hzW : W1.heap.size = wr.heap.size + 1 := by rw [hW1]; simp
        have m0 : W1.cell? ⟨wr.heap.size, 0, none⟩ = some (Value.int .i64 l[k].1) := HC2 0 _ rfl
        have m1 : W1.cell? ⟨wr.heap.size, 1, none⟩ = some (Value.int .u8 l[k].2.kind) := HC2 1 _ rfl
        have m2 : W1.cell? ⟨wr.heap.size, 2, none⟩ = some (Value.bool l[k].2.yes) := HC2 2 _ rfl
        have m3 : W1.cell? ⟨wr.heap.size, 3, none⟩ = some (Value.bool l[k].2.bel) := HC2 3 _ rfl
        have m4 : W1.cell? ⟨wr.heap.size, 4, none⟩ = some (Value.string l[k].2.mag) := HC2 4 _ rfl
        have m5 : W1.cell? ⟨wr.heap.size, 5, none⟩ = some (Value.string l[k].2.raw) := HC2 5 _ rfl
        have m6 : W1.cell? ⟨wr.heap.size, 6, none⟩ = some (Value.slice a3 l[k].2.items.length c3) := HC2 6 _ rfl
        have HR := Lib.hid (item_any t l[k] a3 c3 a2 c2 W1 (HN.out.below HB2.out hw) HT.out ((PartAt.below hpa (hbr.mono hwz)).wide (by omega)) w.heap.size (by omega) (HI.out.below HB2.out) (by omega))
        have HV2 := Lib.hid (HV.out.below hbr)
        have HBr := Lib.hid hbr
        clear hpa HC2 hbr
        unfold partCells at hW1 HR
        go_wp2_with fail
        rw [← hW1]
        clear hW1
        refine HR.out.mono ?_
        clear HR
        cases hp : pick t l[k] with
        | none =>
          rintro e w2 ⟨hb2, v, rfl, hv⟩
          obtain ⟨u, x, rfl⟩ : ∃ u x, v = .iface u x := by
            rcases hv with rfl | rfl | ⟨x, _, _, rfl⟩ | ⟨x, _, rfl⟩ <;> exact ⟨_, _, rfl⟩
          have HB3 := Lib.hid (HB2.out.trans (hb2.mono (by omega)))
          have HWy := Lib.hid (why_any HH.out (HBw.out.trans (HB3.out.mono HBw.out.size)) hv)
          have HE := Lib.hid (show ∃ s ∈ l, pick t s = none from ⟨_, List.getElem_mem hlt, hp⟩)
          clear hb2 hv hp m0 m1 m2 m3 m4 m5 m6 k0 k1 k2 k3 k4 k5 k6 HB2 HV HV2 HP HZ
          go_wp2_with fail
          refine HWy.out.mono ?_
          rintro e w4 ⟨v, rfl, hone, hb4⟩
          have HB4 := Lib.hid (HB3.out.trans (hb4.mono HB3.out.size))
          clear hb4 HWy HB3
          unfold Value.cells at hone
          go_wp2_with fail
          go_ret2
          exact ⟨HB4.out.alloc HB4.out.size _, .inl ⟨⟨_, _, rfl⟩, .inr HE.out⟩⟩
        | some p =>
          rintro e w2 ⟨hb2, v, rfl, hv⟩
          have hbr2 := HBr.out.trans (hb2.mono (by omega))
          have HB3 := Lib.hid (HB.out.trans (hbr2.mono hwz))
          have HV3 := Lib.hid (HV.out.below hbr2)
          have hm2 := hv.cells
          have HO := Lib.hid hv.one
          unfold Value.cells at hm2
          have HVv := Lib.hid hv
          have HPk := Lib.hid hp
          have hz3 := hbr2.size
          have hzb2 := hb2.size
          have HBr2 := Lib.hid hbr2
          clear hb2 hv hp m0 m1 m2 m3 m4 m5 m6 k0 k1 k2 k3 k4 k5 k6 HB2 HV2 hbr2
          go_wp2_with (at_builtin; refine wpList_append_lies _ rfl _ _ 69 rfl w.heap.size 35 i0 .nilIface 1 16 Tryd.underlying69 hi hz0 hz1 hz2 rfl (by decide) _ _ _ rfl (HV3.out.own.alloc _) ⟨w2.heap.size, 0, none⟩ 1 1 [v] rfl rfl (World.news_of_block (cs := #[v]) (t := 35) (fr := (0, 0)) (heap_alloc_new w2 _)) (fun u hu => by simp at hu; subst hu; exact HO.out) (by omega) (by unfold maxLen; omega) (by omega) (by simp; omega) _ rfl ?_; intro g4 cap4 w4 hown4 hgrow4 hat4 hgl4)
          have hgrow5 : (w2.alloc (Obj.cells #[v] 35)).grownBy w4 vt.ownBlock := hgrow4
          have hat5 : vt.ownBlock = some g4 ∨ g4 = (w2.alloc (Obj.cells #[v] 35)).heap.size := hat4
          have hvv := ValueAt.more (S' := fun b => b < w2.heap.size ∧ vt.ownBlock ≠ some b) (fun b hb => by
            rcases hb with hb | ⟨hb, hb'⟩
            · exact ⟨by omega, fun e => by have := (HV.out.own.lt b e).1; omega⟩
            · exact ⟨hb', fun e => by have := (HV.out.own.lt b e).2; omega⟩) _ _ HVv.out
          have HV' := HV.out.push HP.out.1 hvv HBr2.out hown4 hgrow5 hat5
          have HB' := (HB3.out.alloc (by omega) (Obj.cells #[v] 35)).grown hgrow5 (by simp; omega) (fun j ej => by have := (HV.out.own.lt j ej).1; omega)
          refine ⟨⟨k + 1, _, its ++ [p], vs ++ [v], rfl, by go_num, by omega, Lib.hid HB', Lib.hid HV', Lib.hid ⟨by simp [HP.out.1], fun i hi hj => ?_⟩, Lib.hid (fun h => by omega), HB'.size⟩, by simp [intOf]; omega⟩
          rw [List.length_append, HP.out.1, List.length_singleton] at hj
          by_cases e : i = k
          · subst e
            rw [HPk.out, List.getElem_append_right (by rw [HP.out.1]; omega)]; simp [HP.out.1]
          · rw [List.getElem_append_left (by rw [HP.out.1]; omega)]; exact HP.out.2 i hi (by rw [HP.out.1]; omega)
      · obtain rfl : k = l.length := by omega
        obtain ⟨hlen, hpk⟩ := HP.out
        have hv9 := HV.out
        rw [← hlen] at hv9
        obtain ⟨a3, c3, rfl, hc1, hc2, hvs⟩ := hv9.values (by unfold maxLen; omega) (Nat.zero_le _)
        have HOf := Lib.hid (of_any its a3 c3 wr (by omega) (fun h => by
          have h9 := HZ.out (by rw [← hlen, h]; rfl)
          injection h9) (fun p hp => by
          obtain ⟨i, hi, rfl⟩ := List.getElem_of_mem hp
          exact HPD.out _ _ (hpk i (by omega) hi)) (ValuesAt.more (fun b hb => hb.2) _ _ hvs))
        have HPk := Lib.hid (show Picked t l its from ⟨hlen, hpk⟩)
        clear hv9 hvs HV HZ HP hpk hlen
        go_wp2_with fail
        refine HOf.out.mono ?_
        rintro e w2 ⟨a4, c4, rfl, h41, h42, hb2, hv2⟩
        have HB2 := Lib.hid (HB.out.trans (hb2.mono hwz))
        have HV2 := Lib.hid hv2
        clear hb2 hv2 HOf
        go_wp2_with fail
        go_ret2
        exact ⟨HB2.out, .inr ⟨hll2, its, HPk.out, a4, c4, rfl, h41, h42, HV2.out⟩⟩
end Go.Proofs.YtjgicjgpahnmaaaDoor

/-! A row of sources that the law makes. -/
namespace Go.Proofs.YtjgicjgpahnmaaaDoor
open Go.RowKit Go.WideShapes
set_option linter.unusedVariables false
theorem source_info : (Tryd.prog.info? 39).map (fun i => (i.zero, i.size, i.bytes)) = some (some (.agg #[.int .i64 0, .int .u8 0, .bool false, .bool false, .string ⟨#[]⟩, .string ⟨#[]⟩, .slice none 0 0]), 7, 80) := by kernel_rfl
theorem flat_getN (n : Nat) : ∀ (css : List (List Value)), (∀ c ∈ css, c.length = n) → ∀ (i : Nat) (hi : i < css.length) (j : Nat) u, (css[i])[j]? = some u → css.flatten[i * n + j]? = some u
  | [], _, i, hi, _, _, _ => absurd hi (Nat.not_lt_zero i)
  | c :: css, h, i, hi, j, u, hu => by
    have hc : c.length = n := h c (by simp)
    cases i with
    | zero =>
      have hj : j < c.length := (List.getElem?_eq_some_iff.1 hu).1
      rw [List.flatten_cons, show 0 * n + j = j by omega, List.getElem?_append_left hj]; exact hu
    | succ i =>
      have e : (i + 1) * n = i * n + n := by rw [Nat.add_mul]; omega
      rw [List.flatten_cons, List.getElem?_append_right (by omega), show (i + 1) * n + j - c.length = i * n + j by omega]
      exact flat_getN n css (fun c hc => h c (by simp [hc])) i (by simpa using hi) j u hu
/-- So many sources stand in a row of one's own; their parts lie below B. -/
structure SRow (w : World) (B base : Nat) (vt : Value) (k : Nat) (l : List (Int × PT)) (css : List (List Value)) : Prop where
  len : css.length = k
  tl : l.length = k
  le : B ≤ base
  own : w.ownsRow base 39 7 vt k css.flatten
  src : ∀ i (hi : i < l.length) (hv : i < css.length), ∃ a c, css[i] = .int .i64 l[i].1 :: partCells l[i].2 a c ∧ PartAt w (· < B) l[i].2 (partCells l[i].2 a c)
theorem SRow.start (w : World) (B base : Nat) (h : B ≤ base) : SRow w B base (.slice none 0 0) 0 [] [] :=
  ⟨rfl, rfl, h, World.ownsRow_nil _ _ _ _, fun i hi hv => absurd hv (Nat.not_lt_zero i)⟩
theorem SRow.lt {w : World} {B base : Nat} {vt : Value} {k : Nat} {l : List (Int × PT)} {css : List (List Value)} (h : SRow w B base vt k l css) (b : Nat) (e : vt.ownBlock = some b) : base ≤ b ∧ b < w.heap.size := h.own.lt b e
theorem SRow.below {w w' : World} {B base n : Nat} {vt : Value} {k : Nat} {l : List (Int × PT)} {css : List (List Value)} (h : SRow w B base vt k l css) (hb : Below w.heap.size w w') (hB : B ≤ w.heap.size) : SRow w' B base vt k l css :=
  ⟨h.len, h.tl, h.le, by
    rcases h.own.2 with ⟨e, h0⟩ | ⟨g, cap, cur, e, hb', hg, h1⟩
    · exact ⟨h.own.1, .inl ⟨e, h0⟩⟩
    · exact ⟨h.own.1, .inr ⟨g, cap, cur, e, hb', (hb.block g (Array.getElem?_eq_some_iff.1 hg).1).trans hg, h1⟩⟩,
   fun i hi hv => by
    obtain ⟨a, c, e, hp⟩ := h.src i hi hv
    exact ⟨a, c, e, PartAt.keep (fun p hp => hb.cell (by omega)) _ _ hp⟩⟩
/-- Another row grew. -/
theorem SRow.far {w w2 w3 : World} {B base : Nat} {vt vu : Value} {k : Nat} {l : List (Int × PT)} {css : List (List Value)} {tmp : Obj} (h : SRow w B base vt k l css) (hB : B ≤ w.heap.size) (hb : Below w.heap.size w w2) (hgrow : (w2.alloc tmp).grownBy w3 vu.ownBlock) (hvu : ∀ b, vu.ownBlock = some b → B ≤ b ∧ vt.ownBlock ≠ some b) : SRow w3 B base vt k l css := by
  have hz : (w2.alloc tmp).heap.size = w2.heap.size + 1 := by simp
  have hb2 := hb.size
  have hkeep : ∀ b, b < w.heap.size → vu.ownBlock ≠ some b → w3.heap[b]? = w.heap[b]? := fun b hl hne => by
    rw [hgrow.block b (by omega) (fun e => hne e.symm), Below.heap_alloc w2 tmp b (by omega)]; exact hb.block b hl
  refine ⟨h.len, h.tl, h.le, ?_, fun i hi hv => ?_⟩
  · rcases h.own.2 with ⟨e, h0⟩ | ⟨g, cap, cur, e, hb', hg, h1⟩
    · exact ⟨h.own.1, .inl ⟨e, h0⟩⟩
    · refine ⟨h.own.1, .inr ⟨g, cap, cur, e, hb', (hkeep g (Array.getElem?_eq_some_iff.1 hg).1 (fun e2 => (hvu g e2).2 (by rw [e]; rfl))).trans hg, h1⟩⟩
  · obtain ⟨a, c, e, hp⟩ := h.src i hi hv
    exact ⟨a, c, e, PartAt.keep (fun p hp => World.cell?_of_block (hkeep p.block (by omega) (fun e2 => by have := (hvu _ e2).1; omega))) _ _ hp⟩
/-- One source more. -/
theorem SRow.step {w w2 w3 : World} {B base : Nat} {vt : Value} {k : Nat} {l : List (Int × PT)} {css : List (List Value)} {x : Int} {p : PT} {a : Option Addr} {c : Nat} {tmp : Obj} {g cap : Nat} (h : SRow w B base vt k l css) (hB : B ≤ w.heap.size)
    (hv : PartAt w2 (· < B) p (partCells p a c)) (hb : Below w.heap.size w w2)
    (hown : w3.ownsRow base 39 7 (.slice (some ⟨g, 0, none⟩) (k + 1) cap) (k + 1) (css.flatten ++ .int .i64 x :: partCells p a c)) (hgrow : (w2.alloc tmp).grownBy w3 vt.ownBlock) :
    SRow w3 B base (.slice (some ⟨g, 0, none⟩) (k + 1) cap) (k + 1) (l ++ [(x, p)]) (css ++ [.int .i64 x :: partCells p a c]) := by
  have hz : (w2.alloc tmp).heap.size = w2.heap.size + 1 := by simp
  have hb2 := hb.size
  have hcell : ∀ q : Addr, q.block < B → w3.cell? q = w2.cell? q := fun q hq => by
    rw [hgrow.cell_far q (by omega) (fun e => by have := (h.own.lt _ e.symm).1; have := h.le; omega), World.cell?_alloc_lt w2 tmp q (by omega)]
  refine ⟨by simp [h.len], by simp [h.tl], h.le, by simpa using hown, fun i hi hv' => ?_⟩
  rw [List.length_append, h.len, List.length_singleton] at hv'
  by_cases e : i = k
  · subst e
    have e1 : (css ++ [.int .i64 x :: partCells p a c])[i]'(by rw [List.length_append, h.len, List.length_singleton]; omega) = .int .i64 x :: partCells p a c := by
      rw [List.getElem_append_right (by rw [h.len]; omega)]; simp [h.len]
    have e2 : (l ++ [(x, p)])[i]'hi = (x, p) := by
      rw [List.getElem_append_right (by rw [h.tl]; omega)]; simp [h.tl]
    rw [e1, e2]
    exact ⟨a, c, rfl, PartAt.keep (fun q hq => hcell q hq) _ _ hv⟩
  · have hik : i < css.length := by rw [h.len]; omega
    have hil : i < l.length := by rw [h.tl]; omega
    have e1 : (css ++ [.int .i64 x :: partCells p a c])[i]'(by rw [List.length_append, h.len, List.length_singleton]; omega) = css[i] := List.getElem_append_left hik
    have e2 : (l ++ [(x, p)])[i]'hi = l[i] := List.getElem_append_left hil
    rw [e1, e2]
    obtain ⟨a', c', e3, hp⟩ := h.src i hil hik
    exact ⟨a', c', e3, PartAt.keep (fun q hq => (hcell q hq).trans (hb.cell (by omega))) _ _ hp⟩
/-- The whole row. -/
theorem SRow.srcs {w : World} {B base : Nat} {vt : Value} {k : Nat} {l : List (Int × PT)} {css : List (List Value)} (h : SRow w B base vt k l css) (hB : B ≤ w.heap.size) :
    ∃ a c, vt = .slice a l.length c ∧ SrcsAt w (· < w.heap.size) l a := by
  rcases h.own.2 with ⟨e, h0⟩ | ⟨g, cap, cur, e, hb', hg, hnc, hcm, hcs, htake⟩
  · refine ⟨none, 0, by rw [e, h.tl, h0], fun i hi => absurd hi (by rw [h.tl, h0]; omega)⟩
  · refine ⟨some ⟨g, 0, none⟩, cap, by rw [h.tl]; exact e, fun i hi => ?_⟩
    have hv : i < css.length := by rw [h.len, ← h.tl]; exact hi
    obtain ⟨a', c', e3, hp⟩ := h.src i hi hv
    refine ⟨g, 0, a', c', rfl, (Array.getElem?_eq_some_iff.1 hg).1, fun j u hu => ?_, PartAt.more (fun b hb => by have := hb; omega) _ _ hp⟩
    have hj : j < 7 := by have := (List.getElem?_eq_some_iff.1 hu).1; simpa [partCells] using this
    have hik : i < k := by rw [← h.len]; exact hv
    have ho := h.own
    rw [e] at ho
    rw [Nat.zero_add, ho.cellAt (i * 7 + j) (by omega)]
    refine flat_getN 7 css (fun c hc => ?_) i hv j u (by rw [e3]; exact hu)
    obtain ⟨i2, hi2, rfl⟩ := List.getElem_of_mem hc
    obtain ⟨a2, c2, e2, _⟩ := h.src i2 (by rw [h.tl, ← h.len]; exact hi2) hi2
    rw [e2]; rfl
end Go.Proofs.YtjgicjgpahnmaaaDoor
