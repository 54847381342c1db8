/-
  The law: the sources 0, 1, 2 .. change nothing; two mappings are one.
-/
import Derived.Test.YtjgicjgpahnmaaaDoorKS
namespace Go.Proofs.YtjgicjgpahnmaaaDoor
open Go.RowKit Go.WideShapes Ev
set_option linter.unusedVariables false
theorem awake_ran : isTrue (evCall2 (fun _ _ _ => none) Tryd.prog 100000 60 6 [] ⟨.leaf, 64, 0⟩) = true := by kernel_rfl
theorem awake_any (w : World) : Calls Tryd.prog 6 #[] w (TruePost w) := closed_true plainT mixedT w 100000 60 _ awake_ran
/-- Integers that lie one behind the other. -/
def IntsAt (w : World) (B : Nat) (l : List Int) (a : Option Addr) : Prop := ∀ i (hi : i < l.length), ∃ b o, a = some ⟨b, o, none⟩ ∧ b < B ∧ w.cell? ⟨b, o + i, none⟩ = some (.int .i64 l[i]) ∧ -9223372036854775808 ≤ l[i] ∧ l[i] ≤ 9223372036854775807
theorem IntsAt.below {w w' : World} {B B' : Nat} {l : List Int} {a : Option Addr} (h : IntsAt w B l a) (hb : Below B' w w') (hB : B ≤ B') : IntsAt w' B l a := fun i hi => by
  obtain ⟨b, o, e, h1, h2, h3⟩ := h i hi
  exact ⟨b, o, e, h1, (hb.cell (by simp only; omega)).trans h2, h3⟩
/-- The sources 0, 1, .. of a tuple. -/
def allOf (n : Nat) : List (Int × PT) := (List.range n).map fun (i : Nat) => ((i : Int), .mk 0 false false ⟨#[]⟩ ⟨#[]⟩ [])
theorem allOf_succ (n : Nat) : allOf (n + 1) = allOf n ++ [((n : Int), .mk 0 false false ⟨#[]⟩ ⟨#[]⟩ [])] := by simp [allOf, List.range_succ]
theorem allOf_len (n : Nat) : (allOf n).length = n := by simp [allOf]
theorem allOf_pick {t : PT} {n i : Nat} (hn : n = t.items.length) (hi : i < (allOf n).length) : pick t (allOf n)[i] = t.items[i]? := by
  simp [allOf, pick]
theorem picked_all {t : PT} {n : Nat} {its : List PT} (hn : n = t.items.length) (h : Picked t (allOf n) its) : its = t.items := by
  have hl := h.1
  rw [allOf_len] at hl
  apply List.ext_getElem (by omega)
  intro i h1 h2
  have h3 := h.2 i (by rw [allOf_len]; omega) h1
  rw [allOf_pick hn, List.getElem?_eq_getElem h2] at h3
  exact (Option.some.inj h3).symm
theorem all_no_fault {t : PT} {n : Nat} (hn : n = t.items.length) (hl : n ≤ 1024) : ¬ (1024 < (allOf n).length ∨ ∃ s ∈ allOf n, pick t s = none) := by
  rintro (h | ⟨s, hs, h⟩)
  · rw [allOf_len] at h; omega
  · obtain ⟨i, hi, rfl⟩ := List.getElem_of_mem hs
    rw [allOf_pick hn, allOf_len] at *
    rw [List.getElem?_eq_getElem (by omega)] at h
    cases h
/-- Which source a number speaks of. -/
def jOf (n : Nat) (x : Int) : Nat := (if x < 0 then -(x + 1) else x).toNat % n
def secOf (n : Nat) (M : List Int) : List (Int × PT) := M.map fun x => ((jOf n x : Int), .mk 0 false false ⟨#[]⟩ ⟨#[]⟩ [])
def bothOf (L : List (Int × PT)) (M : List Int) : List (Int × PT) := M.map fun x => L[jOf L.length x]!
theorem map_take1 {α β : Type} (f : α → β) {M : List α} {k : Nat} (hk : k < M.length) : (M.take (k + 1)).map f = (M.take k).map f ++ [f M[k]] := by
  rw [List.take_succ_eq_append_getElem hk, List.map_append]; rfl
theorem secOf_take {n : Nat} {M : List Int} {k : Nat} (hk : k < M.length) : secOf n (M.take (k + 1)) = secOf n (M.take k) ++ [((jOf n M[k] : Int), .mk 0 false false ⟨#[]⟩ ⟨#[]⟩ [])] := map_take1 _ hk
theorem bothOf_take {L : List (Int × PT)} {M : List Int} {k : Nat} (hk : k < M.length) (hj : jOf L.length M[k] < L.length) : bothOf L (M.take (k + 1)) = bothOf L (M.take k) ++ [(L[jOf L.length M[k]].1, L[jOf L.length M[k]].2)] := by
  unfold bothOf
  rw [map_take1 _ hk, getElem!_pos L _ hj]
theorem jOf_neg {n : Nat} {x : Int} (h : x < 0) : -((x + 1).tmod n) = (jOf n x : Int) := by
  unfold jOf
  rw [if_pos h, ← Int.neg_tmod]
  have h1 : (0 : Int) ≤ -(x + 1) := by omega
  obtain ⟨y, hy⟩ := Int.eq_ofNat_of_zero_le h1
  rw [hy]; rfl
theorem jOf_pos {n : Nat} {x : Int} (h : ¬ x < 0) : x.tmod n = (jOf n x : Int) := by
  unfold jOf
  rw [if_neg h]
  obtain ⟨y, hy⟩ := Int.eq_ofNat_of_zero_le (show (0 : Int) ≤ x by omega)
  rw [hy]; rfl
theorem jOf_lt {n : Nat} (x : Int) (h : 0 < n) : jOf n x < n := Nat.mod_lt _ h
/-- The second mapping's sources pick what the first one's picked. -/
theorem pick_sec {L : List (Int × PT)} {its : List PT} {t tb : PT} {M : List Int} (hp : Picked t L its) (hb : tb.items = its) (hz : L = [] → M = []) (i : Nat) (h1 : i < (secOf L.length M).length) (h2 : i < (bothOf L M).length) :
    ∃ p, pick tb (secOf L.length M)[i] = some p ∧ pick t (bothOf L M)[i] = some p := by
  have hM : i < M.length := by simpa [secOf] using h1
  have hL : 0 < L.length := by
    rcases L with _ | ⟨x, L⟩
    · rw [hz rfl] at hM; simp at hM
    · simp
  have hj := jOf_lt M[i] hL
  have hji : jOf L.length M[i] < its.length := by rw [hp.1]; exact hj
  refine ⟨its[jOf L.length M[i]], ?_, ?_⟩
  · have e : (secOf L.length M)[i] = ((jOf L.length M[i] : Int), .mk 0 false false ⟨#[]⟩ ⟨#[]⟩ []) := List.getElem_map _
    rw [e]
    unfold pick
    rw [if_pos (Int.natCast_nonneg _), hb]
    exact List.getElem?_eq_getElem hji
  · have e : (bothOf L M)[i] = L[jOf L.length M[i]]! := List.getElem_map _
    rw [e, getElem!_pos L _ hj]
    exact hp.2 _ hj hji
theorem pick_may {t p : PT} {s : Int × PT} (ht : t.may = true) (h7 : t.kind = 7) (h : pick t s = some p) : p.may = true := by
  unfold pick at h
  split at h
  · exact (PT.may_items ht h7).2 p (List.mem_of_getElem? h)
  · split at h
    · rename_i hc
      injection h with h
      subst h
      exact PT.why_may hc.1
    · cases h
theorem tup_may {its : List PT} (hl : its.length ≤ 1024) (h : ∀ p ∈ its, p.may = true) : (PT.mk 7 false false ⟨#[]⟩ ⟨#[]⟩ its).may = true := by
  simp only [PT.may]
  simp [PT.mayL_iff.2 h, hl]
  rfl
theorem tup_depth {its : List PT} (h : ∀ p ∈ its, p.depth < 16) : (PT.mk 7 false false ⟨#[]⟩ ⟨#[]⟩ its).depth ≤ 16 := by
  have h9 : PT.depthL its ≤ 15 := PT.depthL_le.2 fun x hx => by have := h x hx; omega
  simp [PT.depth]; omega
theorem no_fault {t : PT} {l : List (Int × PT)} (hl : l.length ≤ 1024) (h : ∀ i (hi : i < l.length), ∃ p, pick t l[i] = some p) : ¬ (1024 < l.length ∨ ∃ s ∈ l, pick t s = none) := by
  rintro (h1 | ⟨s, hs, h1⟩)
  · omega
  · obtain ⟨i, hi, rfl⟩ := List.getElem_of_mem hs
    obtain ⟨p, h2⟩ := h i hi
    rw [h1] at h2; cases h2
theorem zero_part (w : World) (S : Nat → Prop) : PartAt w S (.mk 0 false false ⟨#[]⟩ ⟨#[]⟩ []) (partCells (.mk 0 false false ⟨#[]⟩ ⟨#[]⟩ []) none 0) := PartAt.shut (show 0 < 256 by decide) (Nat.zero_le _) (Nat.zero_le _) (Nat.le_refl _) (Nat.zero_le _) trivial
theorem TruePost.of {w w' : World} (h : Below w.heap.size w w') : TruePost w (.returned (.bool true)) w' := ⟨rfl, h⟩
set_option maxRecDepth 100000 in
set_option maxHeartbeats 8000000 in
theorem law_any (L : List (Int × PT)) (A : Option Addr) (C : Nat) (M : List Int) (Am : Option Addr) (Cm : Nat) (t : PT) (a : Option Addr) (c : Nat) (w : World) (h0 : laidMetH Tryd.prog Rows.rekeyGoesUptoRow.laid w) (hw : 0 < w.heap.size)
    (hL : SrcsAt w (· < w.heap.size) L A) (hLl : L.length ≤ maxLen) (hM : IntsAt w w.heap.size M Am) (hMl : M.length ≤ maxLen) (hp : PartAt w (· < w.heap.size) t (partCells t a c)) :
    Calls Tryd.prog 4 #[.slice A L.length C, .slice Am M.length Cm, .agg (partCells t a c).toArray] w (TruePost w) := by
  have H0 := Lib.hid h0
  have HL := Lib.hid hL
  have HM := Lib.hid hM
  have HP := Lib.hid hp
  obtain ⟨W1, hW1⟩ : ∃ W1, W1 = w.alloc (.cells (partCells t a c).toArray 30) := ⟨_, rfl⟩
  have hb1 : Below w.heap.size w W1 := by rw [hW1]; exact (Below.refl w.heap.size w).alloc (Nat.le_refl _) _
  have HB1 := Lib.hid hb1
  have HC1 := Lib.hid (show CellsAt W1 w.heap.size 0 (partCells t a c) by rw [hW1]; exact new_part w w.heap.size t a c _ rfl)
  have hz1 : w.heap.size + 1 ≤ W1.heap.size := by rw [hW1]; simp
  have HAw := Lib.hid (awake_any W1)
  have HPl := Lib.hid hp.open
  unfold maxLen at hLl hMl
  clear h0 hL hM hp hb1
  unfold partCells at hW1 ⊢
  go_enter Tryd.func4, Tryd.ntmps4
  go_wp2_with fail
  rw [← hW1]
  clear hW1
  refine HAw.out.mono ?_
  rintro e w2 ⟨rfl, hb2⟩
  have HB2 := Lib.hid (HB1.out.trans (hb2.mono (by omega)))
  have hz2 := hb2.size
  have HC2 := Lib.hid (HC1.out.keep fun p hp => hb2.cell (by omega))
  have p0 := HC2.out 0 _ rfl
  have p1 := HC2.out 1 _ rfl
  have p2 := HC2.out 2 _ rfl
  have p3 := HC2.out 3 _ rfl
  have p4 := HC2.out 4 _ rfl
  have p5 := HC2.out 5 _ rfl
  have HVa := Lib.hid (vast_any L A C t a c w2 ((HL.out.below HB2.out).more (fun b hb => by have := hb; omega)) ((HP.out.below HB2.out).wide (by omega)) hLl)
  clear hb2 HB1 HC1 HAw
  unfold partCells at HVa
  go_wp2_with fail
  refine HVa.out.mono ?_
  rintro e w3 ⟨beyond, rfl, hb3⟩
  have HB3 := Lib.hid (HB2.out.trans (hb3.mono (by omega)))
  have hz3 := hb3.size
  have HC3 := Lib.hid (HC2.out.keep fun p hp => hb3.cell (by omega))
  clear hb3 HB2 HC2 HVa p0 p1 p2 p3 p4 p5
  cases beyond with
  | true =>
    go_wp2_with fail
    go_ret
    exact .of HB3.out
  | false =>
    by_cases hm : 1000 < M.length
    · go_wp2_with fail
      go_ret
      exact .of HB3.out
    · have hmI : ¬ ((1000 : Int) < (M.length : Int)) := by omega
      have p0 := HC3.out 0 _ rfl
      have p1 := HC3.out 1 _ rfl
      have p2 := HC3.out 2 _ rfl
      have p3 := HC3.out 3 _ rfl
      have p4 := HC3.out 4 _ rfl
      have p5 := HC3.out 5 _ rfl
      have HMk := Lib.hid (refMake_any t a c w3 ((HP.out.below HB3.out).wide (by omega)))
      unfold partCells at HMk
      go_wp2_with fail
      refine HMk.out.mono ?_
      rintro e w4 ⟨rfl, hb4⟩
      have HB4 := Lib.hid (HB3.out.trans (hb4.mono (by omega)))
      have hz4 := hb4.size
      have HC4 := Lib.hid (HC3.out.keep fun p hp => hb4.cell (by omega))
      clear hb4 HB3 HC3 HMk p0 p1 p2 p3 p4 p5
      by_cases hwhy : t.why = 0
      · have hwhy' : (t.why != 0) = false := by simp [hwhy]
        have HWy := Lib.hid hwhy
        have p0 := HC4.out 0 _ rfl
        by_cases h7 : t.kind = 7
        · have hb7 : ((t.kind : Int) != 7) = false := by simp [h7]
          have H7 := Lib.hid h7
          clear h7 hwhy
          have p1 := HC4.out 1 _ rfl
          have p2 := HC4.out 2 _ rfl
          have p3 := HC4.out 3 _ rfl
          have p4 := HC4.out 4 _ rfl
          have p5 := HC4.out 5 _ rfl
          have HMk := Lib.hid (valMake_any t a c w4 ((HP.out.below HB4.out).wide (by omega)))
          unfold partCells at HMk
          go_wp2_with fail
          refine HMk.out.mono ?_
          rintro e w5 ⟨hb5, ⟨hne, _⟩ | ⟨_, v, rfl, hv⟩⟩
          · exact absurd HWy.out hne
          obtain ⟨hil, _⟩ := PT.may_items (PT.why_may HWy.out) H7.out
          have HB5 := Lib.hid (HB4.out.trans (hb5.mono (by omega)))
          have hz5 := hb5.size
          have HC5 := Lib.hid (HC4.out.keep fun p hp => hb5.cell (by omega))
          have HV5 := Lib.hid (ValueAt.more (S' := (· < w5.heap.size)) (fun b hb => hb.2) _ _ hv)
          have HD5 := Lib.hid (Below.refl w5.heap.size w5)
          have HS5 := Lib.hid (SRow.start w5 w.heap.size w5.heap.size (by omega))
          have hw5 : w.heap.size + 1 ≤ w5.heap.size := by omega
          obtain ⟨i0, hi, hz0, hz1', hz2'⟩ := info_parts source_info
          clear hb5 HB4 HC4 HMk p0 p1 p2 p3 p4 p5 hb7 hwhy' hmI hv
          go_wp2_with fail
          go_loopw [11, 12] (fun t11 i wr => ∃ (k : Nat) (vt : Value) (css : List (List Value)), t11 = vt ∧ i = .int .i64 k ∧ k ≤ t.items.length ∧ Hid (Below w5.heap.size w5 wr) ∧ Hid (SRow wr w.heap.size w5.heap.size vt k (allOf k) css) ∧ Hid (CellsAt wr w.heap.size 0 (partCells t a c))) (fun _ i _ => t.items.length - (intOf i).toNat)
          case atStart => exact ⟨0, _, [], rfl, rfl, by omega, HD5, HS5, HC5⟩
          case round =>
            clear HD5 HS5
            obtain ⟨k, vt, css, hvt, rfl, hk, HD, HS, HC⟩ := hrel
            replace hvt := hvt.symm
            subst hvt
            have p5 := HC.out 5 _ rfl
            have hwz := HD.out.size
            by_cases hlt : k < t.items.length
            · go_wp2_with (at_builtin; refine wpList_append_lies _ rfl _ _ 23 rfl w5.heap.size 39 i0 (.agg #[.int .i64 0, .int .u8 0, .bool false, .bool false, .string ⟨#[]⟩, .string ⟨#[]⟩, .slice none 0 0]) 7 80 Tryd.underlying23 hi hz0 hz1' hz2' rfl (by decide) _ _ _ rfl (HS.out.own.alloc _) ⟨wr.heap.size, 0, none⟩ 1 1 [.int .i64 k, .int .u8 0, .bool false, .bool false, .string ⟨#[]⟩, .string ⟨#[]⟩, .slice none 0 0] rfl rfl (World.news_of_block (cs := #[.int .i64 k, .int .u8 0, .bool false, .bool false, .string ⟨#[]⟩, .string ⟨#[]⟩, .slice none 0 0]) (t := 39) (fr := (0, 0)) (heap_alloc_new wr _)) (by simp [Value.oneCell']) (by omega) (by unfold maxLen; omega) (by omega) (by simp; omega) _ rfl ?_; intro g4 cap4 w6 hown4 hgrow4 hat4 hgl4)
              have hgrow5 : (wr.alloc (Obj.cells #[.int .i64 k, .int .u8 0, .bool false, .bool false, .string ⟨#[]⟩, .string ⟨#[]⟩, .slice none 0 0] 39)).grownBy w6 vt.ownBlock := hgrow4
              have HD' := (HD.out.alloc (by omega) (Obj.cells #[.int .i64 k, .int .u8 0, .bool false, .bool false, .string ⟨#[]⟩, .string ⟨#[]⟩, .slice none 0 0] 39)).grown hgrow5 (by simp; omega) (fun j ej => by have := (HS.out.lt j ej).1; omega)
              have HS' := HS.out.step (x := k) (p := .mk 0 false false ⟨#[]⟩ ⟨#[]⟩ []) (a := none) (c := 0) (by omega) (zero_part wr _) (Below.refl _ _) hown4 hgrow5
              rw [← allOf_succ] at HS'
              refine ⟨⟨k + 1, _, _, rfl, by go_num, by omega, Lib.hid HD', Lib.hid HS', Lib.hid (HC5.out.keep fun p hp => HD'.cell (by omega))⟩, by simp [intOf]; omega⟩
            · obtain rfl : k = t.items.length := by omega
              obtain ⟨aA, cA, rfl, hsA⟩ := HS.out.srcs (by omega)
              have HMp := Lib.hid (map_any H0.out t (allOf t.items.length) aA cA _ wr (HB5.out.trans (HD.out.mono (by omega))) hw H7.out (PT.why_depth HWy.out) hsA (by rw [allOf_len]; unfold maxLen; omega) ((HV5.out.below HD.out).wide hwz))
              clear HS hsA
              go_wp2_with fail
              refine HMp.out.mono ?_
              rintro e w6 ⟨hb6, ⟨_, hno⟩ | ⟨_, its, hpk, a6, c6, rfl, hc61, hc62, hv6⟩⟩
              · exact absurd hno (all_no_fault rfl hil)
              obtain rfl := picked_all rfl hpk
              have HD6 := Lib.hid (HD.out.trans (hb6.mono hwz))
              have hwz6 := HD6.out.size
              have HSm := Lib.hid (Same_any t _ _ w6 ((ValueAt.tuple H7.out).2 ⟨a6, c6, rfl, hc61, hc62, hv6⟩) ((HV5.out.below HD6.out).wide hwz6))
              clear hb6 hv6 HMp hpk p5 HC HD
              go_wp2_with fail
              refine HSm.out.mono ?_
              rintro e w7 ⟨rfl, hb7⟩
              have HD7 := Lib.hid (HD6.out.trans (hb7.mono hwz6))
              have hwz7 := HD7.out.size
              have HW7 := Lib.hid (HB5.out.trans (HD7.out.mono (by omega)))
              have HMp := Lib.hid (map_any H0.out t L A C _ w7 HW7.out hw H7.out (PT.why_depth HWy.out) ((HL.out.below HW7.out).more (fun b hb => by have := hb; omega)) (by unfold maxLen; omega) ((HV5.out.below HD7.out).wide hwz7))
              clear hb7 HSm HD6 hwz6 hwz
              go_wp2_with fail
              refine HMp.out.mono ?_
              rintro e w8 ⟨hb8, ⟨⟨ty, x, rfl⟩, _⟩ | ⟨hL4, its, hpk, a8, c8, rfl, hc81, hc82, hv8⟩⟩
              · have HW8 := Lib.hid (HW7.out.trans (hb8.mono (by omega)))
                clear hb8 HMp
                go_wp2_with fail
                go_ret
                exact .of HW8.out
              have HD8 := Lib.hid (HD7.out.trans (hb8.mono hwz7))
              have hwz8 := HD8.out.size
              have HV8 := Lib.hid hv8
              have HPk := Lib.hid hpk
              have HSa := Lib.hid (SRow.start w8 w.heap.size w8.heap.size (by omega))
              have HDd := Lib.hid (Below.refl w8.heap.size w8)
              have HW8 := Lib.hid (HB5.out.trans (HD8.out.mono (by omega)))
              clear hb8 HMp HD7 HW7 hwz7 hpk hv8
              go_wp2_with fail
              go_loopw [18, 19, 20] (fun t18 t19 i wr => ∃ (k : Nat) (vt vu : Value) (css dss : List (List Value)), t18 = vt ∧ t19 = vu ∧ i = .int .i64 k ∧ k ≤ M.length ∧ Hid (Below w8.heap.size w8 wr) ∧ Hid (SRow wr w.heap.size w8.heap.size vt k (secOf L.length (M.take k)) css) ∧ Hid (SRow wr w.heap.size w8.heap.size vu k (bothOf L (M.take k)) dss) ∧ Hid (∀ b, vt.ownBlock = some b → vu.ownBlock ≠ some b) ∧ Hid (L = [] → k = 0)) (fun _ _ i _ => M.length - (intOf i).toNat)
              case atStart => exact ⟨0, _, _, [], [], rfl, rfl, rfl, by omega, HDd, HSa, HSa, Lib.hid (fun b h => by cases h), Lib.hid (fun _ => rfl)⟩
              case round =>
                clear HDd HSa
                obtain ⟨k, vt, vu, css, dss, hvt, hvu, rfl, hk, HD, HS, HT, HX, HZ⟩ := hrel
                replace hvt := hvt.symm
                subst hvt
                replace hvu := hvu.symm
                subst hvu
                have hwz := HD.out.size
                by_cases hpos : 0 < L.length
                · by_cases hlt : k < M.length
                  · have hltI : (k : Int) < (M.length : Int) := by omega
                    have hposI : 0 < (L.length : Int) := by omega
                    obtain ⟨bm, om, rfl, hbm, hcm, hr1, hr2⟩ := (HM.out.below (HW8.out.trans (HD.out.mono (by omega))) (Nat.le_refl _)) k hlt
                    obtain ⟨j, hj⟩ : ∃ j, j = jOf L.length M[k] := ⟨_, rfl⟩
                    have hjl : j < L.length := by rw [hj]; exact jOf_lt _ hpos
                    have HJ := Lib.hid hj
                    by_cases hx : M[k] < 0
                    · have hjI : -((M[k] + 1).tmod (L.length : Int)) = (j : Int) := by rw [hj]; exact jOf_neg hx
                      clear hj
                      have HLt := Lib.hid hlt
                      go_wp2_with (first | (at_builtin; refine wpList_append_lies _ rfl _ _ 23 rfl w8.heap.size 39 i0 (.agg #[.int .i64 0, .int .u8 0, .bool false, .bool false, .string ⟨#[]⟩, .string ⟨#[]⟩, .slice none 0 0]) 7 80 Tryd.underlying23 hi hz0 hz1' hz2' rfl (by decide) _ _ _ rfl (HS.out.own.alloc _) ⟨wr.heap.size, 0, none⟩ 1 1 [.int .i64 j, .int .u8 0, .bool false, .bool false, .string ⟨#[]⟩, .string ⟨#[]⟩, .slice none 0 0] rfl rfl (World.news_of_block (cs := #[.int .i64 j, .int .u8 0, .bool false, .bool false, .string ⟨#[]⟩, .string ⟨#[]⟩, .slice none 0 0]) (t := 39) (fr := (0, 0)) (heap_alloc_new wr _)) (by simp [Value.oneCell']) (by omega) (by unfold maxLen; omega) (by omega) (by simp; omega) _ rfl ?_; intro g4 cap4 w6 hown4 hgrow4 hat4 hgl4; have hgrow5 : (wr.alloc (Obj.cells #[.int .i64 j, .int .u8 0, .bool false, .bool false, .string ⟨#[]⟩, .string ⟨#[]⟩, .slice none 0 0] 39)).grownBy w6 vt.ownBlock := hgrow4; have hat5 : vt.ownBlock = some g4 ∨ g4 = (wr.alloc (Obj.cells #[.int .i64 j, .int .u8 0, .bool false, .bool false, .string ⟨#[]⟩, .string ⟨#[]⟩, .slice none 0 0] 39)).heap.size := hat4; have HD6 := Lib.hid ((HD.out.alloc (by omega) (Obj.cells #[.int .i64 j, .int .u8 0, .bool false, .bool false, .string ⟨#[]⟩, .string ⟨#[]⟩, .slice none 0 0] 39)).grown hgrow5 (by simp; omega) (fun j ej => by have := (HS.out.lt j ej).1; omega)); have hz6 := hgrow5.size; simp only [World.size_alloc] at hz6; have HS6 := Lib.hid (HS.out.step (x := j) (p := .mk 0 false false ⟨#[]⟩ ⟨#[]⟩ []) (a := none) (c := 0) (by omega) (zero_part wr _) (Below.refl _ _) hown4 hgrow5); have HT6 := Lib.hid (HT.out.far (by omega) (Below.refl _ _) hgrow5 (fun b e => ⟨by have := (HS.out.lt b e).1; omega, fun e2 => HX.out b e e2⟩)); obtain ⟨b2, o2, a2, c2, hA, hb2, k0, k1, k2, k3, k4, k5, k6, hpa⟩ := (HL.out.below (HW8.out.trans (HD6.out.mono (by omega)))).cells hjl; have HPA := Lib.hid hpa; clear hpa; subst hA) | (at_builtin; refine wpList_append_lies _ rfl _ _ 23 rfl w8.heap.size 39 i0 (.agg #[.int .i64 0, .int .u8 0, .bool false, .bool false, .string ⟨#[]⟩, .string ⟨#[]⟩, .slice none 0 0]) 7 80 Tryd.underlying23 hi hz0 hz1' hz2' rfl (by decide) _ _ _ rfl (HT6.out.own.alloc _) ⟨w6.heap.size, 0, none⟩ 1 1 [.int .i64 L[j].1, .int .u8 L[j].2.kind, .bool L[j].2.yes, .bool L[j].2.bel, .string L[j].2.mag, .string L[j].2.raw, .slice a2 L[j].2.items.length c2] rfl rfl (World.news_of_block (cs := #[.int .i64 L[j].1, .int .u8 L[j].2.kind, .bool L[j].2.yes, .bool L[j].2.bel, .string L[j].2.mag, .string L[j].2.raw, .slice a2 L[j].2.items.length c2]) (t := 39) (fr := (0, 0)) (heap_alloc_new w6 _)) (by simp [Value.oneCell']) (by omega) (by unfold maxLen; omega) (by omega) (by simp; omega) _ rfl ?_; intro g7 cap7 w7' hown7 hgrow7 hat7 hgl7; have hgrow8 : (w6.alloc (Obj.cells #[.int .i64 L[j].1, .int .u8 L[j].2.kind, .bool L[j].2.yes, .bool L[j].2.bel, .string L[j].2.mag, .string L[j].2.raw, .slice a2 L[j].2.items.length c2] 39)).grownBy w7' vu.ownBlock := hgrow7; have hat8 : vu.ownBlock = some g7 ∨ g7 = (w6.alloc (Obj.cells #[.int .i64 L[j].1, .int .u8 L[j].2.kind, .bool L[j].2.yes, .bool L[j].2.bel, .string L[j].2.mag, .string L[j].2.raw, .slice a2 L[j].2.items.length c2] 39)).heap.size := hat7))
                      have hlt9 : k < M.length := HLt.out
                      clear HLt
                      have hgx : vu.ownBlock ≠ some g4 := fun e => by
                        rcases hat5 with h | h
                        · exact HX.out _ h e
                        · have := (HT.out.lt _ e).2; simp at h; omega
                      have hg4 : g4 < w6.heap.size := hgl4
                      have HD9 := (HD6.out.alloc (by omega) (Obj.cells #[.int .i64 L[j].1, .int .u8 L[j].2.kind, .bool L[j].2.yes, .bool L[j].2.bel, .string L[j].2.mag, .string L[j].2.raw, .slice a2 L[j].2.items.length c2] 39)).grown hgrow8 (by simp; omega) (fun j ej => by have := (HT.out.lt j ej).1; omega)
                      have HT9 := HT6.out.step (x := L[j].1) (p := L[j].2) (a := a2) (c := c2) (by omega) HPA.out (Below.refl _ _) hown7 hgrow8
                      have HS9 := HS6.out.far (by omega) (Below.refl _ _) hgrow8 (fun b e => ⟨by have := (HT.out.lt b e).1; omega, fun e2 => by
                        have e3 : g4 = b := by simpa [Value.ownBlock] using e2
                        subst e3; exact hgx e⟩)
                      rw [HJ.out, ← secOf_take hlt9] at HS9
                      have hBt := bothOf_take (L := L) hlt9 (by rw [← HJ.out]; exact hjl)
                      have HT9' : SRow w7' w.heap.size w8.heap.size (.slice (some ⟨g7, 0, none⟩) (k + 1) cap7) (k + 1) (bothOf L (M.take (k + 1))) (dss ++ [.int .i64 L[j].1 :: partCells L[j].2 a2 c2]) := by
                        rw [hBt]
                        have e : L[jOf L.length M[k]]'(by rw [← HJ.out]; exact hjl) = L[j] := by simp only [HJ.out]
                        rw [e]; exact HT9
                      refine ⟨⟨k + 1, _, _, _, _, rfl, rfl, by go_num, by have := hlt9; omega, Lib.hid HD9, Lib.hid HS9, Lib.hid HT9', Lib.hid (fun b e e2 => ?_), Lib.hid (fun h => absurd hpos (by rw [h]; simp))⟩, by have := hlt9; simp [intOf]; omega⟩
                      have e3 : g4 = b := by simpa [Value.ownBlock] using e
                      have e4 : g7 = b := by simpa [Value.ownBlock] using e2
                      rcases hat8 with h | h
                      · exact hgx (h.trans (by rw [e4, e3]))
                      · simp at h; omega
                    · have hjI : M[k].tmod (L.length : Int) = (j : Int) := by rw [hj]; exact jOf_pos hx
                      clear hj
                      have HLt := Lib.hid hlt
                      go_wp2_with (first | (at_builtin; refine wpList_append_lies _ rfl _ _ 23 rfl w8.heap.size 39 i0 (.agg #[.int .i64 0, .int .u8 0, .bool false, .bool false, .string ⟨#[]⟩, .string ⟨#[]⟩, .slice none 0 0]) 7 80 Tryd.underlying23 hi hz0 hz1' hz2' rfl (by decide) _ _ _ rfl (HS.out.own.alloc _) ⟨wr.heap.size, 0, none⟩ 1 1 [.int .i64 j, .int .u8 0, .bool false, .bool false, .string ⟨#[]⟩, .string ⟨#[]⟩, .slice none 0 0] rfl rfl (World.news_of_block (cs := #[.int .i64 j, .int .u8 0, .bool false, .bool false, .string ⟨#[]⟩, .string ⟨#[]⟩, .slice none 0 0]) (t := 39) (fr := (0, 0)) (heap_alloc_new wr _)) (by simp [Value.oneCell']) (by omega) (by unfold maxLen; omega) (by omega) (by simp; omega) _ rfl ?_; intro g4 cap4 w6 hown4 hgrow4 hat4 hgl4; have hgrow5 : (wr.alloc (Obj.cells #[.int .i64 j, .int .u8 0, .bool false, .bool false, .string ⟨#[]⟩, .string ⟨#[]⟩, .slice none 0 0] 39)).grownBy w6 vt.ownBlock := hgrow4; have hat5 : vt.ownBlock = some g4 ∨ g4 = (wr.alloc (Obj.cells #[.int .i64 j, .int .u8 0, .bool false, .bool false, .string ⟨#[]⟩, .string ⟨#[]⟩, .slice none 0 0] 39)).heap.size := hat4; have HD6 := Lib.hid ((HD.out.alloc (by omega) (Obj.cells #[.int .i64 j, .int .u8 0, .bool false, .bool false, .string ⟨#[]⟩, .string ⟨#[]⟩, .slice none 0 0] 39)).grown hgrow5 (by simp; omega) (fun j ej => by have := (HS.out.lt j ej).1; omega)); have hz6 := hgrow5.size; simp only [World.size_alloc] at hz6; have HS6 := Lib.hid (HS.out.step (x := j) (p := .mk 0 false false ⟨#[]⟩ ⟨#[]⟩ []) (a := none) (c := 0) (by omega) (zero_part wr _) (Below.refl _ _) hown4 hgrow5); have HT6 := Lib.hid (HT.out.far (by omega) (Below.refl _ _) hgrow5 (fun b e => ⟨by have := (HS.out.lt b e).1; omega, fun e2 => HX.out b e e2⟩)); obtain ⟨b2, o2, a2, c2, hA, hb2, k0, k1, k2, k3, k4, k5, k6, hpa⟩ := (HL.out.below (HW8.out.trans (HD6.out.mono (by omega)))).cells hjl; have HPA := Lib.hid hpa; clear hpa; subst hA) | (at_builtin; refine wpList_append_lies _ rfl _ _ 23 rfl w8.heap.size 39 i0 (.agg #[.int .i64 0, .int .u8 0, .bool false, .bool false, .string ⟨#[]⟩, .string ⟨#[]⟩, .slice none 0 0]) 7 80 Tryd.underlying23 hi hz0 hz1' hz2' rfl (by decide) _ _ _ rfl (HT6.out.own.alloc _) ⟨w6.heap.size, 0, none⟩ 1 1 [.int .i64 L[j].1, .int .u8 L[j].2.kind, .bool L[j].2.yes, .bool L[j].2.bel, .string L[j].2.mag, .string L[j].2.raw, .slice a2 L[j].2.items.length c2] rfl rfl (World.news_of_block (cs := #[.int .i64 L[j].1, .int .u8 L[j].2.kind, .bool L[j].2.yes, .bool L[j].2.bel, .string L[j].2.mag, .string L[j].2.raw, .slice a2 L[j].2.items.length c2]) (t := 39) (fr := (0, 0)) (heap_alloc_new w6 _)) (by simp [Value.oneCell']) (by omega) (by unfold maxLen; omega) (by omega) (by simp; omega) _ rfl ?_; intro g7 cap7 w7' hown7 hgrow7 hat7 hgl7; have hgrow8 : (w6.alloc (Obj.cells #[.int .i64 L[j].1, .int .u8 L[j].2.kind, .bool L[j].2.yes, .bool L[j].2.bel, .string L[j].2.mag, .string L[j].2.raw, .slice a2 L[j].2.items.length c2] 39)).grownBy w7' vu.ownBlock := hgrow7; have hat8 : vu.ownBlock = some g7 ∨ g7 = (w6.alloc (Obj.cells #[.int .i64 L[j].1, .int .u8 L[j].2.kind, .bool L[j].2.yes, .bool L[j].2.bel, .string L[j].2.mag, .string L[j].2.raw, .slice a2 L[j].2.items.length c2] 39)).heap.size := hat7))
                      have hlt9 : k < M.length := HLt.out
                      clear HLt
                      have hgx : vu.ownBlock ≠ some g4 := fun e => by
                        rcases hat5 with h | h
                        · exact HX.out _ h e
                        · have := (HT.out.lt _ e).2; simp at h; omega
                      have hg4 : g4 < w6.heap.size := hgl4
                      have HD9 := (HD6.out.alloc (by omega) (Obj.cells #[.int .i64 L[j].1, .int .u8 L[j].2.kind, .bool L[j].2.yes, .bool L[j].2.bel, .string L[j].2.mag, .string L[j].2.raw, .slice a2 L[j].2.items.length c2] 39)).grown hgrow8 (by simp; omega) (fun j ej => by have := (HT.out.lt j ej).1; omega)
                      have HT9 := HT6.out.step (x := L[j].1) (p := L[j].2) (a := a2) (c := c2) (by omega) HPA.out (Below.refl _ _) hown7 hgrow8
                      have HS9 := HS6.out.far (by omega) (Below.refl _ _) hgrow8 (fun b e => ⟨by have := (HT.out.lt b e).1; omega, fun e2 => by
                        have e3 : g4 = b := by simpa [Value.ownBlock] using e2
                        subst e3; exact hgx e⟩)
                      rw [HJ.out, ← secOf_take hlt9] at HS9
                      have hBt := bothOf_take (L := L) hlt9 (by rw [← HJ.out]; exact hjl)
                      have HT9' : SRow w7' w.heap.size w8.heap.size (.slice (some ⟨g7, 0, none⟩) (k + 1) cap7) (k + 1) (bothOf L (M.take (k + 1))) (dss ++ [.int .i64 L[j].1 :: partCells L[j].2 a2 c2]) := by
                        rw [hBt]
                        have e : L[jOf L.length M[k]]'(by rw [← HJ.out]; exact hjl) = L[j] := by simp only [HJ.out]
                        rw [e]; exact HT9
                      refine ⟨⟨k + 1, _, _, _, _, rfl, rfl, by go_num, by have := hlt9; omega, Lib.hid HD9, Lib.hid HS9, Lib.hid HT9', Lib.hid (fun b e e2 => ?_), Lib.hid (fun h => absurd hpos (by rw [h]; simp))⟩, by have := hlt9; simp [intOf]; omega⟩
                      have e3 : g4 = b := by simpa [Value.ownBlock] using e
                      have e4 : g7 = b := by simpa [Value.ownBlock] using e2
                      rcases hat8 with h | h
                      · exact hgx (h.trans (by rw [e4, e3]))
                      · simp at h; omega
                  · have hltI : ¬ ((k : Int) < (M.length : Int)) := by omega
                    obtain ⟨Mk, hMk⟩ : ∃ Mk, Mk = M.take k := ⟨_, rfl⟩
                    rw [← hMk] at HS HT
                    have hMl : Mk.length ≤ 1000 := by rw [hMk, List.length_take]; omega
                    have HMz := Lib.hid (show L = [] → Mk = [] from fun h => by rw [hMk, HZ.out h]; rfl)
                    clear hMk HX HZ
                    obtain ⟨a3, c3, rfl, hs3⟩ := HS.out.srcs (by omega)
                    obtain ⟨a4, c4, rfl, hs4⟩ := HT.out.srcs (by omega)
                    have HS3 := Lib.hid hs3
                    have HS4 := Lib.hid hs4
                    clear HS HT hs3 hs4
                    have hmay : (PT.mk 7 false false ⟨#[]⟩ ⟨#[]⟩ its).may = true := tup_may (by rw [HPk.out.1]; exact hL4) (fun p hp => by
                      obtain ⟨i, hi, rfl⟩ := List.getElem_of_mem hp
                      exact pick_may (PT.why_may HWy.out) H7.out (HPk.out.2 i (by rw [← HPk.out.1]; exact hi) hi))
                    have HDp := Lib.hid (show (PT.mk 7 false false ⟨#[]⟩ ⟨#[]⟩ its).depth ≤ 16 from tup_depth (fun p hp => by
                      obtain ⟨i, hi, rfl⟩ := List.getElem_of_mem hp
                      exact pick_depth (PT.why_depth HWy.out) H7.out (HPk.out.2 i (by rw [← HPk.out.1]; exact hi) hi)))
                    have hvb : ValueAt wr (· < wr.heap.size) (PT.mk 7 false false ⟨#[]⟩ ⟨#[]⟩ its) (.iface 88 (.agg #[.slice a8 its.length c8])) := (ValueAt.tuple (t := PT.mk 7 false false ⟨#[]⟩ ⟨#[]⟩ its) rfl).2 ⟨a8, c8, rfl, hc81, hc82, (HV8.out.below HD.out).wide hwz⟩
                    have HTl := Lib.hid (tell_any _ _ wr hmay hvb)
                    have HVb := Lib.hid hvb
                    clear hmay hvb
                    go_wp2_with fail
                    refine HTl.out.mono ?_
                    rintro e w9 ⟨t9, a9, c9, rfl, hb9, hp9⟩
                    have HD9 := Lib.hid (HD.out.trans (hb9.mono hwz))
                    have hw9 := HD9.out.size
                    have HWt := Lib.hid (weight_any t9 a9 c9 w9 (PartAt.more (fun b hb => hb.2) _ _ hp9))
                    have HVb9 := Lib.hid ((HVb.out.below hb9).wide hb9.size)
                    have HS39 := Lib.hid ((HS3.out.below hb9).more (fun b hb => by have := hb9.size; have := hb; omega : ∀ b, b < wr.heap.size → b < w9.heap.size))
                    have HS49 := Lib.hid ((HS4.out.below hb9).more (fun b hb => by have := hb9.size; have := hb; omega : ∀ b, b < wr.heap.size → b < w9.heap.size))
                    unfold partCells at HWt
                    clear hb9 hp9 HTl HVb HS3 HS4 HD hwz
                    go_wp2_with fail
                    refine HWt.out.mono ?_
                    rintro e w10 ⟨n9, rfl, hb10⟩
                    have HDa := Lib.hid (HD9.out.trans (hb10.mono hw9))
                    have hwa := HDa.out.size
                    have HVb := Lib.hid ((HVb9.out.below hb10).wide hb10.size)
                    have HS3 := Lib.hid ((HS39.out.below hb10).more (fun b hb => by have := hb10.size; have := hb; omega : ∀ b, b < w9.heap.size → b < w10.heap.size))
                    have HS4 := Lib.hid ((HS49.out.below hb10).more (fun b hb => by have := hb10.size; have := hb; omega : ∀ b, b < w9.heap.size → b < w10.heap.size))
                    clear hb10 HWt HVb9 HS39 HS49 HD9 hw9
                    have HWa := Lib.hid (HW8.out.trans (HDa.out.mono (by omega)))
                    have hsl : (secOf L.length Mk).length = Mk.length := by simp [secOf]
                    have hbl : (bothOf L Mk).length = Mk.length := by simp [bothOf]
                    have HSl := Lib.hid hsl
                    have HBl := Lib.hid hbl
                    have HM2 := Lib.hid (map_any H0.out (PT.mk 7 false false ⟨#[]⟩ ⟨#[]⟩ its) (secOf L.length Mk) a3 c3 _ w10 HWa.out hw rfl HDp.out HS3.out (by unfold maxLen; omega) HVb.out)
                    clear hsl hbl
                    go_wp2_with fail
                    · go_ret
                      exact .of HWa.out
                    refine HM2.out.mono ?_
                    rintro e w11 ⟨hb11, ⟨_, hno⟩ | ⟨_, its3, hp3, a5, c5, rfl, hc51, hc52, hvc⟩⟩
                    · exact absurd hno (no_fault (by rw [HSl.out]; omega) fun i hi => (pick_sec (tb := PT.mk 7 false false ⟨#[]⟩ ⟨#[]⟩ its) HPk.out rfl HMz.out i hi (by rw [HBl.out, ← HSl.out]; exact hi)).imp fun p hp => hp.1)
                    have HDb := Lib.hid (HDa.out.trans (hb11.mono hwa))
                    have hwb := HDb.out.size
                    have HWb := Lib.hid (HW8.out.trans (HDb.out.mono (by omega)))
                    have HVc := Lib.hid hvc
                    have HP3 := Lib.hid hp3
                    have HM3 := Lib.hid (map_any H0.out t (bothOf L Mk) a4 c4 _ w11 HWb.out hw H7.out (PT.why_depth HWy.out) ((HS4.out.below hb11).more (fun b hb => by have := hb11.size; have := hb; omega : ∀ b, b < w10.heap.size → b < w11.heap.size)) (by rw [HBl.out]; unfold maxLen; omega) ((HV5.out.below (HD8.out.trans (HDb.out.mono hwz8))).wide (by omega)))
                    clear hb11 hp3 hvc HM2 HDa HWa hwa HS3 HS4 HVb
                    go_wp2_with fail
                    refine HM3.out.mono ?_
                    rintro e w12 ⟨hb12, ⟨_, hno⟩ | ⟨_, its4, hp4, a6', c6', rfl, hc61', hc62', hvd⟩⟩
                    · exact absurd hno (no_fault (by rw [HBl.out]; omega) fun i hi => (pick_sec (tb := PT.mk 7 false false ⟨#[]⟩ ⟨#[]⟩ its) HPk.out rfl HMz.out i (by rw [HSl.out, ← HBl.out]; exact hi) hi).imp fun p hp => hp.2)
                    have he : its4 = its3 := by
                      have h3 := HP3.out.1
                      have h4 := hp4.1
                      rw [HSl.out] at h3
                      rw [HBl.out] at h4
                      apply List.ext_getElem (by omega)
                      intro i h1 h2
                      obtain ⟨p, g1, g2⟩ := pick_sec (tb := PT.mk 7 false false ⟨#[]⟩ ⟨#[]⟩ its) HPk.out rfl HMz.out i (by rw [HSl.out]; omega) (by rw [HBl.out]; omega)
                      have g3 := HP3.out.2 i (by rw [HSl.out]; omega) h2
                      have g4 := hp4.2 i (by rw [HBl.out]; omega) h1
                      rw [g1] at g3
                      rw [g2] at g4
                      exact (Option.some.inj g4).symm.trans (Option.some.inj g3)
                    subst he
                    have HDc := Lib.hid (HDb.out.trans (hb12.mono hwb))
                    have hwc := HDc.out.size
                    have HWc := Lib.hid (HW8.out.trans (HDc.out.mono (by omega)))
                    have HSm := Lib.hid (Same_any (PT.mk 7 false false ⟨#[]⟩ ⟨#[]⟩ its4) _ _ w12 ((ValueAt.tuple (t := PT.mk 7 false false ⟨#[]⟩ ⟨#[]⟩ its4) rfl).2 ⟨a5, c5, rfl, hc51, hc52, (HVc.out.below hb12).wide hb12.size⟩) ((ValueAt.tuple (t := PT.mk 7 false false ⟨#[]⟩ ⟨#[]⟩ its4) rfl).2 ⟨a6', c6', rfl, hc61', hc62', hvd⟩))
                    clear hb12 hp4 hvd HM3 HDb HVc HP3
                    go_wp2_with fail
                    refine HSm.out.mono ?_
                    rintro e w13 ⟨rfl, hb13⟩
                    have HWd := Lib.hid (HWc.out.trans (hb13.mono (by omega)))
                    clear hb13 HSm
                    go_wp2_with fail
                    go_ret
                    exact .of HWd.out
                · have hLe : L.length = 0 := by omega
                  have hposI : ¬ (0 < (L.length : Int)) := by omega
                  have hk0 : k = 0 := HZ.out (List.length_eq_zero_iff.1 hLe)
                  by_cases hm0 : 0 < M.length
                  · have hltI : ((k : Int) < (M.length : Int)) := by omega
                    clear hLe hk0
                    obtain ⟨Mk, hMk⟩ : ∃ Mk, Mk = M.take k := ⟨_, rfl⟩
                    rw [← hMk] at HS HT
                    have hMl : Mk.length ≤ 1000 := by rw [hMk, List.length_take]; omega
                    have HMz := Lib.hid (show L = [] → Mk = [] from fun h => by rw [hMk, HZ.out h]; rfl)
                    clear hMk HX HZ
                    obtain ⟨a3, c3, rfl, hs3⟩ := HS.out.srcs (by omega)
                    obtain ⟨a4, c4, rfl, hs4⟩ := HT.out.srcs (by omega)
                    have HS3 := Lib.hid hs3
                    have HS4 := Lib.hid hs4
                    clear HS HT hs3 hs4
                    have hmay : (PT.mk 7 false false ⟨#[]⟩ ⟨#[]⟩ its).may = true := tup_may (by rw [HPk.out.1]; exact hL4) (fun p hp => by
                      obtain ⟨i, hi, rfl⟩ := List.getElem_of_mem hp
                      exact pick_may (PT.why_may HWy.out) H7.out (HPk.out.2 i (by rw [← HPk.out.1]; exact hi) hi))
                    have HDp := Lib.hid (show (PT.mk 7 false false ⟨#[]⟩ ⟨#[]⟩ its).depth ≤ 16 from tup_depth (fun p hp => by
                      obtain ⟨i, hi, rfl⟩ := List.getElem_of_mem hp
                      exact pick_depth (PT.why_depth HWy.out) H7.out (HPk.out.2 i (by rw [← HPk.out.1]; exact hi) hi)))
                    have hvb : ValueAt wr (· < wr.heap.size) (PT.mk 7 false false ⟨#[]⟩ ⟨#[]⟩ its) (.iface 88 (.agg #[.slice a8 its.length c8])) := (ValueAt.tuple (t := PT.mk 7 false false ⟨#[]⟩ ⟨#[]⟩ its) rfl).2 ⟨a8, c8, rfl, hc81, hc82, (HV8.out.below HD.out).wide hwz⟩
                    have HTl := Lib.hid (tell_any _ _ wr hmay hvb)
                    have HVb := Lib.hid hvb
                    clear hmay hvb
                    go_wp2_with fail
                    refine HTl.out.mono ?_
                    rintro e w9 ⟨t9, a9, c9, rfl, hb9, hp9⟩
                    have HD9 := Lib.hid (HD.out.trans (hb9.mono hwz))
                    have hw9 := HD9.out.size
                    have HWt := Lib.hid (weight_any t9 a9 c9 w9 (PartAt.more (fun b hb => hb.2) _ _ hp9))
                    have HVb9 := Lib.hid ((HVb.out.below hb9).wide hb9.size)
                    have HS39 := Lib.hid ((HS3.out.below hb9).more (fun b hb => by have := hb9.size; have := hb; omega : ∀ b, b < wr.heap.size → b < w9.heap.size))
                    have HS49 := Lib.hid ((HS4.out.below hb9).more (fun b hb => by have := hb9.size; have := hb; omega : ∀ b, b < wr.heap.size → b < w9.heap.size))
                    unfold partCells at HWt
                    clear hb9 hp9 HTl HVb HS3 HS4 HD hwz
                    go_wp2_with fail
                    refine HWt.out.mono ?_
                    rintro e w10 ⟨n9, rfl, hb10⟩
                    have HDa := Lib.hid (HD9.out.trans (hb10.mono hw9))
                    have hwa := HDa.out.size
                    have HVb := Lib.hid ((HVb9.out.below hb10).wide hb10.size)
                    have HS3 := Lib.hid ((HS39.out.below hb10).more (fun b hb => by have := hb10.size; have := hb; omega : ∀ b, b < w9.heap.size → b < w10.heap.size))
                    have HS4 := Lib.hid ((HS49.out.below hb10).more (fun b hb => by have := hb10.size; have := hb; omega : ∀ b, b < w9.heap.size → b < w10.heap.size))
                    clear hb10 HWt HVb9 HS39 HS49 HD9 hw9
                    have HWa := Lib.hid (HW8.out.trans (HDa.out.mono (by omega)))
                    have hsl : (secOf L.length Mk).length = Mk.length := by simp [secOf]
                    have hbl : (bothOf L Mk).length = Mk.length := by simp [bothOf]
                    have HSl := Lib.hid hsl
                    have HBl := Lib.hid hbl
                    have HM2 := Lib.hid (map_any H0.out (PT.mk 7 false false ⟨#[]⟩ ⟨#[]⟩ its) (secOf L.length Mk) a3 c3 _ w10 HWa.out hw rfl HDp.out HS3.out (by unfold maxLen; omega) HVb.out)
                    clear hsl hbl
                    go_wp2_with fail
                    · go_ret
                      exact .of HWa.out
                    refine HM2.out.mono ?_
                    rintro e w11 ⟨hb11, ⟨_, hno⟩ | ⟨_, its3, hp3, a5, c5, rfl, hc51, hc52, hvc⟩⟩
                    · exact absurd hno (no_fault (by rw [HSl.out]; omega) fun i hi => (pick_sec (tb := PT.mk 7 false false ⟨#[]⟩ ⟨#[]⟩ its) HPk.out rfl HMz.out i hi (by rw [HBl.out, ← HSl.out]; exact hi)).imp fun p hp => hp.1)
                    have HDb := Lib.hid (HDa.out.trans (hb11.mono hwa))
                    have hwb := HDb.out.size
                    have HWb := Lib.hid (HW8.out.trans (HDb.out.mono (by omega)))
                    have HVc := Lib.hid hvc
                    have HP3 := Lib.hid hp3
                    have HM3 := Lib.hid (map_any H0.out t (bothOf L Mk) a4 c4 _ w11 HWb.out hw H7.out (PT.why_depth HWy.out) ((HS4.out.below hb11).more (fun b hb => by have := hb11.size; have := hb; omega : ∀ b, b < w10.heap.size → b < w11.heap.size)) (by rw [HBl.out]; unfold maxLen; omega) ((HV5.out.below (HD8.out.trans (HDb.out.mono hwz8))).wide (by omega)))
                    clear hb11 hp3 hvc HM2 HDa HWa hwa HS3 HS4 HVb
                    go_wp2_with fail
                    refine HM3.out.mono ?_
                    rintro e w12 ⟨hb12, ⟨_, hno⟩ | ⟨_, its4, hp4, a6', c6', rfl, hc61', hc62', hvd⟩⟩
                    · exact absurd hno (no_fault (by rw [HBl.out]; omega) fun i hi => (pick_sec (tb := PT.mk 7 false false ⟨#[]⟩ ⟨#[]⟩ its) HPk.out rfl HMz.out i (by rw [HSl.out, ← HBl.out]; exact hi) hi).imp fun p hp => hp.2)
                    have he : its4 = its3 := by
                      have h3 := HP3.out.1
                      have h4 := hp4.1
                      rw [HSl.out] at h3
                      rw [HBl.out] at h4
                      apply List.ext_getElem (by omega)
                      intro i h1 h2
                      obtain ⟨p, g1, g2⟩ := pick_sec (tb := PT.mk 7 false false ⟨#[]⟩ ⟨#[]⟩ its) HPk.out rfl HMz.out i (by rw [HSl.out]; omega) (by rw [HBl.out]; omega)
                      have g3 := HP3.out.2 i (by rw [HSl.out]; omega) h2
                      have g4 := hp4.2 i (by rw [HBl.out]; omega) h1
                      rw [g1] at g3
                      rw [g2] at g4
                      exact (Option.some.inj g4).symm.trans (Option.some.inj g3)
                    subst he
                    have HDc := Lib.hid (HDb.out.trans (hb12.mono hwb))
                    have hwc := HDc.out.size
                    have HWc := Lib.hid (HW8.out.trans (HDc.out.mono (by omega)))
                    have HSm := Lib.hid (Same_any (PT.mk 7 false false ⟨#[]⟩ ⟨#[]⟩ its4) _ _ w12 ((ValueAt.tuple (t := PT.mk 7 false false ⟨#[]⟩ ⟨#[]⟩ its4) rfl).2 ⟨a5, c5, rfl, hc51, hc52, (HVc.out.below hb12).wide hb12.size⟩) ((ValueAt.tuple (t := PT.mk 7 false false ⟨#[]⟩ ⟨#[]⟩ its4) rfl).2 ⟨a6', c6', rfl, hc61', hc62', hvd⟩))
                    clear hb12 hp4 hvd HM3 HDb HVc HP3
                    go_wp2_with fail
                    refine HSm.out.mono ?_
                    rintro e w13 ⟨rfl, hb13⟩
                    have HWd := Lib.hid (HWc.out.trans (hb13.mono (by omega)))
                    clear hb13 HSm
                    go_wp2_with fail
                    go_ret
                    exact .of HWd.out
                  · have hltI : ¬ ((k : Int) < (M.length : Int)) := by omega
                    clear hLe hk0
                    obtain ⟨Mk, hMk⟩ : ∃ Mk, Mk = M.take k := ⟨_, rfl⟩
                    rw [← hMk] at HS HT
                    have hMl : Mk.length ≤ 1000 := by rw [hMk, List.length_take]; omega
                    have HMz := Lib.hid (show L = [] → Mk = [] from fun h => by rw [hMk, HZ.out h]; rfl)
                    clear hMk HX HZ
                    obtain ⟨a3, c3, rfl, hs3⟩ := HS.out.srcs (by omega)
                    obtain ⟨a4, c4, rfl, hs4⟩ := HT.out.srcs (by omega)
                    have HS3 := Lib.hid hs3
                    have HS4 := Lib.hid hs4
                    clear HS HT hs3 hs4
                    have hmay : (PT.mk 7 false false ⟨#[]⟩ ⟨#[]⟩ its).may = true := tup_may (by rw [HPk.out.1]; exact hL4) (fun p hp => by
                      obtain ⟨i, hi, rfl⟩ := List.getElem_of_mem hp
                      exact pick_may (PT.why_may HWy.out) H7.out (HPk.out.2 i (by rw [← HPk.out.1]; exact hi) hi))
                    have HDp := Lib.hid (show (PT.mk 7 false false ⟨#[]⟩ ⟨#[]⟩ its).depth ≤ 16 from tup_depth (fun p hp => by
                      obtain ⟨i, hi, rfl⟩ := List.getElem_of_mem hp
                      exact pick_depth (PT.why_depth HWy.out) H7.out (HPk.out.2 i (by rw [← HPk.out.1]; exact hi) hi)))
                    have hvb : ValueAt wr (· < wr.heap.size) (PT.mk 7 false false ⟨#[]⟩ ⟨#[]⟩ its) (.iface 88 (.agg #[.slice a8 its.length c8])) := (ValueAt.tuple (t := PT.mk 7 false false ⟨#[]⟩ ⟨#[]⟩ its) rfl).2 ⟨a8, c8, rfl, hc81, hc82, (HV8.out.below HD.out).wide hwz⟩
                    have HTl := Lib.hid (tell_any _ _ wr hmay hvb)
                    have HVb := Lib.hid hvb
                    clear hmay hvb
                    go_wp2_with fail
                    refine HTl.out.mono ?_
                    rintro e w9 ⟨t9, a9, c9, rfl, hb9, hp9⟩
                    have HD9 := Lib.hid (HD.out.trans (hb9.mono hwz))
                    have hw9 := HD9.out.size
                    have HWt := Lib.hid (weight_any t9 a9 c9 w9 (PartAt.more (fun b hb => hb.2) _ _ hp9))
                    have HVb9 := Lib.hid ((HVb.out.below hb9).wide hb9.size)
                    have HS39 := Lib.hid ((HS3.out.below hb9).more (fun b hb => by have := hb9.size; have := hb; omega : ∀ b, b < wr.heap.size → b < w9.heap.size))
                    have HS49 := Lib.hid ((HS4.out.below hb9).more (fun b hb => by have := hb9.size; have := hb; omega : ∀ b, b < wr.heap.size → b < w9.heap.size))
                    unfold partCells at HWt
                    clear hb9 hp9 HTl HVb HS3 HS4 HD hwz
                    go_wp2_with fail
                    refine HWt.out.mono ?_
                    rintro e w10 ⟨n9, rfl, hb10⟩
                    have HDa := Lib.hid (HD9.out.trans (hb10.mono hw9))
                    have hwa := HDa.out.size
                    have HVb := Lib.hid ((HVb9.out.below hb10).wide hb10.size)
                    have HS3 := Lib.hid ((HS39.out.below hb10).more (fun b hb => by have := hb10.size; have := hb; omega : ∀ b, b < w9.heap.size → b < w10.heap.size))
                    have HS4 := Lib.hid ((HS49.out.below hb10).more (fun b hb => by have := hb10.size; have := hb; omega : ∀ b, b < w9.heap.size → b < w10.heap.size))
                    clear hb10 HWt HVb9 HS39 HS49 HD9 hw9
                    have HWa := Lib.hid (HW8.out.trans (HDa.out.mono (by omega)))
                    have hsl : (secOf L.length Mk).length = Mk.length := by simp [secOf]
                    have hbl : (bothOf L Mk).length = Mk.length := by simp [bothOf]
                    have HSl := Lib.hid hsl
                    have HBl := Lib.hid hbl
                    have HM2 := Lib.hid (map_any H0.out (PT.mk 7 false false ⟨#[]⟩ ⟨#[]⟩ its) (secOf L.length Mk) a3 c3 _ w10 HWa.out hw rfl HDp.out HS3.out (by unfold maxLen; omega) HVb.out)
                    clear hsl hbl
                    go_wp2_with fail
                    · go_ret
                      exact .of HWa.out
                    refine HM2.out.mono ?_
                    rintro e w11 ⟨hb11, ⟨_, hno⟩ | ⟨_, its3, hp3, a5, c5, rfl, hc51, hc52, hvc⟩⟩
                    · exact absurd hno (no_fault (by rw [HSl.out]; omega) fun i hi => (pick_sec (tb := PT.mk 7 false false ⟨#[]⟩ ⟨#[]⟩ its) HPk.out rfl HMz.out i hi (by rw [HBl.out, ← HSl.out]; exact hi)).imp fun p hp => hp.1)
                    have HDb := Lib.hid (HDa.out.trans (hb11.mono hwa))
                    have hwb := HDb.out.size
                    have HWb := Lib.hid (HW8.out.trans (HDb.out.mono (by omega)))
                    have HVc := Lib.hid hvc
                    have HP3 := Lib.hid hp3
                    have HM3 := Lib.hid (map_any H0.out t (bothOf L Mk) a4 c4 _ w11 HWb.out hw H7.out (PT.why_depth HWy.out) ((HS4.out.below hb11).more (fun b hb => by have := hb11.size; have := hb; omega : ∀ b, b < w10.heap.size → b < w11.heap.size)) (by rw [HBl.out]; unfold maxLen; omega) ((HV5.out.below (HD8.out.trans (HDb.out.mono hwz8))).wide (by omega)))
                    clear hb11 hp3 hvc HM2 HDa HWa hwa HS3 HS4 HVb
                    go_wp2_with fail
                    refine HM3.out.mono ?_
                    rintro e w12 ⟨hb12, ⟨_, hno⟩ | ⟨_, its4, hp4, a6', c6', rfl, hc61', hc62', hvd⟩⟩
                    · exact absurd hno (no_fault (by rw [HBl.out]; omega) fun i hi => (pick_sec (tb := PT.mk 7 false false ⟨#[]⟩ ⟨#[]⟩ its) HPk.out rfl HMz.out i (by rw [HSl.out, ← HBl.out]; exact hi) hi).imp fun p hp => hp.2)
                    have he : its4 = its3 := by
                      have h3 := HP3.out.1
                      have h4 := hp4.1
                      rw [HSl.out] at h3
                      rw [HBl.out] at h4
                      apply List.ext_getElem (by omega)
                      intro i h1 h2
                      obtain ⟨p, g1, g2⟩ := pick_sec (tb := PT.mk 7 false false ⟨#[]⟩ ⟨#[]⟩ its) HPk.out rfl HMz.out i (by rw [HSl.out]; omega) (by rw [HBl.out]; omega)
                      have g3 := HP3.out.2 i (by rw [HSl.out]; omega) h2
                      have g4 := hp4.2 i (by rw [HBl.out]; omega) h1
                      rw [g1] at g3
                      rw [g2] at g4
                      exact (Option.some.inj g4).symm.trans (Option.some.inj g3)
                    subst he
                    have HDc := Lib.hid (HDb.out.trans (hb12.mono hwb))
                    have hwc := HDc.out.size
                    have HWc := Lib.hid (HW8.out.trans (HDc.out.mono (by omega)))
                    have HSm := Lib.hid (Same_any (PT.mk 7 false false ⟨#[]⟩ ⟨#[]⟩ its4) _ _ w12 ((ValueAt.tuple (t := PT.mk 7 false false ⟨#[]⟩ ⟨#[]⟩ its4) rfl).2 ⟨a5, c5, rfl, hc51, hc52, (HVc.out.below hb12).wide hb12.size⟩) ((ValueAt.tuple (t := PT.mk 7 false false ⟨#[]⟩ ⟨#[]⟩ its4) rfl).2 ⟨a6', c6', rfl, hc61', hc62', hvd⟩))
                    clear hb12 hp4 hvd HM3 HDb HVc HP3
                    go_wp2_with fail
                    refine HSm.out.mono ?_
                    rintro e w13 ⟨rfl, hb13⟩
                    have HWd := Lib.hid (HWc.out.trans (hb13.mono (by omega)))
                    clear hb13 HSm
                    go_wp2_with fail
                    go_ret
                    exact .of HWd.out
        · have hb7 : ((t.kind : Int) != 7) = true := by simp; omega
          go_wp2_with fail
          go_ret
          exact .of HB4.out
      · have hwhy' : (t.why != 0) = true := by simp [hwhy]
        go_wp2_with fail
        go_ret
        exact .of HB4.out
end Go.Proofs.YtjgicjgpahnmaaaDoor
