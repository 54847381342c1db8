/-
  value.Tell of what may be, its lists each in a row of its own.
-/
import Derived.Test.YtjgicjgpahnmaaaDoorKS
namespace Go.Proofs.YtjgicjgpahnmaaaDoor
open Go.RowKit Go.WideShapes
set_option linter.unusedVariables false
structure PRowR (w : World) (n base : Nat) (vt : Value) (k : Nat) (l : List PT) (css : List (List Value)) : Prop where
  len : css.length = k
  tl : l.length = k
  six : ∀ c ∈ css, c.length = 6
  own : w.ownsRow base 30 6 vt k css.flatten
  part : ∀ i (hi : i < l.length) (hv : i < css.length), RmAt w (fun b => n ≤ b ∧ b < w.heap.size ∧ vt.ownBlock ≠ some b) false l[i] css[i]
theorem PRowR.start (w : World) (n base : Nat) : PRowR w n base (.slice none 0 0) 0 [] [] :=
  ⟨rfl, rfl, fun c hc => by simp at hc, World.ownsRow_nil _ _ _ _, fun i hi hv => absurd hv (Nat.not_lt_zero i)⟩
theorem PRowR.below {w w' : World} {n base : Nat} {vt : Value} {k : Nat} {l : List PT} {css : List (List Value)} (h : PRowR w n base vt k l css) (hb : Below w.heap.size w w') : PRowR w' n base vt k l css :=
  ⟨h.len, h.tl, h.six, by
    rcases h.own.2 with ⟨e, h0⟩ | ⟨g, cap, cur, e, hb', hg, h1⟩
    · exact ⟨h.own.1, .inl ⟨e, h0⟩⟩
    · exact ⟨h.own.1, .inr ⟨g, cap, cur, e, hb', (hb.block g (Array.getElem?_eq_some_iff.1 hg).1).trans hg, h1⟩⟩,
   fun i hi hv => RmAt.more (fun b hb' => ⟨hb'.1, Nat.lt_of_lt_of_le hb'.2.1 hb.size, hb'.2.2⟩) _ _ (RmAt.keep (fun b hb' => hb.block b hb'.2.1) _ _ (h.part i hi hv))⟩
/-- One part more. -/
theorem PRowR.step {w w2 w3 : World} {n base : Nat} {vt : Value} {k : Nat} {l : List PT} {css : List (List Value)} {t : PT} {cs : List Value} {tmp : Obj} {g cap : Nat} (h : PRowR w n base vt k l css) (h6 : cs.length = 6)
    (hv : RmAt w2 (fun b => w.heap.size ≤ b ∧ b < w2.heap.size) false t cs) (hb : Below w.heap.size w w2) (hn : n ≤ w.heap.size)
    (hown : w3.ownsRow base 30 6 (.slice (some ⟨g, 0, none⟩) (k + 1) cap) (k + 1) (css.flatten ++ cs)) (hgrow : (w2.alloc tmp).grownBy w3 vt.ownBlock) (hat : vt.ownBlock = some g ∨ g = (w2.alloc tmp).heap.size) :
    PRowR w3 n base (.slice (some ⟨g, 0, none⟩) (k + 1) cap) (k + 1) (l ++ [t]) (css ++ [cs]) := by
  have h2 := h.below hb
  have hz : (w2.alloc tmp).heap.size = w2.heap.size + 1 := by simp
  have hz3 := hgrow.size
  have hcell : ∀ b, b < w2.heap.size → vt.ownBlock ≠ some b → w3.heap[b]? = w2.heap[b]? := fun b hp hne => by
    rw [hgrow.block b (by omega) (fun e => hne e.symm), Below.heap_alloc w2 tmp b hp]
  have hvt : ∀ b, w.heap.size ≤ b → vt.ownBlock ≠ some b := fun b hb e => by
    have := (h.own.lt b e).2; omega
  have hg : ∀ b, b < w2.heap.size → vt.ownBlock ≠ some b → (Value.slice (some ⟨g, 0, none⟩) (k + 1) cap).ownBlock ≠ some b := fun b hb hne e => by
    simp only [Value.ownBlock, Option.some.injEq] at e
    subst e
    rcases hat with hat | hat
    · exact hne hat
    · omega
  refine ⟨by simp [h.len], by simp [h.tl], fun c hc => ?_, by simpa using hown, fun i hi hv' => ?_⟩
  · rcases List.mem_append.1 hc with hc | hc
    · exact h.six c hc
    · simp at hc; subst hc; exact h6
  · rw [List.length_append, h.len, List.length_singleton] at hv'
    by_cases e : i = k
    · subst e
      have e1 : (css ++ [cs])[i]'(by rw [List.length_append, h.len, List.length_singleton]; omega) = cs := by
        rw [List.getElem_append_right (by rw [h.len]; omega)]; simp [h.len]
      have e2 : (l ++ [t])[i]'hi = t := by
        rw [List.getElem_append_right (by rw [h.tl]; omega)]; simp [h.tl]
      rw [e1, e2]
      refine RmAt.more (fun b hb' => ?_) _ _ (RmAt.keep (fun b hb' => hcell b hb'.2 (hvt _ hb'.1)) _ _ hv)
      exact ⟨by omega, by omega, hg b hb'.2 (hvt b hb'.1)⟩
    · have hik : i < css.length := by rw [h.len]; omega
      have hil : i < l.length := by rw [h.tl]; omega
      have e1 : (css ++ [cs])[i]'(by rw [List.length_append, h.len, List.length_singleton]; omega) = css[i] := List.getElem_append_left hik
      have e2 : (l ++ [t])[i]'hi = l[i] := List.getElem_append_left hil
      rw [e1, e2]
      refine RmAt.more (fun b hb' => ?_) _ _ (RmAt.keep (fun b hb' => hcell b hb'.2.1 hb'.2.2) _ _ (h2.part i hil hik))
      exact ⟨hb'.1, by omega, hg b hb'.2.1 hb'.2.2⟩
/-- The part is written. -/
theorem PRowR.set {w : World} {n base T : Nat} {vt u : Value} {k : Nat} {l : List PT} {css : List (List Value)} (h : PRowR w n base vt k l css) (hT : T < n) (hTb : T < base) : PRowR (w.setCell ⟨T, 5, none⟩ u) n base vt k l css := by
  have hheap : ∀ b, b ≠ T → (w.setCell ⟨T, 5, none⟩ u).heap[b]? = w.heap[b]? := fun b hb => by simp [World.setCell, Array.getElem?_modify, Ne.symm hb]
  have hz : (w.setCell ⟨T, 5, none⟩ u).heap.size = w.heap.size := by simp
  refine ⟨h.len, h.tl, h.six, ?_, fun i hi hv => ?_⟩
  · rcases h.own.2 with ⟨e, h0⟩ | ⟨g, cap, cur, e, hb', hg, h1⟩
    · exact ⟨h.own.1, .inl ⟨e, h0⟩⟩
    · exact ⟨h.own.1, .inr ⟨g, cap, cur, e, hb', (hheap g (by omega)).trans hg, h1⟩⟩
  · refine RmAt.more (fun b hb' => ⟨hb'.1, by omega, hb'.2.2⟩) _ _ (RmAt.keep (fun b hb' => hheap b (by have := hb'.1; omega)) _ _ (h.part i hi hv))
/-- The whole row, as a tuple's. -/
theorem PRowR.parts {w : World} {n base : Nat} {vt : Value} {k : Nat} {l : List PT} {css : List (List Value)} (h : PRowR w n base vt k l css) (hn : n ≤ base) :
    ∃ a c, vt = .slice a l.length c ∧ l.length ≤ c ∧ c ≤ maxLen ∧ ((a = none ∧ c = 0) ∨ ∃ g cur, a = some ⟨g, 0, none⟩ ∧ n ≤ g ∧ g < w.heap.size ∧ w.heap[g]? = some (.cells cur 30 (0, 0)) ∧ cur.size = c * 6) ∧ RmsAt w (fun b => n ≤ b ∧ b < w.heap.size) false l a := by
  rcases h.own.2 with ⟨e, h0⟩ | ⟨g, cap, cur, e, hb', hg, hnc, hcm, hcs, htake⟩
  · refine ⟨none, 0, by rw [e, h.tl, h0], by rw [h.tl, h0]; exact Nat.le_refl _, by omega, .inl ⟨rfl, rfl⟩, ?_⟩
    rw [List.length_eq_zero_iff.1 (h.tl.trans h0)]; trivial
  · refine ⟨some ⟨g, 0, none⟩, cap, by rw [h.tl]; exact e, by rw [h.tl]; exact hnc, hcm, .inr ⟨g, cur, rfl, by omega, (Array.getElem?_eq_some_iff.1 hg).1, hg, hcs⟩, RmsAt.of_get fun i hi => ?_⟩
    have hv : i < css.length := by rw [h.len, ← h.tl]; exact hi
    refine ⟨css[i], fun j u hu => ?_, RmAt.more (fun b hb => ⟨hb.1, hb.2.1⟩) _ _ (h.part i hi hv)⟩
    have hj : j < 6 := by have := (List.getElem?_eq_some_iff.1 hu).1; rw [h.six _ (List.getElem_mem hv)] at this; exact this
    have hik : i < k := by rw [← h.len]; exact hv
    have ho := h.own
    rw [e] at ho
    rw [Nat.zero_add, ho.cellAt (i * 6 + j) (by omega)]
    exact flat_get css h.six i hv j u hu
/-- The part itself comes back, in new blocks. -/
def TellR (t : PT) (w : World) (e : Ending) (w' : World) : Prop := ∃ (a : Option Addr) (c : Nat), e = .returned (.agg #[.int .u8 t.kind, .bool t.yes, .bool t.bel, .string t.mag, .string t.raw, .slice a t.items.length c]) ∧ Below w.heap.size w w' ∧ RmAt w' (fun b => w.heap.size ≤ b ∧ b < w'.heap.size) false t (partCells t a c)
set_option maxRecDepth 100000 in
set_option maxHeartbeats 2000000 in
theorem tuplePart_r (l : List PT) (a : Option Addr) (c : Nat) (w : World) (hlc : l.length ≤ 1024) (hl : ValuesAt w (· < w.heap.size) l a)
    (ih : ∀ x ∈ l, ∀ (v : Value) (w : World), ValueAt w (· < w.heap.size) x v → Calls Tryd.prog 13 #[v] w (TellR x w)) :
    Calls Tryd.prog 84 #[.agg #[.slice a l.length c]] w (TellR (.mk 7 false false ⟨#[]⟩ ⟨#[]⟩ l) w) := by
  obtain ⟨i0, hi, hz0, hz1, hz2⟩ := info_parts part_info
  have HI := Lib.hid hl
  have HIH := Lib.hid ih
  have HB0 := Lib.hid (fun o o2 o3 => (((Below.refl w.heap.size w).alloc (Nat.le_refl _) o).alloc (by simp : w.heap.size ≤ (w.alloc o).heap.size) o2).alloc (by simp; omega : w.heap.size ≤ ((w.alloc o).alloc o2).heap.size) o3)
  have HX0 := Lib.hid (fun o o2 => PBox.new ((w.alloc o).alloc o2) (w.heap.size + 1 + 1) (.slice none 0 0) (by simp))
  have HR0 := Lib.hid (fun o o3 => (RBox.new (w.alloc o) (w.heap.size + 1) (by simp)).below ((Below.refl _ _).alloc (Nat.le_refl _) o3) (by simp : w.heap.size + 1 < ((w.alloc o).alloc _).heap.size))
  have HV0 := Lib.hid (fun W => PRowR.start W (w.heap.size + 3) (w.heap.size + 3))
  clear hl ih
  go_enter Tryd.func84, Tryd.ntmps84
  go_wp2_with fail
  go_loopw [10] (fun i wr => ∃ (k : Nat) (vt : Value) (css : List (List Value)), i = .int .i64 k ∧ k ≤ l.length ∧ Hid (Below w.heap.size w wr) ∧ Hid (RBox wr (w.heap.size + 1)) ∧ Hid (PBox wr (w.heap.size + 1 + 1) vt) ∧ Hid (PRowR wr (w.heap.size + 3) (w.heap.size + 3) vt k (l.take k) css) ∧ w.heap.size + 3 ≤ wr.heap.size) (fun i _ => l.length - (intOf i).toNat)
  case atStart => exact ⟨0, _, [], rfl, by omega, Lib.hid (HB0.out _ _ _), Lib.hid (HR0.out _ _), Lib.hid (HX0.out _ _), Lib.hid (HV0.out _), by simp⟩
  case round =>
    clear HB0 HX0 HV0 HR0
    obtain ⟨k, vt, css, rfl, hk, HB, HR, HX, HV, hwz⟩ := hrel
    have hTlt : w.heap.size + 1 + 1 < wr.heap.size := by omega
    have hbc := HX.out.cell
    have hbf := HX.out.free
    by_cases hlt : k < l.length
    · obtain ⟨b, o, u, ea, hb, hc, hu⟩ := (HI.out.below HB.out).get hlt
      subst ea
      have hB1 : Below wr.heap.size wr wr.drew := (Below.refl _ _).drew
      have HRc := Lib.hid (HIH.out l[k] (List.getElem_mem hlt) u wr.drew ((hu.wide (by omega : w.heap.size ≤ wr.heap.size)).below hB1))
      have HB1 := Lib.hid hB1
      clear hu hB1
      go_wp2_with fail
      have hne : vt.ownBlock ≠ some (w.heap.size + 1 + 1) := fun e => by have := row_ge HV.out.own e; omega
      go_region_law (first
        | (go_simp; go_at_call 13; refine HRc.out.mono ?_; rintro e w2 ⟨a2, c2, rfl, hb2, hp2⟩; have HP2 := Lib.hid hp2; clear hp2; have hbr2 := HB1.out.trans (hb2.mono (by simp)); have hzz2 := hbr2.size; have hT2 : w.heap.size + 1 + 1 < w2.heap.size := (by omega); have HV2 := Lib.hid (HV.out.below hbr2); have HX2 := Lib.hid (HX.out.below hbr2 hTlt); have hbc2 := HX2.out.cell)
        | (refine step_append_lies _ (by rfl) _ _ _ (by rfl) (w.heap.size + 3) 30 i0 (.agg #[.int .u8 0, .bool false, .bool false, .string ⟨#[]⟩, .string ⟨#[]⟩, .slice none 0 0]) 6 72 Tryd.underlying28 hi hz0 hz1 hz2 rfl (by omega) vt k css.flatten (by rfl) (HV2.out.own.alloc _) ⟨w2.heap.size, 0, none⟩ 1 1 [.int .u8 l[k].kind, .bool l[k].yes, .bool l[k].bel, .string l[k].mag, .string l[k].raw, .slice a2 l[k].items.length c2] (by rfl) (by rfl) (World.news_of_block (cs := #[.int .u8 l[k].kind, .bool l[k].yes, .bool l[k].bel, .string l[k].mag, .string l[k].raw, .slice a2 l[k].items.length c2]) (t := 30) (fr := (0, 0)) (heap_alloc_new w2 _)) (by simp [Value.oneCell']) (by omega) (by unfold maxLen; omega) (by omega) (by simp; omega) (w2.heap.size + 1) (by simp) ?_; intro g4 cap4 w4 hown4 hgrow4 hat4 hgl4; have HX4 := Lib.hid (HX2.out.grown hgrow4 hne); have hbc4 := HX4.out.cell; have hbf4 := HX4.out.free))
      all_goals (
        have hp2' := RmAt.more (S' := fun b => wr.heap.size ≤ b ∧ b < w2.heap.size) (fun b hb => by have h1 := hb.1; simp at h1; exact ⟨by omega, hb.2⟩) _ _ HP2.out
        have HB' := Lib.hid (((((HB.out.trans (hbr2.mono (by omega))).alloc (by omega) _).grown hgrow4 (by simp; omega) (fun j ej => by have := row_ge HV2.out.own ej; omega)).setCell (p := ⟨w.heap.size + 1 + 1, 5, none⟩) (by simp only; omega) (.slice (some ⟨g4, 0, none⟩) (k + 1) cap4)))
        have HX' := Lib.hid (HX4.out.set (u := .slice (some ⟨g4, 0, none⟩) (k + 1) cap4))
        have HR' := Lib.hid (((HR.out.below hbr2 (by omega)).grown hgrow4 (fun e => by have := row_ge HV.out.own e; omega)).set (T' := w.heap.size + 1 + 1) (o := 5) (u := .slice (some ⟨g4, 0, none⟩) (k + 1) cap4) (by omega))
        have HV' := Lib.hid ((HV.out.step (by rfl) hp2' hbr2 (by omega) hown4 hgrow4 (hat4.imp id (fun h => h.trans (by simp)))).set (T := w.heap.size + 1 + 1) (u := .slice (some ⟨g4, 0, none⟩) (k + 1) cap4) (by omega) (by omega))
        rw [← List.take_succ_eq_append_getElem hlt] at HV'
        have hz4 : w2.heap.size + 1 ≤ w4.heap.size := by have := hgrow4.size; simpa using this
        go_wp2_with fail
        go_roundw
        case rel => exact ⟨k + 1, _, _, by go_num, by omega, HB', HR', HX', HV', by simp; omega⟩
        case measure => simp [intOf]; omega)
    · obtain rfl : k = l.length := by omega
      have hv9 := HV.out
      rw [List.take_length] at hv9
      obtain ⟨a2, c2, rfl, hc1, hc2, hrow, hps⟩ := hv9.parts (by omega)
      clear hv9
      have HPS := Lib.hid hps
      have HRow := Lib.hid hrow
      clear hrow
      obtain ⟨p0, p1, p2, p3, p4, p5⟩ := HX.out.cells
      obtain ⟨r0, r1, r2, r3, r4, r5⟩ := HR.out.cells
      have f0 := HR.out.free 0
      have f1 := HR.out.free 1
      have f2 := HR.out.free 2
      have f3 := HR.out.free 3
      have f4 := HR.out.free 4
      have f5 := HR.out.free 5
      clear hbc hbf hps
      go_wp2_with fail
      obtain ⟨q0, q1, q2, q3, q4, q5⟩ := HR.out.filled (.int .u8 7) (.bool false) (.bool false) (.string ⟨#[]⟩) (.string ⟨#[]⟩) (.slice a2 l.length c2)
      refine bodyPost_ret (by simp [results, Tryd.results84, go_sem, q0, q1, q2, q3, q4, q5]; try rfl) rfl ?_
      have hk : ∀ b, w.heap.size + 3 ≤ b → ∀ W (o : Nat) (u : Value), (World.setCell W ⟨w.heap.size + 1, o, none⟩ u).heap[b]? = W.heap[b]? := fun b hb W o u => Below.heap_setCell W _ u b (by simp only; omega)
      refine ⟨a2, c2, rfl, (((((HB.out.setCell (by simp only; omega) _).setCell (by simp only; omega) _).setCell (by simp only; omega) _).setCell (by simp only; omega) _).setCell (by simp only; omega) _).setCell (by simp only; omega) _, ?_⟩
      refine RmAt.shut (show 7 < 256 by decide) (Nat.zero_le _) (Nat.zero_le _) hc1 hc2 ?_ (RmsAt.more (S := fun b => w.heap.size + 3 ≤ b ∧ b < wr.heap.size) (fun b hb => ⟨by omega, by simp; exact hb.2⟩) _ _ (RmsAt.keep (fun b hb => ?_) _ _ (fun b o e => ?_) HPS.out))
      · rcases HRow.out with ⟨h1, h2⟩ | ⟨g, cur, h1, h2, h3, h4, h5⟩
        · exact .inl ⟨h1, h2, rfl⟩
        · refine .inr ⟨g, cur, h1, ⟨by omega, by simp; exact h3⟩, ?_, h5, fun e => by cases e⟩
          rw [hk g h2, hk g h2, hk g h2, hk g h2, hk g h2, hk g h2]
          exact h4
      · rw [hk b hb.1, hk b hb.1, hk b hb.1, hk b hb.1, hk b hb.1, hk b hb.1]
      · rcases HRow.out with ⟨h1, h2⟩ | ⟨g, cur, h1, h2, h3, h4, h5⟩
        · rw [h1] at e; cases e
        · rw [h1] at e; injection e with e; injection e with e _; exact ⟨by omega, by omega⟩
/-- A value without items, as a part. -/
theorem flat_r {k : Nat} {y b : Bool} {m r : ByteArray} {w w' : World} {e : Ending} (hk : k < 256) (hm : m.size ≤ maxLen) (hr : r.size ≤ maxLen) (h : FlatRet k y b m r w e w') : TellR (.mk k y b m r []) w e w' := by
  obtain ⟨rfl, hb⟩ := h
  exact ⟨none, 0, rfl, hb, RmAt.shut hk hm hr (Nat.le_refl _) (Nat.zero_le _) (.inl ⟨rfl, rfl, rfl⟩) trivial⟩
set_option maxRecDepth 100000 in
set_option maxHeartbeats 2000000 in
theorem tell_r : ∀ (t : PT) (v : Value) (w : World), t.may = true → ValueAt w (· < w.heap.size) t v → Calls Tryd.prog 13 #[v] w (TellR t w) := by
  refine PT.all fun t ih => ?_
  intro v w hmay hv
  by_cases h7 : t.kind = 7
  · obtain ⟨a, c, rfl, hlc, hcm, hits⟩ := (ValueAt.tuple h7).1 hv
    obtain ⟨hl, hall⟩ := PT.may_items hmay h7
    have ht7 : t = .mk 7 false false ⟨#[]⟩ ⟨#[]⟩ t.items := by
      obtain ⟨k, y, b, m, r, l⟩ := t
      simp only [PT.kind] at h7; subst h7
      obtain ⟨rfl, rfl, rfl, rfl⟩ := may_7 hmay
      rfl
    obtain ⟨l, hl9⟩ : ∃ l, l = t.items := ⟨_, rfl⟩
    rw [← hl9] at ht7 hl hall hits hlc ih ⊢
    subst ht7
    clear hl9
    have HP := Lib.hid (fun (w : World) (h : ValuesAt w (· < w.heap.size) l a) => tuplePart_r l a c w hl h (fun x hx v w hv => ih x hx v w (hall x hx) hv))
    have HI := Lib.hid hits
    have HB0 := Lib.hid (fun o => (Below.refl w.heap.size w).alloc (Nat.le_refl _) o)
    have HR0 := Lib.hid (RBox.new w w.heap.size rfl)
    clear hits hv h7 hl hall hmay ih hcm hlc
    go_enter Tryd.func13, Tryd.ntmps13
    go_wp2_with fail
    refine (HP.out _ ((HI.out.below (HB0.out _)).wide (by simp))).mono ?_
    rintro e w2 ⟨a2, c2, rfl, hb2, hp2⟩
    have HB2 := Lib.hid ((HB0.out _).trans (hb2.mono (by simp)))
    have HR2 := Lib.hid (HR0.out.below hb2 (by simp))
    have HP2 := Lib.hid hp2
    have hz2 := hb2.size
    simp only [World.size_alloc] at hz2
    clear hb2 hp2 HB0 HR0 HP
    obtain ⟨r0, r1, r2, r3, r4, r5⟩ := HR2.out.cells
    have f0 := HR2.out.free 0
    have f1 := HR2.out.free 1
    have f2 := HR2.out.free 2
    have f3 := HR2.out.free 3
    have f4 := HR2.out.free 4
    have f5 := HR2.out.free 5
    simp only [PT.kind, PT.yes, PT.bel, PT.mag, PT.raw, PT.items]
    go_wp2_with fail
    obtain ⟨q0, q1, q2, q3, q4, q5⟩ := HR2.out.filled (.int .u8 7) (.bool false) (.bool false) (.string ⟨#[]⟩) (.string ⟨#[]⟩) (.slice a2 l.length c2)
    refine bodyPost_ret (by simp [results, Tryd.results13, go_sem, q0, q1, q2, q3, q4, q5]; try rfl) rfl ?_
    have hk : ∀ b, w.heap.size + 1 ≤ b → ∀ W (o : Nat) (u : Value), (World.setCell W ⟨w.heap.size, o, none⟩ u).heap[b]? = W.heap[b]? := fun b hb W o u => Below.heap_setCell W _ u b (by simp only; omega)
    refine ⟨a2, c2, rfl, (((((HB2.out.setCell (by simp only; omega) _).setCell (by simp only; omega) _).setCell (by simp only; omega) _).setCell (by simp only; omega) _).setCell (by simp only; omega) _).setCell (by simp only; omega) _, ?_⟩
    refine RmAt.more (S := fun b => w.heap.size + 1 ≤ b ∧ b < w2.heap.size) (fun b hb => ⟨by omega, by simp; exact hb.2⟩) _ _ (RmAt.keep (fun b hb => ?_) _ _ (RmAt.more (S' := fun b => w.heap.size + 1 ≤ b ∧ b < w2.heap.size) (fun b hb => by have h1 := hb.1; simp at h1; exact ⟨h1, hb.2⟩) _ _ HP2.out))
    rw [hk b hb.1, hk b hb.1, hk b hb.1, hk b hb.1, hk b hb.1, hk b hb.1]
  · clear ih
    have HB0 := Lib.hid (fun o => (Below.refl w.heap.size w).alloc (Nat.le_refl _) o)
    have HR0 := Lib.hid (RBox.new w w.heap.size rfl)
    obtain ⟨k, y, b, m, r, l⟩ := t
    simp only [PT.kind] at h7
    obtain ⟨rfl, f1, f2, f3⟩ := may_flat h7 hmay
    by_cases k0 : k = 0
    · obtain rfl := (ValueAt.null (t := .mk k y b m r []) k0).1 hv
      obtain rfl := f1 (by omega)
      obtain ⟨rfl, rfl⟩ := f2 (by omega)
      obtain rfl := f3 (.inl k0)
      subst k0
      clear hv h7 hmay f1 f2 f3
      go_enter Tryd.func13, Tryd.ntmps13
      go_wp2_with fail
      go_returns
      exact flat_r (by decide) (Nat.zero_le _) (Nat.zero_le _) (⟨rfl, HB0.out _⟩ : FlatRet 0 false false ⟨#[]⟩ ⟨#[]⟩ w _ _)
    · by_cases k1 : k = 1
      · obtain rfl := (ValueAt.truth (t := .mk k y b m r []) k1).1 hv
        obtain ⟨rfl, rfl⟩ := f2 (by omega)
        obtain rfl := f3 (.inr (.inl k1))
        subst k1
        clear hv k0 h7 hmay f1 f2 f3
        simp only [PT.yes]
        have HP := Lib.hid (fun w => truthPart_any y w)
        go_enter Tryd.func13, Tryd.ntmps13
        go_wp2_with fail
        refine (HP.out _).mono ?_
        rintro e w2 ⟨rfl, hb2⟩
        have HB2 := Lib.hid ((HB0.out _).trans (hb2.mono (by simp)))
        have HR2 := Lib.hid (HR0.out.below hb2 (by simp))
        clear hb2 HB0 HR0 HP
        obtain ⟨r0, r1, r2, r3, r4, r5⟩ := HR2.out.cells
        have f0 := HR2.out.free 0
        have f1 := HR2.out.free 1
        have f2 := HR2.out.free 2
        have f3 := HR2.out.free 3
        have f4 := HR2.out.free 4
        have f5 := HR2.out.free 5
        go_wp2_with fail
        obtain ⟨q0, q1, q2, q3, q4, q5⟩ := HR2.out.filled (.int .u8 1) (.bool y) (.bool false) (.string ⟨#[]⟩) (.string ⟨#[]⟩) (.slice none 0 0)
        refine bodyPost_ret (by simp [results, Tryd.results13, go_sem, q0, q1, q2, q3, q4, q5]; try rfl) rfl ?_
        refine flat_r (k := 1) (y := y) (b := false) (m := ⟨#[]⟩) (r := ⟨#[]⟩) (by decide) (Nat.zero_le _) (Nat.zero_le _) ⟨rfl, ?_⟩
        exact (((((HB2.out.setCell (by simp only; omega) _).setCell (by simp only; omega) _).setCell (by simp only; omega) _).setCell (by simp only; omega) _).setCell (by simp only; omega) _).setCell (by simp only; omega) _
      · by_cases k2 : k = 2
        · obtain ⟨rfl, hm⟩ := (ValueAt.whole (t := .mk k y b m r []) k2).1 hv
          have HM := Lib.hid hm
          obtain rfl := f1 (by omega)
          obtain rfl := f3 (.inr (.inr k2))
          subst k2
          clear hv k0 k1 h7 hmay hm f1 f2 f3
          simp only [PT.bel, PT.mag] at HM ⊢
          have HP := Lib.hid (fun w => wholePart_any b m w)
          go_enter Tryd.func13, Tryd.ntmps13
          go_wp2_with fail
          refine (HP.out _).mono ?_
          rintro e w2 ⟨rfl, hb2⟩
          have HB2 := Lib.hid ((HB0.out _).trans (hb2.mono (by simp)))
          have HR2 := Lib.hid (HR0.out.below hb2 (by simp))
          clear hb2 HB0 HR0 HP
          obtain ⟨r0, r1, r2, r3, r4, r5⟩ := HR2.out.cells
          have f0 := HR2.out.free 0
          have f1 := HR2.out.free 1
          have f2 := HR2.out.free 2
          have f3 := HR2.out.free 3
          have f4 := HR2.out.free 4
          have f5 := HR2.out.free 5
          go_wp2_with fail
          obtain ⟨q0, q1, q2, q3, q4, q5⟩ := HR2.out.filled (.int .u8 2) (.bool false) (.bool b) (.string m) (.string ⟨#[]⟩) (.slice none 0 0)
          refine bodyPost_ret (by simp [results, Tryd.results13, go_sem, q0, q1, q2, q3, q4, q5]; try rfl) rfl ?_
          refine flat_r (k := 2) (y := false) (b := b) (m := m) (r := ⟨#[]⟩) (by decide) HM.out (Nat.zero_le _) ⟨rfl, ?_⟩
          exact (((((HB2.out.setCell (by simp only; omega) _).setCell (by simp only; omega) _).setCell (by simp only; omega) _).setCell (by simp only; omega) _).setCell (by simp only; omega) _).setCell (by simp only; omega) _
        · obtain ⟨rfl, hr, hk⟩ := (ValueAt.row (t := .mk k y b m r []) k0 k1 k2 h7).1 hv
          have HK := Lib.hid hk
          have HRw := Lib.hid hr
          obtain rfl := f1 (by omega)
          obtain ⟨rfl, rfl⟩ := f2 (by omega)
          clear hv k0 k1 k2 h7 hmay hr hk f1 f2 f3
          simp only [PT.kind, PT.raw] at HK HRw ⊢
          have HP := Lib.hid (fun w => rowPart_any k r w)
          go_enter Tryd.func13, Tryd.ntmps13
          go_wp2_with fail
          refine (HP.out _).mono ?_
          rintro e w2 ⟨rfl, hb2⟩
          have HB2 := Lib.hid ((HB0.out _).trans (hb2.mono (by simp)))
          have HR2 := Lib.hid (HR0.out.below hb2 (by simp))
          clear hb2 HB0 HR0 HP
          obtain ⟨r0, r1, r2, r3, r4, r5⟩ := HR2.out.cells
          have f0 := HR2.out.free 0
          have f1 := HR2.out.free 1
          have f2 := HR2.out.free 2
          have f3 := HR2.out.free 3
          have f4 := HR2.out.free 4
          have f5 := HR2.out.free 5
          go_wp2_with fail
          obtain ⟨q0, q1, q2, q3, q4, q5⟩ := HR2.out.filled (.int .u8 k) (.bool false) (.bool false) (.string ⟨#[]⟩) (.string r) (.slice none 0 0)
          refine bodyPost_ret (by simp [results, Tryd.results13, go_sem, q0, q1, q2, q3, q4, q5]; try rfl) rfl ?_
          refine flat_r (k := k) (y := false) (b := false) (m := ⟨#[]⟩) (r := r) HK.out (Nat.zero_le _) HRw.out ⟨rfl, ?_⟩
          exact (((((HB2.out.setCell (by simp only; omega) _).setCell (by simp only; omega) _).setCell (by simp only; omega) _).setCell (by simp only; omega) _).setCell (by simp only; omega) _).setCell (by simp only; omega) _
end Go.Proofs.YtjgicjgpahnmaaaDoor
