/-
  slices.SortFunc of marks, by their points; a map of marks gone through.
-/
import Derived.Test.YtccaaniepeohbaaGreatDoorKX
import Derived.Test.YtccaaniepeohbaaGreatDoorKY
import Derived.Shelf.SlSortCmp.NoneTotal
import Derived.Sort.Grow
namespace Go.Proofs.YtccaaniepeohbaaGreatDoor
open Go.RowKit Go.WideShapes Go.Shelf
set_option linter.unusedVariables false
set_option linter.unusedSimpArgs false
/-- Draws and blocks laid, nothing else. -/
def Grew (w w' : World) : Prop := ∃ (q : Nat) (os : Array Obj), w' = Sort.grow (w.drewN q) os
theorem Grew.refl (w : World) : Grew w w := ⟨0, #[], by simp [Sort.grow, World.drewN]⟩
theorem Grew.trans {a b c : World} (h : Grew a b) (k : Grew b c) : Grew a c := by
  obtain ⟨q, os, rfl⟩ := h
  obtain ⟨q', os', rfl⟩ := k
  exact ⟨q + q', os ++ os', by simp [Sort.grow, World.drewN, Nat.add_assoc]⟩
theorem Grew.alloc {a b : World} (h : Grew a b) (o : Obj) : Grew a (b.alloc o) := h.trans ⟨0, #[o], by rw [World.drewN_zero]; exact Sort.alloc_eq_grow b o⟩
def outCells (l : List (MK × Value)) : List Value := l.flatMap fun t => [.int .i64 t.1.pt, .int .i64 t.1.cls, t.2]
theorem outCells_snoc (l : List (MK × Value)) (t : MK × Value) : outCells (l ++ [t]) = outCells l ++ [.int .i64 t.1.pt, .int .i64 t.1.cls, t.2] := by simp [outCells]
theorem outCells_len (l : List (MK × Value)) : (outCells l).length = l.length * 3 := by
  induction l with
  | nil => rfl
  | cons e l ih => simp [outCells] at ih ⊢; omega
theorem outCells_at : ∀ {l : List (MK × Value)} {k j : Nat} (hk : k < l.length), j < 3 → (outCells l)[k * 3 + j]? = [Value.int .i64 l[k].1.pt, Value.int .i64 l[k].1.cls, l[k].2][j]?
  | t :: l, 0, j, _, hj => by
    rw [show outCells (t :: l) = [Value.int .i64 t.1.pt, Value.int .i64 t.1.cls, t.2] ++ outCells l from rfl, List.getElem?_append_left (by simpa using hj)]
    simp
  | t :: l, k + 1, j, hk, hj => by
    rw [show outCells (t :: l) = [Value.int .i64 t.1.pt, Value.int .i64 t.1.cls, t.2] ++ outCells l from rfl, List.getElem?_append_right (by simp; omega)]
    have := outCells_at (l := l) (k := k) (j := j) (by simpa using hk) hj
    simp only [List.length_cons, List.length_nil, List.getElem_cons_succ]
    rw [← this]
    congr 1
    omega
/-- A mark among those that are sorted. -/
abbrev Ent := {t : MK × Value // t.2.oneCell' = true ∧ 0 ≤ t.1.pt ∧ t.1.pt ≤ 1114111}
def entEnc (t : Ent) : List Value := [.int .i64 t.1.1.pt, .int .i64 t.1.1.cls, t.1.2]
def entCmp (a b : Ent) : Int := a.1.1.pt - b.1.1.pt
theorem ent_swo : Sort.SWO (ltOf entCmp) where
  irrefl x := by simp [ltOf, entCmp]
  trans x y z h1 h2 := by
    have a1 := of_decide_eq_true h1
    have a2 := of_decide_eq_true h2
    unfold entCmp at a1 a2
    exact decide_eq_true (by unfold entCmp; omega)
  ntrans x y z h1 h2 := by
    have a1 := of_decide_eq_false h1
    have a2 := of_decide_eq_false h2
    unfold entCmp at a1 a2
    exact decide_eq_false (by unfold entCmp; omega)
set_option maxHeartbeats 1000000 in
theorem cmp_gr (p1 c1 p2 c2 : Int) (v1 v2 : Value) (w : World) (h1 : v1.oneCell' = true) (h2 : v2.oneCell' = true) (hp1 : 0 ≤ p1 ∧ p1 ≤ 1114111) (hp2 : 0 ≤ p2 ∧ p2 ≤ 1114111) :
    Calls Tryz.prog 32 #[.agg #[.int .i64 p1, .int .i64 c1, v1], .agg #[.int .i64 p2, .int .i64 c2, v2]] w fun e w' => e = .returned (.int .i64 (p1 - p2)) ∧ Grew w w' := by
  have HG := Lib.hid (fun o o2 => ((Grew.refl w).alloc o).alloc o2)
  go_enter Tryz.func32, Tryz.ntmps32
  go_wp2_with fail
  go_ret
  exact ⟨by first | rfl | (congr 2; omega) | (simp [wrap64]; omega), HG.out _ _⟩
theorem sortWorld_heap {α : Type} [Inhabited α] (enc : α → List Value) (k : Nat) (w : World) (blk off m : Nat) (dk : Array α) (os : Array Obj) (b : Nat) (hb : b < w.heap.size) (hne : b ≠ blk) : (sortWorldK enc k w blk off m dk os).heap[b]? = w.heap[b]? := by
  have hs : (Sort.putRowK enc k (Sort.ahead w m) blk off dk).heap.size = w.heap.size := by simp [Sort.putRowK, Sort.size_putRow, Sort.ahead]
  unfold sortWorldK Sort.grow
  rw [Array.getElem?_append_left (by rw [hs]; exact hb)]
  simp [Sort.putRowK, Sort.putRow, Sort.mapBlock, Sort.ahead, Array.getElem?_modify, Ne.symm hne]
theorem sortWorld_below {α : Type} [Inhabited α] (enc : α → List Value) (k : Nat) (w : World) (blk off m : Nat) (dk : Array α) (os : Array Obj) (hb : blk < w.heap.size) : Below blk w (sortWorldK enc k w blk off m dk os) :=
  ⟨rfl, rfl, rfl, size_sortWorldK_c enc k w blk off m dk os, fun b h => sortWorld_heap enc k w blk off m dk os b (by omega) (by omega)⟩
/-- The comparison, as the sort calls it. -/
theorem ent_lays (w : World) (blk : Nat) [Inhabited Ent] (size : Nat) : CmpLays Tryz.prog 32 #[] entEnc 3 entCmp blk 0 size w := by
  intro m os dk hd x y
  exact cmp_gr x.1.1.pt x.1.1.cls y.1.1.pt y.1.1.cls x.1.2 y.1.2 _ x.2.1 y.2.1 x.2.2 y.2.2
theorem sort_ok (B blk cap : Nat) (outl : List (MK × Value)) (h0 : 0 < outl.length) (hn : outl.length ≤ 4096) (w : World) (ho : w.ownsRow B 36 3 (.slice (some ⟨blk, 0, none⟩) outl.length cap) outl.length (outCells outl))
    (he : ∀ t ∈ outl, t.2.oneCell' = true ∧ 0 ≤ t.1.pt ∧ t.1.pt ≤ 1114111) :
    Calls Tryz.prog 31 #[.slice (some ⟨blk, 0, none⟩) outl.length cap, .func (.func 32) #[] #[]] w fun e w' => e = .returned (.tuple #[]) ∧ ∃ outl' : List (MK × Value), outl'.Perm outl ∧ outl'.Pairwise (fun a b => ¬ b.1.pt < a.1.pt) ∧ CellsAt w' blk 0 (outCells outl') ∧ (∀ b, b < w.heap.size → b ≠ blk → w'.heap[b]? = w.heap[b]?) ∧ Below blk w w' := by
  obtain ⟨elems, hval⟩ : ∃ elems : List Ent, elems.map Subtype.val = outl := by
    refine ⟨outl.pmap (fun t h => ⟨t, h⟩) he, ?_⟩
    rw [List.map_pmap]
    simp
  have hlen : elems.length = outl.length := by rw [← hval, List.length_map]
  haveI : Inhabited Ent := ⟨elems[0]'(by omega)⟩
  have hblk : blk < w.heap.size := (ho.lt blk rfl).2
  have hH : Sort.HoldsK entEnc 3 w blk 0 elems.toArray := by
    intro j hj
    rw [Sort.size_flatK] at hj
    simp only [List.size_toArray] at hj
    have hj2 : j / 3 < outl.length := by omega
    have hat := outCells_at (l := outl) (k := j / 3) (j := j % 3) hj2 (Nat.mod_lt _ (by omega))
    rw [show j / 3 * 3 + j % 3 = j by omega] at hat
    rcases ho.2 with ⟨e, _⟩ | ⟨g, c, cur, e, _, hg, _, _, _, ht⟩
    · cases e
    · injection e with e1 _ _
      injection e1 with e1
      injection e1 with e1 _ _
      subst e1
      refine ⟨?_, by simp [World.frozen?, hg]⟩
      rw [Sort.get_flatK _ _ _ _ (by simpa using hj)]
      simp only [World.cell?, hg, Nat.zero_add, id]
      rw [← ht, List.getElem?_take_of_lt (by omega)] at hat
      rw [← Array.getElem?_toList, hat]
      have he1 : (elems.toArray[j / 3]!).1 = outl[j / 3] := by
        rw [getElem!_pos elems.toArray (j / 3) (by simpa using (by omega : j / 3 < elems.length))]
        have := List.getElem_map (Subtype.val) (l := elems) (i := j / 3) (h := by rw [List.length_map]; omega)
        simp only [hval] at this
        simpa using this.symm
      simp only [entEnc, he1]
      rcases (show j % 3 = 0 ∨ j % 3 = 1 ∨ j % 3 = 2 by omega) with h | h | h <;> rw [h] <;> rfl
  have eg : ∀ args w, (callFunc 32 args).run Tryz.prog w = .ok (.enter 32 args) w := enters_of Tryz.func32 (by kernel_rfl) rfl
  have hcon := AnyQ.slices_SortFunc lays31 3 Tryz.isAgg36 Tryz.sizeOf36 entEnc (fun _ => rfl) (fun x v hv => by
    simp only [entEnc, List.mem_cons, List.not_mem_nil, or_false] at hv
    rcases hv with rfl | rfl | rfl
    · rfl
    · rfl
    · exact x.2.1) entCmp ent_swo 32 #[] blk 0 cap elems.toArray w eg (ent_lays w blk elems.toArray.size) hH hblk (by simp; omega)
  rw [List.size_toArray, hlen] at hcon
  refine hcon.mono ?_
  rintro e w' ⟨rfl, d', n, os, hp, hs, rfl⟩
  have hds : d'.size = elems.length := by simpa using hp.1
  refine ⟨rfl, d'.toList.map Subtype.val, ?_, ?_, ?_, fun b hb hne => sortWorld_heap _ _ _ _ _ _ _ _ _ hb hne, sortWorld_below _ _ _ _ _ _ _ _ hblk⟩
  · have h := hp.2.2
    rw [← hlen, show d'.extract 0 elems.length = d' from by rw [← hds]; simp] at h
    rw [← hval]
    exact (by simpa using h : d'.toList.Perm elems).map _
  · rw [List.pairwise_map, List.pairwise_iff_getElem]
    intro i j hi hj hij
    have h := hs i j (Nat.zero_le _) hij (by simp at hj; omega)
    simp only [Array.length_toList] at hi hj
    rw [getElem!_pos d' i hi, getElem!_pos d' j hj] at h
    have h2 := of_decide_eq_false h
    unfold entCmp at h2
    simp only [Array.getElem_toList]
    omega
  · intro i u hu
    have hH' := holdsK_sortWorldK_c entEnc 3 w blk 0 elems.toArray d' n os hH hblk (by simpa using hds)
    have hil : i < (d'.toList.map Subtype.val).length * 3 := by
      have := (List.getElem?_eq_some_iff.1 hu).1
      rwa [outCells_len] at this
    have hi2 : i / 3 < (d'.toList.map Subtype.val).length := by omega
    have hat := outCells_at (l := d'.toList.map Subtype.val) (k := i / 3) (j := i % 3) hi2 (Nat.mod_lt _ (by omega))
    rw [show i / 3 * 3 + i % 3 = i by omega, hu] at hat
    have hid : i / 3 < d'.size := by simpa using hi2
    have hc := (hH'.cell (i := i / 3) (c := i % 3) hid (Nat.mod_lt _ (by omega))).1
    rw [show 0 + i / 3 * 3 + i % 3 = 0 + i by omega] at hc
    rw [hc, getElem!_pos d' (i / 3) hid]
    simp only [List.getElem_map, Array.getElem_toList] at hat
    simp only [entEnc]
    rcases (show i % 3 = 0 ∨ i % 3 = 1 ∨ i % 3 = 2 by omega) with h | h | h <;> rw [h] at hat ⊢ <;> exact hat.symm ▸ rfl
end Go.Proofs.YtccaaniepeohbaaGreatDoor
