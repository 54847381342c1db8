/-
  slices.SortFunc of entries, by table.ordered.
-/
import Derived.Test.YthcjcdchmdgnjaaGreatDoorKAD
import Derived.Test.YthcjcdchmdgnjaaGreatDoorKAF
import Derived.Test.YthcjcdchmdgnjaaGreatDoorKAG
namespace Go.Proofs.YthcjcdchmdgnjaaGreatDoor
open Go.RowKit Go.WideShapes Go.Shelf
set_option linter.unusedVariables false
set_option linter.unusedSimpArgs false
theorem ahead_refl2 : ∀ a : List Int, ahead a a = 0
  | [] => rfl
  | a :: x => by simp [ahead, ahead_refl2 x]
theorem ahead_trans : ∀ a b c : List Int, ahead a b < 0 → ahead b c < 0 → ahead a c < 0
  | [], [], c, h, _ => by simp [ahead] at h
  | [], _ :: _, [], _, h => by simp [ahead] at h
  | [], _ :: _, _ :: _, _, _ => by simp [ahead]
  | _ :: _, [], _, h, _ => by simp [ahead] at h
  | _ :: _, _ :: _, [], _, h => by simp [ahead] at h
  | a :: x, b :: y, c :: z, h1, h2 => by
    have ih := ahead_trans x y z
    simp only [ahead] at h1 h2 ⊢
    split at h1 <;> split at h2 <;> (try (split at h1)) <;> (try (split at h2)) <;> split <;> (try split) <;> (try omega)
    all_goals (first | exact ih h1 h2 | omega)
theorem ahead_ntrans : ∀ a b c : List Int, ¬ ahead a b < 0 → ¬ ahead b c < 0 → ¬ ahead a c < 0
  | [], [], [], _, _ => by simp [ahead]
  | [], [], _ :: _, _, h => by simp [ahead] at h
  | [], _ :: _, _, h, _ => by simp [ahead] at h
  | _ :: _, [], [], _, _ => by simp [ahead]
  | _ :: _, [], _ :: _, _, h => by simp [ahead] at h
  | _ :: _, _ :: _, [], _, _ => by simp [ahead]
  | a :: x, b :: y, c :: z, h1, h2 => by
    have ih := ahead_ntrans x y z
    simp only [ahead] at h1 h2 ⊢
    split at h1 <;> split at h2 <;> (try (split at h1)) <;> (try (split at h2)) <;> split <;> (try split) <;> (try omega)
    all_goals (first | exact ih h1 h2 | omega)
theorem ahead_same_of : ∀ a b : List Int, ¬ ahead a b < 0 → ¬ ahead b a < 0 → a = b
  | [], [], _, _ => rfl
  | [], _ :: _, h, _ => by simp [ahead] at h
  | _ :: _, [], _, h => by simp [ahead] at h
  | a :: x, b :: y, h1, h2 => by
    have ih := ahead_same_of x y
    simp only [ahead] at h1 h2
    split at h1 <;> split at h2 <;> (try (split at h1)) <;> (try (split at h2)) <;> (try omega)
    rw [ih h1 h2, show a = b by omega]
theorem outCells_at : ∀ {l : List (EN × Value × Value)} {k j : Nat} (hk : k < l.length), j < 2 → (outCells l)[k * 2 + j]? = [l[k].2.1, l[k].2.2][j]?
  | t :: l, 0, j, _, hj => by
    rw [show outCells (t :: l) = [t.2.1, t.2.2] ++ outCells l from rfl, List.getElem?_append_left (by simpa using hj)]
    simp
  | t :: l, k + 1, j, hk, hj => by
    rw [show outCells (t :: l) = [t.2.1, t.2.2] ++ outCells l from rfl, List.getElem?_append_right (by simp; omega)]
    have := outCells_at (l := l) (k := k) (j := j) (by simpa using hk) hj
    simp only [List.length_cons, List.length_nil, List.getElem_cons_succ]
    rw [← this]
    congr 1
    omega
/-- An entry among those that lie in memory. -/
abbrev Ent (w : World) (B : Nat) := {t : EN × Value × Value // OwnE w B t ∧ t.1.pts.length ≤ 8}
def entEnc {w : World} {B : Nat} (t : Ent w B) : List Value := [t.1.2.1, t.1.2.2]
def entCmp {w : World} {B : Nat} (a b : Ent w B) : Int := ahead a.1.1.pts b.1.1.pts
theorem own_oneCell {w : World} {b n s : Nat} {e : TypeId} {v : Value} {xs : List Value} (h : w.ownsRow b e s v n xs) : v.oneCell' = true := by
  rcases h.2 with ⟨rfl, _⟩ | ⟨g, cap, cur, rfl, _⟩ <;> rfl
theorem ent_swo (w : World) (B : Nat) : Sort.SWO (ltOf (entCmp (w := w) (B := B))) where
  irrefl x := by simp [ltOf, entCmp, ahead_refl2]
  trans x y z h1 h2 := decide_eq_true (ahead_trans _ _ _ (of_decide_eq_true h1) (of_decide_eq_true h2))
  ntrans x y z h1 h2 := decide_eq_false (ahead_ntrans _ _ _ (of_decide_eq_false h1) (of_decide_eq_false h2))
theorem sortWorld_heap {α : Type} [Inhabited α] (enc : α → List Value) (k : Nat) (w : World) (blk off m : Nat) (dk : Array α) (os : Array Obj) (b : Nat) (hb : b < w.heap.size) (hne : b ≠ blk) : (sortWorldK enc k w blk off m dk os).heap[b]? = w.heap[b]? := by
  have hs : (Sort.putRowK enc k (Sort.ahead w m) blk off dk).heap.size = w.heap.size := by simp [Sort.putRowK, Sort.size_putRow, Sort.ahead]
  unfold sortWorldK Sort.grow
  rw [Array.getElem?_append_left (by rw [hs]; exact hb)]
  simp [Sort.putRowK, Sort.putRow, Sort.mapBlock, Sort.ahead, Array.getElem?_modify, Ne.symm hne]
theorem sortWorld_below {α : Type} [Inhabited α] (enc : α → List Value) (k : Nat) (w : World) (blk off m : Nat) (dk : Array α) (os : Array Obj) (hb : blk < w.heap.size) : Below blk w (sortWorldK enc k w blk off m dk os) :=
  ⟨rfl, rfl, rfl, size_sortWorldK_c enc k w blk off m dk os, fun b h => sortWorld_heap enc k w blk off m dk os b (by omega) (by omega)⟩
/-- The comparison, as the sort calls it. -/
theorem ent_lays (w : World) (B blk : Nat) [Inhabited (Ent w B)] (size : Nat) {n cap : Nat} {xs : List Value} (ho : w.ownsRow B 36 2 (.slice (some ⟨blk, 0, none⟩) n cap) n xs) :
    CmpLays Tryz.prog 10 #[] (entEnc (w := w) (B := B)) 2 entCmp blk 0 size w := by
  intro m os dk hd x y
  have hsz := size_sortWorldK_c (entEnc (w := w) (B := B)) 2 w blk 0 m dk os
  have hrow : ∀ t : Ent w B, RowM (sortWorldK (entEnc (w := w) (B := B)) 2 w blk 0 m dk os) (sortWorldK (entEnc (w := w) (B := B)) 2 w blk 0 m dk os).heap.size t.1.2.1 t.1.1.pts.length (intCells t.1.1.pts) := fun t => by
    have h := t.2.1.1
    have ha := own_apart2 h ho (by decide)
    refine own_rowM (base := B) (size := 1) (e := 3) ?_ (by have := t.2.2; omega)
    refine ⟨h.1, ?_⟩
    rcases h.2 with h2 | ⟨g, c, cur, e1, e2, e3, e4⟩
    · exact Or.inl h2
    · refine Or.inr ⟨g, c, cur, e1, e2, ?_, e4⟩
      rw [sortWorld_heap _ _ _ _ _ _ _ _ _ (Array.getElem?_eq_some_iff.1 e3).1 (by
        rw [e1] at ha
        simpa [Value.ownBlock] using ha)]
      exact e3
  have h := ordered_gr x.1.1.pts y.1.1.pts x.1.2.1 y.1.2.1 x.1.2.2 y.1.2.2 _ (hrow x) (hrow y) (own_oneCell x.2.1.2) (own_oneCell y.2.1.2)
  exact h
theorem sort_ok (B blk cap : Nat) (outl : List (EN × Value × Value)) (h0 : 0 < outl.length) (hn : outl.length ≤ 4096) (w : World) (ho : w.ownsRow B 36 2 (.slice (some ⟨blk, 0, none⟩) outl.length cap) outl.length (outCells outl))
    (he : ∀ t ∈ outl, OwnE w B t) (h8 : ∀ t ∈ outl, t.1.pts.length ≤ 8) :
    Calls Tryz.prog 25 #[.slice (some ⟨blk, 0, none⟩) outl.length cap, .func (.func 10) #[] #[]] w fun e w' => e = .returned (.tuple #[]) ∧ ∃ outl' : List (EN × Value × Value), outl'.Perm outl ∧ outl'.Pairwise (fun a b => ¬ ahead b.1.pts a.1.pts < 0) ∧ CellsAt w' blk 0 (outCells outl') ∧ (∀ b, b < w.heap.size → b ≠ blk → w'.heap[b]? = w.heap[b]?) ∧ Below blk w w' := by
  obtain ⟨elems, hval⟩ : ∃ elems : List (Ent w B), elems.map Subtype.val = outl := by
    refine ⟨outl.pmap (fun t h => ⟨t, h⟩) (fun t ht => ⟨he t ht, h8 t ht⟩), ?_⟩
    rw [List.map_pmap]
    simp
  have hlen : elems.length = outl.length := by rw [← hval, List.length_map]
  haveI : Inhabited (Ent w B) := ⟨elems[0]'(by omega)⟩
  have hblk : blk < w.heap.size := (ho.lt blk rfl).2
  have hH : Sort.HoldsK (entEnc (w := w) (B := B)) 2 w blk 0 elems.toArray := by
    intro j hj
    rw [Sort.size_flatK] at hj
    simp only [List.size_toArray] at hj
    have hj2 : j / 2 < outl.length := by omega
    have hat := outCells_at (l := outl) (k := j / 2) (j := j % 2) hj2 (Nat.mod_lt _ (by omega))
    rw [show j / 2 * 2 + j % 2 = j by omega] at hat
    rcases ho.2 with ⟨e, _⟩ | ⟨g, c, cur, e, _, hg, _, _, _, ht⟩
    · cases e
    · injection e with e1 _ _
      injection e1 with e1
      injection e1 with e1 _ _
      subst e1
      refine ⟨?_, by simp [World.frozen?, hg]⟩
      rw [Sort.get_flatK _ _ _ _ (by simpa using hj)]
      simp only [World.cell?, hg, Nat.zero_add, id]
      rw [← ht, List.getElem?_take_of_lt (by omega)] at hat
      rw [← Array.getElem?_toList, hat]
      have he1 : (elems.toArray[j / 2]!).1 = outl[j / 2] := by
        rw [getElem!_pos elems.toArray (j / 2) (by simpa using (by omega : j / 2 < elems.length))]
        have := List.getElem_map (Subtype.val) (l := elems) (i := j / 2) (h := by rw [List.length_map]; omega)
        simp only [hval] at this
        simpa using this.symm
      simp only [entEnc, he1]
      rcases (show j % 2 = 0 ∨ j % 2 = 1 by omega) with h | h <;> rw [h] <;> rfl
  have eg : ∀ args w, (callFunc 10 args).run Tryz.prog w = .ok (.enter 10 args) w := enters_of Tryz.func10 (by kernel_rfl) rfl
  have hcon := AnyQ.slices_SortFunc lays25 2 Tryz.isAgg36 Tryz.sizeOf36 (entEnc (w := w) (B := B)) (fun _ => rfl) (fun x v hv => by
    simp only [entEnc, List.mem_cons, List.not_mem_nil, or_false] at hv
    rcases hv with rfl | rfl
    · exact own_oneCell x.2.1.1
    · exact own_oneCell x.2.1.2) entCmp (ent_swo w B) 10 #[] blk 0 cap elems.toArray w eg (ent_lays w B blk elems.toArray.size ho) hH hblk (by simp; omega)
  rw [List.size_toArray, hlen] at hcon
  refine hcon.mono ?_
  rintro e w' ⟨rfl, d', n, os, hp, hs, rfl⟩
  have hds : d'.size = elems.length := by simpa using hp.1
  refine ⟨rfl, d'.toList.map Subtype.val, ?_, ?_, ?_, fun b hb hne => sortWorld_heap _ _ _ _ _ _ _ _ _ hb hne, sortWorld_below _ _ _ _ _ _ _ _ hblk⟩
  · have h := hp.2.2
    rw [← hlen, show d'.extract 0 elems.length = d' from by rw [← hds]; simp] at h
    rw [← hval]
    exact (by simpa using h : d'.toList.Perm elems).map _
  · rw [List.pairwise_map, List.pairwise_iff_getElem]
    intro i j hi hj hij
    have h := hs i j (Nat.zero_le _) hij (by simp at hj; omega)
    simp only [Array.length_toList] at hi hj
    rw [getElem!_pos d' i hi, getElem!_pos d' j hj] at h
    have h2 := of_decide_eq_false h
    simpa [entCmp] using h2
  · intro i u hu
    have hH' := holdsK_sortWorldK_c (entEnc (w := w) (B := B)) 2 w blk 0 elems.toArray d' n os hH hblk (by simpa using hds)
    have hil : i < (d'.toList.map Subtype.val).length * 2 := by
      have := (List.getElem?_eq_some_iff.1 hu).1
      rwa [outCells_len] at this
    have hi2 : i / 2 < (d'.toList.map Subtype.val).length := by omega
    have hat := outCells_at (l := d'.toList.map Subtype.val) (k := i / 2) (j := i % 2) hi2 (Nat.mod_lt _ (by omega))
    rw [show i / 2 * 2 + i % 2 = i by omega, hu] at hat
    have hid : i / 2 < d'.size := by simpa using hi2
    have hc := (hH'.cell (i := i / 2) (c := i % 2) hid (Nat.mod_lt _ (by omega))).1
    rw [show 0 + i / 2 * 2 + i % 2 = 0 + i by omega] at hc
    rw [hc, getElem!_pos d' (i / 2) hid]
    simp only [List.getElem_map, Array.getElem_toList] at hat
    simp only [entEnc]
    rcases (show i % 2 = 0 ∨ i % 2 = 1 by omega) with h | h <;> rw [h] at hat ⊢ <;> exact hat.symm ▸ rfl
end Go.Proofs.YthcjcdchmdgnjaaGreatDoor
