/-
  ucd.Load, of any text.
-/
import Derived.Test.YtlkdjdcnbcegeaaGreatDoorKS
import Derived.Test.YtlkdjdcnbcegeaaGreatDoorKU
import Derived.Test.YtlkdjdcnbcegeaaGreatDoorKV
import Derived.Carry
namespace Go.Proofs.YtlkdjdcnbcegeaaGreatDoor
open Go.RowKit Go.WideShapes
set_option linter.unusedVariables false
set_option linter.unusedSimpArgs false
/-- Lines gone through, and their marks. -/
inductive Scan : List (List UInt8) → List MK → Prop
  | nil : Scan [] []
  | skip {Ls dn s} : Scan Ls dn → (s = [] ∨ s.head? = some 35) → Scan (Ls ++ [s]) dn
  | mark {Ls dn x} : Scan Ls dn → MK.may x = true → Scan (Ls ++ [x.text]) (dn ++ [x])
theorem Scan.may {Ls : List (List UInt8)} {dn : List MK} (h : Scan Ls dn) : ∀ x ∈ dn, x.may = true := by
  induction h with
  | nil => simp
  | skip _ _ ih => exact ih
  | mark _ hm ih =>
    intro x hx
    rcases List.mem_append.1 hx with hx | hx
    · exact ih x hx
    · rw [List.mem_singleton.1 hx]; exact hm
theorem Scan.lens {Ls : List (List UInt8)} {dn : List MK} (h : Scan Ls dn) : Lib.lens (dn.map MK.text) ≤ Lib.lens Ls := by
  induction h with
  | nil => simp [Lib.lens]
  | skip _ _ ih => simp [Lib.lens] at ih ⊢; omega
  | mark _ _ ih => simp [Lib.lens] at ih ⊢; omega
theorem unmet_sum {l : List MK} (hn : (l.map MK.pt).Nodup) : unmet (partsOf l) [] (l.map MK.pt) = (l.map fun x => x.parts.length).sum := by
  have key : ∀ k : List MK, (∀ x ∈ k, x ∈ l) → unmet (partsOf l) [] (k.map MK.pt) = (k.map fun x : MK => x.parts.length).sum := by
    intro k
    induction k with
    | nil => intro _; rfl
    | cons x r ih =>
      intro h
      rw [List.map_cons, List.map_cons, List.sum_cons, unmet, ih fun y hy => h y (by simp [hy])]
      obtain ⟨i, hi, hx⟩ := List.getElem_of_mem (h x (by simp))
      rw [partsOf_at hn (i := i) (by rw [List.getElem?_eq_getElem hi, hx])]
      simp
  exact key l fun _ h => h
theorem parts_text (x : MK) : x.parts.length ≤ x.text.length := by
  have := pts_atleast x.parts
  unfold MK.text
  rw [List.length_append]
  omega
theorem parts_lens (l : List MK) : (l.map fun x => x.parts.length).sum ≤ Lib.lens (l.map MK.text) := by
  induction l with
  | nil => simp [Lib.lens]
  | cons x r ih =>
    have := parts_text x
    simp only [Lib.lens, List.map_cons, List.sum_cons] at ih ⊢
    omega
theorem parts_le (l : List MK) (p : Int) : (partsOf l p).length ≤ Lib.lens (l.map MK.text) := by
  unfold partsOf
  split
  · next x hx =>
    have hm := List.mem_of_find?_eq_some hx
    have h1 : ∀ l : List MK, x ∈ l → x.parts.length ≤ Lib.lens (l.map MK.text) := by
      intro l
      induction l with
      | nil => simp
      | cons y r ih =>
        intro h
        simp only [Lib.lens, List.map_cons, List.sum_cons] at ih ⊢
        rcases List.mem_cons.1 h with rfl | h
        · have := parts_text x; omega
        · have := ih h; omega
    exact h1 l hm
  · simp
theorem lens_app (a : List (List UInt8)) (b : List UInt8) : Lib.lens (a ++ [b]) = Lib.lens a + b.length := by simp [Lib.lens]
theorem lens_take (Ls : List (List UInt8)) (k : Nat) : Lib.lens (Ls.take k) ≤ Lib.lens Ls := by
  have h : ∀ a b : List (List UInt8), Lib.lens (a ++ b) = Lib.lens a + Lib.lens b := fun a b => by simp [Lib.lens]
  have h2 := h (Ls.take k) (Ls.drop k)
  rw [List.take_append_drop] at h2
  omega
/-- What data that were read have. -/
structure UFine (l : List MK) : Prop where
  may : ∀ x ∈ l, x.may = true
  nd : (l.map MK.pt).Nodup
  len : l.length ≤ 4096
  un : unmet (partsOf l) [] (l.map MK.pt) ≤ 100000
  pa : ∀ p, (partsOf l p).length ≤ 100000
  ac : ∀ x ∈ l, ¬ Leads (partsOf l) x.pt x.pt
  sz : ∀ x ∈ l, szOf l x.pt ≤ 18
/-- What Load hands back. -/
def ULoadAny (w : World) (e : Ending) (w' : World) : Prop :=
  Below w.heap.size w w' ∧ ((∃ l D b, e = .returned (.tuple #[.pointer (some ⟨D, 0, none⟩), .int .i64 0, .int .i64 0]) ∧ DataM w' (fun g => g < w'.heap.size) D b l ∧ UFine l ∧ w.heap.size ≤ D ∧ w.heap.size ≤ b) ∨
    ∃ code line : Int, e = .returned (.tuple #[.pointer none, .int .i64 code, .int .i64 line]) ∧ 1 ≤ code)
def LinesX (w : World) (b : Nat) (l : List MK) : Prop := ∃ lm : List (Value × Value), MapAt w b IntKey lm ∧ lm.length = l.length ∧ ∀ (i : Nat) x p, l[i]? = some x → lm[i]? = some p → p.1 = Value.int .i64 x.pt ∧ ∃ n : Int, p.2 = Value.int .i64 n
theorem LinesX.keep {w w' : World} {b : Nat} {l : List MK} (h : LinesX w b l) (hb : w'.heap[b]? = w.heap[b]?) : LinesX w' b l := by
  obtain ⟨lm, h1, h2⟩ := h
  exact ⟨lm, h1.keep hb, h2⟩
theorem LinesX.lt {w : World} {b : Nat} {l : List MK} (h : LinesX w b l) : b < w.heap.size := by obtain ⟨lm, h1, _⟩ := h; exact h1.lt
theorem LinesX.look {w : World} {b : Nat} {l : List MK} (h : LinesX w b l) {p : Int} (hp : p ∈ l.map MK.pt) : ∃ n : Int, (Instr.lookup 99 (.map (some b)) (.int .i64 p) false).run Tryz.prog w = .ok (.int .i64 n) w := by
  obtain ⟨lm, h1, h2, h3⟩ := h
  rcases h1.run_look (P := Tryz.prog) (keyOk_int Tryz.underlying3) Tryz.underlying99 (Tryz.zeroValue3 w) (key := .int .i64 p) ⟨p, rfl⟩ false with ⟨hr, hno⟩ | ⟨u, hr, hu⟩
  · exfalso
    obtain ⟨x, hx, e⟩ := List.mem_map.1 hp
    obtain ⟨i, hi, rfl⟩ := List.getElem_of_mem hx
    have h9 := h3 i l[i] (lm[i]'(by omega)) (List.getElem?_eq_getElem hi) (List.getElem?_eq_getElem (by omega))
    refine hno (lm[i]'(by omega)).2 ?_
    have e1 : (lm[i]'(by omega)) = (Value.int .i64 p, (lm[i]'(by omega)).2) := by rw [← e, ← h9.1]
    rw [← e1]
    exact List.getElem_mem _
  · obtain ⟨i, hi, e⟩ := List.getElem_of_mem hu
    have hil : i < l.length := by omega
    have h9 := h3 i l[i] lm[i] (List.getElem?_eq_getElem hil) (List.getElem?_eq_getElem hi)
    rw [e] at h9
    obtain ⟨n, e2⟩ := h9.2
    have e2 : u = .int .i64 n := e2
    subst e2
    exact ⟨_, hr⟩
theorem LinesX.put {w : World} {b : Nat} {l : List MK} (h : LinesX w b l) (x : MK) (hx : x.pt ∉ l.map MK.pt) (n : Int) : ∃ w', (Instr.mapUpdate 99 (.map (some b)) (.int .i64 x.pt) (.int .i64 n)).run Tryz.prog w = .ok () w' ∧ LinesX w' b (l ++ [x]) ∧ (∃ K m m', MapAt w b K m ∧ MapAt w' b K m') ∧ w.grownBy w' (some b) ∧ w'.heap.size = w.heap.size := by
  obtain ⟨lm, h1, h2, h3⟩ := h
  obtain ⟨w', l', r1, r2, r3, r4, _, r6, _⟩ := h1.run_put (P := Tryz.prog) (keyOk_int Tryz.underlying3) Tryz.underlying99 (key := .int .i64 x.pt) (val := .int .i64 n) ⟨x.pt, rfl⟩
  have e := r6 (fun v hv => by
    obtain ⟨i, hi, e⟩ := List.getElem_of_mem hv
    have h9 := h3 i l[i] lm[i] (List.getElem?_eq_getElem (by omega)) (List.getElem?_eq_getElem hi)
    rw [e] at h9
    have : x.pt = l[i].pt := by simpa using h9.1
    exact hx (List.mem_map.2 ⟨l[i], List.getElem_mem _, this.symm⟩))
  subst e
  refine ⟨w', r1, ⟨_, r2, by simp [h2], fun i y p hy hp => ?_⟩, ⟨_, _, _, h1, r2⟩, r3, r4⟩
  by_cases hil : i < lm.length
  · rw [List.getElem?_append_left (by omega)] at hy
    rw [List.getElem?_append_left hil] at hp
    exact h3 i y p hy hp
  · have hi2 : i = lm.length := by
      have := (List.getElem?_eq_some_iff.1 hp).1
      simp at this
      omega
    subst hi2
    rw [List.getElem?_append_right (by omega)] at hy hp
    simp [h2] at hy hp
    subst hy hp
    exact ⟨rfl, _, rfl⟩
/-- What holds while the lines are gone through. -/
structure ULInvX (w wr : World) (b D b6 R : Nat) (Ls : List (List UInt8)) (l : List MK) (n : Int) (vo : Value) : Prop where
  bl : Below w.heap.size w wr
  x : Boxes wr w.heap.size (w.heap.size + 1) (w.heap.size + 1 + 1) (w.heap.size + 1 + 1 + 1) (.pointer (some ⟨D, 0, none⟩)) (.int .i64 0) (.int .i64 0) (.int .i64 n)
  o1 : w.heap.size + 3 < b
  o2 : b < D
  o3 : D < b6
  o4 : b6 < R
  d : DataM wr (fun g => w.heap.size + 4 ≤ g ∧ g < wr.heap.size ∧ vo.ownBlock ≠ some g) D b l
  ln : LinesX wr b6 l
  r : wr.heap[R]? = some (.cells (Ls.map fun y => Value.string (txt y)).toArray 9 (0, 0))
  o : wr.ownsRow (R + 1) 3 1 vo l.length (intCells (l.map MK.pt))
theorem ULInvX.R_lt {w wr : World} {b D b6 R : Nat} {Ls : List (List UInt8)} {l : List MK} {n : Int} {vo : Value} (h : ULInvX w wr b D b6 R Ls l n vo) : R < wr.heap.size := (Array.getElem?_eq_some_iff.1 h.r).1
theorem ULInvX.below {w wr w' : World} {b D b6 R : Nat} {Ls : List (List UInt8)} {l : List MK} {n : Int} {vo : Value} (h : ULInvX w wr b D b6 R Ls l n vo) (hb : Below wr.heap.size wr w') : ULInvX w w' b D b6 R Ls l n vo := by
  have hR := h.R_lt
  have h1 := h.o1
  have h2 := h.o2
  have h3 := h.o3
  have h4 := h.o4
  exact ⟨h.bl.trans (hb.mono h.bl.size), h.x.keep (hb.block _ (by omega)) (hb.block _ (by omega)) (hb.block _ (by omega)) (hb.block _ (by omega)), h1, h2, h3, h4, h.d.keep (hb.block _ (by omega)) (hb.block _ (by omega)) (fun p hp => hb.cell hp.2.1) (fun g hg => ⟨hg.1, Nat.lt_of_lt_of_le hg.2.1 hb.size, hg.2.2⟩), h.ln.keep (hb.block _ (by omega)), (hb.block _ hR).trans h.r, own_under h.o hb⟩
/-- The line's number is put down. -/
theorem ULInvX.at_ {w wr : World} {b D b6 R : Nat} {Ls : List (List UInt8)} {l : List MK} {n : Int} {vo : Value} (h : ULInvX w wr b D b6 R Ls l n vo) (n' : Int) : ULInvX w (wr.setCell ⟨w.heap.size + 1 + 1 + 1, 0, none⟩ (.int .i64 n')) b D b6 R Ls l n' vo := by
  have h1 := h.o1
  have h2 := h.o2
  have h3 := h.o3
  have h4 := h.o4
  have hk : ∀ j, j ≠ w.heap.size + 1 + 1 + 1 → (wr.setCell ⟨w.heap.size + 1 + 1 + 1, 0, none⟩ (.int .i64 n')).heap[j]? = wr.heap[j]? := fun j hj => Below.heap_setCell _ _ _ _ (by show j ≠ w.heap.size + 1 + 1 + 1; exact hj)
  have hx := h.x
  have hA : (wr.setCell ⟨w.heap.size + 1 + 1 + 1, 0, none⟩ (.int .i64 n')).heap[w.heap.size + 1 + 1 + 1]? = some (.cells #[.int .i64 n'] 3 (0, 0)) := by
    have h9 := heap_setCell_same wr (w.heap.size + 1 + 1 + 1) 0 _ _ (.int .i64 n') hx.d
    simpa using h9
  refine ⟨h.bl.setCell (p := ⟨w.heap.size + 1 + 1 + 1, 0, none⟩) (by show w.heap.size ≤ w.heap.size + 1 + 1 + 1; omega) _, ⟨(hk _ (by omega)).trans hx.a, (hk _ (by omega)).trans hx.b, (hk _ (by omega)).trans hx.c, hA⟩, h1, h2, h3, h4, h.d.keep (hk _ (by omega)) (hk _ (by omega)) (fun p hp => World.cell?_of_block (hk p.block (by have := hp.1; omega))) (fun g hg => ⟨hg.1, by simpa using hg.2.1, hg.2.2⟩), h.ln.keep (hk _ (by omega)), (hk _ (by omega)).trans h.r, ?_⟩
  refine ⟨h.o.1, ?_⟩
  rcases h.o.2 with e | ⟨g, cap, cur, e, e2, e3, e4⟩
  · exact Or.inl e
  · exact Or.inr ⟨g, cap, cur, e, e2, (hk g (by omega)).trans e3, e4⟩
/-- A line's mark is laid down. -/
theorem ULInvX.step {w w8 w8' w9 w10 wa w11 : World} {b D b6 R : Nat} {Ls : List (List UInt8)} {l : List MK} {n : Int} {vo v v11 : Value} {x : MK} {mm : List (Value × Value)} (h : ULInvX w w8 b D b6 R Ls l n vo)
    (hme : ∀ (i : Nat) x p, l[i]? = some x → mm[i]? = some p → MarkM w8 (fun g => w.heap.size + 4 ≤ g ∧ g < w8.heap.size ∧ vo.ownBlock ≠ some g) x p) (hml : mm.length = l.length)
    (hv : PartsM w8 (fun g => w.heap.size + 4 ≤ g ∧ g < w8.heap.size ∧ vo.ownBlock ≠ some g) v x.parts)
    (hd : Below w8.heap.size w8 w8') (hds : w8'.heap.size = w8.heap.size) (hm8 : MapAt w8' b IntKey mm) (hm9 : MapAt w9 b IntKey (mm ++ [(.int .i64 x.pt, .agg #[.int .i64 x.pt, .int .i64 x.cls, v])])) (hg9 : w8'.grownBy w9 (some b)) (hs9 : w9.heap.size = w8'.heap.size)
    (hl10 : LinesX w10 b6 (l ++ [x])) (hmx : ∃ K m m', MapAt w9 b6 K m ∧ MapAt w10 b6 K m') (hg10 : w9.grownBy w10 (some b6)) (hs10 : w10.heap.size = w9.heap.size)
    (hba : Below w10.heap.size w10 wa) (hg11 : wa.grownBy w11 vo.ownBlock) (hoa : wa.ownsRow (R + 1) 3 1 vo l.length (intCells (l.map MK.pt)))
    (ho11 : w11.ownsRow (R + 1) 3 1 v11 (l.length + 1) (intCells (l.map MK.pt) ++ [.int .i64 x.pt])) (hnew : ∀ g, v11.ownBlock = some g → vo.ownBlock = some g ∨ w8.heap.size ≤ g) : ULInvX w w11 b D b6 R Ls (l ++ [x]) n v11 := by
  have h1 := h.o1
  have h2 := h.o2
  have h3 := h.o3
  have h4 := h.o4
  have hR := h.R_lt
  have hog : ∀ g, vo.ownBlock = some g → R + 1 ≤ g := fun g hg => (hoa.lt g hg).1
  have hsa : w8.heap.size ≤ wa.heap.size := by have := hba.size; omega
  have hb9 : ∀ j, j < w8.heap.size → j ≠ b → w9.heap[j]? = w8.heap[j]? := fun j hj hne => (hg9.block j (by omega) (by simp [hne])).trans (hd.block j hj)
  have hb10 : ∀ j, j < w8.heap.size → j ≠ b → j ≠ b6 → w10.heap[j]? = w8.heap[j]? := fun j hj hne hne6 => (hg10.block j (by omega) (by simp [hne6])).trans (hb9 j hj hne)
  have hba' : ∀ j, j < w8.heap.size → wa.heap[j]? = w10.heap[j]? := fun j hj => hba.block j (by omega)
  have hb11 : ∀ j, j < w8.heap.size → j ≤ R → j ≠ b → j ≠ b6 → w11.heap[j]? = w8.heap[j]? := fun j hj hjR hne hne6 => (hg11.block j (by omega) (fun e => by have := hog j e.symm; omega)).trans ((hba' j hj).trans (hb10 j hj hne hne6))
  obtain ⟨K, m6, m6', hx9, hx10⟩ := hmx
  have hc : ∀ p : Addr, p.block < w8.heap.size → vo.ownBlock ≠ some p.block → w11.cell? p = w8.cell? p := fun p hp hne => by
    rw [World.cell?_of_block (hg11.block p.block (by omega) (fun e => hne e.symm)), World.cell?_of_block (hba' p.block hp), cell_map hg10 hx9 hx10 p (by omega), cell_map hg9 hm8 hm9 p (by omega)]
    exact hd.cell hp
  have hs11 := hg11.size
  have hx := h.x
  have hB11 : Below w.heap.size w w11 := by
    have hz := h.bl.size
    have a1 := h.bl.trans (hd.mono hz)
    have a2 := a1.grown hg9 (by omega) (fun j e => by cases e; omega)
    have a3 := a2.grown hg10 (by omega) (fun j e => by cases e; omega)
    have a4 := a3.trans (hba.mono (by omega))
    exact a4.grown hg11 (by omega) (fun j e => by have := hog j e; omega)
  have hQ : ∀ g, (w.heap.size + 4 ≤ g ∧ g < w8.heap.size ∧ vo.ownBlock ≠ some g) → (w.heap.size + 4 ≤ g ∧ g < w11.heap.size ∧ v11.ownBlock ≠ some g) := fun g hg => ⟨hg.1, by omega, fun e => by
    rcases hnew g e with h9 | h9
    · exact hg.2.2 h9
    · omega⟩
  have hb11b : w11.heap[b]? = w9.heap[b]? := (hg11.block b (by omega) (fun e => by have := hog b e.symm; omega)).trans ((hba' b (by omega)).trans (hg10.block b (by omega) (by simp; omega)))
  refine ⟨hB11, hx.keep (hb11 _ (by omega) (by omega) (by omega) (by omega)) (hb11 _ (by omega) (by omega) (by omega) (by omega)) (hb11 _ (by omega) (by omega) (by omega) (by omega)) (hb11 _ (by omega) (by omega) (by omega) (by omega)), h1, h2, h3, h4, ⟨(hb11 D (by omega) (by omega) (by omega) (by omega)).trans h.d.d, mm ++ [(.int .i64 x.pt, .agg #[.int .i64 x.pt, .int .i64 x.cls, v])], hm9.keep hb11b, by simp [hml], ?_⟩, ?_, (hb11 R hR (Nat.le_refl _) (by omega) (by omega)).trans h.r, ?_⟩
  · intro i y p hy hp
    by_cases hil : i < mm.length
    · rw [List.getElem?_append_left (by omega)] at hy
      rw [List.getElem?_append_left hil] at hp
      obtain ⟨f1, u, f2, f3⟩ := hme i y p hy hp
      exact ⟨f1, u, f2, f3.cells (fun q hq => hc q hq.2.1 hq.2.2) hQ⟩
    · have hi2 : i = mm.length := by
        have := (List.getElem?_eq_some_iff.1 hp).1
        simp at this
        omega
      subst hi2
      rw [List.getElem?_append_right (by omega)] at hy hp
      simp [← hml] at hy hp
      subst hy hp
      exact ⟨rfl, v, rfl, hv.cells (fun q hq => hc q hq.2.1 hq.2.2) hQ⟩
  · exact hl10.keep ((hg11.block b6 (by omega) (fun e => by have := hog b6 e.symm; omega)).trans (hba' b6 (by omega)))
  · rw [List.length_append, List.map_append]
    have e9 : intCells (l.map MK.pt ++ [x].map MK.pt) = intCells (l.map MK.pt) ++ [.int .i64 x.pt] := by simp [intCells]
    rw [e9]
    exact ho11
theorem uInv_start (w : World) (Ls : List (List UInt8)) : ULInvX w ((((((((w.alloc (.cells #[Value.pointer (some ⟨w.heap.size + 1 + 1 + 1 + 1 + 1, 0, none⟩)] 25)).alloc (.cells #[Value.int .i64 0] 32)).alloc (.cells #[Value.int .i64 0] 3)).alloc (.cells #[Value.int .i64 0] 3)).alloc (.map #[] 0)).alloc (.cells #[Value.map (some (w.heap.size + 1 + 1 + 1 + 1))] 107)).alloc (.map #[] 0)).alloc (.cells (Ls.map fun y => Value.string (txt y)).toArray 9)) (w.heap.size + 1 + 1 + 1 + 1) (w.heap.size + 1 + 1 + 1 + 1 + 1) (w.heap.size + 1 + 1 + 1 + 1 + 1 + 1) (w.heap.size + 1 + 1 + 1 + 1 + 1 + 1 + 1) Ls [] 0 (.slice none 0 0) := by
  have a0 := World.alloc_heap_new w (.cells #[Value.pointer (some ⟨w.heap.size + 1 + 1 + 1 + 1 + 1, 0, none⟩)] 25)
  have a1 := World.alloc_heap_new (w.alloc (.cells #[Value.pointer (some ⟨w.heap.size + 1 + 1 + 1 + 1 + 1, 0, none⟩)] 25)) (.cells #[Value.int .i64 0] 32)
  have a2 := World.alloc_heap_new ((w.alloc (.cells #[Value.pointer (some ⟨w.heap.size + 1 + 1 + 1 + 1 + 1, 0, none⟩)] 25)).alloc (.cells #[Value.int .i64 0] 32)) (.cells #[Value.int .i64 0] 3)
  have a3 := World.alloc_heap_new (((w.alloc (.cells #[Value.pointer (some ⟨w.heap.size + 1 + 1 + 1 + 1 + 1, 0, none⟩)] 25)).alloc (.cells #[Value.int .i64 0] 32)).alloc (.cells #[Value.int .i64 0] 3)) (.cells #[Value.int .i64 0] 3)
  have a4 := World.alloc_heap_new ((((w.alloc (.cells #[Value.pointer (some ⟨w.heap.size + 1 + 1 + 1 + 1 + 1, 0, none⟩)] 25)).alloc (.cells #[Value.int .i64 0] 32)).alloc (.cells #[Value.int .i64 0] 3)).alloc (.cells #[Value.int .i64 0] 3)) (.map #[] 0)
  have a5 := World.alloc_heap_new (((((w.alloc (.cells #[Value.pointer (some ⟨w.heap.size + 1 + 1 + 1 + 1 + 1, 0, none⟩)] 25)).alloc (.cells #[Value.int .i64 0] 32)).alloc (.cells #[Value.int .i64 0] 3)).alloc (.cells #[Value.int .i64 0] 3)).alloc (.map #[] 0)) (.cells #[Value.map (some (w.heap.size + 1 + 1 + 1 + 1))] 107)
  have a6 := World.alloc_heap_new ((((((w.alloc (.cells #[Value.pointer (some ⟨w.heap.size + 1 + 1 + 1 + 1 + 1, 0, none⟩)] 25)).alloc (.cells #[Value.int .i64 0] 32)).alloc (.cells #[Value.int .i64 0] 3)).alloc (.cells #[Value.int .i64 0] 3)).alloc (.map #[] 0)).alloc (.cells #[Value.map (some (w.heap.size + 1 + 1 + 1 + 1))] 107)) (.map #[] 0)
  have a7 := World.alloc_heap_new (((((((w.alloc (.cells #[Value.pointer (some ⟨w.heap.size + 1 + 1 + 1 + 1 + 1, 0, none⟩)] 25)).alloc (.cells #[Value.int .i64 0] 32)).alloc (.cells #[Value.int .i64 0] 3)).alloc (.cells #[Value.int .i64 0] 3)).alloc (.map #[] 0)).alloc (.cells #[Value.map (some (w.heap.size + 1 + 1 + 1 + 1))] 107)).alloc (.map #[] 0)) (.cells (Ls.map fun y => Value.string (txt y)).toArray 9)
  simp only [World.size_alloc] at a0 a1 a2 a3 a4 a5 a6 a7
  have hu : ∀ (k : Nat) (o : Obj) (W : World), k < W.heap.size → (W.alloc o).heap[k]? = W.heap[k]? := fun k o W h => Below.heap_alloc W o k h
  have c0 : ((((((((w.alloc (.cells #[Value.pointer (some ⟨w.heap.size + 1 + 1 + 1 + 1 + 1, 0, none⟩)] 25)).alloc (.cells #[Value.int .i64 0] 32)).alloc (.cells #[Value.int .i64 0] 3)).alloc (.cells #[Value.int .i64 0] 3)).alloc (.map #[] 0)).alloc (.cells #[Value.map (some (w.heap.size + 1 + 1 + 1 + 1))] 107)).alloc (.map #[] 0)).alloc (.cells (Ls.map fun y => Value.string (txt y)).toArray 9)).heap[w.heap.size]? = (w.alloc (.cells #[Value.pointer (some ⟨w.heap.size + 1 + 1 + 1 + 1 + 1, 0, none⟩)] 25)).heap[w.heap.size]? := by rw [hu (w.heap.size) _ _ (by simp only [World.size_alloc]; omega)]; rw [hu (w.heap.size) _ _ (by simp only [World.size_alloc]; omega)]; rw [hu (w.heap.size) _ _ (by simp only [World.size_alloc]; omega)]; rw [hu (w.heap.size) _ _ (by simp only [World.size_alloc]; omega)]; rw [hu (w.heap.size) _ _ (by simp only [World.size_alloc]; omega)]; rw [hu (w.heap.size) _ _ (by simp only [World.size_alloc]; omega)]; rw [hu (w.heap.size) _ _ (by simp only [World.size_alloc]; omega)]
  have c1 : ((((((((w.alloc (.cells #[Value.pointer (some ⟨w.heap.size + 1 + 1 + 1 + 1 + 1, 0, none⟩)] 25)).alloc (.cells #[Value.int .i64 0] 32)).alloc (.cells #[Value.int .i64 0] 3)).alloc (.cells #[Value.int .i64 0] 3)).alloc (.map #[] 0)).alloc (.cells #[Value.map (some (w.heap.size + 1 + 1 + 1 + 1))] 107)).alloc (.map #[] 0)).alloc (.cells (Ls.map fun y => Value.string (txt y)).toArray 9)).heap[w.heap.size + 1]? = ((w.alloc (.cells #[Value.pointer (some ⟨w.heap.size + 1 + 1 + 1 + 1 + 1, 0, none⟩)] 25)).alloc (.cells #[Value.int .i64 0] 32)).heap[w.heap.size + 1]? := by rw [hu (w.heap.size + 1) _ _ (by simp only [World.size_alloc]; omega)]; rw [hu (w.heap.size + 1) _ _ (by simp only [World.size_alloc]; omega)]; rw [hu (w.heap.size + 1) _ _ (by simp only [World.size_alloc]; omega)]; rw [hu (w.heap.size + 1) _ _ (by simp only [World.size_alloc]; omega)]; rw [hu (w.heap.size + 1) _ _ (by simp only [World.size_alloc]; omega)]; rw [hu (w.heap.size + 1) _ _ (by simp only [World.size_alloc]; omega)]
  have c2 : ((((((((w.alloc (.cells #[Value.pointer (some ⟨w.heap.size + 1 + 1 + 1 + 1 + 1, 0, none⟩)] 25)).alloc (.cells #[Value.int .i64 0] 32)).alloc (.cells #[Value.int .i64 0] 3)).alloc (.cells #[Value.int .i64 0] 3)).alloc (.map #[] 0)).alloc (.cells #[Value.map (some (w.heap.size + 1 + 1 + 1 + 1))] 107)).alloc (.map #[] 0)).alloc (.cells (Ls.map fun y => Value.string (txt y)).toArray 9)).heap[w.heap.size + 1 + 1]? = (((w.alloc (.cells #[Value.pointer (some ⟨w.heap.size + 1 + 1 + 1 + 1 + 1, 0, none⟩)] 25)).alloc (.cells #[Value.int .i64 0] 32)).alloc (.cells #[Value.int .i64 0] 3)).heap[w.heap.size + 1 + 1]? := by rw [hu (w.heap.size + 1 + 1) _ _ (by simp only [World.size_alloc]; omega)]; rw [hu (w.heap.size + 1 + 1) _ _ (by simp only [World.size_alloc]; omega)]; rw [hu (w.heap.size + 1 + 1) _ _ (by simp only [World.size_alloc]; omega)]; rw [hu (w.heap.size + 1 + 1) _ _ (by simp only [World.size_alloc]; omega)]; rw [hu (w.heap.size + 1 + 1) _ _ (by simp only [World.size_alloc]; omega)]
  have c3 : ((((((((w.alloc (.cells #[Value.pointer (some ⟨w.heap.size + 1 + 1 + 1 + 1 + 1, 0, none⟩)] 25)).alloc (.cells #[Value.int .i64 0] 32)).alloc (.cells #[Value.int .i64 0] 3)).alloc (.cells #[Value.int .i64 0] 3)).alloc (.map #[] 0)).alloc (.cells #[Value.map (some (w.heap.size + 1 + 1 + 1 + 1))] 107)).alloc (.map #[] 0)).alloc (.cells (Ls.map fun y => Value.string (txt y)).toArray 9)).heap[w.heap.size + 1 + 1 + 1]? = ((((w.alloc (.cells #[Value.pointer (some ⟨w.heap.size + 1 + 1 + 1 + 1 + 1, 0, none⟩)] 25)).alloc (.cells #[Value.int .i64 0] 32)).alloc (.cells #[Value.int .i64 0] 3)).alloc (.cells #[Value.int .i64 0] 3)).heap[w.heap.size + 1 + 1 + 1]? := by rw [hu (w.heap.size + 1 + 1 + 1) _ _ (by simp only [World.size_alloc]; omega)]; rw [hu (w.heap.size + 1 + 1 + 1) _ _ (by simp only [World.size_alloc]; omega)]; rw [hu (w.heap.size + 1 + 1 + 1) _ _ (by simp only [World.size_alloc]; omega)]; rw [hu (w.heap.size + 1 + 1 + 1) _ _ (by simp only [World.size_alloc]; omega)]
  have c4 : ((((((((w.alloc (.cells #[Value.pointer (some ⟨w.heap.size + 1 + 1 + 1 + 1 + 1, 0, none⟩)] 25)).alloc (.cells #[Value.int .i64 0] 32)).alloc (.cells #[Value.int .i64 0] 3)).alloc (.cells #[Value.int .i64 0] 3)).alloc (.map #[] 0)).alloc (.cells #[Value.map (some (w.heap.size + 1 + 1 + 1 + 1))] 107)).alloc (.map #[] 0)).alloc (.cells (Ls.map fun y => Value.string (txt y)).toArray 9)).heap[w.heap.size + 1 + 1 + 1 + 1]? = (((((w.alloc (.cells #[Value.pointer (some ⟨w.heap.size + 1 + 1 + 1 + 1 + 1, 0, none⟩)] 25)).alloc (.cells #[Value.int .i64 0] 32)).alloc (.cells #[Value.int .i64 0] 3)).alloc (.cells #[Value.int .i64 0] 3)).alloc (.map #[] 0)).heap[w.heap.size + 1 + 1 + 1 + 1]? := by rw [hu (w.heap.size + 1 + 1 + 1 + 1) _ _ (by simp only [World.size_alloc]; omega)]; rw [hu (w.heap.size + 1 + 1 + 1 + 1) _ _ (by simp only [World.size_alloc]; omega)]; rw [hu (w.heap.size + 1 + 1 + 1 + 1) _ _ (by simp only [World.size_alloc]; omega)]
  have c5 : ((((((((w.alloc (.cells #[Value.pointer (some ⟨w.heap.size + 1 + 1 + 1 + 1 + 1, 0, none⟩)] 25)).alloc (.cells #[Value.int .i64 0] 32)).alloc (.cells #[Value.int .i64 0] 3)).alloc (.cells #[Value.int .i64 0] 3)).alloc (.map #[] 0)).alloc (.cells #[Value.map (some (w.heap.size + 1 + 1 + 1 + 1))] 107)).alloc (.map #[] 0)).alloc (.cells (Ls.map fun y => Value.string (txt y)).toArray 9)).heap[w.heap.size + 1 + 1 + 1 + 1 + 1]? = ((((((w.alloc (.cells #[Value.pointer (some ⟨w.heap.size + 1 + 1 + 1 + 1 + 1, 0, none⟩)] 25)).alloc (.cells #[Value.int .i64 0] 32)).alloc (.cells #[Value.int .i64 0] 3)).alloc (.cells #[Value.int .i64 0] 3)).alloc (.map #[] 0)).alloc (.cells #[Value.map (some (w.heap.size + 1 + 1 + 1 + 1))] 107)).heap[w.heap.size + 1 + 1 + 1 + 1 + 1]? := by rw [hu (w.heap.size + 1 + 1 + 1 + 1 + 1) _ _ (by simp only [World.size_alloc]; omega)]; rw [hu (w.heap.size + 1 + 1 + 1 + 1 + 1) _ _ (by simp only [World.size_alloc]; omega)]
  have c6 : ((((((((w.alloc (.cells #[Value.pointer (some ⟨w.heap.size + 1 + 1 + 1 + 1 + 1, 0, none⟩)] 25)).alloc (.cells #[Value.int .i64 0] 32)).alloc (.cells #[Value.int .i64 0] 3)).alloc (.cells #[Value.int .i64 0] 3)).alloc (.map #[] 0)).alloc (.cells #[Value.map (some (w.heap.size + 1 + 1 + 1 + 1))] 107)).alloc (.map #[] 0)).alloc (.cells (Ls.map fun y => Value.string (txt y)).toArray 9)).heap[w.heap.size + 1 + 1 + 1 + 1 + 1 + 1]? = (((((((w.alloc (.cells #[Value.pointer (some ⟨w.heap.size + 1 + 1 + 1 + 1 + 1, 0, none⟩)] 25)).alloc (.cells #[Value.int .i64 0] 32)).alloc (.cells #[Value.int .i64 0] 3)).alloc (.cells #[Value.int .i64 0] 3)).alloc (.map #[] 0)).alloc (.cells #[Value.map (some (w.heap.size + 1 + 1 + 1 + 1))] 107)).alloc (.map #[] 0)).heap[w.heap.size + 1 + 1 + 1 + 1 + 1 + 1]? := by rw [hu (w.heap.size + 1 + 1 + 1 + 1 + 1 + 1) _ _ (by simp only [World.size_alloc]; omega)]
  have c7 := a7
  refine ⟨(((((((((Below.refl _ w).alloc (by first | exact Nat.le_refl _ | (simp only [World.size_alloc]; omega)) _).alloc (by first | exact Nat.le_refl _ | (simp only [World.size_alloc]; omega)) _).alloc (by first | exact Nat.le_refl _ | (simp only [World.size_alloc]; omega)) _).alloc (by first | exact Nat.le_refl _ | (simp only [World.size_alloc]; omega)) _).alloc (by first | exact Nat.le_refl _ | (simp only [World.size_alloc]; omega)) _).alloc (by first | exact Nat.le_refl _ | (simp only [World.size_alloc]; omega)) _).alloc (by first | exact Nat.le_refl _ | (simp only [World.size_alloc]; omega)) _).alloc (by first | exact Nat.le_refl _ | (simp only [World.size_alloc]; omega)) _), ⟨c0.trans a0, c1.trans a1, c2.trans a2, c3.trans a3⟩, by omega, by omega, by omega, by omega, ⟨c5.trans a5, [], ?_, rfl, by simp⟩, ⟨[], ?_, rfl, by simp⟩, a7, World.ownsRow_nil _ _ _ _⟩
  · refine MapAt.keep (w := (((((w.alloc (.cells #[Value.pointer (some ⟨w.heap.size + 1 + 1 + 1 + 1 + 1, 0, none⟩)] 25)).alloc (.cells #[Value.int .i64 0] 32)).alloc (.cells #[Value.int .i64 0] 3)).alloc (.cells #[Value.int .i64 0] 3)).alloc (.map #[] 0))) ?_ c4
    have h9 := MapAt.made ((((w.alloc (.cells #[Value.pointer (some ⟨w.heap.size + 1 + 1 + 1 + 1 + 1, 0, none⟩)] 25)).alloc (.cells #[Value.int .i64 0] 32)).alloc (.cells #[Value.int .i64 0] 3)).alloc (.cells #[Value.int .i64 0] 3)) IntKey
    simp only [World.size_alloc] at h9
    exact h9
  · refine MapAt.keep (w := (((((((w.alloc (.cells #[Value.pointer (some ⟨w.heap.size + 1 + 1 + 1 + 1 + 1, 0, none⟩)] 25)).alloc (.cells #[Value.int .i64 0] 32)).alloc (.cells #[Value.int .i64 0] 3)).alloc (.cells #[Value.int .i64 0] 3)).alloc (.map #[] 0)).alloc (.cells #[Value.map (some (w.heap.size + 1 + 1 + 1 + 1))] 107)).alloc (.map #[] 0))) ?_ c6
    have h9 := MapAt.made ((((((w.alloc (.cells #[Value.pointer (some ⟨w.heap.size + 1 + 1 + 1 + 1 + 1, 0, none⟩)] 25)).alloc (.cells #[Value.int .i64 0] 32)).alloc (.cells #[Value.int .i64 0] 3)).alloc (.cells #[Value.int .i64 0] 3)).alloc (.map #[] 0)).alloc (.cells #[Value.map (some (w.heap.size + 1 + 1 + 1 + 1))] 107)) IntKey
    simp only [World.size_alloc] at h9
    exact h9
theorem ULInvX.full {w wr : World} {b D b6 R : Nat} {Ls : List (List UInt8)} {l : List MK} {n : Int} {vo : Value} (h : ULInvX w wr b D b6 R Ls l n vo) : DataM wr (fun g => w.heap.size + 4 ≤ g ∧ g < wr.heap.size ∧ vo.ownBlock ≠ some g) D b l ∧ LinesX wr b6 l ∧ wr.ownsRow (R + 1) 3 1 vo l.length (intCells (l.map MK.pt)) := ⟨h.d, h.ln, h.o⟩
theorem ULInvX.knew {f : Int → Nat} {w wr w' : World} {b D b6 R M : Nat} {Ls : List (List UInt8)} {l : List MK} {n : Int} {vo : Value} (h : ULInvX w wr b D b6 R Ls l n vo) (hk : KnownX f wr M) (h' : KnewX f wr w' M) (hM : R < M) (hvo : vo.ownBlock ≠ some M) : ULInvX w w' b D b6 R Ls l n vo := by
  have h1 := h.o1
  have h2 := h.o2
  have h3 := h.o3
  have h4 := h.o4
  have hR := h.R_lt
  have hx := h.x
  have hb : ∀ j, j ≤ R → w'.heap[j]? = wr.heap[j]? := fun j hj => h'.g.block j (by omega) (by simp; omega)
  have hd := h'.data hk h.d (by omega) (by omega) (fun g hg => hg.2.1)
  exact ⟨h.bl.grown h'.g h.bl.size (fun j e => by cases e; omega), hx.keep (hb _ (by omega)) (hb _ (by omega)) (hb _ (by omega)) (hb _ (by omega)), h1, h2, h3, h4, hd.keep rfl rfl (fun _ _ => rfl) (fun g hg => ⟨hg.1, by have := h'.z; omega, hg.2.2⟩), h.ln.keep (hb _ (by omega)), (hb R (Nat.le_refl _)).trans h.r, h.o.kept h'.g (Or.inr hvo)⟩
theorem order_cell {w : World} {base : Nat} {A : Option Addr} {c : Nat} {l : List MK} (h : w.ownsRow base 3 1 (.slice A l.length c) l.length (intCells (l.map MK.pt))) {j : Nat} (hj : j < l.length) : ∃ g, A = some ⟨g, 0, none⟩ ∧ w.cell? ⟨g, j, none⟩ = some (.int .i64 l[j].pt) := by
  rcases h.2 with ⟨_, e⟩ | ⟨g, cap, cur, e, _, hg, _, _, _, ht⟩
  · omega
  · injection e with e1 _ _
    refine ⟨g, e1, ?_⟩
    simp only [World.cell?, hg]
    have h7 := congrArg (fun z => z[j]?) ht
    simp only [List.getElem?_take] at h7
    rw [if_pos (by omega)] at h7
    rw [← Array.getElem?_toList, h7]
    simp [intCells, hj]
theorem nodup_snoc {l : List MK} {x : MK} (h : (l.map MK.pt).Nodup) (hx : x.pt ∉ l.map MK.pt) : (l.map MK.pt ++ [x].map MK.pt).Nodup := by
  rw [List.nodup_append]
  refine ⟨h, by simp, fun a ha b hb => ?_⟩
  simp at hb
  subst hb
  intro e
  subst e
  exact hx ha
theorem MapAt.one {w : World} {b : Nat} {K : Value → Prop} {l : List (Value × Value)} (h : MapAt w b K l) {k u u' : Value} (hu : (k, u) ∈ l) (hu' : (k, u') ∈ l) : u = u' := by
  have hn := h.nodup
  obtain ⟨i, hi, e⟩ := List.getElem_of_mem hu
  obtain ⟨j, hj, e'⟩ := List.getElem_of_mem hu'
  have hij : i = j := (List.getElem_inj (h₀ := by simpa using hi) (h₁ := by simpa using hj) hn).1 (by simp [e, e'])
  subst hij
  rw [e] at e'
  exact (Prod.mk.inj e').2
set_option maxRecDepth 100000 in
set_option maxHeartbeats 8000000 in
theorem uload_any (S0 : List UInt8) (hsz0 : S0.length ≤ 65536) (m : Int) (w : World) (HX : UHere w) (HI : ItoaHere w) (HD : DigHere w) (HE : ErrHere w) (hm : w.cell? ⟨lays146_ren.g 1, 0, none⟩ = some (.int .i64 m)) :
    Calls Tryz.prog 27 #[.string (txt S0)] w (ULoadAny w) := by
  have hmk : ∀ (t : TypeId) (w : World), (Instr.makeMap t none).run Tryz.prog w = .ok (.map (some w.heap.size)) (w.alloc (.map #[] 0)) := fun t w => rfl
  have hmf : ∀ (fn : Fn) (first cap : Array Value) (w : World), (Instr.makeFunc fn first cap).run Tryz.prog w = .ok (.func fn first cap) w := fun _ _ _ _ => rfl
  have HX0 := Lib.hid HX
  have HI0 := Lib.hid HI
  have HDg0 := Lib.hid HD
  have HE0 := Lib.hid HE
  have HM := Lib.hid hm
  have hM0 : lays146_ren.g 1 < w.heap.size := Lib.lt_of_cell hm
  obtain ⟨Ls, hLs, h10, rfl⟩ := cut_at 10 S0
  have hll : Lib.lens Ls ≤ 65536 := by have := join_lens Ls [10]; omega
  have hln : Ls.length ≤ 65537 := by
    have h9 := join_lensN Ls [10]
    simp only [List.length_singleton, Nat.mul_one] at h9
    omega
  have HLL := Lib.hid hll
  have HS := Lib.hid (fun W hW => splitBy_ok 10 Ls hLs h10 (by rw [txt_size]; omega) m W hW)
  have HB0 := Lib.hid (Below.refl w.heap.size w)
  have hsz1 : ¬ 65536 < ((txt (Lib.join Ls [10])).size : Int) := by rw [txt_size]; omega
  clear HX HI HD HE hm hLs h10 hsz0 hll
  generalize txt (Lib.join Ls [10]) = S at HS hsz1 ⊢
  go_enter_defers Tryz.func27, Tryz.ntmps27
  go_wp2_with fail
  have HB7 := Lib.hid (((((((HB0.out.alloc (by first | exact Nat.le_refl _ | (simp only [World.size_alloc]; omega)) (.cells #[Value.pointer (some ⟨w.heap.size + 1 + 1 + 1 + 1 + 1, 0, none⟩)] 25)).alloc (by first | exact Nat.le_refl _ | (simp only [World.size_alloc]; omega)) (.cells #[Value.int .i64 0] 32)).alloc (by first | exact Nat.le_refl _ | (simp only [World.size_alloc]; omega)) (.cells #[Value.int .i64 0] 3)).alloc (by first | exact Nat.le_refl _ | (simp only [World.size_alloc]; omega)) (.cells #[Value.int .i64 0] 3)).alloc (by first | exact Nat.le_refl _ | (simp only [World.size_alloc]; omega)) (.map #[] 0)).alloc (by first | exact Nat.le_refl _ | (simp only [World.size_alloc]; omega)) (.cells #[Value.map (some (w.heap.size + 1 + 1 + 1 + 1))] 107)).alloc (by first | exact Nat.le_refl _ | (simp only [World.size_alloc]; omega)) (.map #[] 0))
  refine (HS.out _ ((HB7.out.cell (p := ⟨lays146_ren.g 1, 0, none⟩) hM0).trans HM.out)).mono ?_
  rintro e w1 ⟨rfl, rfl⟩
  go_wp2_with fail
  have HI1 := Lib.hid (uInv_start w Ls)
  have HL := Lib.hid (show ∀ k (hk : k < Ls.length), ((Ls.map fun y => Value.string (txt y))).toArray[k]? = some (.string (txt Ls[k])) from fun k hk => by rw [List.getElem?_toArray, List.getElem?_map, List.getElem?_eq_getElem hk]; rfl)
  generalize hR : w.heap.size + 1 + 1 + 1 + 1 + 1 + 1 + 1 = R at HI1 ⊢
  generalize hb6 : w.heap.size + 1 + 1 + 1 + 1 + 1 + 1 = b6 at HI1 HB7 ⊢
  generalize hD : w.heap.size + 1 + 1 + 1 + 1 + 1 = D at HI1 HB7 ⊢
  generalize hb4 : w.heap.size + 1 + 1 + 1 + 1 = b at HI1 HB7 ⊢
  clear HB7 HB0 HS hR hb6 hD hb4
  go_loopw [7, 29] (fun t7 t29 wr => ∃ (k : Nat) (l : List MK), t29 = .int .i64 k ∧ k ≤ Ls.length ∧ Hid (ULInvX w wr b D b6 R Ls l (k : Int) t7) ∧ Hid (Scan (Ls.take k) l ∧ (l.map MK.pt).Nodup ∧ l.length ≤ 4096)) (fun _ t29 _ => Ls.length - (intOf t29).toNat)
  case atStart => exact ⟨0, [], rfl, by omega, HI1, Lib.hid ⟨Scan.nil, by simp, by simp⟩⟩
  case round =>
    clear HI1
    obtain ⟨k, l, rfl, hk, HIN, HSC⟩ := hrel
    have ho1 := HIN.out.o1
    have ho2 := HIN.out.o2
    have ho3 := HIN.out.o3
    have ho4 := HIN.out.o4
    by_cases hkl : k < Ls.length
    · have hc : wr.cell? ⟨R, k, none⟩ = some (.string (txt Ls[k])) := by simp only [World.cell?, HIN.out.r]; exact HL.out k hkl
      have hca : wr.cell? ⟨w.heap.size + 1 + 1 + 1, 0, none⟩ = some (.int .i64 k) := by simp [World.cell?, HIN.out.x.d]
      have hfa : wr.frozen? ⟨w.heap.size + 1 + 1 + 1, 0, none⟩ = false := by simp [World.frozen?, HIN.out.x.d]
      have HI2 := Lib.hid (HIN.out.at_ ((k : Int) + 1))
      have hkI : (k : Int) ≤ 65537 := by omega
      have HTk := Lib.hid (show Ls.take (k + 1) = Ls.take k ++ [Ls[k]] from List.take_succ_eq_append_getElem hkl)
      have HLt := Lib.hid (show (txt Ls[k]).size ≤ 65536 from by
        rw [txt_size]
        have h1 := HLL.out
        have h2 : Ls[k].length ≤ Lib.lens Ls := by
          have h3 := lens_take Ls (k + 1)
          have h4 : Lib.lens (Ls.take k ++ [Ls[k]]) = Lib.lens (Ls.take k) + Ls[k].length := lens_app _ _
          rw [HTk.out, h4] at h3
          omega
        omega)
      generalize Ls[k] = s at hc HTk HLt
      cases s with
      | nil =>
        have HI3 := Lib.hid (show ULInvX w (wr.setCell ⟨w.heap.size + 1 + 1 + 1, 0, none⟩ (.int .i64 ((k : Int) + 1))) b D b6 R Ls l ((k + 1 : Nat) : Int) u7 from HI2.out)
        have HS3 := Lib.hid (show Scan (Ls.take (k + 1)) l ∧ (l.map MK.pt).Nodup ∧ l.length ≤ 4096 from ⟨by rw [HTk.out]; exact HSC.out.1.skip (.inl rfl), HSC.out.2⟩)
        have hem : (txt ([] : List UInt8)).toList.isEmpty = true := by
          rw [← decide_eq_emptyBytes]; exact decide_eq_true rfl
        generalize txt ([] : List UInt8) = s0 at hc hem
        clear HIN HI2 HSC
        go_wp2_with fail
        go_roundw
        case rel => exact ⟨k + 1, l, by go_num, by omega, HI3, HS3⟩
        case measure => simp [intOf]; omega
      | cons c0 r0 =>
        have hem : (txt (c0 :: r0)).toList.isEmpty = false := by
          rw [← decide_eq_emptyBytes]
          exact decide_eq_false (fun h => by have := congrArg ByteArray.size h; rw [txt_size] at this; simp at this)
        have hs1 : 0 < (txt (c0 :: r0)).size := by rw [txt_size]; simp
        have hfst : ∀ h : 0 < (txt (c0 :: r0)).size, (txt (c0 :: r0))[0]'h = c0 := fun h => rfl
        by_cases hc35 : c0 = 35
        · have HI3 := Lib.hid (show ULInvX w (wr.setCell ⟨w.heap.size + 1 + 1 + 1, 0, none⟩ (.int .i64 ((k : Int) + 1))) b D b6 R Ls l ((k + 1 : Nat) : Int) u7 from HI2.out)
          have HS3 := Lib.hid (show Scan (Ls.take (k + 1)) l ∧ (l.map MK.pt).Nodup ∧ l.length ≤ 4096 from ⟨by rw [HTk.out]; exact HSC.out.1.skip (.inr (by rw [hc35]; rfl)), HSC.out.2⟩)
          have hb0 : ∀ h : 0 < (txt (c0 :: r0)).size, ((((txt (c0 :: r0))[0]'h).toNat : Int) == 35) = true := by
            intro h
            rw [hfst h, hc35]; rfl
          clear HIN HI2 HSC hfst
          generalize txt (c0 :: r0) = s0 at hc hem hs1 hb0
          have hb1 : (((s0[0]'hs1).toNat : Int) == 35) = true := hb0 hs1
          go_wp2_with fail
          go_roundw
          case rel => exact ⟨k + 1, l, by go_num, by omega, HI3, HS3⟩
          case measure => simp [intOf]; omega
        · have hb0 : ∀ h : 0 < (txt (c0 :: r0)).size, ((((txt (c0 :: r0))[0]'h).toNat : Int) == 35) = false := by
            intro h
            rw [beq_eq_false_iff_ne, hfst h]
            intro e
            exact hc35 (UInt8.toNat_inj.1 (show c0.toNat = 35 by omega))
          clear hfst
          by_cases hmk1 : ∃ x : MK, x.may = true ∧ c0 :: r0 = x.text
          · obtain ⟨x, hxm, hxt⟩ := hmk1
            have HE := Lib.hid (fun W (hb : Below w.heap.size w W) => mark_ok x hxm (by rw [← hxt]; have := HLt.out; omega) m W (HX0.out.on hb) (HI0.out.on hb) ((hb.cell hM0).trans HM.out))
            rw [hxt] at hc hem hs1 hb0 HLt
            have HXT := Lib.hid (show Scan (Ls.take (k + 1)) (l ++ [x]) from by rw [HTk.out, hxt]; exact HSC.out.1.mark hxm)
            clear HLt HTk hxt
            generalize txt x.text = s0 at hc hem hs1 hb0 HE
            clear hc35 HIN hxm
            go_upto_region 12 with fail
            generalize wr.setCell ⟨w.heap.size + 1 + 1 + 1, 0, none⟩ (.int .i64 ((k : Int) + 1)) = w2 at HI2 ⊢
            clear hc hca hfa
            go_wp2_with fail
            refine (HE.out w2 HI2.out.bl).mono ?_
            rintro e w5 ⟨v, rfl, hb5, hov⟩
            obtain ⟨A0, c0', rfl⟩ : ∃ A c, v = .slice A x.parts.length c := by
              rcases hov.2 with ⟨e, h0⟩ | ⟨g, cap, cur, e, _⟩
              · exact ⟨none, 0, by rw [e, h0]⟩
              · exact ⟨_, cap, e⟩
            have hI5 := HI2.out.below hb5
            have hpm5 := own_parts hov
            have hRlt := HI2.out.R_lt
            have hz25 := hb5.size
            have hog : ∀ g, u7.ownBlock = some g → g < w2.heap.size := fun g hg => (HI2.out.o.lt g hg).2
            have hb6' : Below w5.heap.size w5 (w5.alloc (.cells #[.int .i64 x.pt, .int .i64 x.cls, .slice A0 x.parts.length c0'] 75)) := (Below.refl _ w5).alloc (Nat.le_refl _) _
            have HI6 := Lib.hid (hI5.below hb6')
            have HPM := Lib.hid (show PartsM (w5.alloc (.cells #[.int .i64 x.pt, .int .i64 x.cls, .slice A0 x.parts.length c0'] 75)) (fun g => w.heap.size + 4 ≤ g ∧ g < (w5.alloc (.cells #[.int .i64 x.pt, .int .i64 x.cls, .slice A0 x.parts.length c0'] 75)).heap.size ∧ u7.ownBlock ≠ some g) (.slice A0 x.parts.length c0') x.parts from hpm5.cells (fun p hp => hb6'.cell hp.2.1) (fun g hg => ⟨by have := hg.1; omega, by have := hg.2.1; simp; omega, fun e => by have := hog g e; have := hg.1; omega⟩))
            have hX6 := World.alloc_heap_new w5 (.cells #[.int .i64 x.pt, .int .i64 x.cls, .slice A0 x.parts.length c0'] 75)
            go_upto_region 14 with fail
            generalize hXe : w5.heap.size = X at hX6 ⊢
            generalize w5.alloc (.cells #[.int .i64 x.pt, .int .i64 x.cls, .slice A0 x.parts.length c0'] 75) = w6 at HI6 HPM hX6 ⊢
            have hXlt : X < w6.heap.size := (Array.getElem?_eq_some_iff.1 hX6).1
            have hRX : R < X := by have := hI5.R_lt; omega
            clear hov hI5 hpm5 hb5 hb6' HI2 HE hXe
            by_cases hfr : x.pt ∈ l.map MK.pt
            · obtain ⟨mm, hma, hml, hme⟩ := HI6.out.d.m
              have HX6 := Lib.hid hX6
              obtain ⟨c7, A7, n7, k7, HK⟩ : ∃ (c7 : Int) (A7 : Option Addr) (n7 k7 : Nat), Hid (∀ W, Below w6.heap.size w6 W → W.cell? ⟨w.heap.size, 0, none⟩ = some (.pointer (some ⟨D, 0, none⟩)) ∧ W.cell? ⟨D, 0, none⟩ = some (.map (some b)) ∧ W.cell? ⟨X, 0, none⟩ = some (.int .i64 x.pt) ∧ (Instr.lookup 105 (.map (some b)) (.int .i64 x.pt) true).run Tryz.prog W = .ok (.tuple #[.agg #[.int .i64 x.pt, .int .i64 c7, .slice A7 n7 k7], .bool true]) W) := by
                have hlk : ∃ u, (.int .i64 x.pt, u) ∈ mm ∧ ∀ W, Below w6.heap.size w6 W → (Instr.lookup 105 (.map (some b)) (.int .i64 x.pt) true).run Tryz.prog W = .ok (.tuple #[u, .bool true]) W := by
                  rcases hma.run_look (P := Tryz.prog) (keyOk_int Tryz.underlying3) Tryz.underlying105 (Tryz.zeroValue75 w6) (key := .int .i64 x.pt) ⟨x.pt, rfl⟩ true with ⟨_, hno⟩ | ⟨u, _, hu⟩
                  · exfalso
                    obtain ⟨x', hx', e'⟩ := List.mem_map.1 hfr
                    obtain ⟨i, hi, rfl⟩ := List.getElem_of_mem hx'
                    have h9 := hme i l[i] (mm[i]'(by omega)) (List.getElem?_eq_getElem hi) (List.getElem?_eq_getElem (by omega))
                    refine hno (mm[i]'(by omega)).2 ?_
                    have e1 : (mm[i]'(by omega)) = (Value.int .i64 x.pt, (mm[i]'(by omega)).2) := by rw [← e', ← h9.1]
                    rw [← e1]
                    exact List.getElem_mem _
                  · refine ⟨u, hu, fun W hb => ?_⟩
                    rcases (hma.keep (w' := W) (hb.block b hma.lt)).run_look (P := Tryz.prog) (keyOk_int Tryz.underlying3) Tryz.underlying105 (Tryz.zeroValue75 W) (key := .int .i64 x.pt) ⟨x.pt, rfl⟩ true with ⟨_, hno⟩ | ⟨u', hr', hu'⟩
                    · exact absurd hu (hno u)
                    · have e9 : u' = u := MapAt.one hma hu' hu
                      rw [← e9]; exact hr'
                obtain ⟨u, hu, hlk⟩ := hlk
                obtain ⟨i, hi, e⟩ := List.getElem_of_mem hu
                obtain ⟨e1, v, e2, e3⟩ := hme i l[i] mm[i] (List.getElem?_eq_getElem (by omega)) (List.getElem?_eq_getElem hi)
                rw [e] at e1 e2
                simp only at e1 e2
                have ep : x.pt = l[i].pt := by simpa using e1
                obtain ⟨A7, n7, k7, rfl⟩ : ∃ A n k, v = .slice A n k := by
                  rcases e3 with ⟨rfl, _⟩ | ⟨g, c, rfl, _⟩
                  · exact ⟨_, _, _, rfl⟩
                  · exact ⟨_, _, _, rfl⟩
                refine ⟨l[i].cls, A7, n7, k7, Lib.hid fun W hb => ?_⟩
                have hIW := HI6.out.below hb
                have hXW := (hb.block X hXlt).trans HX6.out
                exact ⟨by simp [World.cell?, hIW.x.a], by simp [World.cell?, hIW.d.d], by simp [World.cell?, hXW], by rw [hlk W hb, e2, ep]⟩
              clear hma hml hme hfr hX6
              go_region_held3 (fun W => W.cell? ⟨w.heap.size, 0, none⟩ = some (.pointer (some ⟨D, 0, none⟩)) ∧ W.cell? ⟨D, 0, none⟩ = some (.map (some b)) ∧ W.cell? ⟨X, 0, none⟩ = some (.int .i64 x.pt) ∧ (Instr.lookup 105 (.map (some b)) (.int .i64 x.pt) true).run Tryz.prog W = .ok (.tuple #[.agg #[.int .i64 x.pt, .int .i64 c7, .slice A7 n7 k7], .bool true]) W)
                (first | exact HK.out _ (Below.refl _ _).drew | exact HK.out _ ((Below.refl _ _).drew.alloc (Nat.le_refl _) _) | exact HK.out _ (((((Below.refl _ _).drew.alloc (Nat.le_refl _) _).setCell (Nat.le_refl w6.heap.size) _).setCell (Nat.le_refl w6.heap.size) _).setCell (Nat.le_refl w6.heap.size) _) | exact HK.out _ (((((Below.refl _ _).alloc (Nat.le_refl _) _).setCell (Nat.le_refl w6.heap.size) _).setCell (Nat.le_refl w6.heap.size) _).setCell (Nat.le_refl w6.heap.size) _).drew)
                (first | fail)
              all_goals (
              have hb7 : Below w6.heap.size w6 (w6.alloc (.cells #[Value.int .i64 x.pt, Value.int .i64 c7, Value.slice A7 n7 k7] 75)).drew := ((Below.refl _ w6).alloc (Nat.le_refl _) _).drew
              generalize (w6.alloc (.cells #[Value.int .i64 x.pt, Value.int .i64 c7, Value.slice A7 n7 k7] 75)).drew = w7 at hb7 ⊢
              have HI7 := Lib.hid (HI6.out.below hb7)
              go_wp2_with fail
              refine leaves_cons (f := 52) (args := #[.pointer (some ⟨w.heap.size + 1 + 1 + 1, 0, none⟩), .pointer (some ⟨w.heap.size, 0, none⟩), .pointer (some ⟨w.heap.size + 1, 0, none⟩), .pointer (some ⟨w.heap.size + 1 + 1, 0, none⟩)]) (by simp) (by simp [go_sem]) ?_
              refine (catch_fault w.heap.size (w.heap.size + 1) (w.heap.size + 1 + 1) (w.heap.size + 1 + 1 + 1) _ _ _ 41 ((k : Int) + 1) [] _ HI7.out.x ⟨by omega, by omega, by omega, by omega, by omega, by omega⟩ w.heap.size ⟨by omega, by omega, by omega⟩).mono ?_
              rintro e u' w'' ⟨rfl, rfl, hbz, z0, z1, z2⟩
              have hBz := HI7.out.bl.trans hbz
              simp [Leaves, settle, results, Tryz.results27, go_sem, z0, z1, z2]
              exact ⟨hBz, Or.inr ⟨41, ((k : Int) + 1), rfl, by omega⟩⟩
              )
            · by_cases hfull : l.length = 4096
              · obtain ⟨mm, hma, hml, hme, hmn⟩ := HI6.out.d.fresh hfr
                have hml2 : (mm.length : Int) = 4096 := by omega
                have HX6 := Lib.hid hX6
                have HK := Lib.hid (show ∀ W, Below w6.heap.size w6 W → W.cell? ⟨w.heap.size, 0, none⟩ = some (.pointer (some ⟨D, 0, none⟩)) ∧ W.cell? ⟨D, 0, none⟩ = some (.map (some b)) ∧ W.cell? ⟨X, 0, none⟩ = some (.int .i64 x.pt) ∧ (Instr.lookup 105 (.map (some b)) (.int .i64 x.pt) true).run Tryz.prog W = .ok (.tuple #[.agg #[.int .i64 0, .int .i64 0, .slice none 0 0], .bool false]) W from fun W hb => by
                  have hIW := HI6.out.below hb
                  have hXW := (hb.block X hXlt).trans HX6.out
                  refine ⟨by simp [World.cell?, hIW.x.a], by simp [World.cell?, hIW.d.d], by simp [World.cell?, hXW], ?_⟩
                  rcases (hma.keep (w' := W) (hb.block b hma.lt)).run_look (P := Tryz.prog) (keyOk_int Tryz.underlying3) Tryz.underlying105 (Tryz.zeroValue75 W) (key := .int .i64 x.pt) ⟨x.pt, rfl⟩ true with ⟨hr, _⟩ | ⟨u, _, hu⟩
                  · exact hr
                  · exact absurd hu (hmn u))
                have HMN := Lib.hid hmn
                have HMA := Lib.hid hma
                have HML := Lib.hid hml
                have HME := Lib.hid hme
                have HFR := Lib.hid hfr
                have hln : ∀ W, Below w6.heap.size w6 W → ∀ ty, (Builtin.len_ #[105] ty #[.map (some b)]).run Tryz.prog W = .ok (.int .i64 mm.length) W := fun W hb ty => (HMA.out.keep (w' := W) (hb.block b HMA.out.lt)).run_len Tryz.underlying105
                have HLN := Lib.hid hln
                clear hma hml hme hmn hfr hX6 hln
                go_region_held3 (fun W => W.cell? ⟨w.heap.size, 0, none⟩ = some (.pointer (some ⟨D, 0, none⟩)) ∧ W.cell? ⟨D, 0, none⟩ = some (.map (some b)) ∧ W.cell? ⟨X, 0, none⟩ = some (.int .i64 x.pt) ∧ (Instr.lookup 105 (.map (some b)) (.int .i64 x.pt) true).run Tryz.prog W = .ok (.tuple #[.agg #[.int .i64 0, .int .i64 0, .slice none 0 0], .bool false]) W)
                  (first | exact HK.out _ (Below.refl _ _).drew | exact HK.out _ ((Below.refl _ _).drew.alloc (Nat.le_refl _) _) | exact HK.out _ (((((Below.refl _ _).drew.alloc (Nat.le_refl _) _).setCell (Nat.le_refl w6.heap.size) _).setCell (Nat.le_refl w6.heap.size) _).setCell (Nat.le_refl w6.heap.size) _) | exact HK.out _ (((((Below.refl _ _).alloc (Nat.le_refl _) _).setCell (Nat.le_refl w6.heap.size) _).setCell (Nat.le_refl w6.heap.size) _).setCell (Nat.le_refl w6.heap.size) _).drew)
                  (first | fail)
                all_goals (
                  have hb7 : Below w6.heap.size w6 (w6.alloc (.cells #[Value.int .i64 0, Value.int .i64 0, Value.slice none 0 0] 75)).drew := ((Below.refl _ w6).alloc (Nat.le_refl _) _).drew
                  have hz7 : w6.heap.size ≤ (w6.alloc (.cells #[Value.int .i64 0, Value.int .i64 0, Value.slice none 0 0] 75)).drew.heap.size := hb7.size
                  generalize (w6.alloc (.cells #[Value.int .i64 0, Value.int .i64 0, Value.slice none 0 0] 75)).drew = w7 at hb7 hz7 ⊢
                  have hlen7 := HLN.out w7 hb7
                  have HI7 := Lib.hid (HI6.out.below hb7)
                  have hX7 := (hb7.block X hXlt).trans HX6.out
                  have hc70 : w7.cell? ⟨w.heap.size, 0, none⟩ = some (.pointer (some ⟨D, 0, none⟩)) := by simp [World.cell?, HI7.out.x.a]
                  have hc7d : w7.cell? ⟨D, 0, none⟩ = some (.map (some b)) := by simp [World.cell?, HI7.out.d.d]
                  have hcx0 : w7.cell? ⟨X, 0, none⟩ = some (.int .i64 x.pt) := by simp [World.cell?, hX7]
                  have hcx1 : w7.cell? ⟨X, 1, none⟩ = some (.int .i64 x.cls) := by simp [World.cell?, hX7]
                  have hcx2 : w7.cell? ⟨X, 2, none⟩ = some (.slice A0 x.parts.length c0') := by simp [World.cell?, hX7]
                  have hc7a : w7.cell? ⟨w.heap.size + 1 + 1 + 1, 0, none⟩ = some (.int .i64 ((k : Int) + 1)) := by simp [World.cell?, HI7.out.x.d]
                  have hml3 : ((mm.length : Int) == 4096) = true := by rw [beq_iff_eq]; exact hml2
                  generalize (mm.length : Int) = ml at hlen7 hml2 hml3
                  go_wp2_with fail
                  refine leaves_cons (f := 52) (args := #[.pointer (some ⟨w.heap.size + 1 + 1 + 1, 0, none⟩), .pointer (some ⟨w.heap.size, 0, none⟩), .pointer (some ⟨w.heap.size + 1, 0, none⟩), .pointer (some ⟨w.heap.size + 1 + 1, 0, none⟩)]) (by simp) (by simp [go_sem]) ?_
                  refine (catch_fault w.heap.size (w.heap.size + 1) (w.heap.size + 1 + 1) (w.heap.size + 1 + 1 + 1) _ _ _ 2 ((k : Int) + 1) [] _ HI7.out.x ⟨by omega, by omega, by omega, by omega, by omega, by omega⟩ w.heap.size ⟨by omega, by omega, by omega⟩).mono ?_
                  rintro e u' w'' ⟨rfl, rfl, hbz, z0, z1, z2⟩
                  have hBz := HI7.out.bl.trans hbz
                  simp [Leaves, settle, results, Tryz.results27, go_sem, z0, z1, z2]
                  exact ⟨hBz, Or.inr ⟨2, ((k : Int) + 1), rfl, by omega⟩⟩
                )
              · have HRM := Lib.hid (show l.length < 4096 from by have := HSC.out.2.2; omega)
                obtain ⟨mm, hma, hml, hme, hmn⟩ := HI6.out.d.fresh hfr
                have hml2 : ¬ ((mm.length : Int) = 4096) := by have := HRM.out; omega
                have HX6 := Lib.hid hX6
                have HK := Lib.hid (show ∀ W, Below w6.heap.size w6 W → W.cell? ⟨w.heap.size, 0, none⟩ = some (.pointer (some ⟨D, 0, none⟩)) ∧ W.cell? ⟨D, 0, none⟩ = some (.map (some b)) ∧ W.cell? ⟨X, 0, none⟩ = some (.int .i64 x.pt) ∧ (Instr.lookup 105 (.map (some b)) (.int .i64 x.pt) true).run Tryz.prog W = .ok (.tuple #[.agg #[.int .i64 0, .int .i64 0, .slice none 0 0], .bool false]) W from fun W hb => by
                  have hIW := HI6.out.below hb
                  have hXW := (hb.block X hXlt).trans HX6.out
                  refine ⟨by simp [World.cell?, hIW.x.a], by simp [World.cell?, hIW.d.d], by simp [World.cell?, hXW], ?_⟩
                  rcases (hma.keep (w' := W) (hb.block b hma.lt)).run_look (P := Tryz.prog) (keyOk_int Tryz.underlying3) Tryz.underlying105 (Tryz.zeroValue75 W) (key := .int .i64 x.pt) ⟨x.pt, rfl⟩ true with ⟨hr, _⟩ | ⟨u, _, hu⟩
                  · exact hr
                  · exact absurd hu (hmn u))
                have HMN := Lib.hid hmn
                have HMA := Lib.hid hma
                have HML := Lib.hid hml
                have HME := Lib.hid hme
                have HFR := Lib.hid hfr
                have hln : ∀ W, Below w6.heap.size w6 W → ∀ ty, (Builtin.len_ #[105] ty #[.map (some b)]).run Tryz.prog W = .ok (.int .i64 mm.length) W := fun W hb ty => (HMA.out.keep (w' := W) (hb.block b HMA.out.lt)).run_len Tryz.underlying105
                have HLN := Lib.hid hln
                clear hma hml hme hmn hfr hX6 hln
                go_region_held3 (fun W => W.cell? ⟨w.heap.size, 0, none⟩ = some (.pointer (some ⟨D, 0, none⟩)) ∧ W.cell? ⟨D, 0, none⟩ = some (.map (some b)) ∧ W.cell? ⟨X, 0, none⟩ = some (.int .i64 x.pt) ∧ (Instr.lookup 105 (.map (some b)) (.int .i64 x.pt) true).run Tryz.prog W = .ok (.tuple #[.agg #[.int .i64 0, .int .i64 0, .slice none 0 0], .bool false]) W)
                  (first | exact HK.out _ (Below.refl _ _).drew | exact HK.out _ ((Below.refl _ _).drew.alloc (Nat.le_refl _) _) | exact HK.out _ (((((Below.refl _ _).drew.alloc (Nat.le_refl _) _).setCell (Nat.le_refl w6.heap.size) _).setCell (Nat.le_refl w6.heap.size) _).setCell (Nat.le_refl w6.heap.size) _) | exact HK.out _ (((((Below.refl _ _).alloc (Nat.le_refl _) _).setCell (Nat.le_refl w6.heap.size) _).setCell (Nat.le_refl w6.heap.size) _).setCell (Nat.le_refl w6.heap.size) _).drew)
                  (first | fail)
                all_goals (
                  have hb7 : Below w6.heap.size w6 (w6.alloc (.cells #[Value.int .i64 0, Value.int .i64 0, Value.slice none 0 0] 75)).drew := ((Below.refl _ w6).alloc (Nat.le_refl _) _).drew
                  have hz7 : w6.heap.size ≤ (w6.alloc (.cells #[Value.int .i64 0, Value.int .i64 0, Value.slice none 0 0] 75)).drew.heap.size := hb7.size
                  generalize (w6.alloc (.cells #[Value.int .i64 0, Value.int .i64 0, Value.slice none 0 0] 75)).drew = w7 at hb7 hz7 ⊢
                  have hlen7 := HLN.out w7 hb7
                  have HI7 := Lib.hid (HI6.out.below hb7)
                  have hX7 := (hb7.block X hXlt).trans HX6.out
                  have hc70 : w7.cell? ⟨w.heap.size, 0, none⟩ = some (.pointer (some ⟨D, 0, none⟩)) := by simp [World.cell?, HI7.out.x.a]
                  have hc7d : w7.cell? ⟨D, 0, none⟩ = some (.map (some b)) := by simp [World.cell?, HI7.out.d.d]
                  have hcx0 : w7.cell? ⟨X, 0, none⟩ = some (.int .i64 x.pt) := by simp [World.cell?, hX7]
                  have hcx1 : w7.cell? ⟨X, 1, none⟩ = some (.int .i64 x.cls) := by simp [World.cell?, hX7]
                  have hcx2 : w7.cell? ⟨X, 2, none⟩ = some (.slice A0 x.parts.length c0') := by simp [World.cell?, hX7]
                  have hc7a : w7.cell? ⟨w.heap.size + 1 + 1 + 1, 0, none⟩ = some (.int .i64 ((k : Int) + 1)) := by simp [World.cell?, HI7.out.x.d]
                  generalize (mm.length : Int) = ml at hlen7 hml2
                  go_wp2_with fail
                  have hma7 : MapAt w7.drew b IntKey mm := HMA.out.keep (hb7.block b HMA.out.lt)
                  obtain ⟨w9, l9, hup, hm9, hg9, hs9, _, hnew, _⟩ := hma7.run_put (P := Tryz.prog) (keyOk_int Tryz.underlying3) Tryz.underlying105 (key := .int .i64 x.pt) (val := .agg #[.int .i64 x.pt, .int .i64 x.cls, .slice A0 x.parts.length c0']) ⟨x.pt, rfl⟩
                  have hl9 := hnew HMN.out
                  have hk9 : ∀ p : Addr, p.block < w7.heap.size → w9.cell? p = w7.cell? p := fun p hp => cell_map hg9 hma7 hm9 p hp
                  have hbl := HI7.out.R_lt
                  have hX7l : X < w7.heap.size := Nat.lt_of_lt_of_le hXlt hz7
                  have hd0 := (hk9 ⟨w.heap.size, 0, none⟩ (by show w.heap.size < _; omega)).trans hc70
                  have hdd := (hk9 ⟨D, 0, none⟩ (by show D < _; omega)).trans hc7d
                  have hdx0 := (hk9 ⟨X, 0, none⟩ hX7l).trans hcx0
                  have hdx1 := (hk9 ⟨X, 1, none⟩ hX7l).trans hcx1
                  have hdx2 := (hk9 ⟨X, 2, none⟩ hX7l).trans hcx2
                  have hda := (hk9 ⟨w.heap.size + 1 + 1 + 1, 0, none⟩ (by show w.heap.size + 1 + 1 + 1 < _; omega)).trans hc7a
                  have HG9 := Lib.hid hg9
                  have HM9 := Lib.hid hm9
                  have HL9 := Lib.hid hl9
                  have HS9 := Lib.hid hs9
                  have HA7 := Lib.hid hma7
                  have HB7 := Lib.hid hb7
                  have HK0 := Lib.hid (show w7.cell? ⟨w.heap.size, 0, none⟩ = some (.pointer (some ⟨D, 0, none⟩)) ∧ w7.cell? ⟨D, 0, none⟩ = some (.map (some b)) ∧ w7.cell? ⟨X, 0, none⟩ = some (.int .i64 x.pt) ∧ w7.cell? ⟨X, 1, none⟩ = some (.int .i64 x.cls) ∧ w7.cell? ⟨X, 2, none⟩ = some (.slice A0 x.parts.length c0') from ⟨hc70, hc7d, hcx0, hcx1, hcx2⟩)
                  have HK9 := Lib.hid (show w9.cell? ⟨w.heap.size, 0, none⟩ = some (.pointer (some ⟨D, 0, none⟩)) ∧ w9.cell? ⟨D, 0, none⟩ = some (.map (some b)) ∧ w9.cell? ⟨X, 0, none⟩ = some (.int .i64 x.pt) ∧ w9.cell? ⟨X, 1, none⟩ = some (.int .i64 x.cls) ∧ w9.cell? ⟨X, 2, none⟩ = some (.slice A0 x.parts.length c0') from ⟨hd0, hdd, hdx0, hdx1, hdx2⟩)
                  clear hg9 hm9 hl9 hs9 hma7 hk9 hnew hlen7 hml2 hc70 hc7d hcx0 hcx1 hcx2 hc7a hd0 hdd hdx1 hdx2 hb7 hX7
                  go_region_held3 (fun W => W.cell? ⟨w.heap.size, 0, none⟩ = some (.pointer (some ⟨D, 0, none⟩)) ∧ W.cell? ⟨D, 0, none⟩ = some (.map (some b)) ∧ W.cell? ⟨X, 0, none⟩ = some (.int .i64 x.pt) ∧ W.cell? ⟨X, 1, none⟩ = some (.int .i64 x.cls) ∧ W.cell? ⟨X, 2, none⟩ = some (.slice A0 x.parts.length c0'))
                    (first | exact HK0.out | exact HK9.out)
                    (first | fail)
                  have hs9' : w9.heap.size = w7.heap.size := HS9.out
                  have hln9 : LinesX w9 b6 l := HI7.out.ln.keep (HG9.out.block b6 (by show b6 < w7.heap.size; omega) (by simp; omega))
                  obtain ⟨w10, hup10, hl10, hmx10, hg10, hs10⟩ := hln9.put x HFR.out ((k : Int) + 1)
                  have HL10 := Lib.hid hl10
                  have HX10 := Lib.hid hmx10
                  have HG10 := Lib.hid hg10
                  have HS10 := Lib.hid hs10
                  have hdx10 : w10.cell? ⟨X, 0, none⟩ = some (.int .i64 x.pt) := by
                    obtain ⟨K, m1, m2, y1, y2⟩ := hmx10
                    exact (cell_map hg10 y1 y2 ⟨X, 0, none⟩ (by show X < _; omega)).trans hdx0
                  have ho10 : w10.ownsRow (R + 1) 3 1 u7 l.length (intCells (l.map MK.pt)) := by
                    have a1 : w7.drew.ownsRow (R + 1) 3 1 u7 l.length (intCells (l.map MK.pt)) := HI7.out.o
                    have hog : ∀ g, u7.ownBlock = some g → R + 1 ≤ g := fun g hg => (HI7.out.o.lt g hg).1
                    have ap : ∀ j, j ≤ R → u7.ownBlock = none ∨ u7.ownBlock ≠ some j := fun j hj => by
                      cases h9 : u7.ownBlock with
                      | none => exact Or.inl rfl
                      | some g => exact Or.inr (by intro e; cases e; have := hog _ h9; omega)
                    exact (a1.kept HG9.out (ap b (by omega))).kept hg10 (ap b6 (by omega))
                  have HO10 := Lib.hid ho10
                  have hRw : R < w10.heap.size := by omega
                  have hdl : l.length ≤ 4096 := HSC.out.2.2
                  clear hln9 hl10 hmx10 hg10 hs10 ho10
                  obtain ⟨i6, ihi, ihz0, ihz1, ihz2⟩ := info_parts int_info
                  go_wp2_with (at_builtin; refine wpList_append_own_at _ rfl _ _ 24 rfl (R + 1) 3 i6 (.int .i64 0) 1 8 Tryz.underlying24 ihi ihz0 ihz1 ihz2 rfl (by decide) _ _ _ rfl (HO10.out.alloc _) ⟨w10.heap.size, 0, none⟩ 1 1 [.int .i64 x.pt] rfl rfl (World.news_of_block (cs := #[.int .i64 x.pt]) (t := 3) (fr := (0, 0)) (heap_alloc_new w10 _)) (by simp [Value.oneCell']) (by unfold maxLen; omega) (by omega) (by simp; omega) ?_; intro v11 w11 hown11 hgrow11 hnil11 hloc11)
                  go_roundw
                  case rel =>
                    refine ⟨k + 1, l ++ [x], by go_num, by omega, Lib.hid ?_, Lib.hid ⟨HXT.out, by rw [List.map_append]; exact nodup_snoc HSC.out.2.1 HFR.out, by rw [List.length_append]; have := HRM.out; simp; omega⟩⟩
                    have hmeZ : ∀ (i : Nat) y p, l[i]? = some y → mm[i]? = some p → MarkM w7 (fun g => w.heap.size + 4 ≤ g ∧ g < w7.heap.size ∧ u7.ownBlock ≠ some g) y p := fun i y p hy hp => by
                      obtain ⟨f1, u, f2, f3⟩ := HME.out i y p hy hp
                      exact ⟨f1, u, f2, f3.cells (fun q hq => HB7.out.cell hq.2.1) (fun g hg => ⟨hg.1, by have := hg.2.1; omega, hg.2.2⟩)⟩
                    have hvZ : PartsM w7 (fun g => w.heap.size + 4 ≤ g ∧ g < w7.heap.size ∧ u7.ownBlock ≠ some g) (.slice A0 x.parts.length c0') x.parts := HPM.out.cells (fun q hq => HB7.out.cell hq.2.1) (fun g hg => ⟨hg.1, by have := hg.2.1; omega, hg.2.2⟩)
                    have hm9Z := HM9.out
                    rw [HL9.out] at hm9Z
                    have h9 := HI7.out.step hmeZ HML.out hvZ (Below.refl _ w7).drew rfl HA7.out hm9Z HG9.out HS9.out HL10.out HX10.out HG10.out HS10.out ((Below.refl _ w10).alloc (Nat.le_refl _) (.cells #[Value.int .i64 x.pt] 3)) hgrow11 (HO10.out.alloc _) hown11 (fun g hg => by
                      rcases hloc11 with e | e
                      · exact Or.inl (e.symm.trans hg)
                      · refine Or.inr ?_
                        rw [hg] at e
                        injection e with e
                        have h1Z := HS10.out
                        have h2Z : w9.heap.size = w7.heap.size := HS9.out
                        (try simp only [World.size_alloc] at e)
                        rw [e, h1Z, h2Z]
                        omega)
                    rw [show ((k : Int) + 1) = ((k + 1 : Nat) : Int) by omega] at h9
                    exact h9
                  case measure => simp [intOf]; omega
                )
          · have HE := Lib.hid (fun W (hb : Below w.heap.size w W) => mark_bad (c0 :: r0) HLt.out (fun x hx e => hmk1 ⟨x, hx, e⟩) m W (HX0.out.on hb) (HI0.out.on hb) (HDg0.out.on hb) (HE0.out.on hb) ((hb.cell hM0).trans HM.out))
            generalize txt (c0 :: r0) = s0 at hc hem hs1 hb0 HE
            clear hmk1 HIN
            go_upto_region 12 with fail
            generalize wr.setCell ⟨w.heap.size + 1 + 1 + 1, 0, none⟩ (.int .i64 ((k : Int) + 1)) = w2 at HI2 ⊢
            clear hc hca hfa
            go_wp2_with fail
            refine (HE.out w2 HI2.out.bl).mono ?_
            rintro e w5 ⟨rfl, hb5⟩
            have HI5 := Lib.hid (HI2.out.below hb5)
            clear hb5 HE HI2
            go_wp2_with fail
            refine leaves_cons (f := 52) (args := #[.pointer (some ⟨w.heap.size + 1 + 1 + 1, 0, none⟩), .pointer (some ⟨w.heap.size, 0, none⟩), .pointer (some ⟨w.heap.size + 1, 0, none⟩), .pointer (some ⟨w.heap.size + 1 + 1, 0, none⟩)]) (by simp) (by simp [go_sem]) ?_
            refine (catch_fault w.heap.size (w.heap.size + 1) (w.heap.size + 1 + 1) (w.heap.size + 1 + 1 + 1) _ _ _ 40 ((k : Int) + 1) [] _ HI5.out.x ⟨by omega, by omega, by omega, by omega, by omega, by omega⟩ w.heap.size ⟨by omega, by omega, by omega⟩).mono ?_
            rintro e u' w'' ⟨rfl, rfl, hbz, z0, z1, z2⟩
            have hBz := HI5.out.bl.trans hbz
            simp [Leaves, settle, results, Tryz.results27, go_sem, z0, z1, z2]
            exact ⟨hBz, Or.inr ⟨40, ((k : Int) + 1), rfl, by omega⟩⟩
    · have hkk : k = Ls.length := by omega
      subst hkk
      clear hkl
      have HIf := Lib.hid HIN.out
      have hsc := HSC.out
      rw [List.take_length] at hsc
      have hlens : Lib.lens (l.map MK.text) ≤ 65536 := Nat.le_trans hsc.1.lens HLL.out
      have HK := Lib.hid (show unmet (partsOf l) [] (l.map MK.pt) ≤ 100000 from by rw [unmet_sum hsc.2.1]; exact Nat.le_trans (parts_lens l) (by omega))
      have HP := Lib.hid (show ∀ p, (partsOf l p).length ≤ 100000 from fun p => Nat.le_trans (parts_le l p) (by omega))
      have HSF := Lib.hid hsc
      have hll2 : l.length ≤ 4096 := hsc.2.2
      clear hsc hlens
      obtain ⟨A7, c7, rfl⟩ : ∃ A c, u7 = .slice A l.length c := by
        have h9 := HIN.out.o
        rcases h9.2 with ⟨e, h0⟩ | ⟨g, cap, cur, e, _⟩
        · exact ⟨none, 0, by rw [e, h0]⟩
        · exact ⟨_, cap, e⟩
      go_wp2_with fail
      clear HL ho1 ho2 ho3 ho4 hk
      have HK1 := HK
      go_loopw [84] (fun t84 wr => ∃ (j : Nat), t84 = .int .i64 j ∧ j ≤ l.length ∧ Hid (ULInvX w wr b D b6 R Ls l (Ls.length : Int) (.slice A7 l.length c7)) ∧ Hid (∀ i (h : i < l.length), i < j → ¬ Leads (partsOf l) l[i].pt l[i].pt)) (fun t84 _ => l.length - (intOf t84).toNat)
      case atStart => exact ⟨0, rfl, by omega, HIf, Lib.hid (fun i h h0 => by omega)⟩
      case round =>
        clear HIf HIN
        obtain ⟨j, rfl, hj, HF, HA⟩ := hrel
        have ho1 := HF.out.o1
        have ho2 := HF.out.o2
        have ho3 := HF.out.o3
        have ho4 := HF.out.o4
        have hc0 : wr.cell? ⟨w.heap.size, 0, none⟩ = some (.pointer (some ⟨D, 0, none⟩)) := by simp [World.cell?, HF.out.x.a]
        by_cases hjl : j < l.length
        · obtain ⟨fd, fl, fo⟩ := HF.out.full
          obtain ⟨g, rfl, hcj⟩ := order_cell fo hjl
          have HLe := Lib.hid (leads_ok _ D b l l[j].pt wr fd (fun g hg => hg.2.1) HK.out HP.out)
          have HAj := Lib.hid (show ∀ r : Bool, (r = false → ¬ Leads (partsOf l) l[j].pt l[j].pt) → r = false → ∀ i (h : i < l.length), i < j + 1 → ¬ Leads (partsOf l) l[i].pt l[i].pt from fun r hr e i h hi => by
            by_cases hij : i = j
            · subst hij; exact hr e
            · exact HA.out i h (by omega))
          have HMj := Lib.hid (show l[j].pt ∈ l.map MK.pt from List.mem_map.2 ⟨l[j], List.getElem_mem hjl, rfl⟩)
          generalize l[j].pt = p at hcj HLe HAj HMj
          clear fd fl fo
          go_wp2_with fail
          refine HLe.out.mono ?_
          rintro e w3 ⟨r, rfl, hr, hb3⟩
          have HF3 := Lib.hid (HF.out.below hb3)
          have HR := Lib.hid hr
          clear hb3 HLe hcj hc0 hr
          cases r with
          | false =>
            go_wp2_with fail
            go_roundw
            case rel => exact ⟨j + 1, by go_num, by omega, HF3, Lib.hid (HAj.out false (fun _ => HR.out trivial) rfl)⟩
            case measure => simp [intOf]; omega
          | true =>
            obtain ⟨n, hlk⟩ := HF3.out.full.2.1.look HMj.out
            have hca : w3.cell? ⟨w.heap.size + 1 + 1 + 1, 0, none⟩ = some (.int .i64 (Ls.length : Int)) := by simp [World.cell?, HF3.out.x.d]
            have hfa : w3.frozen? ⟨w.heap.size + 1 + 1 + 1, 0, none⟩ = false := by simp [World.frozen?, HF3.out.x.d]
            go_wp2_with fail
            refine leaves_cons (f := 52) (args := #[.pointer (some ⟨w.heap.size + 1 + 1 + 1, 0, none⟩), .pointer (some ⟨w.heap.size, 0, none⟩), .pointer (some ⟨w.heap.size + 1, 0, none⟩), .pointer (some ⟨w.heap.size + 1 + 1, 0, none⟩)]) (by simp) (by simp [go_sem]) ?_
            refine (catch_fault w.heap.size (w.heap.size + 1) (w.heap.size + 1 + 1) (w.heap.size + 1 + 1 + 1) _ _ _ 42 n [] _ (HF3.out.at_ n).x ⟨by omega, by omega, by omega, by omega, by omega, by omega⟩ w.heap.size ⟨by omega, by omega, by omega⟩).mono ?_
            rintro e u' w'' ⟨rfl, rfl, hbz, z0, z1, z2⟩
            have hBz := (HF3.out.at_ n).bl.trans hbz
            simp [Leaves, settle, results, Tryz.results27, go_sem, z0, z1, z2]
            exact ⟨hBz, Or.inr ⟨42, n, rfl, by omega⟩⟩
        · have hjj : j = l.length := by omega
          subst hjj
          have hACl := Lib.hid (show ∀ x ∈ l, ¬ Leads (partsOf l) x.pt x.pt from fun x hx => by
            obtain ⟨i, hi, rfl⟩ := List.getElem_of_mem hx
            exact HA.out i hi hi)
          have hbM : Below wr.heap.size wr (wr.alloc (.map #[] 0)) := (Below.refl _ wr).alloc (Nat.le_refl _) _
          have HFM := Lib.hid (HF.out.below hbM)
          have HKn := Lib.hid (show KnownX (szOf l) (wr.alloc (.map #[] 0)) wr.heap.size from ⟨[], MapAt.made wr IntKey, by simp⟩)
          have hRM : R < wr.heap.size := HF.out.R_lt
          have hvM : (Value.slice A7 l.length c7).ownBlock ≠ some wr.heap.size := fun e => by have := (HF.out.o.lt _ e).2; omega
          clear hbM HA hc0
          go_wp2_with fail
          generalize wr.heap.size = M at HKn hRM hvM ⊢
          generalize wr.alloc (.map #[] 0) = wM at HFM HKn ⊢
          clear HF
          go_loopw [100] (fun t100 wr => ∃ (j : Nat), t100 = .int .i64 j ∧ j ≤ l.length ∧ Hid (ULInvX w wr b D b6 R Ls l (Ls.length : Int) (.slice A7 l.length c7)) ∧ Hid (KnownX (szOf l) wr M) ∧ Hid (∀ i (h : i < l.length), i < j → szOf l l[i].pt ≤ 18)) (fun t100 _ => l.length - (intOf t100).toNat)
          case atStart => exact ⟨0, rfl, by omega, HFM, HKn, Lib.hid (fun i h h0 => by omega)⟩
          case round =>
            clear HFM HKn
            obtain ⟨j, rfl, hj, HF, HKn, HSZ⟩ := hrel
            have hc0 : wr.cell? ⟨w.heap.size, 0, none⟩ = some (.pointer (some ⟨D, 0, none⟩)) := by simp [World.cell?, HF.out.x.a]
            by_cases hjl : j < l.length
            · obtain ⟨fd, fl, fo⟩ := HF.out.full
              obtain ⟨g, rfl, hcj⟩ := order_cell fo hjl
              have HSz := Lib.hid (sizeX_ok _ D b M l hACl.out (by omega) (by omega) HP.out l[j].pt wr fd (fun g hg => hg.2.1) HKn.out)
              have HMj := Lib.hid (show l[j].pt ∈ l.map MK.pt from List.mem_map.2 ⟨l[j], List.getElem_mem hjl, rfl⟩)
              have HSj := Lib.hid (show szOf l l[j].pt ≤ 18 → ∀ i (h : i < l.length), i < j + 1 → szOf l l[i].pt ≤ 18 from fun h9 i h hi => by
                by_cases hij : i = j
                · subst hij; exact h9
                · exact HSZ.out i h (by omega))
              generalize l[j].pt = p at hcj HSz HMj HSj
              clear fd fl fo
              go_wp2_with fail
              refine HSz.out.mono ?_
              rintro e w3 ⟨n3, rfl, hn3, hk3⟩
              have hn0 : 0 ≤ n3 := by omega
              have hn9 : n3 ≤ 19 := by omega
              have HN3 := Lib.hid hn3
              clear hn3
              have HF3 := Lib.hid (HF.out.knew HKn.out hk3 hRM hvM)
              have HK3 := Lib.hid hk3.k
              clear hk3 HSz hcj hc0
              by_cases h18 : 18 < n3
              · obtain ⟨n, hlk⟩ := HF3.out.full.2.1.look HMj.out
                have hca : w3.cell? ⟨w.heap.size + 1 + 1 + 1, 0, none⟩ = some (.int .i64 (Ls.length : Int)) := by simp [World.cell?, HF3.out.x.d]
                have hfa : w3.frozen? ⟨w.heap.size + 1 + 1 + 1, 0, none⟩ = false := by simp [World.frozen?, HF3.out.x.d]
                go_wp2_with fail
                refine leaves_cons (f := 52) (args := #[.pointer (some ⟨w.heap.size + 1 + 1 + 1, 0, none⟩), .pointer (some ⟨w.heap.size, 0, none⟩), .pointer (some ⟨w.heap.size + 1, 0, none⟩), .pointer (some ⟨w.heap.size + 1 + 1, 0, none⟩)]) (by simp) (by simp [go_sem]) ?_
                refine (catch_fault w.heap.size (w.heap.size + 1) (w.heap.size + 1 + 1) (w.heap.size + 1 + 1 + 1) _ _ _ 43 n [] _ (HF3.out.at_ n).x ⟨by omega, by omega, by omega, by omega, by omega, by omega⟩ w.heap.size ⟨by omega, by omega, by omega⟩).mono ?_
                rintro e u' w'' ⟨rfl, rfl, hbz, z0, z1, z2⟩
                have hBz := (HF3.out.at_ n).bl.trans hbz
                simp [Leaves, settle, results, Tryz.results27, go_sem, z0, z1, z2]
                exact ⟨hBz, Or.inr ⟨43, n, rfl, by omega⟩⟩
              · have HS18 := Lib.hid (HSj.out (by have := HN3.out; omega))
                go_wp2_with fail
                go_roundw
                case rel => exact ⟨j + 1, by go_num, by omega, HF3, HK3, HS18⟩
                case measure => simp [intOf]; omega
            · have hjj : j = l.length := by omega
              subst hjj
              have hx := HF.out.x
              have hc1 : wr.cell? ⟨w.heap.size + 1, 0, none⟩ = some (.int .i64 0) := by simp [World.cell?, hx.b]
              have hc2 : wr.cell? ⟨w.heap.size + 1 + 1, 0, none⟩ = some (.int .i64 0) := by simp [World.cell?, hx.c]
              have hf0 : wr.frozen? ⟨w.heap.size, 0, none⟩ = false := by simp [World.frozen?, hx.a]
              have hf1 : wr.frozen? ⟨w.heap.size + 1, 0, none⟩ = false := by simp [World.frozen?, hx.b]
              have hf2 : wr.frozen? ⟨w.heap.size + 1 + 1, 0, none⟩ = false := by simp [World.frozen?, hx.c]
              clear hx
              go_wp2_with fail
              refine leaves_cons (f := 52) (args := #[.pointer (some ⟨w.heap.size + 1 + 1 + 1, 0, none⟩), .pointer (some ⟨w.heap.size, 0, none⟩), .pointer (some ⟨w.heap.size + 1, 0, none⟩), .pointer (some ⟨w.heap.size + 1 + 1, 0, none⟩)]) (by simp) (by simp [go_sem]) ?_
              refine (catch_idle w.heap.size (w.heap.size + 1) (w.heap.size + 1 + 1) (w.heap.size + 1 + 1 + 1) _).mono ?_
              rintro e u' w'' ⟨rfl, rfl, rfl⟩
              have hx := HF.out.x
              have a0 := heap_setCell_same wr w.heap.size 0 _ _ (.pointer (some ⟨D, 0, none⟩)) hx.a
              have b1 := (Below.heap_setCell wr ⟨w.heap.size, 0, none⟩ (.pointer (some ⟨D, 0, none⟩)) (w.heap.size + 1) (by show w.heap.size + 1 ≠ w.heap.size; omega)).trans hx.b
              have b2 := (Below.heap_setCell wr ⟨w.heap.size, 0, none⟩ (.pointer (some ⟨D, 0, none⟩)) (w.heap.size + 1 + 1) (by show w.heap.size + 1 + 1 ≠ w.heap.size; omega)).trans hx.c
              have c1 := heap_setCell_same (wr.setCell ⟨w.heap.size, 0, none⟩ (.pointer (some ⟨D, 0, none⟩))) (w.heap.size + 1) 0 _ _ (.int .i64 0) b1
              have c2 := (Below.heap_setCell (wr.setCell ⟨w.heap.size, 0, none⟩ (.pointer (some ⟨D, 0, none⟩))) ⟨w.heap.size + 1, 0, none⟩ (.int .i64 0) (w.heap.size + 1 + 1) (by show w.heap.size + 1 + 1 ≠ w.heap.size + 1; omega)).trans b2
              have d2 := heap_setCell_same ((wr.setCell ⟨w.heap.size, 0, none⟩ (.pointer (some ⟨D, 0, none⟩))).setCell ⟨w.heap.size + 1, 0, none⟩ (.int .i64 0)) (w.heap.size + 1 + 1) 0 _ _ (.int .i64 0) c2
              have hkW : ∀ j, j ≠ w.heap.size → j ≠ w.heap.size + 1 → j ≠ w.heap.size + 1 + 1 → (((wr.setCell ⟨w.heap.size, 0, none⟩ (.pointer (some ⟨D, 0, none⟩))).setCell ⟨w.heap.size + 1, 0, none⟩ (.int .i64 0)).setCell ⟨w.heap.size + 1 + 1, 0, none⟩ (.int .i64 0)).heap[j]? = wr.heap[j]? := fun j j0 j1 j2 => (Below.heap_setCell _ _ _ _ (by show j ≠ w.heap.size + 1 + 1; exact j2)).trans ((Below.heap_setCell _ _ _ _ (by show j ≠ w.heap.size + 1; exact j1)).trans (Below.heap_setCell _ _ _ _ (by show j ≠ w.heap.size; exact j0)))
              have e0 := (Below.heap_setCell ((wr.setCell ⟨w.heap.size, 0, none⟩ (.pointer (some ⟨D, 0, none⟩))).setCell ⟨w.heap.size + 1, 0, none⟩ (.int .i64 0)) ⟨w.heap.size + 1 + 1, 0, none⟩ (.int .i64 0) w.heap.size (by show w.heap.size ≠ w.heap.size + 1 + 1; omega)).trans ((Below.heap_setCell (wr.setCell ⟨w.heap.size, 0, none⟩ (.pointer (some ⟨D, 0, none⟩))) ⟨w.heap.size + 1, 0, none⟩ (.int .i64 0) w.heap.size (by show w.heap.size ≠ w.heap.size + 1; omega)).trans a0)
              have e1 := (Below.heap_setCell ((wr.setCell ⟨w.heap.size, 0, none⟩ (.pointer (some ⟨D, 0, none⟩))).setCell ⟨w.heap.size + 1, 0, none⟩ (.int .i64 0)) ⟨w.heap.size + 1 + 1, 0, none⟩ (.int .i64 0) (w.heap.size + 1) (by show w.heap.size + 1 ≠ w.heap.size + 1 + 1; omega)).trans c1
              have hBW : Below w.heap.size w (((wr.setCell ⟨w.heap.size, 0, none⟩ (.pointer (some ⟨D, 0, none⟩))).setCell ⟨w.heap.size + 1, 0, none⟩ (.int .i64 0)).setCell ⟨w.heap.size + 1 + 1, 0, none⟩ (.int .i64 0)) := ((HF.out.bl.setCell (p := ⟨w.heap.size, 0, none⟩) (Nat.le_refl _) _).setCell (p := ⟨w.heap.size + 1, 0, none⟩) (by show w.heap.size ≤ w.heap.size + 1; omega) _).setCell (p := ⟨w.heap.size + 1 + 1, 0, none⟩) (by show w.heap.size ≤ w.heap.size + 1 + 1; omega) _
              have hDW : DataM (((wr.setCell ⟨w.heap.size, 0, none⟩ (.pointer (some ⟨D, 0, none⟩))).setCell ⟨w.heap.size + 1, 0, none⟩ (.int .i64 0)).setCell ⟨w.heap.size + 1 + 1, 0, none⟩ (.int .i64 0)) (fun g => g < (((wr.setCell ⟨w.heap.size, 0, none⟩ (.pointer (some ⟨D, 0, none⟩))).setCell ⟨w.heap.size + 1, 0, none⟩ (.int .i64 0)).setCell ⟨w.heap.size + 1 + 1, 0, none⟩ (.int .i64 0)).heap.size) D b l := HF.out.full.1.keep (hkW D (by omega) (by omega) (by omega)) (hkW b (by omega) (by omega) (by omega)) (fun p hp => World.cell?_of_block (hkW p.block (by have := hp.1; omega) (by have := hp.1; omega) (by have := hp.1; omega))) (fun g hg => by simpa using hg.2.1)
              generalize (((wr.setCell ⟨w.heap.size, 0, none⟩ (.pointer (some ⟨D, 0, none⟩))).setCell ⟨w.heap.size + 1, 0, none⟩ (.int .i64 0)).setCell ⟨w.heap.size + 1 + 1, 0, none⟩ (.int .i64 0)) = W at d2 e0 e1 hBW hDW ⊢
              have z0 : W.cell? ⟨w.heap.size, 0, none⟩ = some (.pointer (some ⟨D, 0, none⟩)) := by simp [World.cell?, e0]
              have z1 : W.cell? ⟨w.heap.size + 1, 0, none⟩ = some (.int .i64 0) := by simp [World.cell?, e1]
              have z2 : W.cell? ⟨w.heap.size + 1 + 1, 0, none⟩ = some (.int .i64 0) := by simp [World.cell?, d2]
              simp [Leaves, settle, results, Tryz.results27, go_sem, z0, z1, z2]
              exact ⟨hBW, Or.inl ⟨l, D, b, rfl, hDW, ⟨HSF.out.1.may, HSF.out.2.1, HSF.out.2.2, HK1.out, HP.out, hACl.out, fun x hx => by
                obtain ⟨i, hi, rfl⟩ := List.getElem_of_mem hx
                exact HSZ.out i hi hi⟩, by omega, by omega⟩⟩
end Go.Proofs.YtlkdjdcnbcegeaaGreatDoor
