/-
  Stores into the middle of a row; make with room.
-/
import Derived.Test.YtcjllhdbepchnaaGreatDoorLQ
import Derived.Deep.MidRow
import Derived.ArgAppend
import Derived.Laws.MakeOwn
import Derived.Deep.RegionHeld3
import Derived.IntWalk
/-! Stores into the middle of a row; make with room. -/
namespace Go
theorem wpList_make_lc {P : Program} (w : World) {ops : Array Oper} {rest : List Oper} {o : Oper} {a : Act} {Q : Exit → Act → World → Prop}
    (hg : o.guard = none) (l c : Operand) (t : TypeId) (hop : o.op = Op.makeSlice t l c)
    (e : TypeId) (i : TypeInfo) (z : Value) (size : Nat) (h1 : P.underlying t = some (.slice e)) (h2 : P.info? e = some i) (h3 : i.zero = some z) (h4 : i.size = size)
    (kl kc : IntKind) (L C : Int) (n cap : Nat) (hl : a.eval l = .int kl L) (hc : a.eval c = .int kc C) (hL : L = (n : Int)) (hC : C = (cap : Int)) (hn : n ≤ cap) (b2 : i.bytes * cap ≤ 281474976710656) (b3 : cap ≤ 9223372036854775807)
    (hK : wpList P ops Q rest (a.put o.dst (.slice (some ⟨w.heap.size, 0, none⟩) n cap)) (w.alloc (.cells (madeCells z.cells (cap * size)) e))) :
    wpList P ops Q (o :: rest) a w := by
  refine wpList_plain hg fun K hK' => ?_
  subst hL hC
  have hb' : (i.bytes : Int) * (cap : Int) ≤ 281474976710656 := by
    have h : ((i.bytes * cap : Nat) : Int) ≤ 281474976710656 := by omega
    rwa [Int.natCast_mul] at h
  have hrun := run_make (P := P) w t e i z h1 h2 h3 kl kc n cap (by omega) (by omega) hb' (by omega)
  simp only [Int.toNat_natCast, h4] at hrun
  unfold Oper.wp
  simp [execOp, hop, hl, hc, hrun, Result.andThen]
  exact hK' _ _ hK
theorem wpList_append_room {P : Program} (w : World) {ops : Array Oper} {rest : List Oper} {o : Oper} {a : Act} {Q : Exit → Act → World → Prop}
    (hg : o.guard = none) (s x : Operand) (t : TypeId) (hop : o.op = Op.call { callee := Callee.builtin Builtin.append, args := #[s, x], argTypes := #[t, t] })
    (e : TypeId) (i : TypeInfo) (size : Nat) (h1 : P.underlying t = some (.slice e)) (h2 : P.info? e = some i) (h4 : i.size = size)
    (b off n cap : Nat) (hs : a.eval s = .slice (some ⟨b, off, none⟩) n cap)
    (ad : Addr) (m c : Nat) (news : List Value) (hx : a.eval x = .slice (some ad) m c) (hn : news.length = m * size) (hc : ∀ j u, news[j]? = some u → w.cell? (ad.add j) = some u) (h1c : ∀ u ∈ news, u.oneCell' = true)
    (hr : n + m ≤ cap) (hth : w.there b (off + n * size) news.length)
    (hroom : ∀ w', w' = w.setCells b (off + n * size) news → wpList P ops Q rest (a.put o.dst (.slice (some ⟨b, off, none⟩) (n + m) cap)) w') :
    wpList P ops Q (o :: rest) a w := by
  refine wpList_plain hg fun K hK' => ?_
  subst h4
  have hrun := run_append_room_cells (P := P) w t o.type e i h1 h2 b off n cap ad m c news hn hc h1c hr (fun j hj => (hth j hj).1) (fun j hj => (hth j hj).2)
  unfold Oper.wp
  simp [execOp, hop, resolve, invoke, builtin, hs, hx, hrun, Result.andThen]
  exact hK' _ _ (hroom _ rfl)
end Go
namespace Go.Proofs.YtcjllhdbepchnaaGreatDoor
open Go.RowKit Go.WideShapes
set_option linter.unusedVariables false
theorem cell_of_heap {w w' : World} {p : Addr} (h : w'.heap[p.block]? = w.heap[p.block]?) : w'.cell? p = w.cell? p := by unfold World.cell?; rw [h]
theorem setCells_heap (g : Nat) : ∀ (vs : List Value) (o : Nat) (w : World) {b : Nat}, b ≠ g → (w.setCells g o vs).heap[b]? = w.heap[b]?
  | [], _, _, _, _ => rfl
  | v :: r, o, w, b, hb => by
    rw [World.setCells, setCells_heap g r _ _ hb]
    simp [World.setCell, Array.getElem?_modify, Ne.symm hb]
theorem setCells_size (g : Nat) : ∀ (vs : List Value) (o : Nat) (w : World), (w.setCells g o vs).heap.size = w.heap.size
  | [], _, _ => rfl
  | v :: r, o, w => by rw [World.setCells, setCells_size g r]; simp
theorem setCells_blk (g : Nat) (T : TypeId) (n : Nat) : ∀ (vs : List Value) (o : Nat) (w : World), (∃ cur, w.heap[g]? = some (.cells cur T (0, 0)) ∧ cur.size = n) → ∃ cur, (w.setCells g o vs).heap[g]? = some (.cells cur T (0, 0)) ∧ cur.size = n
  | [], _, _, h => h
  | v :: r, o, w, h => by
    rw [World.setCells]
    refine setCells_blk g T n r _ _ ?_
    obtain ⟨cur, h1, h2⟩ := h
    exact ⟨cur.setIfInBounds o v, by simp [World.setCell, Array.getElem?_modify, h1], by simp [h2]⟩
theorem below_puts {B : Nat} {w w' : World} (h : Below B w w') (g : Nat) (hg : B ≤ g) : ∀ (vs : List Value) (o : Nat), Below B w (w'.setCells g o vs) := by
  intro vs
  induction vs generalizing w' with
  | nil => intro o; exact h
  | cons v r ih => intro o; rw [World.setCells]; exact ih (h.setCell (p := ⟨g, o, none⟩) (by simpa using hg) v) (o + 1)
theorem blk_there {w : World} {g n : Nat} {T : TypeId} (h : ∃ cur, w.heap[g]? = some (.cells cur T (0, 0)) ∧ cur.size = n) {o m : Nat} (ho : o + m ≤ n) : w.there g o m := fun j hj => by
  obtain ⟨cur, h1, h2⟩ := h
  refine ⟨?_, by simp [World.frozen?, h1]⟩
  have : o + j < cur.size := by omega
  simp [World.cell?, h1, Array.getElem?_eq_getElem this]
theorem CellsAt.put {w : World} {g o : Nat} {cs : List Value} (h : w.there g o cs.length) : CellsAt (w.setCells g o cs) g o cs := fun j v hv => by
  have hj : j < cs.length := (List.getElem?_eq_some_iff.1 hv).1
  rw [World.cell?_setCells_in g cs o w (fun i hi => (h i hi).1) j hj, ← hv, List.getElem?_eq_getElem hj]
theorem CellsAt.apart {w : World} {b o : Nat} {cs : List Value} (h : CellsAt w b o cs) (g o' : Nat) (vs : List Value) (hap : b ≠ g ∨ o + cs.length ≤ o' ∨ o' + vs.length ≤ o) : CellsAt (w.setCells g o' vs) b o cs := fun j v hv => by
  have hj : j < cs.length := (List.getElem?_eq_some_iff.1 hv).1
  rw [World.cell?_setCells_out g vs o' w ⟨b, o + j, none⟩ (fun hb _ => by
    rcases hap with hap | hap | hap
    · exact absurd hb hap
    · left; show o + j < o'; omega
    · right; show o' + vs.length ≤ o + j; omega)]
  exact h j v hv
end Go.Proofs.YtcjllhdbepchnaaGreatDoor

/-! Lists of fields that were lent: each in a block of its own with two marked places behind it; the blocks one behind the other. -/
namespace Go.Proofs.YtcjllhdbepchnaaGreatDoor
open Go.RowKit Go.WideShapes
set_option linter.unusedVariables false
/-- What marks the room. -/
def markF : List Value := [.string ⟨#[109, 97, 114, 107]⟩, .int .u8 99, .bool false, .int .u8 0, .bool false, .bool false, .string ⟨#[]⟩, .bool false, .string ⟨#[]⟩, .int .i64 0, .int .i64 0, .bool false, .bool false, .slice none 0 0]
theorem markF_len : markF.length = 14 := rfl
/-- Fields that lie so in block g; those within them behind it, ahead of hi. -/
inductive LentAt (w : World) : List FT → Nat → Nat → Prop
  | mk {l : List FT} {g hi : Nat} (hs gs : Nat → Nat) (blk : ∃ cur, w.heap[g]? = some (.cells cur 57 (0, 0)) ∧ cur.size = (l.length + 2) * 14) (hl : l.length + 2 ≤ 140737488351232)
      (m1 : CellsAt w g (l.length * 14) markF) (m2 : CellsAt w g ((l.length + 1) * 14) markF) (h0 : g < hs 0) (h1 : hs l.length ≤ hi)
      (it : ∀ i (h : i < l.length), hs i ≤ gs i ∧ gs i < hs (i + 1) ∧ l[i].s.ok ∧ CellsAt w g (i * 14) (fieldCells l[i] (some ⟨gs i, 0, none⟩) (l[i].fields.length + 2)))
      (sub : ∀ i (h : i < l.length), LentAt w l[i].fields (gs i) (hs (i + 1))) : LentAt w l g hi
theorem hs_mono {hs gs : Nat → Nat} {n : Nat} (it : ∀ i, i < n → hs i ≤ gs i ∧ gs i < hs (i + 1)) : ∀ j, j ≤ n → ∀ i, i ≤ j → hs i ≤ hs j
  | 0, _, i, hi => by rw [show i = 0 by omega]; exact Nat.le_refl _
  | j + 1, hj, i, hi => by
    by_cases e : i = j + 1
    · subst e; exact Nat.le_refl _
    · have h1 := hs_mono it j (by omega) i (by omega)
      have h2 := it j (by omega)
      omega
section
variable {w w' : World} {l : List FT} {g hi : Nat}
theorem LentAt.keep (h : LentAt w l g hi) : (∀ b, g ≤ b → b < hi → w'.heap[b]? = w.heap[b]?) → LentAt w' l g hi := by
  induction h with
  | @mk l g hi hs gs blk hl m1 m2 h0 h1 it sub ih =>
    intro hk
    have hm := hs_mono (n := l.length) (fun i hi => ⟨(it i hi).1, (it i hi).2.1⟩)
    have hb := hk g (Nat.le_refl _) (by have := hm l.length (Nat.le_refl _) 0 (by omega); omega)
    have hc : ∀ p : Addr, p.block = g → w'.cell? p = w.cell? p := fun p hp => cell_of_heap (by rw [hp]; exact hb)
    refine .mk hs gs (by obtain ⟨cur, c1, c2⟩ := blk; exact ⟨cur, hb.trans c1, c2⟩) hl (m1.keep hc) (m2.keep hc) h0 h1 (fun i h => ⟨(it i h).1, (it i h).2.1, (it i h).2.2.1, (it i h).2.2.2.keep hc⟩) (fun i h => ih i h fun b hb1 hb2 => hk b ?_ ?_)
    · have h3 := hm i (by omega) 0 (by omega)
      have h4 := (it i h).1
      omega
    · have h3 := hm l.length (Nat.le_refl _) (i + 1) (by omega)
      omega
theorem LentAt.more {hi' : Nat} (h : LentAt w l g hi) (hh : hi ≤ hi') : LentAt w l g hi' := by
  cases h with
  | mk hs gs blk hl m1 m2 h0 h1 it sub => exact .mk hs gs blk hl m1 m2 h0 (by omega) it sub
theorem LentAt.lt (h : LentAt w l g hi) : g < hi := by
  cases h with
  | mk hs gs blk hl m1 m2 h0 h1 it sub =>
    have := hs_mono (n := l.length) (fun i hi => ⟨(it i hi).1, (it i hi).2.1⟩) l.length (Nat.le_refl _) 0 (by omega)
    omega
theorem LentAt.far {B : Nat} (h : LentAt w l g hi) (hb : Below B w w') (hB : hi ≤ B) : LentAt w' l g hi := h.keep fun b _ h2 => hb.block b (by omega)
theorem LentAt.fields {B : Nat} (h : LentAt w l g hi) : hi ≤ B → FieldsAt w (· < B) l (some ⟨g, 0, none⟩) := by
  induction h with
  | @mk l g hi hs gs blk hl m1 m2 h0 h1 it sub ih =>
    intro hB
    have hm := hs_mono (n := l.length) (fun i hi => ⟨(it i hi).1, (it i hi).2.1⟩)
    have h9 := hm l.length (Nat.le_refl _) 0 (by omega)
    refine FieldsAt.of_get (.inr (by omega)) fun i hi => ⟨_, by rw [Nat.zero_add]; exact (it i hi).2.2.2, FieldAt.shut (it i hi).2.2.1 (by omega) ?_ (ih i hi ?_)⟩
    · cases sub i hi with
      | mk hs' gs' _ hl' => exact hl'
    · have := hm l.length (Nat.le_refl _) (i + 1) (by omega)
      omega
end
/-- A list in the making: k of n fields are there, j of two places are marked. -/
structure LIng (w : World) (g n k j z : Nat) (l : List FT) : Prop where
  blk : ∃ cur, w.heap[g]? = some (.cells cur 57 (0, 0)) ∧ cur.size = (n + 2) * 14
  it : ∃ hs gs : Nat → Nat, g < hs 0 ∧ hs k ≤ z ∧ ∀ i (h : i < l.length), i < k → (hs i ≤ gs i ∧ gs i < hs (i + 1) ∧ l[i].s.ok ∧ CellsAt w g (i * 14) (fieldCells l[i] (some ⟨gs i, 0, none⟩) (l[i].fields.length + 2))) ∧ LentAt w l[i].fields (gs i) (hs (i + 1))
  mrk : ∀ i, i < j → CellsAt w g ((n + i) * 14) markF
  zle : z ≤ w.heap.size
section
variable {w w' : World} {g n k j z : Nat} {l : List FT}
theorem LIng.lt (h : LIng w g n k j z l) : g < w.heap.size := by obtain ⟨cur, h1, _⟩ := h.blk; exact (Array.getElem?_eq_some_iff.1 h1).1
theorem LIng.there (h : LIng w g n k j z l) {i : Nat} (hi : i < n + 2) : w.there g (i * 14) 14 := blk_there h.blk (by omega)
theorem LIng.below {B : Nat} (h : LIng w g n k j z l) (hk : k ≤ l.length) (hb : Below B w w') (hB : w.heap.size ≤ B) : LIng w' g n k j z l := by
  have hg := h.lt
  have hc : ∀ p : Addr, p.block = g → w'.cell? p = w.cell? p := fun p hp => hb.cell (by rw [hp]; omega)
  obtain ⟨cur, c1, c2⟩ := h.blk
  obtain ⟨hs, gs, h0, h1, it⟩ := h.it
  have hm := hs_mono (hs := hs) (gs := gs) (n := k) (fun i hi => ⟨(it i (by omega) hi).1.1, (it i (by omega) hi).1.2.1⟩)
  have hz := h.zle
  refine ⟨⟨cur, (hb.block g (by omega)).trans c1, c2⟩, ⟨hs, gs, h0, h1, fun i hi hik => ⟨⟨(it i hi hik).1.1, (it i hi hik).1.2.1, (it i hi hik).1.2.2.1, (it i hi hik).1.2.2.2.keep hc⟩, (it i hi hik).2.keep fun b hb1 hb2 => hb.block b ?_⟩⟩, fun i hi => (h.mrk i hi).keep hc, Nat.le_trans hz hb.size⟩
  have := hm k (Nat.le_refl _) (i + 1) (by omega)
  omega
theorem LIng.sub_keep {hs gs : Nat → Nat} (h0 : g < hs 0) (it : ∀ i (h : i < l.length), i < k → (hs i ≤ gs i ∧ gs i < hs (i + 1) ∧ l[i].s.ok ∧ CellsAt w g (i * 14) (fieldCells l[i] (some ⟨gs i, 0, none⟩) (l[i].fields.length + 2))) ∧ LentAt w l[i].fields (gs i) (hs (i + 1))) (hk : k ≤ l.length)
    (hw : ∀ b, b ≠ g → w'.heap[b]? = w.heap[b]?) {i : Nat} (hi : i < l.length) (hik : i < k) : LentAt w' l[i].fields (gs i) (hs (i + 1)) := by
  have hm := hs_mono (hs := hs) (gs := gs) (n := k) (fun i hi => ⟨(it i (by omega) hi).1.1, (it i (by omega) hi).1.2.1⟩)
  refine (it i hi hik).2.keep fun b hb1 hb2 => hw b ?_
  have h1 := hm i (by omega) 0 (by omega)
  have h2 := (it i hi hik).1.1
  omega
theorem LIng.putraw (h : LIng w g n k j z l) (hl : l.length = n) (hk : k < n) {vs : List Value} (hv : vs.length = 14) : LIng (w.setCells g (k * 14) vs) g n k j z l := by
  obtain ⟨hs, gs, h0, h1, it⟩ := h.it
  refine ⟨setCells_blk g _ _ _ _ _ h.blk, ⟨hs, gs, h0, h1, fun i hi hik => ⟨⟨(it i hi hik).1.1, (it i hi hik).1.2.1, (it i hi hik).1.2.2.1, (it i hi hik).1.2.2.2.apart _ _ _ (.inr (.inl (by rw [fieldCells_len]; omega)))⟩, LIng.sub_keep h0 it (by omega) (fun b hb => setCells_heap g _ _ _ hb) hi hik⟩⟩,
    fun i hi => (h.mrk i hi).apart _ _ _ (.inr (.inr (by rw [hv, Nat.add_mul]; omega))), by rw [setCells_size]; exact h.zle⟩
theorem field13 {t : FT} {a a' : Option Addr} {c c' : Nat} {b o : Nat} (h : CellsAt w b o (fieldCells t a c)) : CellsAt (w.setCell ⟨b, o + 13, none⟩ (.slice a' t.fields.length c')) b o (fieldCells t a' c') := by
  intro q u hu
  have hq : q < 14 := by have := (List.getElem?_eq_some_iff.1 hu).1; simpa [fieldCells_len] using this
  by_cases e : q = 13
  · subst e
    rw [World.cell?_setCell_same _ _ _ (h 13 _ rfl), ← hu]; rfl
  · rw [World.cell?_setCell_other _ _ _ _ (by simp <;> omega)]
    refine h q u ?_
    rw [← hu]
    match q, hq, e with
    | 0, _, _ => rfl
    | 1, _, _ => rfl
    | 2, _, _ => rfl
    | 3, _, _ => rfl
    | 4, _, _ => rfl
    | 5, _, _ => rfl
    | 6, _, _ => rfl
    | 7, _, _ => rfl
    | 8, _, _ => rfl
    | 9, _, _ => rfl
    | 10, _, _ => rfl
    | 11, _, _ => rfl
    | 12, _, _ => rfl
    | 13, _, h => exact absurd rfl h
theorem setCell_is (w : World) (g o : Nat) (v : Value) : w.setCell ⟨g, o, none⟩ v = w.setCells g o [v] := rfl
theorem LIng.fix (h : LIng w g n k j z l) (hl : l.length = n) (hk : k < n) {a : Option Addr} {c gk hk' : Nat} (hok : (l[k]'(by omega)).s.ok) (hc : CellsAt w g (k * 14) (fieldCells (l[k]'(by omega)) a c)) (hsub : LentAt w (l[k]'(by omega)).fields gk hk') (hz : z ≤ gk) (hw : hk' ≤ w.heap.size) :
    LIng (w.setCell ⟨g, k * 14 + 13, none⟩ (.slice (some ⟨gk, 0, none⟩) (l[k]'(by omega)).fields.length ((l[k]'(by omega)).fields.length + 2))) g n (k + 1) j hk' l := by
  obtain ⟨hs, gs, h0, h1, it⟩ := h.it
  have hm := hs_mono (hs := hs) (gs := gs) (n := k) (fun i hi => ⟨(it i (by omega) hi).1.1, (it i (by omega) hi).1.2.1⟩)
  have hz0 := hm k (Nat.le_refl _) 0 (by omega)
  have hlt := hsub.lt
  refine ⟨setCells_blk g _ _ [_] _ _ h.blk, ⟨fun i => if i ≤ k then hs i else hk', fun i => if i < k then gs i else gk, by simpa using h0, by simp [show ¬ k + 1 ≤ k by omega], fun i hi hik => ?_⟩,
    fun i hi => (h.mrk i hi).apart g (k * 14 + 13) [_] (.inr (.inr (by simp [Nat.add_mul]; omega))), by simpa using hw⟩
  by_cases e : i = k
  · subst e
    simp only [Nat.le_refl, if_true, Nat.lt_irrefl, if_false, show ¬ i + 1 ≤ i by omega]
    exact ⟨⟨by omega, hlt, hok, field13 hc⟩, hsub.keep fun b hb1 hb2 => setCells_heap g [_] _ _ (by omega)⟩
  · have hik' : i < k := by omega
    simp only [show i ≤ k by omega, show i < k by omega, show i + 1 ≤ k by omega, if_true]
    exact ⟨⟨(it i hi hik').1.1, (it i hi hik').1.2.1, (it i hi hik').1.2.2.1, (it i hi hik').1.2.2.2.apart g (k * 14 + 13) [_] (.inr (.inl (by rw [fieldCells_len]; omega)))⟩, LIng.sub_keep h0 it (by omega) (fun b hb => setCells_heap g [_] _ _ hb) hi hik'⟩
theorem LIng.mark (h : LIng w g n n j z l) (hl : l.length = n) (hj : j < 2) : LIng (w.setCells g ((n + j) * 14) markF) g n n (j + 1) z l := by
  obtain ⟨hs, gs, h0, h1, it⟩ := h.it
  refine ⟨setCells_blk g _ _ _ _ _ h.blk, ⟨hs, gs, h0, h1, fun i hi hik => ⟨⟨(it i hi hik).1.1, (it i hi hik).1.2.1, (it i hi hik).1.2.2.1, (it i hi hik).1.2.2.2.apart _ _ _ (.inr (.inl (by rw [fieldCells_len]; omega)))⟩, LIng.sub_keep h0 it (by omega) (fun b hb => setCells_heap g _ _ _ hb) hi hik⟩⟩,
    fun i hi => ?_, by rw [setCells_size]; exact h.zle⟩
  by_cases e : i = j
  · subst e; exact CellsAt.put (h.there (by omega))
  · exact (h.mrk i (by omega)).apart _ _ _ (.inr (.inl (by rw [markF_len]; omega)))
theorem LIng.markAt {m : Nat} (h : LIng w g n n (m - n) z l) (hl : l.length = n) (hm : n ≤ m) (hj : m < n + 2) : LIng (w.setCells g (m * 14) markF) g n n (m + 1 - n) z l := by
  have := h.mark hl (by omega)
  rw [show n + (m - n) = m by omega] at this
  rw [show m + 1 - n = m - n + 1 by omega]; exact this
theorem LIng.done (h : LIng w g n n 2 z l) (hl : l.length = n) (hn : n + 2 ≤ 140737488351232) : LentAt w l g w.heap.size := by
  subst hl
  obtain ⟨hs, gs, h0, h1, it⟩ := h.it
  exact .mk hs gs h.blk hn (h.mrk 0 (by omega)) (h.mrk 1 (by omega)) h0 (Nat.le_trans h1 h.zle) (fun i hi => (it i hi hi).1) (fun i hi => (it i hi hi).2)
theorem LIng.new (w : World) (T : Nat) (hT : T = w.heap.size) (n : Nat) (c : Array Value) (hc : c.size = (n + 2) * 14) (l : List FT) : LIng (w.alloc (.cells c 57)) T n 0 0 (T + 1) l := by
  subst hT
  exact ⟨⟨c, World.alloc_heap_new w _, hc⟩, ⟨fun _ => w.heap.size + 1, fun _ => 0, by simp, Nat.le_refl _, fun i hi hk => absurd hk (Nat.not_lt_zero i)⟩, fun i hi => absurd hi (Nat.not_lt_zero i), by simp⟩
end
theorem cell_behind (w : World) (g o : Nat) (vs : List Value) (j : Nat) (h : vs.length ≤ j) : (w.setCells g o vs).cell? ⟨g, o + j, none⟩ = w.cell? ⟨g, o + j, none⟩ := World.cell?_setCells_out g vs o w ⟨g, o + j, none⟩ (fun _ _ => .inr (by show o + vs.length ≤ o + j; omega))
theorem setCells14 (w : World) (g o : Nat) (v0 v1 v2 v3 v4 v5 v6 v7 v8 v9 v10 v11 v12 v13 : Value) : w.setCells g o [v0, v1, v2, v3, v4, v5, v6, v7, v8, v9, v10, v11, v12, v13] = ((((((((((((((w.setCell ⟨g, o, none⟩ v0).setCell ⟨g, o + 1, none⟩ v1).setCell ⟨g, o + 2, none⟩ v2).setCell ⟨g, o + 3, none⟩ v3).setCell ⟨g, o + 4, none⟩ v4).setCell ⟨g, o + 5, none⟩ v5).setCell ⟨g, o + 6, none⟩ v6).setCell ⟨g, o + 7, none⟩ v7).setCell ⟨g, o + 8, none⟩ v8).setCell ⟨g, o + 9, none⟩ v9).setCell ⟨g, o + 10, none⟩ v10).setCell ⟨g, o + 11, none⟩ v11).setCell ⟨g, o + 12, none⟩ v12).setCell ⟨g, o + 13, none⟩ v13) := rfl
theorem there14 {w : World} {g o : Nat} (h : w.there g o 14) (v0 v1 v2 v3 v4 v5 v6 v7 v8 v9 v10 v11 v12 : Value) : ∃ u0 u1 u2 u3 u4 u5 u6 u7 u8 u9 u10 u11 u12 u13, w.cell? ⟨g, o, none⟩ = some u0 ∧ (w.setCell ⟨g, o, none⟩ v0).cell? ⟨g, o + 1, none⟩ = some u1 ∧ ((w.setCell ⟨g, o, none⟩ v0).setCell ⟨g, o + 1, none⟩ v1).cell? ⟨g, o + 2, none⟩ = some u2 ∧ (((w.setCell ⟨g, o, none⟩ v0).setCell ⟨g, o + 1, none⟩ v1).setCell ⟨g, o + 2, none⟩ v2).cell? ⟨g, o + 3, none⟩ = some u3 ∧ ((((w.setCell ⟨g, o, none⟩ v0).setCell ⟨g, o + 1, none⟩ v1).setCell ⟨g, o + 2, none⟩ v2).setCell ⟨g, o + 3, none⟩ v3).cell? ⟨g, o + 4, none⟩ = some u4 ∧ (((((w.setCell ⟨g, o, none⟩ v0).setCell ⟨g, o + 1, none⟩ v1).setCell ⟨g, o + 2, none⟩ v2).setCell ⟨g, o + 3, none⟩ v3).setCell ⟨g, o + 4, none⟩ v4).cell? ⟨g, o + 5, none⟩ = some u5 ∧ ((((((w.setCell ⟨g, o, none⟩ v0).setCell ⟨g, o + 1, none⟩ v1).setCell ⟨g, o + 2, none⟩ v2).setCell ⟨g, o + 3, none⟩ v3).setCell ⟨g, o + 4, none⟩ v4).setCell ⟨g, o + 5, none⟩ v5).cell? ⟨g, o + 6, none⟩ = some u6 ∧ (((((((w.setCell ⟨g, o, none⟩ v0).setCell ⟨g, o + 1, none⟩ v1).setCell ⟨g, o + 2, none⟩ v2).setCell ⟨g, o + 3, none⟩ v3).setCell ⟨g, o + 4, none⟩ v4).setCell ⟨g, o + 5, none⟩ v5).setCell ⟨g, o + 6, none⟩ v6).cell? ⟨g, o + 7, none⟩ = some u7 ∧ ((((((((w.setCell ⟨g, o, none⟩ v0).setCell ⟨g, o + 1, none⟩ v1).setCell ⟨g, o + 2, none⟩ v2).setCell ⟨g, o + 3, none⟩ v3).setCell ⟨g, o + 4, none⟩ v4).setCell ⟨g, o + 5, none⟩ v5).setCell ⟨g, o + 6, none⟩ v6).setCell ⟨g, o + 7, none⟩ v7).cell? ⟨g, o + 8, none⟩ = some u8 ∧ (((((((((w.setCell ⟨g, o, none⟩ v0).setCell ⟨g, o + 1, none⟩ v1).setCell ⟨g, o + 2, none⟩ v2).setCell ⟨g, o + 3, none⟩ v3).setCell ⟨g, o + 4, none⟩ v4).setCell ⟨g, o + 5, none⟩ v5).setCell ⟨g, o + 6, none⟩ v6).setCell ⟨g, o + 7, none⟩ v7).setCell ⟨g, o + 8, none⟩ v8).cell? ⟨g, o + 9, none⟩ = some u9 ∧ ((((((((((w.setCell ⟨g, o, none⟩ v0).setCell ⟨g, o + 1, none⟩ v1).setCell ⟨g, o + 2, none⟩ v2).setCell ⟨g, o + 3, none⟩ v3).setCell ⟨g, o + 4, none⟩ v4).setCell ⟨g, o + 5, none⟩ v5).setCell ⟨g, o + 6, none⟩ v6).setCell ⟨g, o + 7, none⟩ v7).setCell ⟨g, o + 8, none⟩ v8).setCell ⟨g, o + 9, none⟩ v9).cell? ⟨g, o + 10, none⟩ = some u10 ∧ (((((((((((w.setCell ⟨g, o, none⟩ v0).setCell ⟨g, o + 1, none⟩ v1).setCell ⟨g, o + 2, none⟩ v2).setCell ⟨g, o + 3, none⟩ v3).setCell ⟨g, o + 4, none⟩ v4).setCell ⟨g, o + 5, none⟩ v5).setCell ⟨g, o + 6, none⟩ v6).setCell ⟨g, o + 7, none⟩ v7).setCell ⟨g, o + 8, none⟩ v8).setCell ⟨g, o + 9, none⟩ v9).setCell ⟨g, o + 10, none⟩ v10).cell? ⟨g, o + 11, none⟩ = some u11 ∧ ((((((((((((w.setCell ⟨g, o, none⟩ v0).setCell ⟨g, o + 1, none⟩ v1).setCell ⟨g, o + 2, none⟩ v2).setCell ⟨g, o + 3, none⟩ v3).setCell ⟨g, o + 4, none⟩ v4).setCell ⟨g, o + 5, none⟩ v5).setCell ⟨g, o + 6, none⟩ v6).setCell ⟨g, o + 7, none⟩ v7).setCell ⟨g, o + 8, none⟩ v8).setCell ⟨g, o + 9, none⟩ v9).setCell ⟨g, o + 10, none⟩ v10).setCell ⟨g, o + 11, none⟩ v11).cell? ⟨g, o + 12, none⟩ = some u12 ∧ (((((((((((((w.setCell ⟨g, o, none⟩ v0).setCell ⟨g, o + 1, none⟩ v1).setCell ⟨g, o + 2, none⟩ v2).setCell ⟨g, o + 3, none⟩ v3).setCell ⟨g, o + 4, none⟩ v4).setCell ⟨g, o + 5, none⟩ v5).setCell ⟨g, o + 6, none⟩ v6).setCell ⟨g, o + 7, none⟩ v7).setCell ⟨g, o + 8, none⟩ v8).setCell ⟨g, o + 9, none⟩ v9).setCell ⟨g, o + 10, none⟩ v10).setCell ⟨g, o + 11, none⟩ v11).setCell ⟨g, o + 12, none⟩ v12).cell? ⟨g, o + 13, none⟩ = some u13 ∧ w.frozen? ⟨g, o, none⟩ = false ∧ w.frozen? ⟨g, o + 1, none⟩ = false ∧ w.frozen? ⟨g, o + 2, none⟩ = false ∧ w.frozen? ⟨g, o + 3, none⟩ = false ∧ w.frozen? ⟨g, o + 4, none⟩ = false ∧ w.frozen? ⟨g, o + 5, none⟩ = false ∧ w.frozen? ⟨g, o + 6, none⟩ = false ∧ w.frozen? ⟨g, o + 7, none⟩ = false ∧ w.frozen? ⟨g, o + 8, none⟩ = false ∧ w.frozen? ⟨g, o + 9, none⟩ = false ∧ w.frozen? ⟨g, o + 10, none⟩ = false ∧ w.frozen? ⟨g, o + 11, none⟩ = false ∧ w.frozen? ⟨g, o + 12, none⟩ = false ∧ w.frozen? ⟨g, o + 13, none⟩ = false := by
  obtain ⟨u0, h0⟩ := Option.isSome_iff_exists.1 (h 0 (by omega)).1
  obtain ⟨u1, h1⟩ := Option.isSome_iff_exists.1 (h 1 (by omega)).1
  obtain ⟨u2, h2⟩ := Option.isSome_iff_exists.1 (h 2 (by omega)).1
  obtain ⟨u3, h3⟩ := Option.isSome_iff_exists.1 (h 3 (by omega)).1
  obtain ⟨u4, h4⟩ := Option.isSome_iff_exists.1 (h 4 (by omega)).1
  obtain ⟨u5, h5⟩ := Option.isSome_iff_exists.1 (h 5 (by omega)).1
  obtain ⟨u6, h6⟩ := Option.isSome_iff_exists.1 (h 6 (by omega)).1
  obtain ⟨u7, h7⟩ := Option.isSome_iff_exists.1 (h 7 (by omega)).1
  obtain ⟨u8, h8⟩ := Option.isSome_iff_exists.1 (h 8 (by omega)).1
  obtain ⟨u9, h9⟩ := Option.isSome_iff_exists.1 (h 9 (by omega)).1
  obtain ⟨u10, h10⟩ := Option.isSome_iff_exists.1 (h 10 (by omega)).1
  obtain ⟨u11, h11⟩ := Option.isSome_iff_exists.1 (h 11 (by omega)).1
  obtain ⟨u12, h12⟩ := Option.isSome_iff_exists.1 (h 12 (by omega)).1
  obtain ⟨u13, h13⟩ := Option.isSome_iff_exists.1 (h 13 (by omega)).1
  exact ⟨u0, u1, u2, u3, u4, u5, u6, u7, u8, u9, u10, u11, u12, u13, h0, (cell_behind w g o [v0] 1 (by simp)).trans h1, (cell_behind w g o [v0, v1] 2 (by simp)).trans h2, (cell_behind w g o [v0, v1, v2] 3 (by simp)).trans h3, (cell_behind w g o [v0, v1, v2, v3] 4 (by simp)).trans h4, (cell_behind w g o [v0, v1, v2, v3, v4] 5 (by simp)).trans h5, (cell_behind w g o [v0, v1, v2, v3, v4, v5] 6 (by simp)).trans h6, (cell_behind w g o [v0, v1, v2, v3, v4, v5, v6] 7 (by simp)).trans h7, (cell_behind w g o [v0, v1, v2, v3, v4, v5, v6, v7] 8 (by simp)).trans h8, (cell_behind w g o [v0, v1, v2, v3, v4, v5, v6, v7, v8] 9 (by simp)).trans h9, (cell_behind w g o [v0, v1, v2, v3, v4, v5, v6, v7, v8, v9] 10 (by simp)).trans h10, (cell_behind w g o [v0, v1, v2, v3, v4, v5, v6, v7, v8, v9, v10] 11 (by simp)).trans h11, (cell_behind w g o [v0, v1, v2, v3, v4, v5, v6, v7, v8, v9, v10, v11] 12 (by simp)).trans h12, (cell_behind w g o [v0, v1, v2, v3, v4, v5, v6, v7, v8, v9, v10, v11, v12] 13 (by simp)).trans h13, (h 0 (by omega)).2, (h 1 (by omega)).2, (h 2 (by omega)).2, (h 3 (by omega)).2, (h 4 (by omega)).2, (h 5 (by omega)).2, (h 6 (by omega)).2, (h 7 (by omega)).2, (h 8 (by omega)).2, (h 9 (by omega)).2, (h 10 (by omega)).2, (h 11 (by omega)).2, (h 12 (by omega)).2, (h 13 (by omega)).2⟩
end Go.Proofs.YtcjllhdbepchnaaGreatDoor

/-! keep.LentFields: fields whose lists have marked room behind them. -/
namespace Go.Proofs.YtcjllhdbepchnaaGreatDoor
open Go.RowKit Go.WideShapes
set_option linter.unusedVariables false
theorem field_info : (Tryz.prog.info? 57).map (fun i => (i.zero, i.size, i.bytes)) = some (some (.agg #[.string ⟨#[]⟩, .int .u8 0, .bool false, .int .u8 0, .bool false, .bool false, .string ⟨#[]⟩, .bool false, .string ⟨#[]⟩, .int .i64 0, .int .i64 0, .bool false, .bool false, .slice none 0 0]), 14, 120) := by kernel_rfl
/-- No list of fields is too long. -/
inductive Slim : List FT → Prop
  | mk {l : List FT} (h : l.length ≤ 16777216) (sub : ∀ x ∈ l, Slim x.fields) : Slim l
theorem Slim.len {l : List FT} (h : Slim l) : l.length ≤ 16777216 := by cases h; assumption
theorem Slim.sub {l : List FT} (h : Slim l) {x : FT} (hx : x ∈ l) : Slim x.fields := by cases h with | mk _ hs => exact hs x hx
/-- They come back so, in new blocks. -/
def LentFPost (l : List FT) (w : World) (e : Ending) (w' : World) : Prop := ∃ g, e = .returned (.slice (some ⟨g, 0, none⟩) l.length (l.length + 2)) ∧ Below w.heap.size w w' ∧ w.heap.size ≤ g ∧ LentAt w' l g w'.heap.size
def LentFAny (l : List FT) : Prop := ∀ (a : Option Addr) (c : Nat) (w : World), Slim l → FieldsAt w (· < w.heap.size) l a → Calls Tryz.prog 13 #[.slice a l.length c] w (LentFPost l w)
set_option maxRecDepth 100000 in
set_option maxHeartbeats 2000000 in
theorem lentF_step (l : List FT) (ih : ∀ x ∈ l, LentFAny x.fields) : LentFAny l := by
  intro a c w hsl hf
  have hlen := hsl.len
  obtain ⟨N, hN1, hN2⟩ : ∃ N, l.length + 2 ≤ N ∧ N ≤ l.length + 2 := ⟨_, Nat.le_refl _, Nat.le_refl _⟩
  obtain ⟨i0, hi, hz0, hz1, hzb⟩ := info_parts field_info
  have HL := Lib.hid hf
  have HSm := Lib.hid (fun x (hx : x ∈ l) => hsl.sub hx)
  have HIH := Lib.hid ih
  have HB0 := Lib.hid (fun o => (Below.refl w.heap.size w).alloc (Nat.le_refl _) o)
  have HV0 := Lib.hid (fun c h2 => LIng.new w w.heap.size rfl l.length c h2 l)
  clear hf hsl ih
  go_enter Tryz.func13, Tryz.ntmps13
  go_wp2_with (at_make; refine wpList_make_lc _ rfl _ _ 22 rfl 57 i0 (.agg #[.string ⟨#[]⟩, .int .u8 0, .bool false, .int .u8 0, .bool false, .bool false, .string ⟨#[]⟩, .bool false, .string ⟨#[]⟩, .int .i64 0, .int .i64 0, .bool false, .bool false, .slice none 0 0]) 14 Tryz.underlying22 hi hz0 hz1 _ _ _ _ l.length N rfl rfl (by omega) (by omega) (by omega) (by rw [hzb]; omega) (by omega) ?_)
  go_loopw [4] (fun i wr => ∃ (k z : Nat), i = .int .i64 k ∧ k ≤ l.length ∧ Hid (Below w.heap.size w wr) ∧ Hid (LIng wr w.heap.size l.length k 0 z l) ∧ w.heap.size + 1 ≤ wr.heap.size) (fun i _ => l.length - (intOf i).toNat)
  case atStart => exact ⟨0, _, rfl, by omega, Lib.hid (HB0.out _), Lib.hid (HV0.out _ (by simp [madeCells, show N = l.length + 2 by omega])), by simp⟩
  case round =>
    clear HB0 HV0
    obtain ⟨k, z, rfl, hk, HB, HV, hwz⟩ := hrel
    by_cases hlt : k < l.length
    · obtain ⟨b, o, aa, cc, rfl, hb, hca, hfa⟩ := (HL.out.below HB.out).get hlt
      obtain ⟨k0, k1, k2, k3, k4, k5, k6, k7, k8, k9, k10, k11, k12, k13⟩ := hca.field
      obtain ⟨_, _, ee, hok, hfl, hfc, hff⟩ := hfa.open
      obtain ⟨rfl, rfl⟩ := fieldCells_inj ee
      have HOK := Lib.hid hok
      have HFF := Lib.hid hff
      have HCA := Lib.hid hca
      obtain ⟨u0, u1, u2, u3, u4, u5, u6, u7, u8, u9, u10, u11, u12, u13, s0, s1, s2, s3, s4, s5, s6, s7, s8, s9, s10, s11, s12, s13, f0, f1, f2, f3, f4, f5, f6, f7, f8, f9, f10, f11, f12, f13⟩ := there14 (HV.out.there (i := k) (by omega)) (.string l[k].s.name) (.int .u8 l[k].s.kind) (.bool l[k].s.down) (.int .u8 l[k].s.nulls) (.bool l[k].s.bnd) (.bool l[k].s.lb) (.string l[k].s.lm) (.bool l[k].s.hb) (.string l[k].s.hm) (.int .i64 l[k].s.most) (.int .i64 l[k].s.st) (.bool l[k].s.sh) (.bool l[k].s.ba)
      clear hok hff hfa hca ee
      go_wp2_with fail

      obtain ⟨W1, hW1⟩ : ∃ W1, W1 = wr.setCells w.heap.size (k * 14) [.string l[k].s.name, .int .u8 l[k].s.kind, .bool l[k].s.down, .int .u8 l[k].s.nulls, .bool l[k].s.bnd, .bool l[k].s.lb, .string l[k].s.lm, .bool l[k].s.hb, .string l[k].s.hm, .int .i64 l[k].s.most, .int .i64 l[k].s.st, .bool l[k].s.sh, .bool l[k].s.ba, .slice aa l[k].fields.length cc] := ⟨_, rfl⟩
      have hV1 : LIng W1 w.heap.size l.length k 0 z l := by rw [hW1]; exact HV.out.putraw rfl hlt rfl
      have hC1 : CellsAt W1 w.heap.size (k * 14) (fieldCells l[k] aa cc) := by rw [hW1]; exact CellsAt.put (HV.out.there (by omega))
      have hB1 : Below w.heap.size wr W1 := by rw [hW1]; exact below_puts (Below.refl _ _) w.heap.size (Nat.le_refl _) _ _
      have hz1 : W1.heap.size = wr.heap.size := by rw [hW1]; exact setCells_size _ _ _ _
      rw [setCells14] at hW1
      rw [← hW1]
      clear hW1 u0 u1 u2 u3 u4 u5 u6 u7 u8 u9 u10 u11 u12 u13 s0 s1 s2 s3 s4 s5 s6 s7 s8 s9 s10 s11 s12 s13 f0 f1 f2 f3 f4 f5 f6 f7 f8 f9 f10 f11 f12 f13 k0 k1 k2 k3 k4 k5 k6 k7 k8 k9 k10 k11 k12 k13
      refine (HIH.out l[k] (List.getElem_mem hlt) aa cc W1 (HSm.out _ (List.getElem_mem hlt)) ((HFF.out.below hB1).wide (by omega))).mono ?_
      rintro e w2 ⟨g2, rfl, hb2, hg2, hl2⟩
      have hz2 := hb2.size
      have hV2 := hV1.below (by omega) hb2 (Nat.le_refl _)
      have hth := hV2.there (i := k) (by omega) 13 (by omega)
      obtain ⟨u13, s13⟩ := Option.isSome_iff_exists.1 hth.1
      have f13 := hth.2
      have HB' := Lib.hid ((HB.out.trans (hB1.trans (hb2.mono (by omega)))).setCell (p := ⟨w.heap.size, k * 14 + 13, none⟩) (Nat.le_refl _) (.slice (some ⟨g2, 0, none⟩) l[k].fields.length (l[k].fields.length + 2)))
      have HV' := Lib.hid (hV2.fix rfl hlt HOK.out (hC1.keep fun p hp => hb2.cell (by rw [hp]; omega)) hl2 (by have := hV1.zle; omega) (Nat.le_refl _))
      clear hth hV2 hV1 hC1 hB1 hb2 hl2
      go_wp2_with fail
      go_roundw
      case rel => exact ⟨k + 1, _, by go_num, by omega, HB', HV', by simp; omega⟩
      case measure => simp [intOf]; omega
    · obtain rfl : k = l.length := by omega
      have hlenI : l.length ≤ 9223372036854775807 := by omega
      go_wp2_with fail
      go_loopw [6] (fun i wr => ∃ (m : Nat), i = .int .i64 m ∧ l.length ≤ m ∧ m ≤ N ∧ Hid (Below w.heap.size w wr) ∧ Hid (LIng wr w.heap.size l.length l.length (m - l.length) z l) ∧ w.heap.size + 1 ≤ wr.heap.size) (fun i _ => N - (intOf i).toNat)
      case atStart => exact ⟨l.length, rfl, by omega, by omega, HB, by rw [Nat.sub_self]; exact HV, hwz⟩
      case round =>
        clear HB HV hwz HIH HL
        obtain ⟨m, rfl, hm1, hm2, HB, HV, hwz⟩ := hrel
        by_cases hj2 : m < N
        · obtain ⟨u0, u1, u2, u3, u4, u5, u6, u7, u8, u9, u10, u11, u12, u13, s0, s1, s2, s3, s4, s5, s6, s7, s8, s9, s10, s11, s12, s13, f0, f1, f2, f3, f4, f5, f6, f7, f8, f9, f10, f11, f12, f13⟩ := there14 (HV.out.there (i := m) (by omega)) (.string ⟨#[109, 97, 114, 107]⟩) (.int .u8 99) (.bool false) (.int .u8 0) (.bool false) (.bool false) (.string ⟨#[]⟩) (.bool false) (.string ⟨#[]⟩) (.int .i64 0) (.int .i64 0) (.bool false) (.bool false)
          have HV' := Lib.hid (HV.out.markAt rfl hm1 (by omega))
          have HB' := Lib.hid (below_puts HB.out w.heap.size (Nat.le_refl _) markF (m * 14))
          have hz4 := setCells_size w.heap.size markF (m * 14) wr
          unfold markF at HV' HB' hz4
          rw [setCells14] at HV' HB' hz4
          go_wp2_with fail
          go_roundw
          case rel => exact ⟨m + 1, by go_num, by omega, by omega, HB', HV', by omega⟩
          case measure => simp [intOf]; omega
        · obtain rfl : N = m := by omega
          have HVe := Lib.hid ((show LIng wr w.heap.size l.length l.length 2 z l by have h9 := HV.out; rw [show N - l.length = 2 by omega] at h9; exact h9).done rfl (by omega))
          go_wp2_with fail
          go_ret
          exact ⟨w.heap.size, by rw [show l.length + 2 = N by omega]; rfl, HB.out, Nat.le_refl _, HVe.out⟩
theorem lentF_any (l : List FT) : LentFAny l := lentF_step l (fun x hx => FT.allL (M := fun t => LentFAny t.fields) (fun t h => lentF_step t.fields h) l x hx)
end Go.Proofs.YtcjllhdbepchnaaGreatDoor

/-! law11's weight and Vast: what is not vast has no list that is too long. -/
namespace Go.Proofs.YtcjllhdbepchnaaGreatDoor
open Go.RowKit Go.WideShapes
set_option linter.unusedVariables false
/-- What a weight tells. -/
def WgtPost (l : List FT) (deep : Nat) (w : World) (e : Ending) (w' : World) : Prop := ∃ n : Int, e = .returned (.int .i64 n) ∧ Below w.heap.size w w' ∧ 0 ≤ n ∧ n ≤ 67108865 + (1001 - (deep : Int)) * 1125899906842624 ∧ (n ≤ 67108864 → Slim l)
def WgtAny (l : List FT) : Prop := ∀ (a : Option Addr) (c deep : Nat) (w : World), deep ≤ 1001 → l.length ≤ c → c ≤ 140737488351232 → FieldsAt w (· < w.heap.size) l a → Calls Tryz.prog 58 #[.slice a l.length c, .int .i64 deep] w (WgtPost l deep w)
set_option maxRecDepth 100000 in
set_option maxHeartbeats 2000000 in
theorem wgt_step (l : List FT) (ih : ∀ x ∈ l, WgtAny x.fields) : WgtAny l := by
  intro a c deep w hd hlc hc hf
  have HL := Lib.hid hf
  have HIH := Lib.hid ih
  have HB0 := Lib.hid (Below.refl w.heap.size w)
  clear hf ih
  by_cases hdd : 1000 < deep
  · go_enter Tryz.func58, Tryz.ntmps58
    go_wp2_with fail
    go_ret
    exact ⟨_, rfl, HB0.out, by omega, by omega, fun h => absurd h (by omega)⟩
  have HS0 := Lib.hid (show ∀ i (hi : i < l.length), i < 0 → Slim l[i].fields from fun i _ h => absurd h (Nat.not_lt_zero i))
  go_enter Tryz.func58, Tryz.ntmps58
  go_wp2_with fail
  go_loopw [5, 6] (fun n i wr => ∃ (k : Nat) (n' : Int), n = .int .i64 n' ∧ i = .int .i64 k ∧ k ≤ l.length ∧ 100 * (k : Int) ≤ n' ∧ n' ≤ 67108865 + (1001 - (deep : Int)) * 1125899906842624 ∧ Hid (n' ≤ 67108864 → ∀ i (hi : i < l.length), i < k → Slim l[i].fields) ∧ Hid (Below w.heap.size w wr)) (fun _ i _ => l.length - (intOf i).toNat)
  case atStart => exact ⟨0, 0, rfl, rfl, by omega, by omega, by omega, Lib.hid (fun _ => HS0.out), HB0⟩
  case round =>
    clear HB0 HS0
    obtain ⟨k, n', rfl, rfl, hk, hn1, hn2, HS, HB⟩ := hrel
    have hwz := HB.out.size
    by_cases hlt : k < l.length
    · by_cases hn : n' ≤ 67108864
      · obtain ⟨b, o, aa, cc, rfl, hb, hca, hfa⟩ := (HL.out.below HB.out).get hlt
        obtain ⟨k0, k1, k2, k3, k4, k5, k6, k7, k8, k9, k10, k11, k12, k13⟩ := hca.field
        obtain ⟨_, _, ee, hok, hfl, hfc, hff⟩ := hfa.open
        obtain ⟨rfl, rfl⟩ := fieldCells_inj ee
        have hs0 := hok.1
        have hs1 := hok.2.2.2.1
        have hs2 := hok.2.2.2.2.1
        have HFF := Lib.hid hff
        have HSk := Lib.hid (HS.out hn)
        clear hff hfa hca ee hok k1 k2 k3 k4 k5 k7 k9 k10 k11 k12 HS
        have hkl0 : (0 : Int) ≤ (k : Int) := by omega
        have hkl1 : (k : Int) < (l.length : Int) := by omega
        go_wp2_with fail
        have HW0 := Lib.hid (IntWalk.i64_in (n' + 100) (by omega))
        have HW1 := Lib.hid (IntWalk.i64_in (n' + 100 + (l[k].s.name.size : Int)) (by omega))
        have HW2 := Lib.hid (IntWalk.i64_in (n' + 100 + (l[k].s.name.size : Int) + (l[k].s.lm.size : Int)) (by omega))
        have HW3 := Lib.hid (IntWalk.i64_in (n' + 100 + (l[k].s.name.size : Int) + (l[k].s.lm.size : Int) + (l[k].s.hm.size : Int)) (by omega))
        have HW4 := Lib.hid (IntWalk.i64_in ((deep : Int) + 1) (by omega))
        have HW5 := Lib.hid (fun (n2 : Int) (h0 : 0 ≤ n2) (h1 : n2 ≤ 67108865 + (1001 - ((deep + 1 : Nat) : Int)) * 1125899906842624) => IntWalk.i64_in (n' + 100 + (l[k].s.name.size : Int) + (l[k].s.lm.size : Int) + (l[k].s.hm.size : Int) + n2) (by push_cast at h1; omega))
        have HN5 := Lib.hid (fun (n2 : Int) (h0 : 0 ≤ n2) (h1 : n2 ≤ 67108865 + (1001 - ((deep + 1 : Nat) : Int)) * 1125899906842624) => show 100 * ((k + 1 : Nat) : Int) ≤ n' + 100 + (l[k].s.name.size : Int) + (l[k].s.lm.size : Int) + (l[k].s.hm.size : Int) + n2 ∧ n' + 100 + (l[k].s.name.size : Int) + (l[k].s.lm.size : Int) + (l[k].s.hm.size : Int) + n2 ≤ 67108865 + (1001 - (deep : Int)) * 1125899906842624 ∧ (n' + 100 + (l[k].s.name.size : Int) + (l[k].s.lm.size : Int) + (l[k].s.hm.size : Int) + n2 ≤ 67108864 → n2 ≤ 67108864) by push_cast at h1; omega)
        have w0 := HW0.out
        have w1 := HW1.out
        have w2 := HW2.out
        have w3 := HW3.out
        have w4 := HW4.out
        go_region_held3 (fun W => W.cell? ⟨b, o + k * 14, none⟩ = some (.string l[k].s.name) ∧ W.cell? ⟨b, o + k * 14 + 6, none⟩ = some (.string l[k].s.lm) ∧ W.cell? ⟨b, o + k * 14 + 8, none⟩ = some (.string l[k].s.hm) ∧ W.cell? ⟨b, o + k * 14 + 13, none⟩ = some (.slice aa l[k].fields.length cc))
          (first | exact ⟨k0, k6, k8, k13⟩ | exact ⟨(hb2.cell (by simp only [World.size_drew]; omega)).trans k0, (hb2.cell (by simp only [World.size_drew]; omega)).trans k6, (hb2.cell (by simp only [World.size_drew]; omega)).trans k8, (hb2.cell (by simp only [World.size_drew]; omega)).trans k13⟩)
          (first | (go_at_call 58; refine (HIH.out l[k] (List.getElem_mem hlt) aa cc (deep + 1) wr.drew (by omega) hfl hfc ((HFF.out.wide (B' := wr.heap.size) hwz).below (Below.refl _ _).drew)).mono ?_; rintro e wz ⟨n2, rfl, hb2, hp0, hp1, hp2⟩; have w5 := HW5.out n2 hp0 hp1))
        clear w0 w1 w2 w3 w4 w5 k0 k6 k8 k13
        obtain ⟨q1, q2, q3⟩ := HN5.out n2 hp0 hp1
        go_wp2_with fail
        go_roundw
        case rel => exact ⟨k + 1, _, rfl, by go_num, by omega, q1, q2, Lib.hid (fun h i hi hik => by
          by_cases e : i = k
          · subst e; exact hp2 (q3 h)
          · exact HSk.out i hi (by omega)), Lib.hid (HB.out.trans ((Below.refl _ _).drew.trans (hb2.mono (by simp only [World.size_drew]; omega))))⟩
        case measure => simp [intOf]; omega
      · go_wp2_with fail
        go_ret
        exact ⟨_, rfl, HB.out, by omega, hn2, fun h => absurd h (by omega)⟩
    · obtain rfl : k = l.length := by omega
      go_wp2_with fail
      all_goals (
        go_ret
        exact ⟨_, rfl, HB.out, by omega, hn2, fun h => .mk (by omega) (fun x hx => by obtain ⟨i, hi, rfl⟩ := List.getElem_of_mem hx; exact HS.out h i hi hi)⟩)
theorem wgt_any (l : List FT) : WgtAny l := wgt_step l (fun x hx => FT.allL (M := fun t => WgtAny t.fields) (fun t h => wgt_step t.fields h) l x hx)
/-- What is not vast is slim. -/
def VastPost (l : List FT) (w : World) (e : Ending) (w' : World) : Prop := ∃ v : Bool, e = .returned (.bool v) ∧ Below w.heap.size w w' ∧ (v = false → Slim l)
set_option maxRecDepth 100000 in
set_option maxHeartbeats 1000000 in
theorem fvast_any (l : List FT) (a : Option Addr) (c : Nat) (w : World) (hlc : l.length ≤ c) (hc : c ≤ 140737488351232) (hf : FieldsAt w (· < w.heap.size) l a) : Calls Tryz.prog 29 #[.slice a l.length c] w (VastPost l w) := by
  have HW := Lib.hid (wgt_any l a c 0 w (by omega) hlc hc hf)
  clear hf
  go_enter Tryz.func29, Tryz.ntmps29
  go_wp2_with fail
  refine HW.out.mono ?_
  rintro e w2 ⟨n, rfl, hb2, h0, h1, h2⟩
  have HB2 := Lib.hid hb2
  have H2 := Lib.hid h2
  clear hb2 h2 HW
  go_wp2_with fail
  go_ret
  exact ⟨decide (67108864 < n), rfl, HB2.out, fun h => H2.out (by simpa using h)⟩
end Go.Proofs.YtcjllhdbepchnaaGreatDoor

/-! law12's weight and fields answer; what is not too much has no list that is too long. -/
namespace Go.Proofs.YtcjllhdbepchnaaGreatDoor
open Go.RowKit Go.WideShapes
set_option linter.unusedVariables false
set_option maxRecDepth 100000 in
set_option maxHeartbeats 4000000 in
theorem heavy_any : ∀ (t : PT) (a : Option Addr) (c : Nat) (n deep : Int) (w : World), deep ≤ 301 → -10 ≤ deep → PartAt w (· < w.heap.size) t (partCells t a c) →
    Calls Tryz.prog 36 #[.agg (partCells t a c).toArray, .int .i64 n, .int .i64 deep] w (IntPost w) := by
  refine PT.all fun t ih => ?_
  intro a c n deep w hd hd0 hp
  obtain ⟨a1, c1, e1, hk, hm, hr, hlc, hcm, hits⟩ := hp.open
  obtain ⟨rfl, rfl⟩ : a1 = a ∧ c1 = c := by simpa [partCells, eq_comm] using e1
  have HI := Lib.hid hits
  have HIH := Lib.hid ih
  have hlen : t.items.length ≤ 9223372036854775807 := by unfold maxLen at hcm; omega
  clear hits ih hp e1
  unfold partCells
  have HB2 := Lib.hid ((Below.refl w.heap.size w).alloc (Nat.le_refl _) (.cells #[.int .u8 t.kind, .bool t.yes, .bool t.bel, .string t.mag, .string t.raw, .slice a1 t.items.length c1] 30))
  have HP2 := Lib.hid (new_part w w.heap.size t a1 c1 30 rfl)
  by_cases hdd : 300 < deep
  · go_enter Tryz.func36, Tryz.ntmps36
    go_wp2_with fail
    go_ret
    exact ⟨_, rfl, HB2.out⟩
  have HD1 := Lib.hid (IntWalk.i64_in (deep + 1) (by omega))
  go_enter Tryz.func36, Tryz.ntmps36
  go_wp2_with fail
  go_loopw [1, 7] (fun n i wr => ∃ (k : Nat) (n' : Int), n = .int .i64 n' ∧ i = .int .i64 k ∧ k ≤ t.items.length ∧ Hid (Below w.heap.size w wr) ∧ Hid (CellsAt wr w.heap.size 0 (partCells t a1 c1)) ∧ w.heap.size < wr.heap.size) (fun _ i _ => t.items.length - (intOf i).toNat)
  case atStart => exact ⟨0, _, rfl, rfl, by omega, HB2, HP2, by simp⟩
  case round =>
    clear HB2 HP2
    obtain ⟨k, n', rfl, rfl, hk, HB, HP, hwz⟩ := hrel
    have hp5 := HP.out 5 _ rfl
    by_cases hlt : k < t.items.length
    · by_cases hn : n' ≤ 67108864
      · obtain ⟨b, o, a', c', rfl, hb, k0, k1, k2, k3, k4, k5, hpa⟩ := (HI.out.below HB.out).cells hlt
        have HR := Lib.hid (HIH.out t.items[k] (List.getElem_mem hlt) a' c' n' (deep + 1) wr (by omega) (by omega) (PartAt.more (fun b hb => by have := hb; omega) _ _ hpa))
        have hd1 := HD1.out
        clear hpa
        go_wp2_with fail
        refine HR.out.mono ?_
        rintro e w' ⟨n2, rfl, hg2⟩
        have HB' := Lib.hid (HB.out.trans (hg2.mono (by omega)))
        have HP' := Lib.hid (HP.out.keep fun p hp => hg2.cell (by omega))
        have hz' := hg2.size
        clear hg2 HR k0 k1 k2 k3 k4 k5 hp5 HP HB
        go_wp2_with fail
        go_roundw
        case rel => exact ⟨k + 1, _, rfl, by go_num, by omega, HB', HP', by omega⟩
        case measure => simp [intOf]; omega
      · go_wp2_with fail
        go_ret
        exact ⟨_, rfl, HB.out⟩
    · go_wp2_with fail
      all_goals (
        go_ret
        exact ⟨_, rfl, HB.out⟩)
set_option maxRecDepth 100000 in
set_option maxHeartbeats 1000000 in
theorem weight12_any (t : PT) (a : Option Addr) (c : Nat) (w : World) (hp : PartAt w (· < w.heap.size) t (partCells t a c)) :
    Calls Tryz.prog 9 #[.agg (partCells t a c).toArray, .int .i64 0] w (IntPost w) := by
  have hb1 := below_a1 w (.cells (partCells t a c).toArray 30)
  have HC := Lib.hid (heavy_any t a c 0 0 _ (by omega) (by omega) ((hp.below hb1).wide hb1.size))
  have HB := Lib.hid hb1
  clear hp hb1
  unfold partCells at HC HB
  unfold partCells
  go_enter Tryz.func9, Tryz.ntmps9
  go_wp2_with fail
  refine HC.out.mono ?_
  rintro e w1 ⟨n, rfl, hb1⟩
  have HB1 := Lib.hid (HB.out.trans (hb1.mono (by simp)))
  clear hb1
  go_wp2_with fail
  go_ret
  exact ⟨_, rfl, HB1.out⟩
/-- What a weight of fields tells. -/
def WidePost (l : List FT) (n : Int) (w : World) (e : Ending) (w' : World) : Prop := ∃ n' : Int, e = .returned (.int .i64 n') ∧ Below w.heap.size w w' ∧ 0 ≤ n' ∧ n' ≤ 1125899973951489 ∧ (n' ≤ 67108864 → n + 64 * (l.length : Int) ≤ n' ∧ Slim l)
def WideAny (l : List FT) : Prop := ∀ (a : Option Addr) (c deep : Nat) (n : Int) (w : World), deep ≤ 301 → 0 ≤ n → n ≤ 1125899973951489 → l.length ≤ c → c ≤ 140737488351232 → FieldsAt w (· < w.heap.size) l a → Calls Tryz.prog 37 #[.slice a l.length c, .int .i64 n, .int .i64 deep] w (WidePost l n w)
set_option maxRecDepth 100000 in
set_option maxHeartbeats 2000000 in
theorem wide_step (l : List FT) (ih : ∀ x ∈ l, WideAny x.fields) : WideAny l := by
  intro a c deep n w hd hn0 hnC hlc hc hf
  have HL := Lib.hid hf
  have HIH := Lib.hid ih
  have HB0 := Lib.hid (Below.refl w.heap.size w)
  clear hf ih
  by_cases hdd : 300 < deep
  · go_enter Tryz.func37, Tryz.ntmps37
    go_wp2_with fail
    go_ret
    exact ⟨_, rfl, HB0.out, by omega, by omega, fun h => absurd h (by omega)⟩
  have HS0 := Lib.hid (show ∀ i (hi : i < l.length), i < 0 → Slim l[i].fields from fun i _ h => absurd h (Nat.not_lt_zero i))
  go_enter Tryz.func37, Tryz.ntmps37
  go_wp2_with fail
  go_loopw [1, 7] (fun m i wr => ∃ (k : Nat) (n' : Int), m = .int .i64 n' ∧ i = .int .i64 k ∧ k ≤ l.length ∧ 0 ≤ n' ∧ n' ≤ 1125899973951489 ∧ Hid (n' ≤ 67108864 → n + 64 * (k : Int) ≤ n' ∧ ∀ i (hi : i < l.length), i < k → Slim l[i].fields) ∧ Hid (Below w.heap.size w wr)) (fun _ i _ => l.length - (intOf i).toNat)
  case atStart => exact ⟨0, n, rfl, rfl, by omega, by omega, by omega, Lib.hid (fun _ => ⟨by omega, HS0.out⟩), HB0⟩
  case round =>
    clear HB0 HS0
    obtain ⟨k, n', rfl, rfl, hk, hn1, hn2, HS, HB⟩ := hrel
    have hwz := HB.out.size
    by_cases hlt : k < l.length
    · by_cases hn : n' ≤ 67108864
      · obtain ⟨b, o, aa, cc, rfl, hb, hca, hfa⟩ := (HL.out.below HB.out).get hlt
        obtain ⟨k0, k1, k2, k3, k4, k5, k6, k7, k8, k9, k10, k11, k12, k13⟩ := hca.field
        obtain ⟨_, _, ee, hok, hfl, hfc, hff⟩ := hfa.open
        obtain ⟨rfl, rfl⟩ := fieldCells_inj ee
        have hs0 := hok.1
        have hs1 := hok.2.2.2.1
        have hs2 := hok.2.2.2.2.1
        have HFF := Lib.hid hff
        have HSk := Lib.hid (HS.out hn)
        clear hff hfa hca ee hok k1 k2 k3 k4 k5 k7 k9 k10 k11 k12 HS
        have hkl0 : (0 : Int) ≤ (k : Int) := by omega
        have hkl1 : (k : Int) < (l.length : Int) := by omega
        have w0 := IntWalk.i64_in (n' + 64) (by omega)
        have w1 := IntWalk.i64_in (n' + 64 + (l[k].s.name.size : Int)) (by omega)
        have w2 := IntWalk.i64_in (n' + 64 + (l[k].s.name.size : Int) + (l[k].s.lm.size : Int)) (by omega)
        have w3 := IntWalk.i64_in (n' + 64 + (l[k].s.name.size : Int) + (l[k].s.lm.size : Int) + (l[k].s.hm.size : Int)) (by omega)
        have w4 := IntWalk.i64_in ((deep : Int) + 1) (by omega)
        have hx0 : 0 ≤ n' + 64 + (l[k].s.name.size : Int) + (l[k].s.lm.size : Int) + (l[k].s.hm.size : Int) := by omega
        have hx1 : n' + 64 + (l[k].s.name.size : Int) + (l[k].s.lm.size : Int) + (l[k].s.hm.size : Int) ≤ 1125899973951489 := by omega
        have HC := Lib.hid (fun (W : World) (hbW : Below wr.heap.size wr W) => HIH.out l[k] (List.getElem_mem hlt) aa cc (deep + 1) (n' + 64 + (l[k].s.name.size : Int) + (l[k].s.lm.size : Int) + (l[k].s.hm.size : Int)) W (by omega) hx0 hx1 hfl hfc (((HFF.out.wide (B' := wr.heap.size) hwz).below hbW).wide hbW.size))
        have HN := Lib.hid (fun (n2 : Int) (h : n' + 64 + (l[k].s.name.size : Int) + (l[k].s.lm.size : Int) + (l[k].s.hm.size : Int) + 64 * (l[k].fields.length : Int) ≤ n2) (h2 : n + 64 * (k : Int) ≤ n') => show n + 64 * ((k + 1 : Nat) : Int) ≤ n2 by push_cast; omega)
        clear hx0 hx1
        go_wp2_with fail
        go_quiet (fail)
        go_wp2_with fail
        refine (HC.out _ (below_drewN (Below.refl _ _) _)).mono ?_
        rintro e w9 ⟨n2, rfl, hb9, hp0, hp1, hp2⟩
        have HB9 := Lib.hid (HB.out.trans ((below_drewN (Below.refl wr.heap.size wr) nq).trans (hb9.mono (Nat.le_refl _)) |>.mono hwz))
        clear w0 w1 w2 w3 w4 k0 k6 k8 k13 hb9 HC HB
        go_wp2_with fail
        go_roundw
        case rel => exact ⟨k + 1, n2, rfl, by go_num, by omega, hp0, hp1, Lib.hid (fun h => by
          obtain ⟨h1, h2⟩ := hp2 h
          refine ⟨HN.out n2 h1 HSk.out.1, fun i hi hik => ?_⟩
          by_cases e : i = k
          · subst e; exact h2
          · exact HSk.out.2 i hi (by omega)), HB9⟩
        case measure => simp [intOf]; omega
      · go_wp2_with fail
        go_ret
        exact ⟨_, rfl, HB.out, by omega, hn2, fun h => absurd h (by omega)⟩
    · obtain rfl : k = l.length := by omega
      go_wp2_with fail
      all_goals (
        go_ret
        exact ⟨_, rfl, HB.out, by omega, hn2, fun h => ⟨(HS.out h).1, .mk (by have := (HS.out h).1; omega) (fun x hx => by obtain ⟨i, hi, rfl⟩ := List.getElem_of_mem hx; exact (HS.out h).2 i hi hi)⟩⟩)
theorem wideF_any (l : List FT) : WideAny l := wide_step l (fun x hx => FT.allL (M := fun t => WideAny t.fields) (fun t h => wide_step t.fields h) l x hx)
set_option maxRecDepth 100000 in
set_option maxHeartbeats 1000000 in
theorem fields12_any (l : List FT) (a : Option Addr) (c : Nat) (w : World) (hlc : l.length ≤ c) (hc : c ≤ 140737488351232) (hf : FieldsAt w (· < w.heap.size) l a) :
    Calls Tryz.prog 10 #[.slice a l.length c, .int .i64 0] w (WidePost l 0 w) := by
  have HC := Lib.hid (wideF_any l a c 0 0 w (by omega) (by omega) (by omega) hlc hc hf)
  have HB0 := Lib.hid (Below.refl w.heap.size w)
  clear hf
  go_enter Tryz.func10, Tryz.ntmps10
  go_wp2_with fail
  refine HC.out.mono ?_
  rintro e w1 ⟨n, rfl, hb1, h0, h1, h2⟩
  have HH := Lib.hid (And.intro hb1 (And.intro h0 (And.intro h1 h2)))
  clear hb1 h0 h1 h2
  go_wp2_with fail
  go_ret
  exact ⟨n, rfl, HH.out⟩
end Go.Proofs.YtcjllhdbepchnaaGreatDoor
