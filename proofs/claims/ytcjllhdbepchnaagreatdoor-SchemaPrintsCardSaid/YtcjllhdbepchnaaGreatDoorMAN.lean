/-
  What the kinds say besides: the program's functions.
-/
import Derived.Test.YtcjllhdbepchnaaGreatDoorMAL
import Derived.Test.YtcjllhdbepchnaaGreatDoorMI
import Derived.Test.YtcjllhdbepchnaaGreatDoorMAM
import Derived.Test.YtcjllhdbepchnaaGreatDoorMAB
import Derived.Deep.MidRow
import Derived.ArgAppend
import Derived.Laws.MakeOwn
/-! What the kinds say besides: the program's functions. -/
namespace Go.Proofs.YtcjllhdbepchnaaGreatDoor
open Go.RowKit Go.WideShapes
set_option linter.unusedVariables false
set_option maxRecDepth 100000 in
set_option maxHeartbeats 1000000 in
theorem empty_any (nm : ByteArray) (k : Nat) (dn : Bool) (nl : Nat) (bd lb : Bool) (lm : ByteArray) (hb : Bool) (hm : ByteArray) (sh ba : Bool) (n : Nat) (a : Option Addr) (c : Nat) (ms st : Int) (w : World) : Calls Tryz.prog 136 #[.agg #[.string nm, .int .u8 k, .bool dn, .int .u8 nl, .bool bd, .bool lb, .string lm, .bool hb, .string hm, .int .i64 ms, .int .i64 st, .bool sh, .bool ba, .slice a n c]] w (Ret (.string (txt [])) w) := by
  go_enter Tryz.func136, Tryz.ntmps136
  go_wp2_with fail
  go_ret
  exact ⟨rfl, below_a1 _ _⟩
set_option maxRecDepth 100000 in
set_option maxHeartbeats 1000000 in
theorem writeInt_any (nm : ByteArray) (k : Nat) (dn : Bool) (nl : Nat) (bd lb : Bool) (lm : ByteArray) (hb : Bool) (hm : ByteArray) (sh ba : Bool) (n : Nat) (a : Option Addr) (c : Nat) (ms st : Int) (w : World) (hw : bd = true → numWhy lb lm = 0 ∧ numWhy hb hm = 0) : Calls Tryz.prog 139 #[.agg #[.string nm, .int .u8 k, .bool dn, .int .u8 nl, .bool bd, .bool lb, .string lm, .bool hb, .string hm, .int .i64 ms, .int .i64 st, .bool sh, .bool ba, .slice a n c]] w (Ret (.string (txt (if bd then wFrom ++ numText lb lm ++ wTo ++ numText hb hm else []))) w) := by
  cases bd with
  | false =>
    go_enter Tryz.func139, Tryz.ntmps139
    go_wp2_with fail
    go_ret
    exact ⟨rfl, below_a1 _ _⟩
  | true =>
    obtain ⟨w1, w2⟩ := hw rfl
    have HP1 := Lib.hid (fun w => natPrint_any lb lm w w1)
    have HP2 := Lib.hid (fun w => natPrint_any hb hm w w2)
    have f1 := numText_few w1
    have f2 := numText_few w2
    obtain ⟨A, hA⟩ : ∃ A, A = numText lb lm := ⟨_, rfl⟩
    obtain ⟨B, hB⟩ : ∃ B, B = numText hb hm := ⟨_, rfl⟩
    rw [← hA] at f1 HP1 ⊢
    rw [← hB] at f2 HP2 ⊢
    clear hA hB w1 w2 hw
    have HB0 := Lib.hid (below_a1 w (.cells #[.string nm, .int .u8 k, .bool dn, .int .u8 nl, .bool true, .bool lb, .string lm, .bool hb, .string hm, .int .i64 ms, .int .i64 st, .bool sh, .bool ba, .slice a n c] 57))
    have HF0 := Lib.hid (FBox.new w #[.string nm, .int .u8 k, .bool dn, .int .u8 nl, .bool true, .bool lb, .string lm, .bool hb, .string hm, .int .i64 ms, .int .i64 st, .bool sh, .bool ba, .slice a n c])
    have z1 : (9223372036854775807 < 6 + (txt A).size) = False := by rw [txt_size]; exact eq_false (by omega)
    have z2 : (9223372036854775807 < 6 + (txt A).size + 4) = False := by rw [txt_size]; exact eq_false (by omega)
    have z3 : (9223372036854775807 < 6 + (txt A).size + 4 + (txt B).size) = False := by rw [txt_size, txt_size]; exact eq_false (by omega)
    go_enter Tryz.func139, Tryz.ntmps139
    go_wp2_with fail
    refine (HP1.out _).mono ?_
    rintro e w5 ⟨rfl, hb5⟩
    have HB5 := Lib.hid (HB0.out.trans (hb5.mono HB0.out.size))
    have HF5 := Lib.hid (HF0.out.below hb5 (by simp))
    clear hb5
    obtain ⟨c0, c1, c2, c3, c4, c5, c6, c7, c8, c9, c10, c11, c12, c13⟩ := HF5.out.cells
    go_wp2_with fail
    refine (HP2.out _).mono ?_
    rintro e w6 ⟨rfl, hb6⟩
    have HB6 := Lib.hid (HB5.out.trans (hb6.mono HB5.out.size))
    clear hb6
    go_wp2_with fail
    go_ret
    refine ⟨?_, HB6.out⟩
    show Ending.returned (Value.string (txt wFrom ++ txt A ++ txt wTo ++ txt B)) = _
    simp only [txt_append, List.append_assoc]
set_option maxRecDepth 100000 in
set_option maxHeartbeats 1000000 in
theorem writeMost_any (nm : ByteArray) (k : Nat) (dn : Bool) (nl : Nat) (bd lb : Bool) (lm : ByteArray) (hb : Bool) (hm : ByteArray) (sh ba : Bool) (n : Nat) (a : Option Addr) (c : Nat) (mn : Nat) (st : Int) (hmn : mn ≤ 9223372036854775807) {w0 w : World} (h : laidMetH Tryz.prog Rows.schemaChecksRow.laid w0) (hbw : Below w0.heap.size w0 w) : Calls Tryz.prog 142 #[.agg #[.string nm, .int .u8 k, .bool dn, .int .u8 nl, .bool bd, .bool lb, .string lm, .bool hb, .string hm, .int .i64 (mn : Nat), .int .i64 st, .bool sh, .bool ba, .slice a n c]] w (Ret (.string (txt (wMost ++ Lib.decDigits mn))) w) := by
  have HB0 := Lib.hid (below_a1 w (.cells #[.string nm, .int .u8 k, .bool dn, .int .u8 nl, .bool bd, .bool lb, .string lm, .bool hb, .string hm, .int .i64 (mn : Nat), .int .i64 st, .bool sh, .bool ba, .slice a n c] 57))
  have HI := Lib.hid (fun W (hb : Below w.heap.size w W) => itoa_any mn hmn h (hbw.trans (hb.mono hbw.size)))
  have hd := dec_few hmn
  have z1 : (9223372036854775807 < 6 + (txt (Lib.decDigits mn)).size) = False := by rw [txt_size]; exact eq_false (by omega)
  clear h hbw
  go_enter Tryz.func142, Tryz.ntmps142
  go_wp2_with fail
  refine (HI.out _ HB0.out).mono ?_
  rintro e w5 ⟨rfl, hb5⟩
  have HB5 := Lib.hid (HB0.out.trans (hb5.mono HB0.out.size))
  clear hb5
  go_wp2_with fail
  go_ret
  refine ⟨?_, HB5.out⟩
  show Ending.returned (Value.string (txt wMost ++ txt (Lib.decDigits mn))) = _
  simp only [txt_append]
set_option maxRecDepth 100000 in
set_option maxHeartbeats 1000000 in
theorem writeText_any (nm : ByteArray) (k : Nat) (dn : Bool) (nl : Nat) (bd lb : Bool) (lm : ByteArray) (hb : Bool) (hm : ByteArray) (sh ba : Bool) (n : Nat) (a : Option Addr) (c : Nat) (ms : Int) (sn : Nat) (hsn : sn ≤ 9223372036854775807) {w0 w : World} (h : laidMetH Tryz.prog Rows.schemaChecksRow.laid w0) (hbw : Below w0.heap.size w0 w) : Calls Tryz.prog 145 #[.agg #[.string nm, .int .u8 k, .bool dn, .int .u8 nl, .bool bd, .bool lb, .string lm, .bool hb, .string hm, .int .i64 ms, .int .i64 (sn : Nat), .bool sh, .bool ba, .slice a n c]] w (Ret (.string (txt (wStr ++ Lib.decDigits sn ++ (if sh then wShift else []) ++ (if ba then wBack else [])))) w) := by
  have HI := Lib.hid (fun W (hb : Below w.heap.size w W) => itoa_any sn hsn h (hbw.trans (hb.mono hbw.size)))
  have hd := dec_few hsn
  have z1 : (9223372036854775807 < 10 + (txt (Lib.decDigits sn)).size) = False := by rw [txt_size]; exact eq_false (by omega)
  have z2 : (9223372036854775807 < 10 + (txt (Lib.decDigits sn)).size + 8) = False := by rw [txt_size]; exact eq_false (by omega)
  have z3 : (9223372036854775807 < 10 + (txt (Lib.decDigits sn)).size + 8 + 5) = False := by rw [txt_size]; exact eq_false (by omega)
  have z4 : (9223372036854775807 < 10 + (txt (Lib.decDigits sn)).size + 5) = False := by rw [txt_size]; exact eq_false (by omega)
  clear h hbw
  cases sh <;> cases ba
  all_goals (
    go_enter Tryz.func145, Tryz.ntmps145
    go_wp2_with fail
    refine (HI.out _ (below_a1 _ _)).mono ?_
    rintro e w5 ⟨rfl, hb5⟩
    have HB5 := Lib.hid ((below_a1 w (.cells _ 57)).trans (hb5.mono (by simp)))
    have HF5 := Lib.hid ((FBox.new w _).below hb5 (by simp))
    clear hb5
    obtain ⟨c0, c1, c2, c3, c4, c5, c6, c7, c8, c9, c10, c11, c12, c13⟩ := HF5.out.cells
    go_wp2_with fail
    go_ret
    refine ⟨?_, HB5.out⟩
    first
    | (show Ending.returned (Value.string (txt wStr ++ txt (Lib.decDigits sn))) = _; simp [txt_append])
    | (show Ending.returned (Value.string (txt wStr ++ txt (Lib.decDigits sn) ++ txt wBack)) = _; simp [txt_append])
    | (show Ending.returned (Value.string (txt wStr ++ txt (Lib.decDigits sn) ++ txt wShift)) = _; simp [txt_append])
    | (show Ending.returned (Value.string (txt wStr ++ txt (Lib.decDigits sn) ++ txt wShift ++ txt wBack)) = _; simp [txt_append]))
end Go.Proofs.YtcjllhdbepchnaaGreatDoor

/-! Stores into the middle of a row; make with room. -/
namespace Go
theorem wpList_make_lc {P : Program} (w : World) {ops : Array Oper} {rest : List Oper} {o : Oper} {a : Act} {Q : Exit → Act → World → Prop}
    (hg : o.guard = none) (l c : Operand) (t : TypeId) (hop : o.op = Op.makeSlice t l c)
    (e : TypeId) (i : TypeInfo) (z : Value) (size : Nat) (h1 : P.underlying t = some (.slice e)) (h2 : P.info? e = some i) (h3 : i.zero = some z) (h4 : i.size = size)
    (kl kc : IntKind) (L C : Int) (n cap : Nat) (hl : a.eval l = .int kl L) (hc : a.eval c = .int kc C) (hL : L = (n : Int)) (hC : C = (cap : Int)) (hn : n ≤ cap) (b2 : i.bytes * cap ≤ 281474976710656) (b3 : cap ≤ 9223372036854775807)
    (hK : wpList P ops Q rest (a.put o.dst (.slice (some ⟨w.heap.size, 0, none⟩) n cap)) (w.alloc (.cells (madeCells z.cells (cap * size)) e))) :
    wpList P ops Q (o :: rest) a w := by
  refine wpList_plain hg fun K hK' => ?_
  subst hL hC
  have hb' : (i.bytes : Int) * (cap : Int) ≤ 281474976710656 := by
    have h : ((i.bytes * cap : Nat) : Int) ≤ 281474976710656 := by omega
    rwa [Int.natCast_mul] at h
  have hrun := run_make (P := P) w t e i z h1 h2 h3 kl kc n cap (by omega) (by omega) hb' (by omega)
  simp only [Int.toNat_natCast, h4] at hrun
  unfold Oper.wp
  simp [execOp, hop, hl, hc, hrun, Result.andThen]
  exact hK' _ _ hK
theorem wpList_append_room {P : Program} (w : World) {ops : Array Oper} {rest : List Oper} {o : Oper} {a : Act} {Q : Exit → Act → World → Prop}
    (hg : o.guard = none) (s x : Operand) (t : TypeId) (hop : o.op = Op.call { callee := Callee.builtin Builtin.append, args := #[s, x], argTypes := #[t, t] })
    (e : TypeId) (i : TypeInfo) (size : Nat) (h1 : P.underlying t = some (.slice e)) (h2 : P.info? e = some i) (h4 : i.size = size)
    (b off n cap : Nat) (hs : a.eval s = .slice (some ⟨b, off, none⟩) n cap)
    (ad : Addr) (m c : Nat) (news : List Value) (hx : a.eval x = .slice (some ad) m c) (hn : news.length = m * size) (hc : ∀ j u, news[j]? = some u → w.cell? (ad.add j) = some u) (h1c : ∀ u ∈ news, u.oneCell' = true)
    (hr : n + m ≤ cap) (hth : w.there b (off + n * size) news.length)
    (hroom : ∀ w', w' = w.setCells b (off + n * size) news → wpList P ops Q rest (a.put o.dst (.slice (some ⟨b, off, none⟩) (n + m) cap)) w') :
    wpList P ops Q (o :: rest) a w := by
  refine wpList_plain hg fun K hK' => ?_
  subst h4
  have hrun := run_append_room_cells (P := P) w t o.type e i h1 h2 b off n cap ad m c news hn hc h1c hr (fun j hj => (hth j hj).1) (fun j hj => (hth j hj).2)
  unfold Oper.wp
  simp [execOp, hop, resolve, invoke, builtin, hs, hx, hrun, Result.andThen]
  exact hK' _ _ (hroom _ rfl)
end Go
namespace Go.Proofs.YtcjllhdbepchnaaGreatDoor
open Go.RowKit Go.WideShapes
set_option linter.unusedVariables false
theorem cell_of_heap {w w' : World} {p : Addr} (h : w'.heap[p.block]? = w.heap[p.block]?) : w'.cell? p = w.cell? p := by unfold World.cell?; rw [h]
theorem setCells_heap (g : Nat) : ∀ (vs : List Value) (o : Nat) (w : World) {b : Nat}, b ≠ g → (w.setCells g o vs).heap[b]? = w.heap[b]?
  | [], _, _, _, _ => rfl
  | v :: r, o, w, b, hb => by
    rw [World.setCells, setCells_heap g r _ _ hb]
    simp [World.setCell, Array.getElem?_modify, Ne.symm hb]
theorem setCells_size (g : Nat) : ∀ (vs : List Value) (o : Nat) (w : World), (w.setCells g o vs).heap.size = w.heap.size
  | [], _, _ => rfl
  | v :: r, o, w => by rw [World.setCells, setCells_size g r]; simp
theorem setCells_blk (g : Nat) (T : TypeId) (n : Nat) : ∀ (vs : List Value) (o : Nat) (w : World), (∃ cur, w.heap[g]? = some (.cells cur T (0, 0)) ∧ cur.size = n) → ∃ cur, (w.setCells g o vs).heap[g]? = some (.cells cur T (0, 0)) ∧ cur.size = n
  | [], _, _, h => h
  | v :: r, o, w, h => by
    rw [World.setCells]
    refine setCells_blk g T n r _ _ ?_
    obtain ⟨cur, h1, h2⟩ := h
    exact ⟨cur.setIfInBounds o v, by simp [World.setCell, Array.getElem?_modify, h1], by simp [h2]⟩
theorem below_puts {B : Nat} {w w' : World} (h : Below B w w') (g : Nat) (hg : B ≤ g) : ∀ (vs : List Value) (o : Nat), Below B w (w'.setCells g o vs) := by
  intro vs
  induction vs generalizing w' with
  | nil => intro o; exact h
  | cons v r ih => intro o; rw [World.setCells]; exact ih (h.setCell (p := ⟨g, o, none⟩) (by simpa using hg) v) (o + 1)
theorem blk_there {w : World} {g n : Nat} {T : TypeId} (h : ∃ cur, w.heap[g]? = some (.cells cur T (0, 0)) ∧ cur.size = n) {o m : Nat} (ho : o + m ≤ n) : w.there g o m := fun j hj => by
  obtain ⟨cur, h1, h2⟩ := h
  refine ⟨?_, by simp [World.frozen?, h1]⟩
  have : o + j < cur.size := by omega
  simp [World.cell?, h1, Array.getElem?_eq_getElem this]
theorem CellsAt.put {w : World} {g o : Nat} {cs : List Value} (h : w.there g o cs.length) : CellsAt (w.setCells g o cs) g o cs := fun j v hv => by
  have hj : j < cs.length := (List.getElem?_eq_some_iff.1 hv).1
  rw [World.cell?_setCells_in g cs o w (fun i hi => (h i hi).1) j hj, ← hv, List.getElem?_eq_getElem hj]
theorem CellsAt.apart {w : World} {b o : Nat} {cs : List Value} (h : CellsAt w b o cs) (g o' : Nat) (vs : List Value) (hap : b ≠ g ∨ o + cs.length ≤ o' ∨ o' + vs.length ≤ o) : CellsAt (w.setCells g o' vs) b o cs := fun j v hv => by
  have hj : j < cs.length := (List.getElem?_eq_some_iff.1 hv).1
  rw [World.cell?_setCells_out g vs o' w ⟨b, o + j, none⟩ (fun hb _ => by
    rcases hap with hap | hap | hap
    · exact absurd hb hap
    · left; show o + j < o'; omega
    · right; show o' + vs.length ≤ o + j; omega)]
  exact h j v hv
end Go.Proofs.YtcjllhdbepchnaaGreatDoor

/-! Lists of fields that were lent: each in a block of its own with two marked places behind it; the blocks one behind the other. -/
namespace Go.Proofs.YtcjllhdbepchnaaGreatDoor
open Go.RowKit Go.WideShapes
set_option linter.unusedVariables false
/-- What marks the room. -/
def markF : List Value := [.string ⟨#[109, 97, 114, 107]⟩, .int .u8 99, .bool false, .int .u8 0, .bool false, .bool false, .string ⟨#[]⟩, .bool false, .string ⟨#[]⟩, .int .i64 0, .int .i64 0, .bool false, .bool false, .slice none 0 0]
theorem markF_len : markF.length = 14 := rfl
/-- Fields that lie so in block g; those within them behind it, ahead of hi. -/
inductive LentAt (w : World) : List FT → Nat → Nat → Prop
  | mk {l : List FT} {g hi : Nat} (hs gs : Nat → Nat) (blk : ∃ cur, w.heap[g]? = some (.cells cur 57 (0, 0)) ∧ cur.size = (l.length + 2) * 14) (hl : l.length + 2 ≤ 140737488351232)
      (m1 : CellsAt w g (l.length * 14) markF) (m2 : CellsAt w g ((l.length + 1) * 14) markF) (h0 : g < hs 0) (h1 : hs l.length ≤ hi)
      (it : ∀ i (h : i < l.length), hs i ≤ gs i ∧ gs i < hs (i + 1) ∧ l[i].s.ok ∧ CellsAt w g (i * 14) (fieldCells l[i] (some ⟨gs i, 0, none⟩) (l[i].fields.length + 2)))
      (sub : ∀ i (h : i < l.length), LentAt w l[i].fields (gs i) (hs (i + 1))) : LentAt w l g hi
theorem hs_mono {hs gs : Nat → Nat} {n : Nat} (it : ∀ i, i < n → hs i ≤ gs i ∧ gs i < hs (i + 1)) : ∀ j, j ≤ n → ∀ i, i ≤ j → hs i ≤ hs j
  | 0, _, i, hi => by rw [show i = 0 by omega]; exact Nat.le_refl _
  | j + 1, hj, i, hi => by
    by_cases e : i = j + 1
    · subst e; exact Nat.le_refl _
    · have h1 := hs_mono it j (by omega) i (by omega)
      have h2 := it j (by omega)
      omega
section
variable {w w' : World} {l : List FT} {g hi : Nat}
theorem LentAt.keep (h : LentAt w l g hi) : (∀ b, g ≤ b → b < hi → w'.heap[b]? = w.heap[b]?) → LentAt w' l g hi := by
  induction h with
  | @mk l g hi hs gs blk hl m1 m2 h0 h1 it sub ih =>
    intro hk
    have hm := hs_mono (n := l.length) (fun i hi => ⟨(it i hi).1, (it i hi).2.1⟩)
    have hb := hk g (Nat.le_refl _) (by have := hm l.length (Nat.le_refl _) 0 (by omega); omega)
    have hc : ∀ p : Addr, p.block = g → w'.cell? p = w.cell? p := fun p hp => cell_of_heap (by rw [hp]; exact hb)
    refine .mk hs gs (by obtain ⟨cur, c1, c2⟩ := blk; exact ⟨cur, hb.trans c1, c2⟩) hl (m1.keep hc) (m2.keep hc) h0 h1 (fun i h => ⟨(it i h).1, (it i h).2.1, (it i h).2.2.1, (it i h).2.2.2.keep hc⟩) (fun i h => ih i h fun b hb1 hb2 => hk b ?_ ?_)
    · have h3 := hm i (by omega) 0 (by omega)
      have h4 := (it i h).1
      omega
    · have h3 := hm l.length (Nat.le_refl _) (i + 1) (by omega)
      omega
theorem LentAt.more {hi' : Nat} (h : LentAt w l g hi) (hh : hi ≤ hi') : LentAt w l g hi' := by
  cases h with
  | mk hs gs blk hl m1 m2 h0 h1 it sub => exact .mk hs gs blk hl m1 m2 h0 (by omega) it sub
theorem LentAt.lt (h : LentAt w l g hi) : g < hi := by
  cases h with
  | mk hs gs blk hl m1 m2 h0 h1 it sub =>
    have := hs_mono (n := l.length) (fun i hi => ⟨(it i hi).1, (it i hi).2.1⟩) l.length (Nat.le_refl _) 0 (by omega)
    omega
theorem LentAt.far {B : Nat} (h : LentAt w l g hi) (hb : Below B w w') (hB : hi ≤ B) : LentAt w' l g hi := h.keep fun b _ h2 => hb.block b (by omega)
theorem LentAt.fields {B : Nat} (h : LentAt w l g hi) : hi ≤ B → FieldsAt w (· < B) l (some ⟨g, 0, none⟩) := by
  induction h with
  | @mk l g hi hs gs blk hl m1 m2 h0 h1 it sub ih =>
    intro hB
    have hm := hs_mono (n := l.length) (fun i hi => ⟨(it i hi).1, (it i hi).2.1⟩)
    have h9 := hm l.length (Nat.le_refl _) 0 (by omega)
    refine FieldsAt.of_get (.inr (by omega)) fun i hi => ⟨_, by rw [Nat.zero_add]; exact (it i hi).2.2.2, FieldAt.shut (it i hi).2.2.1 (by omega) ?_ (ih i hi ?_)⟩
    · cases sub i hi with
      | mk hs' gs' _ hl' => exact hl'
    · have := hm l.length (Nat.le_refl _) (i + 1) (by omega)
      omega
end
/-- A list in the making: k of n fields are there, j of two places are marked. -/
structure LIng (w : World) (g n k j z : Nat) (l : List FT) : Prop where
  blk : ∃ cur, w.heap[g]? = some (.cells cur 57 (0, 0)) ∧ cur.size = (n + 2) * 14
  it : ∃ hs gs : Nat → Nat, g < hs 0 ∧ hs k ≤ z ∧ ∀ i (h : i < l.length), i < k → (hs i ≤ gs i ∧ gs i < hs (i + 1) ∧ l[i].s.ok ∧ CellsAt w g (i * 14) (fieldCells l[i] (some ⟨gs i, 0, none⟩) (l[i].fields.length + 2))) ∧ LentAt w l[i].fields (gs i) (hs (i + 1))
  mrk : ∀ i, i < j → CellsAt w g ((n + i) * 14) markF
  zle : z ≤ w.heap.size
section
variable {w w' : World} {g n k j z : Nat} {l : List FT}
theorem LIng.lt (h : LIng w g n k j z l) : g < w.heap.size := by obtain ⟨cur, h1, _⟩ := h.blk; exact (Array.getElem?_eq_some_iff.1 h1).1
theorem LIng.there (h : LIng w g n k j z l) {i : Nat} (hi : i < n + 2) : w.there g (i * 14) 14 := blk_there h.blk (by omega)
theorem LIng.below {B : Nat} (h : LIng w g n k j z l) (hk : k ≤ l.length) (hb : Below B w w') (hB : w.heap.size ≤ B) : LIng w' g n k j z l := by
  have hg := h.lt
  have hc : ∀ p : Addr, p.block = g → w'.cell? p = w.cell? p := fun p hp => hb.cell (by rw [hp]; omega)
  obtain ⟨cur, c1, c2⟩ := h.blk
  obtain ⟨hs, gs, h0, h1, it⟩ := h.it
  have hm := hs_mono (hs := hs) (gs := gs) (n := k) (fun i hi => ⟨(it i (by omega) hi).1.1, (it i (by omega) hi).1.2.1⟩)
  have hz := h.zle
  refine ⟨⟨cur, (hb.block g (by omega)).trans c1, c2⟩, ⟨hs, gs, h0, h1, fun i hi hik => ⟨⟨(it i hi hik).1.1, (it i hi hik).1.2.1, (it i hi hik).1.2.2.1, (it i hi hik).1.2.2.2.keep hc⟩, (it i hi hik).2.keep fun b hb1 hb2 => hb.block b ?_⟩⟩, fun i hi => (h.mrk i hi).keep hc, Nat.le_trans hz hb.size⟩
  have := hm k (Nat.le_refl _) (i + 1) (by omega)
  omega
theorem LIng.sub_keep {hs gs : Nat → Nat} (h0 : g < hs 0) (it : ∀ i (h : i < l.length), i < k → (hs i ≤ gs i ∧ gs i < hs (i + 1) ∧ l[i].s.ok ∧ CellsAt w g (i * 14) (fieldCells l[i] (some ⟨gs i, 0, none⟩) (l[i].fields.length + 2))) ∧ LentAt w l[i].fields (gs i) (hs (i + 1))) (hk : k ≤ l.length)
    (hw : ∀ b, b ≠ g → w'.heap[b]? = w.heap[b]?) {i : Nat} (hi : i < l.length) (hik : i < k) : LentAt w' l[i].fields (gs i) (hs (i + 1)) := by
  have hm := hs_mono (hs := hs) (gs := gs) (n := k) (fun i hi => ⟨(it i (by omega) hi).1.1, (it i (by omega) hi).1.2.1⟩)
  refine (it i hi hik).2.keep fun b hb1 hb2 => hw b ?_
  have h1 := hm i (by omega) 0 (by omega)
  have h2 := (it i hi hik).1.1
  omega
theorem LIng.putraw (h : LIng w g n k j z l) (hl : l.length = n) (hk : k < n) {vs : List Value} (hv : vs.length = 14) : LIng (w.setCells g (k * 14) vs) g n k j z l := by
  obtain ⟨hs, gs, h0, h1, it⟩ := h.it
  refine ⟨setCells_blk g _ _ _ _ _ h.blk, ⟨hs, gs, h0, h1, fun i hi hik => ⟨⟨(it i hi hik).1.1, (it i hi hik).1.2.1, (it i hi hik).1.2.2.1, (it i hi hik).1.2.2.2.apart _ _ _ (.inr (.inl (by rw [fieldCells_len]; omega)))⟩, LIng.sub_keep h0 it (by omega) (fun b hb => setCells_heap g _ _ _ hb) hi hik⟩⟩,
    fun i hi => (h.mrk i hi).apart _ _ _ (.inr (.inr (by rw [hv, Nat.add_mul]; omega))), by rw [setCells_size]; exact h.zle⟩
theorem field13 {t : FT} {a a' : Option Addr} {c c' : Nat} {b o : Nat} (h : CellsAt w b o (fieldCells t a c)) : CellsAt (w.setCell ⟨b, o + 13, none⟩ (.slice a' t.fields.length c')) b o (fieldCells t a' c') := by
  intro q u hu
  have hq : q < 14 := by have := (List.getElem?_eq_some_iff.1 hu).1; simpa [fieldCells_len] using this
  by_cases e : q = 13
  · subst e
    rw [World.cell?_setCell_same _ _ _ (h 13 _ rfl), ← hu]; rfl
  · rw [World.cell?_setCell_other _ _ _ _ (by simp <;> omega)]
    refine h q u ?_
    rw [← hu]
    match q, hq, e with
    | 0, _, _ => rfl
    | 1, _, _ => rfl
    | 2, _, _ => rfl
    | 3, _, _ => rfl
    | 4, _, _ => rfl
    | 5, _, _ => rfl
    | 6, _, _ => rfl
    | 7, _, _ => rfl
    | 8, _, _ => rfl
    | 9, _, _ => rfl
    | 10, _, _ => rfl
    | 11, _, _ => rfl
    | 12, _, _ => rfl
    | 13, _, h => exact absurd rfl h
theorem setCell_is (w : World) (g o : Nat) (v : Value) : w.setCell ⟨g, o, none⟩ v = w.setCells g o [v] := rfl
theorem LIng.fix (h : LIng w g n k j z l) (hl : l.length = n) (hk : k < n) {a : Option Addr} {c gk hk' : Nat} (hok : (l[k]'(by omega)).s.ok) (hc : CellsAt w g (k * 14) (fieldCells (l[k]'(by omega)) a c)) (hsub : LentAt w (l[k]'(by omega)).fields gk hk') (hz : z ≤ gk) (hw : hk' ≤ w.heap.size) :
    LIng (w.setCell ⟨g, k * 14 + 13, none⟩ (.slice (some ⟨gk, 0, none⟩) (l[k]'(by omega)).fields.length ((l[k]'(by omega)).fields.length + 2))) g n (k + 1) j hk' l := by
  obtain ⟨hs, gs, h0, h1, it⟩ := h.it
  have hm := hs_mono (hs := hs) (gs := gs) (n := k) (fun i hi => ⟨(it i (by omega) hi).1.1, (it i (by omega) hi).1.2.1⟩)
  have hz0 := hm k (Nat.le_refl _) 0 (by omega)
  have hlt := hsub.lt
  refine ⟨setCells_blk g _ _ [_] _ _ h.blk, ⟨fun i => if i ≤ k then hs i else hk', fun i => if i < k then gs i else gk, by simpa using h0, by simp [show ¬ k + 1 ≤ k by omega], fun i hi hik => ?_⟩,
    fun i hi => (h.mrk i hi).apart g (k * 14 + 13) [_] (.inr (.inr (by simp [Nat.add_mul]; omega))), by simpa using hw⟩
  by_cases e : i = k
  · subst e
    simp only [Nat.le_refl, if_true, Nat.lt_irrefl, if_false, show ¬ i + 1 ≤ i by omega]
    exact ⟨⟨by omega, hlt, hok, field13 hc⟩, hsub.keep fun b hb1 hb2 => setCells_heap g [_] _ _ (by omega)⟩
  · have hik' : i < k := by omega
    simp only [show i ≤ k by omega, show i < k by omega, show i + 1 ≤ k by omega, if_true]
    exact ⟨⟨(it i hi hik').1.1, (it i hi hik').1.2.1, (it i hi hik').1.2.2.1, (it i hi hik').1.2.2.2.apart g (k * 14 + 13) [_] (.inr (.inl (by rw [fieldCells_len]; omega)))⟩, LIng.sub_keep h0 it (by omega) (fun b hb => setCells_heap g [_] _ _ hb) hi hik'⟩
theorem LIng.mark (h : LIng w g n n j z l) (hl : l.length = n) (hj : j < 2) : LIng (w.setCells g ((n + j) * 14) markF) g n n (j + 1) z l := by
  obtain ⟨hs, gs, h0, h1, it⟩ := h.it
  refine ⟨setCells_blk g _ _ _ _ _ h.blk, ⟨hs, gs, h0, h1, fun i hi hik => ⟨⟨(it i hi hik).1.1, (it i hi hik).1.2.1, (it i hi hik).1.2.2.1, (it i hi hik).1.2.2.2.apart _ _ _ (.inr (.inl (by rw [fieldCells_len]; omega)))⟩, LIng.sub_keep h0 it (by omega) (fun b hb => setCells_heap g _ _ _ hb) hi hik⟩⟩,
    fun i hi => ?_, by rw [setCells_size]; exact h.zle⟩
  by_cases e : i = j
  · subst e; exact CellsAt.put (h.there (by omega))
  · exact (h.mrk i (by omega)).apart _ _ _ (.inr (.inl (by rw [markF_len]; omega)))
theorem LIng.markAt {m : Nat} (h : LIng w g n n (m - n) z l) (hl : l.length = n) (hm : n ≤ m) (hj : m < n + 2) : LIng (w.setCells g (m * 14) markF) g n n (m + 1 - n) z l := by
  have := h.mark hl (by omega)
  rw [show n + (m - n) = m by omega] at this
  rw [show m + 1 - n = m - n + 1 by omega]; exact this
theorem LIng.done (h : LIng w g n n 2 z l) (hl : l.length = n) (hn : n + 2 ≤ 140737488351232) : LentAt w l g w.heap.size := by
  subst hl
  obtain ⟨hs, gs, h0, h1, it⟩ := h.it
  exact .mk hs gs h.blk hn (h.mrk 0 (by omega)) (h.mrk 1 (by omega)) h0 (Nat.le_trans h1 h.zle) (fun i hi => (it i hi hi).1) (fun i hi => (it i hi hi).2)
theorem LIng.new (w : World) (T : Nat) (hT : T = w.heap.size) (n : Nat) (c : Array Value) (hc : c.size = (n + 2) * 14) (l : List FT) : LIng (w.alloc (.cells c 57)) T n 0 0 (T + 1) l := by
  subst hT
  exact ⟨⟨c, World.alloc_heap_new w _, hc⟩, ⟨fun _ => w.heap.size + 1, fun _ => 0, by simp, Nat.le_refl _, fun i hi hk => absurd hk (Nat.not_lt_zero i)⟩, fun i hi => absurd hi (Nat.not_lt_zero i), by simp⟩
end
theorem cell_behind (w : World) (g o : Nat) (vs : List Value) (j : Nat) (h : vs.length ≤ j) : (w.setCells g o vs).cell? ⟨g, o + j, none⟩ = w.cell? ⟨g, o + j, none⟩ := World.cell?_setCells_out g vs o w ⟨g, o + j, none⟩ (fun _ _ => .inr (by show o + vs.length ≤ o + j; omega))
theorem setCells14 (w : World) (g o : Nat) (v0 v1 v2 v3 v4 v5 v6 v7 v8 v9 v10 v11 v12 v13 : Value) : w.setCells g o [v0, v1, v2, v3, v4, v5, v6, v7, v8, v9, v10, v11, v12, v13] = ((((((((((((((w.setCell ⟨g, o, none⟩ v0).setCell ⟨g, o + 1, none⟩ v1).setCell ⟨g, o + 2, none⟩ v2).setCell ⟨g, o + 3, none⟩ v3).setCell ⟨g, o + 4, none⟩ v4).setCell ⟨g, o + 5, none⟩ v5).setCell ⟨g, o + 6, none⟩ v6).setCell ⟨g, o + 7, none⟩ v7).setCell ⟨g, o + 8, none⟩ v8).setCell ⟨g, o + 9, none⟩ v9).setCell ⟨g, o + 10, none⟩ v10).setCell ⟨g, o + 11, none⟩ v11).setCell ⟨g, o + 12, none⟩ v12).setCell ⟨g, o + 13, none⟩ v13) := rfl
theorem there14 {w : World} {g o : Nat} (h : w.there g o 14) (v0 v1 v2 v3 v4 v5 v6 v7 v8 v9 v10 v11 v12 : Value) : ∃ u0 u1 u2 u3 u4 u5 u6 u7 u8 u9 u10 u11 u12 u13, w.cell? ⟨g, o, none⟩ = some u0 ∧ (w.setCell ⟨g, o, none⟩ v0).cell? ⟨g, o + 1, none⟩ = some u1 ∧ ((w.setCell ⟨g, o, none⟩ v0).setCell ⟨g, o + 1, none⟩ v1).cell? ⟨g, o + 2, none⟩ = some u2 ∧ (((w.setCell ⟨g, o, none⟩ v0).setCell ⟨g, o + 1, none⟩ v1).setCell ⟨g, o + 2, none⟩ v2).cell? ⟨g, o + 3, none⟩ = some u3 ∧ ((((w.setCell ⟨g, o, none⟩ v0).setCell ⟨g, o + 1, none⟩ v1).setCell ⟨g, o + 2, none⟩ v2).setCell ⟨g, o + 3, none⟩ v3).cell? ⟨g, o + 4, none⟩ = some u4 ∧ (((((w.setCell ⟨g, o, none⟩ v0).setCell ⟨g, o + 1, none⟩ v1).setCell ⟨g, o + 2, none⟩ v2).setCell ⟨g, o + 3, none⟩ v3).setCell ⟨g, o + 4, none⟩ v4).cell? ⟨g, o + 5, none⟩ = some u5 ∧ ((((((w.setCell ⟨g, o, none⟩ v0).setCell ⟨g, o + 1, none⟩ v1).setCell ⟨g, o + 2, none⟩ v2).setCell ⟨g, o + 3, none⟩ v3).setCell ⟨g, o + 4, none⟩ v4).setCell ⟨g, o + 5, none⟩ v5).cell? ⟨g, o + 6, none⟩ = some u6 ∧ (((((((w.setCell ⟨g, o, none⟩ v0).setCell ⟨g, o + 1, none⟩ v1).setCell ⟨g, o + 2, none⟩ v2).setCell ⟨g, o + 3, none⟩ v3).setCell ⟨g, o + 4, none⟩ v4).setCell ⟨g, o + 5, none⟩ v5).setCell ⟨g, o + 6, none⟩ v6).cell? ⟨g, o + 7, none⟩ = some u7 ∧ ((((((((w.setCell ⟨g, o, none⟩ v0).setCell ⟨g, o + 1, none⟩ v1).setCell ⟨g, o + 2, none⟩ v2).setCell ⟨g, o + 3, none⟩ v3).setCell ⟨g, o + 4, none⟩ v4).setCell ⟨g, o + 5, none⟩ v5).setCell ⟨g, o + 6, none⟩ v6).setCell ⟨g, o + 7, none⟩ v7).cell? ⟨g, o + 8, none⟩ = some u8 ∧ (((((((((w.setCell ⟨g, o, none⟩ v0).setCell ⟨g, o + 1, none⟩ v1).setCell ⟨g, o + 2, none⟩ v2).setCell ⟨g, o + 3, none⟩ v3).setCell ⟨g, o + 4, none⟩ v4).setCell ⟨g, o + 5, none⟩ v5).setCell ⟨g, o + 6, none⟩ v6).setCell ⟨g, o + 7, none⟩ v7).setCell ⟨g, o + 8, none⟩ v8).cell? ⟨g, o + 9, none⟩ = some u9 ∧ ((((((((((w.setCell ⟨g, o, none⟩ v0).setCell ⟨g, o + 1, none⟩ v1).setCell ⟨g, o + 2, none⟩ v2).setCell ⟨g, o + 3, none⟩ v3).setCell ⟨g, o + 4, none⟩ v4).setCell ⟨g, o + 5, none⟩ v5).setCell ⟨g, o + 6, none⟩ v6).setCell ⟨g, o + 7, none⟩ v7).setCell ⟨g, o + 8, none⟩ v8).setCell ⟨g, o + 9, none⟩ v9).cell? ⟨g, o + 10, none⟩ = some u10 ∧ (((((((((((w.setCell ⟨g, o, none⟩ v0).setCell ⟨g, o + 1, none⟩ v1).setCell ⟨g, o + 2, none⟩ v2).setCell ⟨g, o + 3, none⟩ v3).setCell ⟨g, o + 4, none⟩ v4).setCell ⟨g, o + 5, none⟩ v5).setCell ⟨g, o + 6, none⟩ v6).setCell ⟨g, o + 7, none⟩ v7).setCell ⟨g, o + 8, none⟩ v8).setCell ⟨g, o + 9, none⟩ v9).setCell ⟨g, o + 10, none⟩ v10).cell? ⟨g, o + 11, none⟩ = some u11 ∧ ((((((((((((w.setCell ⟨g, o, none⟩ v0).setCell ⟨g, o + 1, none⟩ v1).setCell ⟨g, o + 2, none⟩ v2).setCell ⟨g, o + 3, none⟩ v3).setCell ⟨g, o + 4, none⟩ v4).setCell ⟨g, o + 5, none⟩ v5).setCell ⟨g, o + 6, none⟩ v6).setCell ⟨g, o + 7, none⟩ v7).setCell ⟨g, o + 8, none⟩ v8).setCell ⟨g, o + 9, none⟩ v9).setCell ⟨g, o + 10, none⟩ v10).setCell ⟨g, o + 11, none⟩ v11).cell? ⟨g, o + 12, none⟩ = some u12 ∧ (((((((((((((w.setCell ⟨g, o, none⟩ v0).setCell ⟨g, o + 1, none⟩ v1).setCell ⟨g, o + 2, none⟩ v2).setCell ⟨g, o + 3, none⟩ v3).setCell ⟨g, o + 4, none⟩ v4).setCell ⟨g, o + 5, none⟩ v5).setCell ⟨g, o + 6, none⟩ v6).setCell ⟨g, o + 7, none⟩ v7).setCell ⟨g, o + 8, none⟩ v8).setCell ⟨g, o + 9, none⟩ v9).setCell ⟨g, o + 10, none⟩ v10).setCell ⟨g, o + 11, none⟩ v11).setCell ⟨g, o + 12, none⟩ v12).cell? ⟨g, o + 13, none⟩ = some u13 ∧ w.frozen? ⟨g, o, none⟩ = false ∧ w.frozen? ⟨g, o + 1, none⟩ = false ∧ w.frozen? ⟨g, o + 2, none⟩ = false ∧ w.frozen? ⟨g, o + 3, none⟩ = false ∧ w.frozen? ⟨g, o + 4, none⟩ = false ∧ w.frozen? ⟨g, o + 5, none⟩ = false ∧ w.frozen? ⟨g, o + 6, none⟩ = false ∧ w.frozen? ⟨g, o + 7, none⟩ = false ∧ w.frozen? ⟨g, o + 8, none⟩ = false ∧ w.frozen? ⟨g, o + 9, none⟩ = false ∧ w.frozen? ⟨g, o + 10, none⟩ = false ∧ w.frozen? ⟨g, o + 11, none⟩ = false ∧ w.frozen? ⟨g, o + 12, none⟩ = false ∧ w.frozen? ⟨g, o + 13, none⟩ = false := by
  obtain ⟨u0, h0⟩ := Option.isSome_iff_exists.1 (h 0 (by omega)).1
  obtain ⟨u1, h1⟩ := Option.isSome_iff_exists.1 (h 1 (by omega)).1
  obtain ⟨u2, h2⟩ := Option.isSome_iff_exists.1 (h 2 (by omega)).1
  obtain ⟨u3, h3⟩ := Option.isSome_iff_exists.1 (h 3 (by omega)).1
  obtain ⟨u4, h4⟩ := Option.isSome_iff_exists.1 (h 4 (by omega)).1
  obtain ⟨u5, h5⟩ := Option.isSome_iff_exists.1 (h 5 (by omega)).1
  obtain ⟨u6, h6⟩ := Option.isSome_iff_exists.1 (h 6 (by omega)).1
  obtain ⟨u7, h7⟩ := Option.isSome_iff_exists.1 (h 7 (by omega)).1
  obtain ⟨u8, h8⟩ := Option.isSome_iff_exists.1 (h 8 (by omega)).1
  obtain ⟨u9, h9⟩ := Option.isSome_iff_exists.1 (h 9 (by omega)).1
  obtain ⟨u10, h10⟩ := Option.isSome_iff_exists.1 (h 10 (by omega)).1
  obtain ⟨u11, h11⟩ := Option.isSome_iff_exists.1 (h 11 (by omega)).1
  obtain ⟨u12, h12⟩ := Option.isSome_iff_exists.1 (h 12 (by omega)).1
  obtain ⟨u13, h13⟩ := Option.isSome_iff_exists.1 (h 13 (by omega)).1
  exact ⟨u0, u1, u2, u3, u4, u5, u6, u7, u8, u9, u10, u11, u12, u13, h0, (cell_behind w g o [v0] 1 (by simp)).trans h1, (cell_behind w g o [v0, v1] 2 (by simp)).trans h2, (cell_behind w g o [v0, v1, v2] 3 (by simp)).trans h3, (cell_behind w g o [v0, v1, v2, v3] 4 (by simp)).trans h4, (cell_behind w g o [v0, v1, v2, v3, v4] 5 (by simp)).trans h5, (cell_behind w g o [v0, v1, v2, v3, v4, v5] 6 (by simp)).trans h6, (cell_behind w g o [v0, v1, v2, v3, v4, v5, v6] 7 (by simp)).trans h7, (cell_behind w g o [v0, v1, v2, v3, v4, v5, v6, v7] 8 (by simp)).trans h8, (cell_behind w g o [v0, v1, v2, v3, v4, v5, v6, v7, v8] 9 (by simp)).trans h9, (cell_behind w g o [v0, v1, v2, v3, v4, v5, v6, v7, v8, v9] 10 (by simp)).trans h10, (cell_behind w g o [v0, v1, v2, v3, v4, v5, v6, v7, v8, v9, v10] 11 (by simp)).trans h11, (cell_behind w g o [v0, v1, v2, v3, v4, v5, v6, v7, v8, v9, v10, v11] 12 (by simp)).trans h12, (cell_behind w g o [v0, v1, v2, v3, v4, v5, v6, v7, v8, v9, v10, v11, v12] 13 (by simp)).trans h13, (h 0 (by omega)).2, (h 1 (by omega)).2, (h 2 (by omega)).2, (h 3 (by omega)).2, (h 4 (by omega)).2, (h 5 (by omega)).2, (h 6 (by omega)).2, (h 7 (by omega)).2, (h 8 (by omega)).2, (h 9 (by omega)).2, (h 10 (by omega)).2, (h 11 (by omega)).2, (h 12 (by omega)).2, (h 13 (by omega)).2⟩
end Go.Proofs.YtcjllhdbepchnaaGreatDoor

/-! keep.LentFields: fields whose lists have marked room behind them. -/
namespace Go.Proofs.YtcjllhdbepchnaaGreatDoor
open Go.RowKit Go.WideShapes
set_option linter.unusedVariables false
theorem field_info : (Tryz.prog.info? 57).map (fun i => (i.zero, i.size, i.bytes)) = some (some (.agg #[.string ⟨#[]⟩, .int .u8 0, .bool false, .int .u8 0, .bool false, .bool false, .string ⟨#[]⟩, .bool false, .string ⟨#[]⟩, .int .i64 0, .int .i64 0, .bool false, .bool false, .slice none 0 0]), 14, 120) := by kernel_rfl
/-- No list of fields is too long. -/
inductive Slim : List FT → Prop
  | mk {l : List FT} (h : l.length ≤ 16777216) (sub : ∀ x ∈ l, Slim x.fields) : Slim l
theorem Slim.len {l : List FT} (h : Slim l) : l.length ≤ 16777216 := by cases h; assumption
theorem Slim.sub {l : List FT} (h : Slim l) {x : FT} (hx : x ∈ l) : Slim x.fields := by cases h with | mk _ hs => exact hs x hx
/-- They come back so, in new blocks. -/
def LentFPost (l : List FT) (w : World) (e : Ending) (w' : World) : Prop := ∃ g, e = .returned (.slice (some ⟨g, 0, none⟩) l.length (l.length + 2)) ∧ Below w.heap.size w w' ∧ w.heap.size ≤ g ∧ LentAt w' l g w'.heap.size
def LentFAny (l : List FT) : Prop := ∀ (a : Option Addr) (c : Nat) (w : World), Slim l → FieldsAt w (· < w.heap.size) l a → Calls Tryz.prog 13 #[.slice a l.length c] w (LentFPost l w)
set_option maxRecDepth 100000 in
set_option maxHeartbeats 2000000 in
theorem lentF_step (l : List FT) (ih : ∀ x ∈ l, LentFAny x.fields) : LentFAny l := by
  intro a c w hsl hf
  have hlen := hsl.len
  obtain ⟨N, hN1, hN2⟩ : ∃ N, l.length + 2 ≤ N ∧ N ≤ l.length + 2 := ⟨_, Nat.le_refl _, Nat.le_refl _⟩
  obtain ⟨i0, hi, hz0, hz1, hzb⟩ := info_parts field_info
  have HL := Lib.hid hf
  have HSm := Lib.hid (fun x (hx : x ∈ l) => hsl.sub hx)
  have HIH := Lib.hid ih
  have HB0 := Lib.hid (fun o => (Below.refl w.heap.size w).alloc (Nat.le_refl _) o)
  have HV0 := Lib.hid (fun c h2 => LIng.new w w.heap.size rfl l.length c h2 l)
  clear hf hsl ih
  go_enter Tryz.func13, Tryz.ntmps13
  go_wp2_with (at_make; refine wpList_make_lc _ rfl _ _ 22 rfl 57 i0 (.agg #[.string ⟨#[]⟩, .int .u8 0, .bool false, .int .u8 0, .bool false, .bool false, .string ⟨#[]⟩, .bool false, .string ⟨#[]⟩, .int .i64 0, .int .i64 0, .bool false, .bool false, .slice none 0 0]) 14 Tryz.underlying22 hi hz0 hz1 _ _ _ _ l.length N rfl rfl (by omega) (by omega) (by omega) (by rw [hzb]; omega) (by omega) ?_)
  go_loopw [4] (fun i wr => ∃ (k z : Nat), i = .int .i64 k ∧ k ≤ l.length ∧ Hid (Below w.heap.size w wr) ∧ Hid (LIng wr w.heap.size l.length k 0 z l) ∧ w.heap.size + 1 ≤ wr.heap.size) (fun i _ => l.length - (intOf i).toNat)
  case atStart => exact ⟨0, _, rfl, by omega, Lib.hid (HB0.out _), Lib.hid (HV0.out _ (by simp [madeCells, show N = l.length + 2 by omega])), by simp⟩
  case round =>
    clear HB0 HV0
    obtain ⟨k, z, rfl, hk, HB, HV, hwz⟩ := hrel
    by_cases hlt : k < l.length
    · obtain ⟨b, o, aa, cc, rfl, hb, hca, hfa⟩ := (HL.out.below HB.out).get hlt
      obtain ⟨k0, k1, k2, k3, k4, k5, k6, k7, k8, k9, k10, k11, k12, k13⟩ := hca.field
      obtain ⟨_, _, ee, hok, hfl, hfc, hff⟩ := hfa.open
      obtain ⟨rfl, rfl⟩ := fieldCells_inj ee
      have HOK := Lib.hid hok
      have HFF := Lib.hid hff
      have HCA := Lib.hid hca
      obtain ⟨u0, u1, u2, u3, u4, u5, u6, u7, u8, u9, u10, u11, u12, u13, s0, s1, s2, s3, s4, s5, s6, s7, s8, s9, s10, s11, s12, s13, f0, f1, f2, f3, f4, f5, f6, f7, f8, f9, f10, f11, f12, f13⟩ := there14 (HV.out.there (i := k) (by omega)) (.string l[k].s.name) (.int .u8 l[k].s.kind) (.bool l[k].s.down) (.int .u8 l[k].s.nulls) (.bool l[k].s.bnd) (.bool l[k].s.lb) (.string l[k].s.lm) (.bool l[k].s.hb) (.string l[k].s.hm) (.int .i64 l[k].s.most) (.int .i64 l[k].s.st) (.bool l[k].s.sh) (.bool l[k].s.ba)
      clear hok hff hfa hca ee
      go_wp2_with fail

      obtain ⟨W1, hW1⟩ : ∃ W1, W1 = wr.setCells w.heap.size (k * 14) [.string l[k].s.name, .int .u8 l[k].s.kind, .bool l[k].s.down, .int .u8 l[k].s.nulls, .bool l[k].s.bnd, .bool l[k].s.lb, .string l[k].s.lm, .bool l[k].s.hb, .string l[k].s.hm, .int .i64 l[k].s.most, .int .i64 l[k].s.st, .bool l[k].s.sh, .bool l[k].s.ba, .slice aa l[k].fields.length cc] := ⟨_, rfl⟩
      have hV1 : LIng W1 w.heap.size l.length k 0 z l := by rw [hW1]; exact HV.out.putraw rfl hlt rfl
      have hC1 : CellsAt W1 w.heap.size (k * 14) (fieldCells l[k] aa cc) := by rw [hW1]; exact CellsAt.put (HV.out.there (by omega))
      have hB1 : Below w.heap.size wr W1 := by rw [hW1]; exact below_puts (Below.refl _ _) w.heap.size (Nat.le_refl _) _ _
      have hz1 : W1.heap.size = wr.heap.size := by rw [hW1]; exact setCells_size _ _ _ _
      rw [setCells14] at hW1
      rw [← hW1]
      clear hW1 u0 u1 u2 u3 u4 u5 u6 u7 u8 u9 u10 u11 u12 u13 s0 s1 s2 s3 s4 s5 s6 s7 s8 s9 s10 s11 s12 s13 f0 f1 f2 f3 f4 f5 f6 f7 f8 f9 f10 f11 f12 f13 k0 k1 k2 k3 k4 k5 k6 k7 k8 k9 k10 k11 k12 k13
      refine (HIH.out l[k] (List.getElem_mem hlt) aa cc W1 (HSm.out _ (List.getElem_mem hlt)) ((HFF.out.below hB1).wide (by omega))).mono ?_
      rintro e w2 ⟨g2, rfl, hb2, hg2, hl2⟩
      have hz2 := hb2.size
      have hV2 := hV1.below (by omega) hb2 (Nat.le_refl _)
      have hth := hV2.there (i := k) (by omega) 13 (by omega)
      obtain ⟨u13, s13⟩ := Option.isSome_iff_exists.1 hth.1
      have f13 := hth.2
      have HB' := Lib.hid ((HB.out.trans (hB1.trans (hb2.mono (by omega)))).setCell (p := ⟨w.heap.size, k * 14 + 13, none⟩) (Nat.le_refl _) (.slice (some ⟨g2, 0, none⟩) l[k].fields.length (l[k].fields.length + 2)))
      have HV' := Lib.hid (hV2.fix rfl hlt HOK.out (hC1.keep fun p hp => hb2.cell (by rw [hp]; omega)) hl2 (by have := hV1.zle; omega) (Nat.le_refl _))
      clear hth hV2 hV1 hC1 hB1 hb2 hl2
      go_wp2_with fail
      go_roundw
      case rel => exact ⟨k + 1, _, by go_num, by omega, HB', HV', by simp; omega⟩
      case measure => simp [intOf]; omega
    · obtain rfl : k = l.length := by omega
      have hlenI : l.length ≤ 9223372036854775807 := by omega
      go_wp2_with fail
      go_loopw [6] (fun i wr => ∃ (m : Nat), i = .int .i64 m ∧ l.length ≤ m ∧ m ≤ N ∧ Hid (Below w.heap.size w wr) ∧ Hid (LIng wr w.heap.size l.length l.length (m - l.length) z l) ∧ w.heap.size + 1 ≤ wr.heap.size) (fun i _ => N - (intOf i).toNat)
      case atStart => exact ⟨l.length, rfl, by omega, by omega, HB, by rw [Nat.sub_self]; exact HV, hwz⟩
      case round =>
        clear HB HV hwz HIH HL
        obtain ⟨m, rfl, hm1, hm2, HB, HV, hwz⟩ := hrel
        by_cases hj2 : m < N
        · obtain ⟨u0, u1, u2, u3, u4, u5, u6, u7, u8, u9, u10, u11, u12, u13, s0, s1, s2, s3, s4, s5, s6, s7, s8, s9, s10, s11, s12, s13, f0, f1, f2, f3, f4, f5, f6, f7, f8, f9, f10, f11, f12, f13⟩ := there14 (HV.out.there (i := m) (by omega)) (.string ⟨#[109, 97, 114, 107]⟩) (.int .u8 99) (.bool false) (.int .u8 0) (.bool false) (.bool false) (.string ⟨#[]⟩) (.bool false) (.string ⟨#[]⟩) (.int .i64 0) (.int .i64 0) (.bool false) (.bool false)
          have HV' := Lib.hid (HV.out.markAt rfl hm1 (by omega))
          have HB' := Lib.hid (below_puts HB.out w.heap.size (Nat.le_refl _) markF (m * 14))
          have hz4 := setCells_size w.heap.size markF (m * 14) wr
          unfold markF at HV' HB' hz4
          rw [setCells14] at HV' HB' hz4
          go_wp2_with fail
          go_roundw
          case rel => exact ⟨m + 1, by go_num, by omega, by omega, HB', HV', by omega⟩
          case measure => simp [intOf]; omega
        · obtain rfl : N = m := by omega
          have HVe := Lib.hid ((show LIng wr w.heap.size l.length l.length 2 z l by have h9 := HV.out; rw [show N - l.length = 2 by omega] at h9; exact h9).done rfl (by omega))
          go_wp2_with fail
          go_ret
          exact ⟨w.heap.size, by rw [show l.length + 2 = N by omega]; rfl, HB.out, Nat.le_refl _, HVe.out⟩
theorem lentF_any (l : List FT) : LentFAny l := lentF_step l (fun x hx => FT.allL (M := fun t => LentFAny t.fields) (fun t h => lentF_step t.fields h) l x hx)
end Go.Proofs.YtcjllhdbepchnaaGreatDoor
