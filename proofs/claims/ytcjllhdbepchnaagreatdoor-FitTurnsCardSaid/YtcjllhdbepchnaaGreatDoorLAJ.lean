/-
  value.same: a value is the same as itself, wherever it lies.
-/
import Derived.Test.YtcjllhdbepchnaaGreatDoorLY
import Derived.Deep.AppendLies
/-! value.same: a value is the same as itself, wherever it lies. -/
namespace Go.Proofs.YtcjllhdbepchnaaGreatDoor
open Go.RowKit Go.WideShapes
set_option linter.unusedVariables false
theorem tupleNoTruth (v : Value) (xT : TypeId) (w : World) : (Instr.typeAssert (.iface 109 v) xT 124 true).run Tryz.prog w = .ok (.tuple #[.agg #[.bool false], .bool false]) w := by kernel_rfl
theorem wholeNoTruth (v : Value) (xT : TypeId) (w : World) : (Instr.typeAssert (.iface 126 v) xT 124 true).run Tryz.prog w = .ok (.tuple #[.agg #[.bool false], .bool false]) w := by kernel_rfl
theorem rowNoTruth (v : Value) (xT : TypeId) (w : World) : (Instr.typeAssert (.iface 128 v) xT 124 true).run Tryz.prog w = .ok (.tuple #[.agg #[.bool false], .bool false]) w := by kernel_rfl
theorem partYes (k : Int) (y b : Bool) (m r : ByteArray) (a : Option Addr) (n c : Nat) (w : World) : (Instr.field 30 (.agg #[.int .u8 k, .bool y, .bool b, .string m, .string r, .slice a n c]) 1).run Tryz.prog w = .ok (.bool y) w := by kernel_rfl
theorem truthIsTruth (v : Value) (xT : TypeId) (w : World) : (Instr.typeAssert (.iface 124 v) xT 124 true).run Tryz.prog w = .ok (.tuple #[v, .bool true]) w := by kernel_rfl
end Go.Proofs.YtcjllhdbepchnaaGreatDoor

/-! slices.Clone of values, value.Of. -/
namespace Go.Proofs.YtcjllhdbepchnaaGreatDoor
open Go.RowKit Go.WideShapes
set_option linter.unusedVariables false
theorem ValuesAt.vals {w : World} {S : Nat → Prop} : ∀ {l : List PT} {b o : Nat}, ValuesAt w S l (some ⟨b, o, none⟩) → ∃ vs : List Value, vs.length = l.length ∧ (∀ i u, vs[i]? = some u → w.cell? ⟨b, o + i, none⟩ = some u) ∧ ∀ i (hi : i < l.length) (hv : i < vs.length), ValueAt w S l[i] vs[i]
  | [], b, o, _ => ⟨[], rfl, fun i u hu => by simp at hu, fun i hi => absurd hi (Nat.not_lt_zero i)⟩
  | t :: l, b, o, h => by
    obtain ⟨b', o', u, e, hb, hc, h1, h2⟩ := h
    simp only [Option.some.injEq, Addr.mk.injEq, and_true] at e
    obtain ⟨rfl, rfl⟩ := e
    obtain ⟨vs, g1, g2, g3⟩ := ValuesAt.vals h2
    refine ⟨u :: vs, by simp [g1], fun i x hx => ?_, fun i hi hv => ?_⟩
    · cases i with
      | zero => simp at hx; subst hx; exact hc
      | succ i => rw [show o + (i + 1) = o + 1 + i by omega]; exact g2 i x (by simpa using hx)
    · cases i with
      | zero => exact h1
      | succ i => exact g3 i (by simpa using hi) (by simpa using hv)
theorem sliceSome (x : Addr) (n c : Nat) (w : World) : (binOp .eql 105 (.slice (some x) n c) (.slice none 0 0)).run Tryz.prog w = .ok (.bool false) w := by kernel_rfl
theorem sliceNone (n c : Nat) (w : World) : (binOp .eql 105 (.slice none n c) (.slice none 0 0)).run Tryz.prog w = .ok (.bool true) w := by kernel_rfl
theorem own_cap {w : World} {base e size n cap g m : Nat} {xs : List Value} (h : w.ownsRow base e size (.slice (some ⟨g, 0, none⟩) m cap) n xs) : n ≤ cap ∧ cap ≤ maxLen := by
  rcases h.2 with ⟨h, _⟩ | ⟨g', cap', cur, e, _, _, h1, h2, _⟩
  · cases h
  · injection e with _ _ e; subst e; exact ⟨h1, h2⟩
/-- A list of values comes back, below the world's end. -/
def RowPost (l : List PT) (w : World) (e : Ending) (w' : World) : Prop := ∃ a c, e = .returned (.slice a l.length c) ∧ l.length ≤ c ∧ c ≤ maxLen ∧ Below w.heap.size w w' ∧ ValuesAt w' (· < w'.heap.size) l a
set_option maxRecDepth 100000 in
set_option maxHeartbeats 1000000 in
theorem clone_any (l : List PT) (a : Option Addr) (c : Nat) (w : World) (hl : l.length ≤ 1024) (h0 : l = [] → a = none) (hv : ValuesAt w (· < w.heap.size) l a) :
    Calls Tryz.prog 54 #[.slice a l.length c] w (RowPost l w) := by
  have HB0 := Lib.hid (Below.refl w.heap.size w)
  by_cases hn : l = []
  · obtain rfl := h0 hn
    subst hn
    have hs := sliceNone
    clear h0 hv hl
    go_enter Tryz.func54, Tryz.ntmps54
    go_wp2_with fail
    go_ret
    exact ⟨none, 0, rfl, Nat.le_refl _, Nat.zero_le _, HB0.out, trivial⟩
  · obtain ⟨b, o, rfl⟩ : ∃ b o, a = some ⟨b, o, none⟩ := by
      cases l with
      | nil => exact absurd rfl hn
      | cons t l => obtain ⟨b, o, u, e, _⟩ := hv; exact ⟨b, o, e⟩
    have hpos : 0 < l.length := List.length_pos_iff.2 hn
    obtain ⟨vs, g1, g2, g3⟩ := ValuesAt.vals hv
    have HG2 := Lib.hid g2
    have HG3 := Lib.hid g3
    obtain ⟨i0, hi, hz⟩ := Option.map_eq_some_iff.1 value_info
    simp only [Prod.mk.injEq] at hz
    obtain ⟨hz0, hz1, hz2⟩ := hz
    have HOne := Lib.hid (show ∀ u ∈ vs, u.oneCell' = true from fun u hu => by
      obtain ⟨i, hi, rfl⟩ := List.getElem_of_mem hu
      exact (g3 i (by omega) hi).one)
    have HO := Lib.hid (show (w.alloc (Obj.cells #[] 37)).ownsRow w.heap.size 37 1 (.slice (some ⟨w.heap.size, 0, none⟩) 0 0) 0 [] from ⟨rfl, .inr ⟨w.heap.size, 0, #[], rfl, Nat.le_refl _, World.alloc_heap_new w _, Nat.le_refl _, Nat.zero_le _, rfl, rfl⟩⟩)
    have HB1 := Lib.hid (HB0.out.alloc (Nat.le_refl _) (Obj.cells #[] 37))
    have HL := Lib.hid g1
    have hblt : b < w.heap.size := by
      cases l with
      | nil => simp at hpos
      | cons t l => obtain ⟨b', o', u, e, hb', _⟩ := hv; simp at e; obtain ⟨rfl, -⟩ := e; exact hb'
    have HNews := Lib.hid (show ∀ j u, vs[j]? = some u → (w.alloc (Obj.cells #[] 37)).cell? ((⟨b, o, none⟩ : Addr).add j) = some u from fun j u hu => by
      rw [add_plain, World.cell?_alloc_lt _ _ _ hblt]; exact g2 j u hu)
    have hs := sliceSome
    clear g1 g2 g3 hv h0 hn
    go_enter Tryz.func54, Tryz.ntmps54
    go_wp2_with (at_builtin; refine wpList_append_lies _ rfl _ _ 105 rfl w.heap.size 37 i0 .nilIface 1 16 Tryz.underlying105 hi hz0 hz1 hz2 rfl (by decide) _ _ _ rfl HO.out ⟨b, o, none⟩ l.length c vs rfl (by rw [HL.out]; omega) (HNews.out) HOne.out hpos (by unfold maxLen; omega) (by omega) (by simp) _ rfl ?_; intro g cap w' hown hgrow hat hgl)
    go_ret
    have hcap := own_cap hown
    have hgrow' : (w.alloc (Obj.cells #[] 37)).grownBy w' (some w.heap.size) := hgrow
    have hb2 := HB1.out.grown hgrow' (by simp) (fun j ej => by injection ej with ej; omega)
    refine ⟨some ⟨g, 0, none⟩, cap, rfl, by omega, by omega, hb2, ValuesAt.of_get (.inr hgl) fun i hi => ?_⟩
    have hiv : i < vs.length := by rw [HL.out]; exact hi
    refine ⟨vs[i], ?_, ((HG3.out i hi hiv).below hb2).wide (by have := hb2.size; omega)⟩
    rw [Nat.zero_add, hown.cellAt i (by omega), List.nil_append, List.getElem?_eq_getElem hiv]
/-- A list comes back, and no error. -/
def OfPost (l : List PT) (w : World) (e : Ending) (w' : World) : Prop := ∃ a c, e = .returned (.tuple #[.iface 109 (.agg #[.slice a l.length c]), .int .i64 0]) ∧ l.length ≤ c ∧ c ≤ maxLen ∧ Below w.heap.size w w' ∧ ValuesAt w' (· < w'.heap.size) l a
set_option maxRecDepth 100000 in
set_option maxHeartbeats 1000000 in
theorem of_any (l : List PT) (a : Option Addr) (c : Nat) (w : World) (hl : l.length ≤ 1024) (h0 : l = [] → a = none) (hd : ∀ t ∈ l, t.depth < 16) (hv : ValuesAt w (· < w.heap.size) l a) :
    Calls Tryz.prog 26 #[.slice a l.length c] w (OfPost l w) := by
  have HB0 := Lib.hid (Below.refl w.heap.size w)
  have HV := Lib.hid hv
  have HC := Lib.hid (fun w => clone_any l a c w hl h0)
  have HD := Lib.hid hd
  clear hv h0 hd
  go_enter Tryz.func26, Tryz.ntmps26
  go_wp2_with fail
  go_loopw [11] (fun i wr => ∃ (k : Nat), i = .int .i64 k ∧ k ≤ l.length ∧ Hid (Below w.heap.size w wr) ∧ w.heap.size ≤ wr.heap.size) (fun i _ => l.length - (intOf i).toNat)
  case atStart => exact ⟨0, rfl, by omega, HB0, by omega⟩
  case round =>
    clear HB0
    obtain ⟨k, rfl, hk, HB, hwz⟩ := hrel
    by_cases hlt : k < l.length
    · obtain ⟨b, o, u, ea, hb, hc, hu⟩ := (HV.out.below HB.out).get hlt
      subst ea
      have hd := HD.out _ (List.getElem_mem hlt)
      have HR := Lib.hid (Depth_any l[k] u wr (by omega) (hu.wide hwz))
      clear hu
      go_wp2_with fail
      refine HR.out.mono ?_
      rintro e w2 ⟨rfl, hb2⟩
      have hz2 := hb2.size
      have HB2 := Lib.hid (HB.out.trans (hb2.mono hwz))
      clear hb2 HB HR hc
      go_wp2_with fail
      go_roundw
      case rel => exact ⟨k + 1, by go_num, by omega, HB2, by omega⟩
      case measure => simp [intOf]; omega
    · obtain rfl : k = l.length := by omega
      have HR := Lib.hid (HC.out wr ((HV.out.below HB.out).wide hwz))
      go_wp2_with fail
      refine HR.out.mono ?_
      rintro e w2 ⟨a2, c2, rfl, hc1, hc2, hb2, hv2⟩
      have HB2 := Lib.hid (HB.out.trans (hb2.mono hwz))
      have HV2 := Lib.hid hv2
      clear hb2 HB HR hv2
      go_wp2_with fail
      go_ret2
      exact ⟨a2, c2, rfl, hc1, hc2, HB2.out, HV2.out⟩
end Go.Proofs.YtcjllhdbepchnaaGreatDoor

/-! A row of parts that a call makes, and the part that holds it. -/
namespace Go.Proofs.YtcjllhdbepchnaaGreatDoor
open Go.RowKit Go.WideShapes
set_option linter.unusedVariables false
theorem part_info : (Tryz.prog.info? 30).map (fun i => (i.zero, i.size, i.bytes)) = some (some (.agg #[.int .u8 0, .bool false, .bool false, .string ⟨#[]⟩, .string ⟨#[]⟩, .slice none 0 0]), 6, 72) := by kernel_rfl
/-- A part in the making: a tuple's, with its items' list. -/
def PBox (w : World) (T : Nat) (v : Value) : Prop := w.heap[T]? = some (.cells #[.int .u8 7, .bool false, .bool false, .string ⟨#[]⟩, .string ⟨#[]⟩, v] 30 (0, 0))
section
variable {w w' : World} {T : Nat} {v u : Value}
theorem PBox.cells (h : PBox w T v) : w.cell? ⟨T, 0, none⟩ = some (.int .u8 7) ∧ w.cell? ⟨T, 1, none⟩ = some (.bool false) ∧ w.cell? ⟨T, 2, none⟩ = some (.bool false) ∧ w.cell? ⟨T, 3, none⟩ = some (.string ⟨#[]⟩) ∧ w.cell? ⟨T, 4, none⟩ = some (.string ⟨#[]⟩) ∧ w.cell? ⟨T, 5, none⟩ = some v := by
  simp [World.cell?, show w.heap[T]? = _ from h]
theorem PBox.cell (h : PBox w T v) : w.cell? ⟨T, 5, none⟩ = some v := h.cells.2.2.2.2.2
theorem PBox.free (h : PBox w T v) : w.frozen? ⟨T, 5, none⟩ = false := by simp [World.frozen?, show w.heap[T]? = _ from h]
theorem PBox.lt (h : PBox w T v) : T < w.heap.size := (Array.getElem?_eq_some_iff.1 h).1
theorem PBox.set (h : PBox w T v) : PBox (w.setCell ⟨T, 5, none⟩ u) T u := by
  unfold PBox at *; simp [World.setCell, Array.getElem?_modify, h]
theorem PBox.of (h : PBox w T v) (hh : w'.heap[T]? = w.heap[T]?) : PBox w' T v := hh.trans h
theorem PBox.below {B : Nat} (h : PBox w T v) (hb : Below B w w') (hT : T < B) : PBox w' T v := h.of (hb.block T hT)
theorem PBox.new (w : World) (T : Nat) (v : Value) (hT : T = w.heap.size) : PBox (w.alloc (.cells #[.int .u8 7, .bool false, .bool false, .string ⟨#[]⟩, .string ⟨#[]⟩, v] 30)) T v := by subst hT; exact World.alloc_heap_new w _
theorem PBox.grown {vt : Value} {tmp : Obj} (h : PBox w T v) (hg : (w.alloc tmp).grownBy w' vt.ownBlock) (hne : vt.ownBlock ≠ some T) : PBox w' T v := by
  have hl := h.lt
  refine h.of ((hg.block T (by simp; omega) (fun e => hne e.symm)).trans ?_)
  rw [Below.heap_alloc w tmp T hl]
end
theorem flat_get : ∀ (css : List (List Value)), (∀ c ∈ css, c.length = 6) → ∀ (i : Nat) (hi : i < css.length) (j : Nat) u, (css[i])[j]? = some u → css.flatten[i * 6 + j]? = some u
  | [], _, i, hi, _, _, _ => absurd hi (Nat.not_lt_zero i)
  | c :: css, h, i, hi, j, u, hu => by
    have hc : c.length = 6 := h c (by simp)
    cases i with
    | zero =>
      have hj : j < c.length := (List.getElem?_eq_some_iff.1 hu).1
      rw [List.flatten_cons, show 0 * 6 + j = j by omega, List.getElem?_append_left hj]; exact hu
    | succ i =>
      rw [List.flatten_cons, List.getElem?_append_right (by omega), show (i + 1) * 6 + j - c.length = i * 6 + j by omega]
      exact flat_get css (fun c hc => h c (by simp [hc])) i (by simpa using hi) j u hu
theorem flat_len : ∀ (css : List (List Value)), (∀ c ∈ css, c.length = 6) → css.flatten.length = css.length * 6
  | [], _ => rfl
  | c :: css, h => by rw [List.flatten_cons, List.length_append, h c (by simp), flat_len css fun c hc => h c (by simp [hc])]; simp; omega
/-- So many parts stand in a row of one's own, each in blocks from n on. -/
structure PRow (w : World) (n base : Nat) (vt : Value) (k : Nat) (l : List PT) (css : List (List Value)) : Prop where
  len : css.length = k
  tl : l.length = k
  six : ∀ c ∈ css, c.length = 6
  own : w.ownsRow base 30 6 vt k css.flatten
  part : ∀ i (hi : i < l.length) (hv : i < css.length), PartAt w (fun b => n ≤ b ∧ b < w.heap.size ∧ vt.ownBlock ≠ some b) l[i] css[i]
theorem PRow.start (w : World) (n base : Nat) : PRow w n base (.slice none 0 0) 0 [] [] :=
  ⟨rfl, rfl, fun c hc => by simp at hc, World.ownsRow_nil _ _ _ _, fun i hi hv => absurd hv (Nat.not_lt_zero i)⟩
theorem PRow.below {w w' : World} {n base : Nat} {vt : Value} {k : Nat} {l : List PT} {css : List (List Value)} (h : PRow w n base vt k l css) (hb : Below w.heap.size w w') : PRow w' n base vt k l css :=
  ⟨h.len, h.tl, h.six, by
    rcases h.own.2 with ⟨e, h0⟩ | ⟨g, cap, cur, e, hb', hg, h1⟩
    · exact ⟨h.own.1, .inl ⟨e, h0⟩⟩
    · exact ⟨h.own.1, .inr ⟨g, cap, cur, e, hb', (hb.block g (Array.getElem?_eq_some_iff.1 hg).1).trans hg, h1⟩⟩,
   fun i hi hv => PartAt.more (fun b hb' => ⟨hb'.1, Nat.lt_of_lt_of_le hb'.2.1 hb.size, hb'.2.2⟩) _ _ (PartAt.keep (fun p hp => hb.cell hp.2.1) _ _ (h.part i hi hv))⟩
/-- One part more. -/
theorem PRow.step {w w2 w3 : World} {n base : Nat} {vt : Value} {k : Nat} {l : List PT} {css : List (List Value)} {t : PT} {cs : List Value} {tmp : Obj} {g cap : Nat} (h : PRow w n base vt k l css) (h6 : cs.length = 6)
    (hv : PartAt w2 (fun b => w.heap.size ≤ b ∧ b < w2.heap.size) t cs) (hb : Below w.heap.size w w2) (hn : n ≤ w.heap.size)
    (hown : w3.ownsRow base 30 6 (.slice (some ⟨g, 0, none⟩) (k + 1) cap) (k + 1) (css.flatten ++ cs)) (hgrow : (w2.alloc tmp).grownBy w3 vt.ownBlock) (hat : vt.ownBlock = some g ∨ g = (w2.alloc tmp).heap.size) :
    PRow w3 n base (.slice (some ⟨g, 0, none⟩) (k + 1) cap) (k + 1) (l ++ [t]) (css ++ [cs]) := by
  have h2 := h.below hb
  have hz : (w2.alloc tmp).heap.size = w2.heap.size + 1 := by simp
  have hz3 := hgrow.size
  have hcell : ∀ p : Addr, p.block < w2.heap.size → vt.ownBlock ≠ some p.block → w3.cell? p = w2.cell? p := fun p hp hne => by
    rw [hgrow.cell_far p (by omega) (fun e => hne e.symm), World.cell?_alloc_lt w2 tmp p hp]
  have hvt : ∀ b, w.heap.size ≤ b → vt.ownBlock ≠ some b := fun b hb e => by
    have := (h.own.lt b e).2; omega
  have hg : ∀ b, b < w2.heap.size → vt.ownBlock ≠ some b → (Value.slice (some ⟨g, 0, none⟩) (k + 1) cap).ownBlock ≠ some b := fun b hb hne e => by
    simp only [Value.ownBlock, Option.some.injEq] at e
    subst e
    rcases hat with hat | hat
    · exact hne hat
    · omega
  refine ⟨by simp [h.len], by simp [h.tl], fun c hc => ?_, by simpa using hown, fun i hi hv' => ?_⟩
  · rcases List.mem_append.1 hc with hc | hc
    · exact h.six c hc
    · simp at hc; subst hc; exact h6
  · rw [List.length_append, h.len, List.length_singleton] at hv'
    by_cases e : i = k
    · subst e
      have e1 : (css ++ [cs])[i]'(by rw [List.length_append, h.len, List.length_singleton]; omega) = cs := by
        rw [List.getElem_append_right (by rw [h.len]; omega)]; simp [h.len]
      have e2 : (l ++ [t])[i]'hi = t := by
        rw [List.getElem_append_right (by rw [h.tl]; omega)]; simp [h.tl]
      rw [e1, e2]
      refine PartAt.more (fun b hb' => ?_) _ _ (PartAt.keep (fun p hp => hcell p hp.2 (hvt _ hp.1)) _ _ hv)
      exact ⟨by omega, by omega, hg b hb'.2 (hvt b hb'.1)⟩
    · have hik : i < css.length := by rw [h.len]; omega
      have hil : i < l.length := by rw [h.tl]; omega
      have e1 : (css ++ [cs])[i]'(by rw [List.length_append, h.len, List.length_singleton]; omega) = css[i] := List.getElem_append_left hik
      have e2 : (l ++ [t])[i]'hi = l[i] := List.getElem_append_left hil
      rw [e1, e2]
      refine PartAt.more (fun b hb' => ?_) _ _ (PartAt.keep (fun p hp => hcell p hp.2.1 hp.2.2) _ _ (h2.part i hil hik))
      exact ⟨hb'.1, by omega, hg b hb'.2.1 hb'.2.2⟩
/-- The part is written. -/
theorem PRow.set {w : World} {n base T : Nat} {vt u : Value} {k : Nat} {l : List PT} {css : List (List Value)} (h : PRow w n base vt k l css) (hT : T < n) (hTb : T < base) : PRow (w.setCell ⟨T, 5, none⟩ u) n base vt k l css := by
  have hheap : ∀ b, b ≠ T → (w.setCell ⟨T, 5, none⟩ u).heap[b]? = w.heap[b]? := fun b hb => by simp [World.setCell, Array.getElem?_modify, Ne.symm hb]
  have hz : (w.setCell ⟨T, 5, none⟩ u).heap.size = w.heap.size := by simp
  refine ⟨h.len, h.tl, h.six, ?_, fun i hi hv => ?_⟩
  · rcases h.own.2 with ⟨e, h0⟩ | ⟨g, cap, cur, e, hb', hg, h1⟩
    · exact ⟨h.own.1, .inl ⟨e, h0⟩⟩
    · exact ⟨h.own.1, .inr ⟨g, cap, cur, e, hb', (hheap g (by omega)).trans hg, h1⟩⟩
  · refine PartAt.more (fun b hb' => ⟨hb'.1, by omega, hb'.2.2⟩) _ _ (PartAt.keep (fun p hp => ?_) _ _ (h.part i hi hv))
    exact World.cell?_setCell_other w _ p u (fun e => by have := hp.1; rw [← e] at this; simp at this; omega)
/-- The whole row, as a tuple's. -/
theorem PRow.parts {w : World} {n base : Nat} {vt : Value} {k : Nat} {l : List PT} {css : List (List Value)} (h : PRow w n base vt k l css) (hn : n ≤ base) :
    ∃ a c, vt = .slice a l.length c ∧ l.length ≤ c ∧ c ≤ maxLen ∧ PartsAt w (fun b => n ≤ b ∧ b < w.heap.size) l a := by
  rcases h.own.2 with ⟨e, h0⟩ | ⟨g, cap, cur, e, hb', hg, hnc, hcm, hcs, htake⟩
  · refine ⟨none, 0, by rw [e, h.tl, h0], by rw [h.tl, h0]; exact Nat.le_refl _, by omega, ?_⟩
    rw [List.length_eq_zero_iff.1 (h.tl.trans h0)]; trivial
  · refine ⟨some ⟨g, 0, none⟩, cap, by rw [h.tl]; exact e, by rw [h.tl]; exact hnc, hcm, PartsAt.of_get (.inr ⟨by omega, (Array.getElem?_eq_some_iff.1 hg).1⟩) fun i hi => ?_⟩
    have hv : i < css.length := by rw [h.len, ← h.tl]; exact hi
    refine ⟨css[i], fun j u hu => ?_, PartAt.more (fun b hb => ⟨hb.1, hb.2.1⟩) _ _ (h.part i hi hv)⟩
    have hj : j < 6 := by have := (List.getElem?_eq_some_iff.1 hu).1; rw [h.six _ (List.getElem_mem hv)] at this; exact this
    have hik : i < k := by rw [← h.len]; exact hv
    have ho := h.own
    rw [e] at ho
    rw [Nat.zero_add, ho.cellAt (i * 6 + j) (by omega)]
    exact flat_get css h.six i hv j u hu
end Go.Proofs.YtcjllhdbepchnaaGreatDoor

/-! value.Tell: a value as a part. -/
namespace Go.Proofs.YtcjllhdbepchnaaGreatDoor
open Go.RowKit Go.WideShapes
set_option linter.unusedVariables false
/-- A part comes back, in new blocks. -/
def TellPost (w : World) (e : Ending) (w' : World) : Prop := ∃ (t : PT) (a : Option Addr) (c : Nat), e = .returned (.agg #[.int .u8 t.kind, .bool t.yes, .bool t.bel, .string t.mag, .string t.raw, .slice a t.items.length c]) ∧ Below w.heap.size w w' ∧ PartAt w' (fun b => w.heap.size ≤ b ∧ b < w'.heap.size) t (partCells t a c)
/-- The block of a result that is not there yet. -/
def RBox (w : World) (T : Nat) : Prop := w.heap[T]? = some (.cells #[.int .u8 0, .bool false, .bool false, .string ⟨#[]⟩, .string ⟨#[]⟩, .slice none 0 0] 30 (0, 0))
theorem RBox.below {w w' : World} {B T : Nat} (h : RBox w T) (hb : Below B w w') (hT : T < B) : RBox w' T := (hb.block T hT).trans h
theorem RBox.new (w : World) (T : Nat) (hT : T = w.heap.size) : RBox (w.alloc (.cells #[.int .u8 0, .bool false, .bool false, .string ⟨#[]⟩, .string ⟨#[]⟩, .slice none 0 0] 30)) T := by subst hT; exact World.alloc_heap_new w _
theorem RBox.grown {w w' : World} {T : Nat} {vt : Value} {tmp : Obj} (h : RBox w T) (hg : (w.alloc tmp).grownBy w' vt.ownBlock) (hne : vt.ownBlock ≠ some T) : RBox w' T := by
  have hl : T < w.heap.size := (Array.getElem?_eq_some_iff.1 h).1
  refine ((hg.block T (by simp; omega) (fun e => hne e.symm)).trans ?_).trans h
  rw [Below.heap_alloc w tmp T hl]
theorem RBox.set {w : World} {T T' o : Nat} {u : Value} (h : RBox w T) (hne : T' ≠ T) : RBox (w.setCell ⟨T', o, none⟩ u) T := by
  unfold RBox at *; simp [World.setCell, Array.getElem?_modify, hne, h]
theorem RBox.cells {w : World} {T : Nat} (h : RBox w T) : w.cell? ⟨T, 0, none⟩ = some (.int .u8 0) ∧ w.cell? ⟨T, 1, none⟩ = some (.bool false) ∧ w.cell? ⟨T, 2, none⟩ = some (.bool false) ∧ w.cell? ⟨T, 3, none⟩ = some (.string ⟨#[]⟩) ∧ w.cell? ⟨T, 4, none⟩ = some (.string ⟨#[]⟩) ∧ w.cell? ⟨T, 5, none⟩ = some (.slice none 0 0) := by
  simp [World.cell?, show w.heap[T]? = _ from h]
theorem RBox.free {w : World} {T : Nat} (h : RBox w T) (i : Nat) : w.frozen? ⟨T, i, none⟩ = false := by simp [World.frozen?, show w.heap[T]? = _ from h]
/-- It is written. -/
theorem RBox.filled {w : World} {T : Nat} (h : RBox w T) (x0 x1 x2 x3 x4 x5 : Value) : (w.setCell ⟨T, 0, none⟩ x0).cell? ⟨T, 0, none⟩ = some x0 ∧ ((w.setCell ⟨T, 0, none⟩ x0).setCell ⟨T, 1, none⟩ x1).cell? ⟨T, 1, none⟩ = some x1 ∧ (((w.setCell ⟨T, 0, none⟩ x0).setCell ⟨T, 1, none⟩ x1).setCell ⟨T, 2, none⟩ x2).cell? ⟨T, 2, none⟩ = some x2 ∧ ((((w.setCell ⟨T, 0, none⟩ x0).setCell ⟨T, 1, none⟩ x1).setCell ⟨T, 2, none⟩ x2).setCell ⟨T, 3, none⟩ x3).cell? ⟨T, 3, none⟩ = some x3 ∧ (((((w.setCell ⟨T, 0, none⟩ x0).setCell ⟨T, 1, none⟩ x1).setCell ⟨T, 2, none⟩ x2).setCell ⟨T, 3, none⟩ x3).setCell ⟨T, 4, none⟩ x4).cell? ⟨T, 4, none⟩ = some x4 ∧ ((((((w.setCell ⟨T, 0, none⟩ x0).setCell ⟨T, 1, none⟩ x1).setCell ⟨T, 2, none⟩ x2).setCell ⟨T, 3, none⟩ x3).setCell ⟨T, 4, none⟩ x4).setCell ⟨T, 5, none⟩ x5).cell? ⟨T, 5, none⟩ = some x5 := by
  unfold RBox at h
  refine ⟨?_, ?_, ?_, ?_, ?_, ?_⟩ <;> simp only [World.cell?] <;> simp [World.setCell, Array.getElem?_modify, h]
set_option maxRecDepth 100000 in
set_option maxHeartbeats 2000000 in
theorem tuplePart_any (l : List PT) (a : Option Addr) (c : Nat) (w : World) (hlc : l.length ≤ 1024) (hl : ValuesAt w (· < w.heap.size) l a)
    (ih : ∀ x ∈ l, ∀ (v : Value) (w : World), ValueAt w (· < w.heap.size) x v → Calls Tryz.prog 21 #[v] w (TellPost w)) :
    Calls Tryz.prog 229 #[.agg #[.slice a l.length c]] w (TellPost w) := by
  obtain ⟨i0, hi, hz0, hz1, hz2⟩ := info_parts part_info
  have HI := Lib.hid hl
  have HIH := Lib.hid ih
  have HB0 := Lib.hid (fun o o2 o3 => (((Below.refl w.heap.size w).alloc (Nat.le_refl _) o).alloc (by simp : w.heap.size ≤ (w.alloc o).heap.size) o2).alloc (by simp; omega : w.heap.size ≤ ((w.alloc o).alloc o2).heap.size) o3)
  have HX0 := Lib.hid (fun o o2 => PBox.new ((w.alloc o).alloc o2) (w.heap.size + 1 + 1) (.slice none 0 0) (by simp))
  have HR0 := Lib.hid (fun o o3 => (RBox.new (w.alloc o) (w.heap.size + 1) (by simp)).below ((Below.refl _ _).alloc (Nat.le_refl _) o3) (by simp : w.heap.size + 1 < ((w.alloc o).alloc _).heap.size))
  have HV0 := Lib.hid (fun W => PRow.start W (w.heap.size + 3) (w.heap.size + 3))
  clear hl ih
  go_enter Tryz.func229, Tryz.ntmps229
  go_wp2_with fail
  go_loopw [10] (fun i wr => ∃ (k : Nat) (vt : Value) (pl : List PT) (css : List (List Value)), i = .int .i64 k ∧ k ≤ l.length ∧ Hid (Below w.heap.size w wr) ∧ Hid (RBox wr (w.heap.size + 1)) ∧ Hid (PBox wr (w.heap.size + 1 + 1) vt) ∧ Hid (PRow wr (w.heap.size + 3) (w.heap.size + 3) vt k pl css) ∧ w.heap.size + 3 ≤ wr.heap.size) (fun i _ => l.length - (intOf i).toNat)
  case atStart => exact ⟨0, _, [], [], rfl, by omega, Lib.hid (HB0.out _ _ _), Lib.hid (HR0.out _ _), Lib.hid (HX0.out _ _), Lib.hid (HV0.out _), by simp⟩
  case round =>
    clear HB0 HX0 HV0 HR0
    obtain ⟨k, vt, pl, css, rfl, hk, HB, HR, HX, HV, hwz⟩ := hrel
    have hTlt : w.heap.size + 1 + 1 < wr.heap.size := by omega
    have hbc := HX.out.cell
    have hbf := HX.out.free
    by_cases hlt : k < l.length
    · obtain ⟨b, o, u, ea, hb, hc, hu⟩ := (HI.out.below HB.out).get hlt
      subst ea
      have hB1 : Below wr.heap.size wr wr.drew := (Below.refl _ _).drew
      have HRc := Lib.hid (HIH.out l[k] (List.getElem_mem hlt) u wr.drew ((hu.wide (by omega : w.heap.size ≤ wr.heap.size)).below hB1))
      have HB1 := Lib.hid hB1
      clear hu hB1
      go_wp2_with fail
      have hne : vt.ownBlock ≠ some (w.heap.size + 1 + 1) := fun e => by have := row_ge HV.out.own e; omega
      go_region_law (first
        | (go_simp; go_at_call 21; refine HRc.out.mono ?_; rintro e w2 ⟨t2, a2, c2, rfl, hb2, hp2⟩; have HP2 := Lib.hid hp2; clear hp2; have hbr2 := HB1.out.trans (hb2.mono (by simp)); have hzz2 := hbr2.size; have hT2 : w.heap.size + 1 + 1 < w2.heap.size := (by omega); have HV2 := Lib.hid (HV.out.below hbr2); have HX2 := Lib.hid (HX.out.below hbr2 hTlt); have hbc2 := HX2.out.cell)
        | (refine step_append_lies _ (by rfl) _ _ _ (by rfl) (w.heap.size + 3) 30 i0 (.agg #[.int .u8 0, .bool false, .bool false, .string ⟨#[]⟩, .string ⟨#[]⟩, .slice none 0 0]) 6 72 Tryz.underlying28 hi hz0 hz1 hz2 rfl (by omega) vt k css.flatten (by rfl) (HV2.out.own.alloc _) ⟨w2.heap.size, 0, none⟩ 1 1 [.int .u8 t2.kind, .bool t2.yes, .bool t2.bel, .string t2.mag, .string t2.raw, .slice a2 t2.items.length c2] (by rfl) (by rfl) (World.news_of_block (cs := #[.int .u8 t2.kind, .bool t2.yes, .bool t2.bel, .string t2.mag, .string t2.raw, .slice a2 t2.items.length c2]) (t := 30) (fr := (0, 0)) (heap_alloc_new w2 _)) (by simp [Value.oneCell']) (by omega) (by unfold maxLen; omega) (by omega) (by simp; omega) (w2.heap.size + 1) (by simp) ?_; intro g4 cap4 w4 hown4 hgrow4 hat4 hgl4; have HX4 := Lib.hid (HX2.out.grown hgrow4 hne); have hbc4 := HX4.out.cell; have hbf4 := HX4.out.free))
      all_goals (
        have hp2' := PartAt.more (S' := fun b => wr.heap.size ≤ b ∧ b < w2.heap.size) (fun b hb => by have h1 := hb.1; simp at h1; exact ⟨by omega, hb.2⟩) _ _ HP2.out
        have HB' := Lib.hid (((((HB.out.trans (hbr2.mono (by omega))).alloc (by omega) _).grown hgrow4 (by simp; omega) (fun j ej => by have := row_ge HV2.out.own ej; omega)).setCell (p := ⟨w.heap.size + 1 + 1, 5, none⟩) (by simp only; omega) (.slice (some ⟨g4, 0, none⟩) (k + 1) cap4)))
        have HX' := Lib.hid (HX4.out.set (u := .slice (some ⟨g4, 0, none⟩) (k + 1) cap4))
        have HR' := Lib.hid (((HR.out.below hbr2 (by omega)).grown hgrow4 (fun e => by have := row_ge HV.out.own e; omega)).set (T' := w.heap.size + 1 + 1) (o := 5) (u := .slice (some ⟨g4, 0, none⟩) (k + 1) cap4) (by omega))
        have HV' := Lib.hid ((HV.out.step (by rfl) hp2' hbr2 (by omega) hown4 hgrow4 (hat4.imp id (fun h => h.trans (by simp)))).set (T := w.heap.size + 1 + 1) (u := .slice (some ⟨g4, 0, none⟩) (k + 1) cap4) (by omega) (by omega))
        have hz4 : w2.heap.size + 1 ≤ w4.heap.size := by have := hgrow4.size; simpa using this
        go_wp2_with fail
        go_roundw
        case rel => exact ⟨k + 1, _, _, _, by go_num, by omega, HB', HR', HX', HV', by simp; omega⟩
        case measure => simp [intOf]; omega)
    · obtain ⟨a2, c2, rfl, hc1, hc2, hps⟩ := HV.out.parts (by omega)
      have HPS := Lib.hid hps
      obtain ⟨p0, p1, p2, p3, p4, p5⟩ := HX.out.cells
      obtain ⟨r0, r1, r2, r3, r4, r5⟩ := HR.out.cells
      have f0 := HR.out.free 0
      have f1 := HR.out.free 1
      have f2 := HR.out.free 2
      have f3 := HR.out.free 3
      have f4 := HR.out.free 4
      have f5 := HR.out.free 5
      clear hbc hbf hps
      go_wp2_with fail
      obtain ⟨q0, q1, q2, q3, q4, q5⟩ := HR.out.filled (.int .u8 7) (.bool false) (.bool false) (.string ⟨#[]⟩) (.string ⟨#[]⟩) (.slice a2 pl.length c2)
      refine bodyPost_ret (by simp [results, Tryz.results229, go_sem, q0, q1, q2, q3, q4, q5]; try rfl) rfl ?_
      have hk : ∀ p : Addr, w.heap.size + 3 ≤ p.block → ∀ W (o : Nat) (u : Value), (World.setCell W ⟨w.heap.size + 1, o, none⟩ u).cell? p = W.cell? p := fun p hp W o u => World.cell?_setCell_other W _ p u (fun e => by have := congrArg Addr.block e; simp only at this; omega)
      refine ⟨.mk 7 false false ⟨#[]⟩ ⟨#[]⟩ pl, a2, c2, rfl, (((((HB.out.setCell (by simp only; omega) _).setCell (by simp only; omega) _).setCell (by simp only; omega) _).setCell (by simp only; omega) _).setCell (by simp only; omega) _).setCell (by simp only; omega) _, ?_⟩
      refine PartAt.shut (show 7 < 256 by decide) (Nat.zero_le _) (Nat.zero_le _) hc1 hc2 (PartsAt.more (S := fun b => w.heap.size + 3 ≤ b ∧ b < wr.heap.size) (fun b hb => ⟨by omega, by simp; exact hb.2⟩) _ _ (PartsAt.keep (fun p hp => ?_) _ _ HPS.out))
      rw [hk p hp.1, hk p hp.1, hk p hp.1, hk p hp.1, hk p hp.1, hk p hp.1]
/-- A value without items, as a part. -/
theorem flat_tell {k : Nat} {y b : Bool} {m r : ByteArray} {w w' : World} {e : Ending} (hk : k < 256) (hm : m.size ≤ maxLen) (hr : r.size ≤ maxLen) (h : FlatRet k y b m r w e w') : TellPost w e w' := by
  obtain ⟨rfl, hb⟩ := h
  exact ⟨.mk k y b m r [], none, 0, rfl, hb, PartAt.shut hk hm hr (Nat.le_refl _) (Nat.zero_le _) trivial⟩
set_option maxRecDepth 100000 in
set_option maxHeartbeats 2000000 in
theorem tell_any : ∀ (t : PT) (v : Value) (w : World), t.may = true → ValueAt w (· < w.heap.size) t v → Calls Tryz.prog 21 #[v] w (TellPost w) := by
  refine PT.all fun t ih => ?_
  intro v w hmay hv
  by_cases h7 : t.kind = 7
  · obtain ⟨a, c, rfl, hlc, hcm, hits⟩ := (ValueAt.tuple h7).1 hv
    obtain ⟨hl, hall⟩ := PT.may_items hmay h7
    have HP := Lib.hid (fun (w : World) (h : ValuesAt w (· < w.heap.size) t.items a) => tuplePart_any t.items a c w hl h (fun x hx v w hv => ih x hx v w (hall x hx) hv))
    have HI := Lib.hid hits
    have HB0 := Lib.hid (fun o => (Below.refl w.heap.size w).alloc (Nat.le_refl _) o)
    have HR0 := Lib.hid (RBox.new w w.heap.size rfl)
    clear hits hv h7 hl hall hmay ih hcm hlc
    go_enter Tryz.func21, Tryz.ntmps21
    go_wp2_with fail
    refine (HP.out _ ((HI.out.below (HB0.out _)).wide (by simp))).mono ?_
    rintro e w2 ⟨t2, a2, c2, rfl, hb2, hp2⟩
    have HB2 := Lib.hid ((HB0.out _).trans (hb2.mono (by simp)))
    have HR2 := Lib.hid (HR0.out.below hb2 (by simp))
    have HP2 := Lib.hid hp2
    have hz2 := hb2.size
    simp only [World.size_alloc] at hz2
    clear hb2 hp2 HB0 HR0 HP
    obtain ⟨r0, r1, r2, r3, r4, r5⟩ := HR2.out.cells
    have f0 := HR2.out.free 0
    have f1 := HR2.out.free 1
    have f2 := HR2.out.free 2
    have f3 := HR2.out.free 3
    have f4 := HR2.out.free 4
    have f5 := HR2.out.free 5
    go_wp2_with fail
    obtain ⟨q0, q1, q2, q3, q4, q5⟩ := HR2.out.filled (.int .u8 t2.kind) (.bool t2.yes) (.bool t2.bel) (.string t2.mag) (.string t2.raw) (.slice a2 t2.items.length c2)
    refine bodyPost_ret (by simp [results, Tryz.results21, go_sem, q0, q1, q2, q3, q4, q5]; try rfl) rfl ?_
    have hk : ∀ p : Addr, w.heap.size + 1 ≤ p.block → ∀ W (o : Nat) (u : Value), (World.setCell W ⟨w.heap.size, o, none⟩ u).cell? p = W.cell? p := fun p hp W o u => World.cell?_setCell_other W _ p u (fun e => by have := congrArg Addr.block e; simp only at this; omega)
    refine ⟨t2, a2, c2, rfl, (((((HB2.out.setCell (by simp only; omega) _).setCell (by simp only; omega) _).setCell (by simp only; omega) _).setCell (by simp only; omega) _).setCell (by simp only; omega) _).setCell (by simp only; omega) _, ?_⟩
    refine PartAt.more (S := fun b => w.heap.size + 1 ≤ b ∧ b < w2.heap.size) (fun b hb => ⟨by omega, by simp; exact hb.2⟩) _ _ (PartAt.keep (fun p hp => ?_) _ _ (PartAt.more (S' := fun b => w.heap.size + 1 ≤ b ∧ b < w2.heap.size) (fun b hb => by have h1 := hb.1; simp at h1; exact ⟨h1, hb.2⟩) _ _ HP2.out))
    rw [hk p hp.1, hk p hp.1, hk p hp.1, hk p hp.1, hk p hp.1, hk p hp.1]
  · clear ih
    have HB0 := Lib.hid (fun o => (Below.refl w.heap.size w).alloc (Nat.le_refl _) o)
    have HR0 := Lib.hid (RBox.new w w.heap.size rfl)
    obtain ⟨k, y, b, m, r, l⟩ := t
    simp only [PT.kind] at h7
    by_cases k0 : k = 0
    · obtain rfl := (ValueAt.null (t := .mk k y b m r l) k0).1 hv
      clear hv k0 h7 hmay
      go_enter Tryz.func21, Tryz.ntmps21
      go_wp2_with fail
      go_returns
      exact flat_tell (by decide) (Nat.zero_le _) (Nat.zero_le _) (⟨rfl, HB0.out _⟩ : FlatRet 0 false false ⟨#[]⟩ ⟨#[]⟩ w _ _)
    · by_cases k1 : k = 1
      · obtain rfl := (ValueAt.truth (t := .mk k y b m r l) k1).1 hv
        clear hv k0 k1 h7 hmay
        simp only [PT.yes]
        have HP := Lib.hid (fun w => truthPart_any y w)
        go_enter Tryz.func21, Tryz.ntmps21
        go_wp2_with fail
        refine (HP.out _).mono ?_
        rintro e w2 ⟨rfl, hb2⟩
        have HB2 := Lib.hid ((HB0.out _).trans (hb2.mono (by simp)))
        have HR2 := Lib.hid (HR0.out.below hb2 (by simp))
        clear hb2 HB0 HR0 HP
        obtain ⟨r0, r1, r2, r3, r4, r5⟩ := HR2.out.cells
        have f0 := HR2.out.free 0
        have f1 := HR2.out.free 1
        have f2 := HR2.out.free 2
        have f3 := HR2.out.free 3
        have f4 := HR2.out.free 4
        have f5 := HR2.out.free 5
        go_wp2_with fail
        obtain ⟨q0, q1, q2, q3, q4, q5⟩ := HR2.out.filled (.int .u8 1) (.bool y) (.bool false) (.string ⟨#[]⟩) (.string ⟨#[]⟩) (.slice none 0 0)
        refine bodyPost_ret (by simp [results, Tryz.results21, go_sem, q0, q1, q2, q3, q4, q5]; try rfl) rfl ?_
        refine flat_tell (k := 1) (y := y) (b := false) (m := ⟨#[]⟩) (r := ⟨#[]⟩) (by decide) (Nat.zero_le _) (Nat.zero_le _) ⟨rfl, ?_⟩
        exact (((((HB2.out.setCell (by simp only; omega) _).setCell (by simp only; omega) _).setCell (by simp only; omega) _).setCell (by simp only; omega) _).setCell (by simp only; omega) _).setCell (by simp only; omega) _
      · by_cases k2 : k = 2
        · obtain ⟨rfl, hm⟩ := (ValueAt.whole (t := .mk k y b m r l) k2).1 hv
          have HM := Lib.hid hm
          clear hv k0 k1 k2 h7 hmay hm
          simp only [PT.bel, PT.mag] at HM ⊢
          have HP := Lib.hid (fun w => wholePart_any b m w)
          go_enter Tryz.func21, Tryz.ntmps21
          go_wp2_with fail
          refine (HP.out _).mono ?_
          rintro e w2 ⟨rfl, hb2⟩
          have HB2 := Lib.hid ((HB0.out _).trans (hb2.mono (by simp)))
          have HR2 := Lib.hid (HR0.out.below hb2 (by simp))
          clear hb2 HB0 HR0 HP
          obtain ⟨r0, r1, r2, r3, r4, r5⟩ := HR2.out.cells
          have f0 := HR2.out.free 0
          have f1 := HR2.out.free 1
          have f2 := HR2.out.free 2
          have f3 := HR2.out.free 3
          have f4 := HR2.out.free 4
          have f5 := HR2.out.free 5
          go_wp2_with fail
          obtain ⟨q0, q1, q2, q3, q4, q5⟩ := HR2.out.filled (.int .u8 2) (.bool false) (.bool b) (.string m) (.string ⟨#[]⟩) (.slice none 0 0)
          refine bodyPost_ret (by simp [results, Tryz.results21, go_sem, q0, q1, q2, q3, q4, q5]; try rfl) rfl ?_
          refine flat_tell (k := 2) (y := false) (b := b) (m := m) (r := ⟨#[]⟩) (by decide) HM.out (Nat.zero_le _) ⟨rfl, ?_⟩
          exact (((((HB2.out.setCell (by simp only; omega) _).setCell (by simp only; omega) _).setCell (by simp only; omega) _).setCell (by simp only; omega) _).setCell (by simp only; omega) _).setCell (by simp only; omega) _
        · obtain ⟨rfl, hr, hk⟩ := (ValueAt.row (t := .mk k y b m r l) k0 k1 k2 h7).1 hv
          have HK := Lib.hid hk
          have HRw := Lib.hid hr
          clear hv k0 k1 k2 h7 hmay hr hk
          simp only [PT.kind, PT.raw] at HK HRw ⊢
          have HP := Lib.hid (fun w => rowPart_any k r w)
          go_enter Tryz.func21, Tryz.ntmps21
          go_wp2_with fail
          refine (HP.out _).mono ?_
          rintro e w2 ⟨rfl, hb2⟩
          have HB2 := Lib.hid ((HB0.out _).trans (hb2.mono (by simp)))
          have HR2 := Lib.hid (HR0.out.below hb2 (by simp))
          clear hb2 HB0 HR0 HP
          obtain ⟨r0, r1, r2, r3, r4, r5⟩ := HR2.out.cells
          have f0 := HR2.out.free 0
          have f1 := HR2.out.free 1
          have f2 := HR2.out.free 2
          have f3 := HR2.out.free 3
          have f4 := HR2.out.free 4
          have f5 := HR2.out.free 5
          go_wp2_with fail
          obtain ⟨q0, q1, q2, q3, q4, q5⟩ := HR2.out.filled (.int .u8 k) (.bool false) (.bool false) (.string ⟨#[]⟩) (.string r) (.slice none 0 0)
          refine bodyPost_ret (by simp [results, Tryz.results21, go_sem, q0, q1, q2, q3, q4, q5]; try rfl) rfl ?_
          refine flat_tell (k := k) (y := false) (b := false) (m := ⟨#[]⟩) (r := r) HK.out (Nat.zero_le _) HRw.out ⟨rfl, ?_⟩
          exact (((((HB2.out.setCell (by simp only; omega) _).setCell (by simp only; omega) _).setCell (by simp only; omega) _).setCell (by simp only; omega) _).setCell (by simp only; omega) _).setCell (by simp only; omega) _
end Go.Proofs.YtcjllhdbepchnaaGreatDoor

/-! value.Tell, exactly: the part that the value was made of. -/
namespace Go.Proofs.YtcjllhdbepchnaaGreatDoor
open Go.RowKit Go.WideShapes
set_option linter.unusedVariables false
/-- The part itself comes back, in new blocks. -/
def TellEx (t : PT) (w : World) (e : Ending) (w' : World) : Prop := ∃ (a : Option Addr) (c : Nat), e = .returned (.agg #[.int .u8 t.kind, .bool t.yes, .bool t.bel, .string t.mag, .string t.raw, .slice a t.items.length c]) ∧ Below w.heap.size w w' ∧ PartAt w' (fun b => w.heap.size ≤ b ∧ b < w'.heap.size) t (partCells t a c)
theorem may_7 {y b : Bool} {m r : ByteArray} {l : List PT} (h : (PT.mk 7 y b m r l).may = true) : y = false ∧ b = false ∧ m = ⟨#[]⟩ ∧ r = ⟨#[]⟩ := by
  simp only [PT.may] at h
  simp at h
  exact ⟨h.1.1, h.1.2.1, h.1.2.2, h.2.1.1⟩
theorem may_flat {k : Nat} {y b : Bool} {m r : ByteArray} {l : List PT} (h7 : k ≠ 7) (h : (PT.mk k y b m r l).may = true) : l = [] ∧ (k ≠ 1 → y = false) ∧ (k ≠ 2 → b = false ∧ m = ⟨#[]⟩) ∧ (k = 0 ∨ k = 1 ∨ k = 2 → r = ⟨#[]⟩) := by
  simp only [PT.may] at h
  simp only [Bool.and_eq_true, Bool.or_eq_true] at h
  obtain ⟨⟨⟨h1, h2⟩, h3⟩, h4⟩ := h
  refine ⟨?_, fun hk => ?_, fun hk => ?_, fun hk => ?_⟩
  · rcases h3 with h3 | h3
    · simp at h3; exact absurd h3 h7
    · simpa using h3
  · rcases h1 with h1 | h1
    · simp at h1; exact absurd h1 hk
    · simpa using h1
  · rcases h2 with h2 | h2
    · simp at h2; exact absurd h2 hk
    · simp at h2; exact ⟨h2.1, h2.2⟩
  · rcases hk with rfl | rfl | rfl
    · simp at h4; exact h4
    · simp at h4; exact h4
    · simp at h4; exact h4.1
set_option maxRecDepth 100000 in
set_option maxHeartbeats 2000000 in
theorem tuplePart_ex (l : List PT) (a : Option Addr) (c : Nat) (w : World) (hlc : l.length ≤ 1024) (hl : ValuesAt w (· < w.heap.size) l a)
    (ih : ∀ x ∈ l, ∀ (v : Value) (w : World), ValueAt w (· < w.heap.size) x v → Calls Tryz.prog 21 #[v] w (TellEx x w)) :
    Calls Tryz.prog 229 #[.agg #[.slice a l.length c]] w (TellEx (.mk 7 false false ⟨#[]⟩ ⟨#[]⟩ l) w) := by
  obtain ⟨i0, hi, hz0, hz1, hz2⟩ := info_parts part_info
  have HI := Lib.hid hl
  have HIH := Lib.hid ih
  have HB0 := Lib.hid (fun o o2 o3 => (((Below.refl w.heap.size w).alloc (Nat.le_refl _) o).alloc (by simp : w.heap.size ≤ (w.alloc o).heap.size) o2).alloc (by simp; omega : w.heap.size ≤ ((w.alloc o).alloc o2).heap.size) o3)
  have HX0 := Lib.hid (fun o o2 => PBox.new ((w.alloc o).alloc o2) (w.heap.size + 1 + 1) (.slice none 0 0) (by simp))
  have HR0 := Lib.hid (fun o o3 => (RBox.new (w.alloc o) (w.heap.size + 1) (by simp)).below ((Below.refl _ _).alloc (Nat.le_refl _) o3) (by simp : w.heap.size + 1 < ((w.alloc o).alloc _).heap.size))
  have HV0 := Lib.hid (fun W => PRow.start W (w.heap.size + 3) (w.heap.size + 3))
  clear hl ih
  go_enter Tryz.func229, Tryz.ntmps229
  go_wp2_with fail
  go_loopw [10] (fun i wr => ∃ (k : Nat) (vt : Value) (css : List (List Value)), i = .int .i64 k ∧ k ≤ l.length ∧ Hid (Below w.heap.size w wr) ∧ Hid (RBox wr (w.heap.size + 1)) ∧ Hid (PBox wr (w.heap.size + 1 + 1) vt) ∧ Hid (PRow wr (w.heap.size + 3) (w.heap.size + 3) vt k (l.take k) css) ∧ w.heap.size + 3 ≤ wr.heap.size) (fun i _ => l.length - (intOf i).toNat)
  case atStart => exact ⟨0, _, [], rfl, by omega, Lib.hid (HB0.out _ _ _), Lib.hid (HR0.out _ _), Lib.hid (HX0.out _ _), Lib.hid (HV0.out _), by simp⟩
  case round =>
    clear HB0 HX0 HV0 HR0
    obtain ⟨k, vt, css, rfl, hk, HB, HR, HX, HV, hwz⟩ := hrel
    have hTlt : w.heap.size + 1 + 1 < wr.heap.size := by omega
    have hbc := HX.out.cell
    have hbf := HX.out.free
    by_cases hlt : k < l.length
    · obtain ⟨b, o, u, ea, hb, hc, hu⟩ := (HI.out.below HB.out).get hlt
      subst ea
      have hB1 : Below wr.heap.size wr wr.drew := (Below.refl _ _).drew
      have HRc := Lib.hid (HIH.out l[k] (List.getElem_mem hlt) u wr.drew ((hu.wide (by omega : w.heap.size ≤ wr.heap.size)).below hB1))
      have HB1 := Lib.hid hB1
      clear hu hB1
      go_wp2_with fail
      have hne : vt.ownBlock ≠ some (w.heap.size + 1 + 1) := fun e => by have := row_ge HV.out.own e; omega
      go_region_law (first
        | (go_simp; go_at_call 21; refine HRc.out.mono ?_; rintro e w2 ⟨a2, c2, rfl, hb2, hp2⟩; have HP2 := Lib.hid hp2; clear hp2; have hbr2 := HB1.out.trans (hb2.mono (by simp)); have hzz2 := hbr2.size; have hT2 : w.heap.size + 1 + 1 < w2.heap.size := (by omega); have HV2 := Lib.hid (HV.out.below hbr2); have HX2 := Lib.hid (HX.out.below hbr2 hTlt); have hbc2 := HX2.out.cell)
        | (refine step_append_lies _ (by rfl) _ _ _ (by rfl) (w.heap.size + 3) 30 i0 (.agg #[.int .u8 0, .bool false, .bool false, .string ⟨#[]⟩, .string ⟨#[]⟩, .slice none 0 0]) 6 72 Tryz.underlying28 hi hz0 hz1 hz2 rfl (by omega) vt k css.flatten (by rfl) (HV2.out.own.alloc _) ⟨w2.heap.size, 0, none⟩ 1 1 [.int .u8 l[k].kind, .bool l[k].yes, .bool l[k].bel, .string l[k].mag, .string l[k].raw, .slice a2 l[k].items.length c2] (by rfl) (by rfl) (World.news_of_block (cs := #[.int .u8 l[k].kind, .bool l[k].yes, .bool l[k].bel, .string l[k].mag, .string l[k].raw, .slice a2 l[k].items.length c2]) (t := 30) (fr := (0, 0)) (heap_alloc_new w2 _)) (by simp [Value.oneCell']) (by omega) (by unfold maxLen; omega) (by omega) (by simp; omega) (w2.heap.size + 1) (by simp) ?_; intro g4 cap4 w4 hown4 hgrow4 hat4 hgl4; have HX4 := Lib.hid (HX2.out.grown hgrow4 hne); have hbc4 := HX4.out.cell; have hbf4 := HX4.out.free))
      all_goals (
        have hp2' := PartAt.more (S' := fun b => wr.heap.size ≤ b ∧ b < w2.heap.size) (fun b hb => by have h1 := hb.1; simp at h1; exact ⟨by omega, hb.2⟩) _ _ HP2.out
        have HB' := Lib.hid (((((HB.out.trans (hbr2.mono (by omega))).alloc (by omega) _).grown hgrow4 (by simp; omega) (fun j ej => by have := row_ge HV2.out.own ej; omega)).setCell (p := ⟨w.heap.size + 1 + 1, 5, none⟩) (by simp only; omega) (.slice (some ⟨g4, 0, none⟩) (k + 1) cap4)))
        have HX' := Lib.hid (HX4.out.set (u := .slice (some ⟨g4, 0, none⟩) (k + 1) cap4))
        have HR' := Lib.hid (((HR.out.below hbr2 (by omega)).grown hgrow4 (fun e => by have := row_ge HV.out.own e; omega)).set (T' := w.heap.size + 1 + 1) (o := 5) (u := .slice (some ⟨g4, 0, none⟩) (k + 1) cap4) (by omega))
        have HV' := Lib.hid ((HV.out.step (by rfl) hp2' hbr2 (by omega) hown4 hgrow4 (hat4.imp id (fun h => h.trans (by simp)))).set (T := w.heap.size + 1 + 1) (u := .slice (some ⟨g4, 0, none⟩) (k + 1) cap4) (by omega) (by omega))
        rw [← List.take_succ_eq_append_getElem hlt] at HV'
        have hz4 : w2.heap.size + 1 ≤ w4.heap.size := by have := hgrow4.size; simpa using this
        go_wp2_with fail
        go_roundw
        case rel => exact ⟨k + 1, _, _, by go_num, by omega, HB', HR', HX', HV', by simp; omega⟩
        case measure => simp [intOf]; omega)
    · obtain rfl : k = l.length := by omega
      have hv9 := HV.out
      rw [List.take_length] at hv9
      obtain ⟨a2, c2, rfl, hc1, hc2, hps⟩ := hv9.parts (by omega)
      clear hv9
      have HPS := Lib.hid hps
      obtain ⟨p0, p1, p2, p3, p4, p5⟩ := HX.out.cells
      obtain ⟨r0, r1, r2, r3, r4, r5⟩ := HR.out.cells
      have f0 := HR.out.free 0
      have f1 := HR.out.free 1
      have f2 := HR.out.free 2
      have f3 := HR.out.free 3
      have f4 := HR.out.free 4
      have f5 := HR.out.free 5
      clear hbc hbf hps
      go_wp2_with fail
      obtain ⟨q0, q1, q2, q3, q4, q5⟩ := HR.out.filled (.int .u8 7) (.bool false) (.bool false) (.string ⟨#[]⟩) (.string ⟨#[]⟩) (.slice a2 l.length c2)
      refine bodyPost_ret (by simp [results, Tryz.results229, go_sem, q0, q1, q2, q3, q4, q5]; try rfl) rfl ?_
      have hk : ∀ p : Addr, w.heap.size + 3 ≤ p.block → ∀ W (o : Nat) (u : Value), (World.setCell W ⟨w.heap.size + 1, o, none⟩ u).cell? p = W.cell? p := fun p hp W o u => World.cell?_setCell_other W _ p u (fun e => by have := congrArg Addr.block e; simp only at this; omega)
      refine ⟨a2, c2, rfl, (((((HB.out.setCell (by simp only; omega) _).setCell (by simp only; omega) _).setCell (by simp only; omega) _).setCell (by simp only; omega) _).setCell (by simp only; omega) _).setCell (by simp only; omega) _, ?_⟩
      refine PartAt.shut (show 7 < 256 by decide) (Nat.zero_le _) (Nat.zero_le _) hc1 hc2 (PartsAt.more (S := fun b => w.heap.size + 3 ≤ b ∧ b < wr.heap.size) (fun b hb => ⟨by omega, by simp; exact hb.2⟩) _ _ (PartsAt.keep (fun p hp => ?_) _ _ HPS.out))
      rw [hk p hp.1, hk p hp.1, hk p hp.1, hk p hp.1, hk p hp.1, hk p hp.1]
/-- A value without items, as a part. -/
theorem flat_ex {k : Nat} {y b : Bool} {m r : ByteArray} {w w' : World} {e : Ending} (hk : k < 256) (hm : m.size ≤ maxLen) (hr : r.size ≤ maxLen) (h : FlatRet k y b m r w e w') : TellEx (.mk k y b m r []) w e w' := by
  obtain ⟨rfl, hb⟩ := h
  exact ⟨none, 0, rfl, hb, PartAt.shut hk hm hr (Nat.le_refl _) (Nat.zero_le _) trivial⟩
set_option maxRecDepth 100000 in
set_option maxHeartbeats 2000000 in
theorem tell_ex : ∀ (t : PT) (v : Value) (w : World), t.may = true → ValueAt w (· < w.heap.size) t v → Calls Tryz.prog 21 #[v] w (TellEx t w) := by
  refine PT.all fun t ih => ?_
  intro v w hmay hv
  by_cases h7 : t.kind = 7
  · obtain ⟨a, c, rfl, hlc, hcm, hits⟩ := (ValueAt.tuple h7).1 hv
    obtain ⟨hl, hall⟩ := PT.may_items hmay h7
    have ht7 : t = .mk 7 false false ⟨#[]⟩ ⟨#[]⟩ t.items := by
      obtain ⟨k, y, b, m, r, l⟩ := t
      simp only [PT.kind] at h7; subst h7
      obtain ⟨rfl, rfl, rfl, rfl⟩ := may_7 hmay
      rfl
    obtain ⟨l, hl9⟩ : ∃ l, l = t.items := ⟨_, rfl⟩
    rw [← hl9] at ht7 hl hall hits hlc ih ⊢
    subst ht7
    clear hl9
    have HP := Lib.hid (fun (w : World) (h : ValuesAt w (· < w.heap.size) l a) => tuplePart_ex l a c w hl h (fun x hx v w hv => ih x hx v w (hall x hx) hv))
    have HI := Lib.hid hits
    have HB0 := Lib.hid (fun o => (Below.refl w.heap.size w).alloc (Nat.le_refl _) o)
    have HR0 := Lib.hid (RBox.new w w.heap.size rfl)
    clear hits hv h7 hl hall hmay ih hcm hlc
    go_enter Tryz.func21, Tryz.ntmps21
    go_wp2_with fail
    refine (HP.out _ ((HI.out.below (HB0.out _)).wide (by simp))).mono ?_
    rintro e w2 ⟨a2, c2, rfl, hb2, hp2⟩
    have HB2 := Lib.hid ((HB0.out _).trans (hb2.mono (by simp)))
    have HR2 := Lib.hid (HR0.out.below hb2 (by simp))
    have HP2 := Lib.hid hp2
    have hz2 := hb2.size
    simp only [World.size_alloc] at hz2
    clear hb2 hp2 HB0 HR0 HP
    obtain ⟨r0, r1, r2, r3, r4, r5⟩ := HR2.out.cells
    have f0 := HR2.out.free 0
    have f1 := HR2.out.free 1
    have f2 := HR2.out.free 2
    have f3 := HR2.out.free 3
    have f4 := HR2.out.free 4
    have f5 := HR2.out.free 5
    simp only [PT.kind, PT.yes, PT.bel, PT.mag, PT.raw, PT.items]
    go_wp2_with fail
    obtain ⟨q0, q1, q2, q3, q4, q5⟩ := HR2.out.filled (.int .u8 7) (.bool false) (.bool false) (.string ⟨#[]⟩) (.string ⟨#[]⟩) (.slice a2 l.length c2)
    refine bodyPost_ret (by simp [results, Tryz.results21, go_sem, q0, q1, q2, q3, q4, q5]; try rfl) rfl ?_
    have hk : ∀ p : Addr, w.heap.size + 1 ≤ p.block → ∀ W (o : Nat) (u : Value), (World.setCell W ⟨w.heap.size, o, none⟩ u).cell? p = W.cell? p := fun p hp W o u => World.cell?_setCell_other W _ p u (fun e => by have := congrArg Addr.block e; simp only at this; omega)
    refine ⟨a2, c2, rfl, (((((HB2.out.setCell (by simp only; omega) _).setCell (by simp only; omega) _).setCell (by simp only; omega) _).setCell (by simp only; omega) _).setCell (by simp only; omega) _).setCell (by simp only; omega) _, ?_⟩
    refine PartAt.more (S := fun b => w.heap.size + 1 ≤ b ∧ b < w2.heap.size) (fun b hb => ⟨by omega, by simp; exact hb.2⟩) _ _ (PartAt.keep (fun p hp => ?_) _ _ (PartAt.more (S' := fun b => w.heap.size + 1 ≤ b ∧ b < w2.heap.size) (fun b hb => by have h1 := hb.1; simp at h1; exact ⟨h1, hb.2⟩) _ _ HP2.out))
    rw [hk p hp.1, hk p hp.1, hk p hp.1, hk p hp.1, hk p hp.1, hk p hp.1]
  · clear ih
    have HB0 := Lib.hid (fun o => (Below.refl w.heap.size w).alloc (Nat.le_refl _) o)
    have HR0 := Lib.hid (RBox.new w w.heap.size rfl)
    obtain ⟨k, y, b, m, r, l⟩ := t
    simp only [PT.kind] at h7
    obtain ⟨rfl, f1, f2, f3⟩ := may_flat h7 hmay
    by_cases k0 : k = 0
    · obtain rfl := (ValueAt.null (t := .mk k y b m r []) k0).1 hv
      obtain rfl := f1 (by omega)
      obtain ⟨rfl, rfl⟩ := f2 (by omega)
      obtain rfl := f3 (.inl k0)
      subst k0
      clear hv h7 hmay f1 f2 f3
      go_enter Tryz.func21, Tryz.ntmps21
      go_wp2_with fail
      go_returns
      exact flat_ex (by decide) (Nat.zero_le _) (Nat.zero_le _) (⟨rfl, HB0.out _⟩ : FlatRet 0 false false ⟨#[]⟩ ⟨#[]⟩ w _ _)
    · by_cases k1 : k = 1
      · obtain rfl := (ValueAt.truth (t := .mk k y b m r []) k1).1 hv
        obtain ⟨rfl, rfl⟩ := f2 (by omega)
        obtain rfl := f3 (.inr (.inl k1))
        subst k1
        clear hv k0 h7 hmay f1 f2 f3
        simp only [PT.yes]
        have HP := Lib.hid (fun w => truthPart_any y w)
        go_enter Tryz.func21, Tryz.ntmps21
        go_wp2_with fail
        refine (HP.out _).mono ?_
        rintro e w2 ⟨rfl, hb2⟩
        have HB2 := Lib.hid ((HB0.out _).trans (hb2.mono (by simp)))
        have HR2 := Lib.hid (HR0.out.below hb2 (by simp))
        clear hb2 HB0 HR0 HP
        obtain ⟨r0, r1, r2, r3, r4, r5⟩ := HR2.out.cells
        have f0 := HR2.out.free 0
        have f1 := HR2.out.free 1
        have f2 := HR2.out.free 2
        have f3 := HR2.out.free 3
        have f4 := HR2.out.free 4
        have f5 := HR2.out.free 5
        go_wp2_with fail
        obtain ⟨q0, q1, q2, q3, q4, q5⟩ := HR2.out.filled (.int .u8 1) (.bool y) (.bool false) (.string ⟨#[]⟩) (.string ⟨#[]⟩) (.slice none 0 0)
        refine bodyPost_ret (by simp [results, Tryz.results21, go_sem, q0, q1, q2, q3, q4, q5]; try rfl) rfl ?_
        refine flat_ex (k := 1) (y := y) (b := false) (m := ⟨#[]⟩) (r := ⟨#[]⟩) (by decide) (Nat.zero_le _) (Nat.zero_le _) ⟨rfl, ?_⟩
        exact (((((HB2.out.setCell (by simp only; omega) _).setCell (by simp only; omega) _).setCell (by simp only; omega) _).setCell (by simp only; omega) _).setCell (by simp only; omega) _).setCell (by simp only; omega) _
      · by_cases k2 : k = 2
        · obtain ⟨rfl, hm⟩ := (ValueAt.whole (t := .mk k y b m r []) k2).1 hv
          have HM := Lib.hid hm
          obtain rfl := f1 (by omega)
          obtain rfl := f3 (.inr (.inr k2))
          subst k2
          clear hv k0 k1 h7 hmay hm f1 f2 f3
          simp only [PT.bel, PT.mag] at HM ⊢
          have HP := Lib.hid (fun w => wholePart_any b m w)
          go_enter Tryz.func21, Tryz.ntmps21
          go_wp2_with fail
          refine (HP.out _).mono ?_
          rintro e w2 ⟨rfl, hb2⟩
          have HB2 := Lib.hid ((HB0.out _).trans (hb2.mono (by simp)))
          have HR2 := Lib.hid (HR0.out.below hb2 (by simp))
          clear hb2 HB0 HR0 HP
          obtain ⟨r0, r1, r2, r3, r4, r5⟩ := HR2.out.cells
          have f0 := HR2.out.free 0
          have f1 := HR2.out.free 1
          have f2 := HR2.out.free 2
          have f3 := HR2.out.free 3
          have f4 := HR2.out.free 4
          have f5 := HR2.out.free 5
          go_wp2_with fail
          obtain ⟨q0, q1, q2, q3, q4, q5⟩ := HR2.out.filled (.int .u8 2) (.bool false) (.bool b) (.string m) (.string ⟨#[]⟩) (.slice none 0 0)
          refine bodyPost_ret (by simp [results, Tryz.results21, go_sem, q0, q1, q2, q3, q4, q5]; try rfl) rfl ?_
          refine flat_ex (k := 2) (y := false) (b := b) (m := m) (r := ⟨#[]⟩) (by decide) HM.out (Nat.zero_le _) ⟨rfl, ?_⟩
          exact (((((HB2.out.setCell (by simp only; omega) _).setCell (by simp only; omega) _).setCell (by simp only; omega) _).setCell (by simp only; omega) _).setCell (by simp only; omega) _).setCell (by simp only; omega) _
        · obtain ⟨rfl, hr, hk⟩ := (ValueAt.row (t := .mk k y b m r []) k0 k1 k2 h7).1 hv
          have HK := Lib.hid hk
          have HRw := Lib.hid hr
          obtain rfl := f1 (by omega)
          obtain ⟨rfl, rfl⟩ := f2 (by omega)
          clear hv k0 k1 k2 h7 hmay hr hk f1 f2 f3
          simp only [PT.kind, PT.raw] at HK HRw ⊢
          have HP := Lib.hid (fun w => rowPart_any k r w)
          go_enter Tryz.func21, Tryz.ntmps21
          go_wp2_with fail
          refine (HP.out _).mono ?_
          rintro e w2 ⟨rfl, hb2⟩
          have HB2 := Lib.hid ((HB0.out _).trans (hb2.mono (by simp)))
          have HR2 := Lib.hid (HR0.out.below hb2 (by simp))
          clear hb2 HB0 HR0 HP
          obtain ⟨r0, r1, r2, r3, r4, r5⟩ := HR2.out.cells
          have f0 := HR2.out.free 0
          have f1 := HR2.out.free 1
          have f2 := HR2.out.free 2
          have f3 := HR2.out.free 3
          have f4 := HR2.out.free 4
          have f5 := HR2.out.free 5
          go_wp2_with fail
          obtain ⟨q0, q1, q2, q3, q4, q5⟩ := HR2.out.filled (.int .u8 k) (.bool false) (.bool false) (.string ⟨#[]⟩) (.string r) (.slice none 0 0)
          refine bodyPost_ret (by simp [results, Tryz.results21, go_sem, q0, q1, q2, q3, q4, q5]; try rfl) rfl ?_
          refine flat_ex (k := k) (y := false) (b := false) (m := ⟨#[]⟩) (r := r) HK.out (Nat.zero_le _) HRw.out ⟨rfl, ?_⟩
          exact (((((HB2.out.setCell (by simp only; omega) _).setCell (by simp only; omega) _).setCell (by simp only; omega) _).setCell (by simp only; omega) _).setCell (by simp only; omega) _).setCell (by simp only; omega) _
end Go.Proofs.YtcjllhdbepchnaaGreatDoor
