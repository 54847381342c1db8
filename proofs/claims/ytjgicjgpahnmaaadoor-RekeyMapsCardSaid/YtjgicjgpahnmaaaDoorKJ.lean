/-
  value.same: a value is the same as itself, wherever it lies.
-/
import Derived.Test.YtjgicjgpahnmaaaDoorKI
import Derived.Deep.AppendLies
/-! value.same: a value is the same as itself, wherever it lies. -/
namespace Go.Proofs.YtjgicjgpahnmaaaDoor
open Go.RowKit Go.WideShapes
set_option linter.unusedVariables false
set_option maxRecDepth 100000 in
set_option maxHeartbeats 2000000 in
theorem same_any : ∀ (t : PT) (v u : Value) (w : World), ValueAt w (· < w.heap.size) t v → ValueAt w (· < w.heap.size) t u →
    Calls Tryd.prog 31 #[v, u] w (Ret (.bool true) w) := by
  refine PT.all fun t ih => ?_
  intro v u w hv hu
  have HB0 := Lib.hid (Below.refl w.heap.size w)
  by_cases h7 : t.kind = 7
  · obtain ⟨a, c, rfl, hlc, hcm, hits⟩ := (ValueAt.tuple h7).1 hv
    obtain ⟨a', c', rfl, hlc', hcm', hits'⟩ := (ValueAt.tuple h7).1 hu
    have HI := Lib.hid hits
    have HI' := Lib.hid hits'
    have HIH := Lib.hid ih
    have hlen : t.items.length ≤ maxLen := by omega
    have HLen := Lib.hid (fun a c w => tupLen_any a t.items.length c w hlen)
    have HK := Lib.hid (fun a c w => tupKind_any a t.items.length c w)
    have hta := tupleIsList
    have htb := tupleNoNumber
    have htc := tupleNoRaw
    have htd := tupleNoTruth
    have HL := Lib.hid hlen
    unfold maxLen at hlen
    clear hv hu h7 hits hits' ih hcm hcm'
    go_enter Tryd.func31, Tryd.ntmps31
    go_wp2_with fail
    refine (HK.out _ _ _).mono ?_
    rintro e w1 ⟨rfl, hb1⟩
    have HB1 := Lib.hid (HB0.out.trans hb1)
    have hz1 := hb1.size
    clear hb1 HB0
    go_wp2_with fail
    refine (HK.out _ _ _).mono ?_
    rintro e w2 ⟨rfl, hb2⟩
    have HB2 := Lib.hid (HB1.out.trans (hb2.mono hz1))
    have hz2 := hb2.size
    clear hb2 HB1
    go_wp2_with fail
    refine (HLen.out _ _ _).mono ?_
    rintro e w3 ⟨rfl, hb3⟩
    have HB3 := Lib.hid (HB2.out.trans (hb3.mono (by omega)))
    have hz3 := hb3.size
    clear hb3 HB2
    go_wp2_with fail
    refine (HLen.out _ _ _).mono ?_
    rintro e w4 ⟨rfl, hb4⟩
    have HB4 := Lib.hid (HB3.out.trans (hb4.mono (by omega)))
    have hz4 := hb4.size
    clear hb4 HB3
    go_wp2_with fail
    refine (HLen.out _ _ _).mono ?_
    rintro e w5 ⟨rfl, hb5⟩
    have HB5 := Lib.hid (HB4.out.trans (hb5.mono (by omega)))
    have hz5 := hb5.size
    clear hb5 HB4
    go_wp2_with fail
    go_loopw [94] (fun i wr => ∃ (k : Nat), i = .int .i64 k ∧ k ≤ t.items.length ∧ Hid (Below w.heap.size w wr) ∧ w.heap.size ≤ wr.heap.size) (fun i _ => t.items.length - (intOf i).toNat)
    case atStart => exact ⟨0, rfl, by omega, HB5, by omega⟩
    case round =>
      clear HB5 hz1 hz2 hz3 hz4 hz5
      obtain ⟨k, rfl, hk, HB, hwz⟩ := hrel
      by_cases hlt : k < t.items.length
      · obtain ⟨b, o, u, ea, hb, hc, hu⟩ := (HI.out.below HB.out).get hlt
        obtain ⟨b', o', u', ea', hb', hc', hu'⟩ := (HI'.out.below HB.out).get hlt
        subst ea
        subst ea'
        have HAt := Lib.hid (tupAt_any b o t.items.length c k k u wr HL.out (by omega) rfl hlt hc)
        have HAt' := Lib.hid (fun (W : World) (hB : Below wr.heap.size wr W) => tupAt_any b' o' t.items.length c' k k u' W HL.out (by have := hB.size; omega) rfl hlt ((hB.cell (by simp only; omega)).trans hc'))
        have HU := Lib.hid (hu.wide hwz)
        have HU' := Lib.hid (hu'.wide hwz)
        have HIHk := Lib.hid (fun (W : World) (h : ValueAt W (· < W.heap.size) (t.items[k]'hlt) u) (h' : ValueAt W (· < W.heap.size) (t.items[k]'hlt) u') => HIH.out (t.items[k]'hlt) (List.getElem_mem _) u u' W h h')
        clear hc hu hb hc' hu' hb'
        go_wp2_with fail
        refine HAt.out.mono ?_
        rintro e w2 ⟨rfl, hb2⟩
        have hz2 := hb2.size
        have HAt2 := Lib.hid (HAt'.out _ hb2)
        have HB2 := Lib.hid (HB.out.trans (hb2.mono hwz))
        have HU2 := Lib.hid ((HU.out.below hb2).wide hz2)
        have HU2' := Lib.hid ((HU'.out.below hb2).wide hz2)
        clear hb2 HB HU HAt HU' HAt'
        go_wp2_with fail
        refine HAt2.out.mono ?_
        rintro e w3 ⟨rfl, hb3⟩
        have hz3 := hb3.size
        have HB3 := Lib.hid (HB2.out.trans (hb3.mono (by omega)))
        have HU3 := Lib.hid ((HU2.out.below hb3).wide hz3)
        have HU3' := Lib.hid ((HU2'.out.below hb3).wide hz3)
        clear hb3 HB2 HU2 HAt2 HU2'
        go_wp2_with fail
        refine (HIHk.out _ HU3.out HU3'.out).mono ?_
        rintro e w4 ⟨rfl, hb4⟩
        have hz4 := hb4.size
        have HB4 := Lib.hid (HB3.out.trans (hb4.mono (by omega)))
        clear hb4 HB3 HU3 HU3' HIHk
        go_wp2_with fail
        go_roundw
        case rel => exact ⟨k + 1, by go_num, by omega, HB4, by omega⟩
        case measure => simp [intOf]; omega
      · obtain rfl : k = t.items.length := by omega
        go_wp2_with fail
        go_ret
        exact ⟨rfl, HB.out⟩
  · clear ih
    obtain ⟨k, y, b, m, r, l⟩ := t
    simp only [PT.kind] at h7
    by_cases k0 : k = 0
    · obtain rfl := (ValueAt.null (t := .mk k y b m r l) k0).1 hv
      obtain rfl := (ValueAt.null (t := .mk k y b m r l) k0).1 hu
      clear hv hu k0 h7
      go_enter Tryd.func31, Tryd.ntmps31
      go_wp2_with fail
      go_ret
      exact ⟨rfl, HB0.out⟩
    · by_cases k1 : k = 1
      · obtain rfl := (ValueAt.truth (t := .mk k y b m r l) k1).1 hv
        obtain rfl := (ValueAt.truth (t := .mk k y b m r l) k1).1 hu
        exact same_truth y w
      · by_cases k2 : k = 2
        · obtain ⟨rfl, -⟩ := (ValueAt.whole (t := .mk k y b m r l) k2).1 hv
          obtain ⟨rfl, -⟩ := (ValueAt.whole (t := .mk k y b m r l) k2).1 hu
          clear hv hu k0 k1 k2 h7
          have h1 := wholeNoTruth
          have h2 := wholeNumber
          have HK := Lib.hid (fun b m w => wholeKind_any b m w)
          have HP := Lib.hid (fun b m w => wholeNum_any b m w)
          simp only [PT.bel, PT.mag]
          go_enter Tryd.func31, Tryd.ntmps31
          go_wp2_with fail
          refine (HK.out _ _ _).mono ?_
          rintro e w1 ⟨rfl, hb1⟩
          have HB1 := Lib.hid (HB0.out.trans hb1)
          have hz1 := hb1.size
          clear hb1 HB0
          go_wp2_with fail
          refine (HK.out _ _ _).mono ?_
          rintro e w2 ⟨rfl, hb2⟩
          have HB2 := Lib.hid (HB1.out.trans (hb2.mono hz1))
          have hz2 := hb2.size
          clear hb2 HB1 HK
          go_wp2_with fail
          refine (HP.out _ _ _).mono ?_
          rintro e w3 ⟨rfl, hb3⟩
          have HB3 := Lib.hid (HB2.out.trans (hb3.mono (by omega)))
          have hz3 := hb3.size
          clear hb3 HB2
          go_wp2_with fail
          refine (HP.out _ _ _).mono ?_
          rintro e w4 ⟨rfl, hb4⟩
          have HB4 := Lib.hid (HB3.out.trans (hb4.mono (by omega)))
          have hz4 := hb4.size
          clear hb4 HB3
          go_wp2_with fail
          go_ret
          exact ⟨rfl, HB4.out⟩
        · obtain ⟨rfl, -, -⟩ := (ValueAt.row (t := .mk k y b m r l) k0 k1 k2 h7).1 hv
          obtain ⟨rfl, -, -⟩ := (ValueAt.row (t := .mk k y b m r l) k0 k1 k2 h7).1 hu
          clear hv hu k0 k1 k2 h7
          have h1 := rowNoTruth
          have h2 := rowNoNumber
          have h3 := rowRaw
          have HK := Lib.hid (fun b m w => rowKind_any b m w)
          have HP := Lib.hid (fun b m w => rowBytes_any b m w)
          simp only [PT.kind, PT.raw]
          go_enter Tryd.func31, Tryd.ntmps31
          go_wp2_with fail
          refine (HK.out _ _ _).mono ?_
          rintro e w1 ⟨rfl, hb1⟩
          have HB1 := Lib.hid (HB0.out.trans hb1)
          have hz1 := hb1.size
          clear hb1 HB0
          go_wp2_with fail
          refine (HK.out _ _ _).mono ?_
          rintro e w2 ⟨rfl, hb2⟩
          have HB2 := Lib.hid (HB1.out.trans (hb2.mono hz1))
          have hz2 := hb2.size
          clear hb2 HB1 HK
          go_wp2_with fail
          refine (HP.out _ _ _).mono ?_
          rintro e w3 ⟨rfl, hb3⟩
          have HB3 := Lib.hid (HB2.out.trans (hb3.mono (by omega)))
          have hz3 := hb3.size
          clear hb3 HB2
          go_wp2_with fail
          refine (HP.out _ _ _).mono ?_
          rintro e w4 ⟨rfl, hb4⟩
          have HB4 := Lib.hid (HB3.out.trans (hb4.mono (by omega)))
          have hz4 := hb4.size
          clear hb4 HB3
          go_wp2_with fail
          go_ret
          exact ⟨rfl, HB4.out⟩
set_option maxRecDepth 100000 in
set_option maxHeartbeats 1000000 in
theorem Same_any (t : PT) (v u : Value) (w : World) (hv : ValueAt w (· < w.heap.size) t v) (hu : ValueAt w (· < w.heap.size) t u) :
    Calls Tryd.prog 11 #[v, u] w (Ret (.bool true) w) := by
  have H := Lib.hid (same_any t v u w hv hu)
  clear hv hu
  go_enter Tryd.func11, Tryd.ntmps11
  go_wp2_with fail
  refine H.out.mono ?_
  rintro e w1 ⟨rfl, hb1⟩
  have HB1 := Lib.hid hb1
  clear hb1
  go_wp2_with fail
  go_ret
  exact ⟨rfl, HB1.out⟩
end Go.Proofs.YtjgicjgpahnmaaaDoor

/-! slices.Clone of values, value.Of. -/
namespace Go.Proofs.YtjgicjgpahnmaaaDoor
open Go.RowKit Go.WideShapes
set_option linter.unusedVariables false
theorem ValuesAt.vals {w : World} {S : Nat → Prop} : ∀ {l : List PT} {b o : Nat}, ValuesAt w S l (some ⟨b, o, none⟩) → ∃ vs : List Value, vs.length = l.length ∧ (∀ i u, vs[i]? = some u → w.cell? ⟨b, o + i, none⟩ = some u) ∧ ∀ i (hi : i < l.length) (hv : i < vs.length), ValueAt w S l[i] vs[i]
  | [], b, o, _ => ⟨[], rfl, fun i u hu => by simp at hu, fun i hi => absurd hi (Nat.not_lt_zero i)⟩
  | t :: l, b, o, h => by
    obtain ⟨b', o', u, e, hb, hc, h1, h2⟩ := h
    simp only [Option.some.injEq, Addr.mk.injEq, and_true] at e
    obtain ⟨rfl, rfl⟩ := e
    obtain ⟨vs, g1, g2, g3⟩ := ValuesAt.vals h2
    refine ⟨u :: vs, by simp [g1], fun i x hx => ?_, fun i hi hv => ?_⟩
    · cases i with
      | zero => simp at hx; subst hx; exact hc
      | succ i => rw [show o + (i + 1) = o + 1 + i by omega]; exact g2 i x (by simpa using hx)
    · cases i with
      | zero => exact h1
      | succ i => exact g3 i (by simpa using hi) (by simpa using hv)
theorem sliceSome (x : Addr) (n c : Nat) (w : World) : (binOp .eql 69 (.slice (some x) n c) (.slice none 0 0)).run Tryd.prog w = .ok (.bool false) w := by kernel_rfl
theorem sliceNone (n c : Nat) (w : World) : (binOp .eql 69 (.slice none n c) (.slice none 0 0)).run Tryd.prog w = .ok (.bool true) w := by kernel_rfl
theorem own_cap {w : World} {base e size n cap g m : Nat} {xs : List Value} (h : w.ownsRow base e size (.slice (some ⟨g, 0, none⟩) m cap) n xs) : n ≤ cap ∧ cap ≤ maxLen := by
  rcases h.2 with ⟨h, _⟩ | ⟨g', cap', cur, e, _, _, h1, h2, _⟩
  · cases h
  · injection e with _ _ e; subst e; exact ⟨h1, h2⟩
/-- A list of values comes back, below the world's end. -/
def RowPost (l : List PT) (w : World) (e : Ending) (w' : World) : Prop := ∃ a c, e = .returned (.slice a l.length c) ∧ l.length ≤ c ∧ c ≤ maxLen ∧ Below w.heap.size w w' ∧ ValuesAt w' (· < w'.heap.size) l a
set_option maxRecDepth 100000 in
set_option maxHeartbeats 1000000 in
theorem clone_any (l : List PT) (a : Option Addr) (c : Nat) (w : World) (hl : l.length ≤ 1024) (h0 : l = [] → a = none) (hv : ValuesAt w (· < w.heap.size) l a) :
    Calls Tryd.prog 44 #[.slice a l.length c] w (RowPost l w) := by
  have HB0 := Lib.hid (Below.refl w.heap.size w)
  by_cases hn : l = []
  · obtain rfl := h0 hn
    subst hn
    have hs := sliceNone
    clear h0 hv hl
    go_enter Tryd.func44, Tryd.ntmps44
    go_wp2_with fail
    go_ret
    exact ⟨none, 0, rfl, Nat.le_refl _, Nat.zero_le _, HB0.out, trivial⟩
  · obtain ⟨b, o, rfl⟩ : ∃ b o, a = some ⟨b, o, none⟩ := by
      cases l with
      | nil => exact absurd rfl hn
      | cons t l => obtain ⟨b, o, u, e, _⟩ := hv; exact ⟨b, o, e⟩
    have hpos : 0 < l.length := List.length_pos_iff.2 hn
    obtain ⟨vs, g1, g2, g3⟩ := ValuesAt.vals hv
    have HG2 := Lib.hid g2
    have HG3 := Lib.hid g3
    obtain ⟨i0, hi, hz⟩ := Option.map_eq_some_iff.1 value_info
    simp only [Prod.mk.injEq] at hz
    obtain ⟨hz0, hz1, hz2⟩ := hz
    have HOne := Lib.hid (show ∀ u ∈ vs, u.oneCell' = true from fun u hu => by
      obtain ⟨i, hi, rfl⟩ := List.getElem_of_mem hu
      exact (g3 i (by omega) hi).one)
    have HO := Lib.hid (show (w.alloc (Obj.cells #[] 35)).ownsRow w.heap.size 35 1 (.slice (some ⟨w.heap.size, 0, none⟩) 0 0) 0 [] from ⟨rfl, .inr ⟨w.heap.size, 0, #[], rfl, Nat.le_refl _, World.alloc_heap_new w _, Nat.le_refl _, Nat.zero_le _, rfl, rfl⟩⟩)
    have HB1 := Lib.hid (HB0.out.alloc (Nat.le_refl _) (Obj.cells #[] 35))
    have HL := Lib.hid g1
    have hblt : b < w.heap.size := by
      cases l with
      | nil => simp at hpos
      | cons t l => obtain ⟨b', o', u, e, hb', _⟩ := hv; simp at e; obtain ⟨rfl, -⟩ := e; exact hb'
    have HNews := Lib.hid (show ∀ j u, vs[j]? = some u → (w.alloc (Obj.cells #[] 35)).cell? ((⟨b, o, none⟩ : Addr).add j) = some u from fun j u hu => by
      rw [add_plain, World.cell?_alloc_lt _ _ _ hblt]; exact g2 j u hu)
    have hs := sliceSome
    clear g1 g2 g3 hv h0 hn
    go_enter Tryd.func44, Tryd.ntmps44
    go_wp2_with (at_builtin; refine wpList_append_lies _ rfl _ _ 69 rfl w.heap.size 35 i0 .nilIface 1 16 Tryd.underlying69 hi hz0 hz1 hz2 rfl (by decide) _ _ _ rfl HO.out ⟨b, o, none⟩ l.length c vs rfl (by rw [HL.out]; omega) (HNews.out) HOne.out hpos (by unfold maxLen; omega) (by omega) (by simp) _ rfl ?_; intro g cap w' hown hgrow hat hgl)
    go_ret
    have hcap := own_cap hown
    have hgrow' : (w.alloc (Obj.cells #[] 35)).grownBy w' (some w.heap.size) := hgrow
    have hb2 := HB1.out.grown hgrow' (by simp) (fun j ej => by injection ej with ej; omega)
    refine ⟨some ⟨g, 0, none⟩, cap, rfl, by omega, by omega, hb2, ValuesAt.of_get (.inr hgl) fun i hi => ?_⟩
    have hiv : i < vs.length := by rw [HL.out]; exact hi
    refine ⟨vs[i], ?_, ((HG3.out i hi hiv).below hb2).wide (by have := hb2.size; omega)⟩
    rw [Nat.zero_add, hown.cellAt i (by omega), List.nil_append, List.getElem?_eq_getElem hiv]
/-- A list comes back, and no error. -/
def OfPost (l : List PT) (w : World) (e : Ending) (w' : World) : Prop := ∃ a c, e = .returned (.tuple #[.iface 88 (.agg #[.slice a l.length c]), .int .i64 0]) ∧ l.length ≤ c ∧ c ≤ maxLen ∧ Below w.heap.size w w' ∧ ValuesAt w' (· < w'.heap.size) l a
set_option maxRecDepth 100000 in
set_option maxHeartbeats 1000000 in
theorem of_any (l : List PT) (a : Option Addr) (c : Nat) (w : World) (hl : l.length ≤ 1024) (h0 : l = [] → a = none) (hd : ∀ t ∈ l, t.depth < 16) (hv : ValuesAt w (· < w.heap.size) l a) :
    Calls Tryd.prog 30 #[.slice a l.length c] w (OfPost l w) := by
  have HB0 := Lib.hid (Below.refl w.heap.size w)
  have HV := Lib.hid hv
  have HC := Lib.hid (fun w => clone_any l a c w hl h0)
  have HD := Lib.hid hd
  clear hv h0 hd
  go_enter Tryd.func30, Tryd.ntmps30
  go_wp2_with fail
  go_loopw [11] (fun i wr => ∃ (k : Nat), i = .int .i64 k ∧ k ≤ l.length ∧ Hid (Below w.heap.size w wr) ∧ w.heap.size ≤ wr.heap.size) (fun i _ => l.length - (intOf i).toNat)
  case atStart => exact ⟨0, rfl, by omega, HB0, by omega⟩
  case round =>
    clear HB0
    obtain ⟨k, rfl, hk, HB, hwz⟩ := hrel
    by_cases hlt : k < l.length
    · obtain ⟨b, o, u, ea, hb, hc, hu⟩ := (HV.out.below HB.out).get hlt
      subst ea
      have hd := HD.out _ (List.getElem_mem hlt)
      have HR := Lib.hid (Depth_any l[k] u wr (by omega) (hu.wide hwz))
      clear hu
      go_wp2_with fail
      refine HR.out.mono ?_
      rintro e w2 ⟨rfl, hb2⟩
      have hz2 := hb2.size
      have HB2 := Lib.hid (HB.out.trans (hb2.mono hwz))
      clear hb2 HB HR hc
      go_wp2_with fail
      go_roundw
      case rel => exact ⟨k + 1, by go_num, by omega, HB2, by omega⟩
      case measure => simp [intOf]; omega
    · obtain rfl : k = l.length := by omega
      have HR := Lib.hid (HC.out wr ((HV.out.below HB.out).wide hwz))
      go_wp2_with fail
      refine HR.out.mono ?_
      rintro e w2 ⟨a2, c2, rfl, hc1, hc2, hb2, hv2⟩
      have HB2 := Lib.hid (HB.out.trans (hb2.mono hwz))
      have HV2 := Lib.hid hv2
      clear hb2 HB HR hv2
      go_wp2_with fail
      go_ret2
      exact ⟨a2, c2, rfl, hc1, hc2, HB2.out, HV2.out⟩
end Go.Proofs.YtjgicjgpahnmaaaDoor

/-! A row of parts that a call makes, and the part that holds it. -/
namespace Go.Proofs.YtjgicjgpahnmaaaDoor
open Go.RowKit Go.WideShapes
set_option linter.unusedVariables false
theorem part_info : (Tryd.prog.info? 30).map (fun i => (i.zero, i.size, i.bytes)) = some (some (.agg #[.int .u8 0, .bool false, .bool false, .string ⟨#[]⟩, .string ⟨#[]⟩, .slice none 0 0]), 6, 72) := by kernel_rfl
/-- A part in the making: a tuple's, with its items' list. -/
def PBox (w : World) (T : Nat) (v : Value) : Prop := w.heap[T]? = some (.cells #[.int .u8 7, .bool false, .bool false, .string ⟨#[]⟩, .string ⟨#[]⟩, v] 30 (0, 0))
section
variable {w w' : World} {T : Nat} {v u : Value}
theorem PBox.cells (h : PBox w T v) : w.cell? ⟨T, 0, none⟩ = some (.int .u8 7) ∧ w.cell? ⟨T, 1, none⟩ = some (.bool false) ∧ w.cell? ⟨T, 2, none⟩ = some (.bool false) ∧ w.cell? ⟨T, 3, none⟩ = some (.string ⟨#[]⟩) ∧ w.cell? ⟨T, 4, none⟩ = some (.string ⟨#[]⟩) ∧ w.cell? ⟨T, 5, none⟩ = some v := by
  simp [World.cell?, show w.heap[T]? = _ from h]
theorem PBox.cell (h : PBox w T v) : w.cell? ⟨T, 5, none⟩ = some v := h.cells.2.2.2.2.2
theorem PBox.free (h : PBox w T v) : w.frozen? ⟨T, 5, none⟩ = false := by simp [World.frozen?, show w.heap[T]? = _ from h]
theorem PBox.lt (h : PBox w T v) : T < w.heap.size := (Array.getElem?_eq_some_iff.1 h).1
theorem PBox.set (h : PBox w T v) : PBox (w.setCell ⟨T, 5, none⟩ u) T u := by
  unfold PBox at *; simp [World.setCell, Array.getElem?_modify, h]
theorem PBox.of (h : PBox w T v) (hh : w'.heap[T]? = w.heap[T]?) : PBox w' T v := hh.trans h
theorem PBox.below {B : Nat} (h : PBox w T v) (hb : Below B w w') (hT : T < B) : PBox w' T v := h.of (hb.block T hT)
theorem PBox.new (w : World) (T : Nat) (v : Value) (hT : T = w.heap.size) : PBox (w.alloc (.cells #[.int .u8 7, .bool false, .bool false, .string ⟨#[]⟩, .string ⟨#[]⟩, v] 30)) T v := by subst hT; exact World.alloc_heap_new w _
theorem PBox.grown {vt : Value} {tmp : Obj} (h : PBox w T v) (hg : (w.alloc tmp).grownBy w' vt.ownBlock) (hne : vt.ownBlock ≠ some T) : PBox w' T v := by
  have hl := h.lt
  refine h.of ((hg.block T (by simp; omega) (fun e => hne e.symm)).trans ?_)
  rw [Below.heap_alloc w tmp T hl]
end
theorem flat_get : ∀ (css : List (List Value)), (∀ c ∈ css, c.length = 6) → ∀ (i : Nat) (hi : i < css.length) (j : Nat) u, (css[i])[j]? = some u → css.flatten[i * 6 + j]? = some u
  | [], _, i, hi, _, _, _ => absurd hi (Nat.not_lt_zero i)
  | c :: css, h, i, hi, j, u, hu => by
    have hc : c.length = 6 := h c (by simp)
    cases i with
    | zero =>
      have hj : j < c.length := (List.getElem?_eq_some_iff.1 hu).1
      rw [List.flatten_cons, show 0 * 6 + j = j by omega, List.getElem?_append_left hj]; exact hu
    | succ i =>
      rw [List.flatten_cons, List.getElem?_append_right (by omega), show (i + 1) * 6 + j - c.length = i * 6 + j by omega]
      exact flat_get css (fun c hc => h c (by simp [hc])) i (by simpa using hi) j u hu
theorem flat_len : ∀ (css : List (List Value)), (∀ c ∈ css, c.length = 6) → css.flatten.length = css.length * 6
  | [], _ => rfl
  | c :: css, h => by rw [List.flatten_cons, List.length_append, h c (by simp), flat_len css fun c hc => h c (by simp [hc])]; simp; omega
/-- So many parts stand in a row of one's own, each in blocks from n on. -/
structure PRow (w : World) (n base : Nat) (vt : Value) (k : Nat) (l : List PT) (css : List (List Value)) : Prop where
  len : css.length = k
  tl : l.length = k
  six : ∀ c ∈ css, c.length = 6
  own : w.ownsRow base 30 6 vt k css.flatten
  part : ∀ i (hi : i < l.length) (hv : i < css.length), PartAt w (fun b => n ≤ b ∧ b < w.heap.size ∧ vt.ownBlock ≠ some b) l[i] css[i]
theorem PRow.start (w : World) (n base : Nat) : PRow w n base (.slice none 0 0) 0 [] [] :=
  ⟨rfl, rfl, fun c hc => by simp at hc, World.ownsRow_nil _ _ _ _, fun i hi hv => absurd hv (Nat.not_lt_zero i)⟩
theorem PRow.below {w w' : World} {n base : Nat} {vt : Value} {k : Nat} {l : List PT} {css : List (List Value)} (h : PRow w n base vt k l css) (hb : Below w.heap.size w w') : PRow w' n base vt k l css :=
  ⟨h.len, h.tl, h.six, by
    rcases h.own.2 with ⟨e, h0⟩ | ⟨g, cap, cur, e, hb', hg, h1⟩
    · exact ⟨h.own.1, .inl ⟨e, h0⟩⟩
    · exact ⟨h.own.1, .inr ⟨g, cap, cur, e, hb', (hb.block g (Array.getElem?_eq_some_iff.1 hg).1).trans hg, h1⟩⟩,
   fun i hi hv => PartAt.more (fun b hb' => ⟨hb'.1, Nat.lt_of_lt_of_le hb'.2.1 hb.size, hb'.2.2⟩) _ _ (PartAt.keep (fun p hp => hb.cell hp.2.1) _ _ (h.part i hi hv))⟩
/-- One part more. -/
theorem PRow.step {w w2 w3 : World} {n base : Nat} {vt : Value} {k : Nat} {l : List PT} {css : List (List Value)} {t : PT} {cs : List Value} {tmp : Obj} {g cap : Nat} (h : PRow w n base vt k l css) (h6 : cs.length = 6)
    (hv : PartAt w2 (fun b => w.heap.size ≤ b ∧ b < w2.heap.size) t cs) (hb : Below w.heap.size w w2) (hn : n ≤ w.heap.size)
    (hown : w3.ownsRow base 30 6 (.slice (some ⟨g, 0, none⟩) (k + 1) cap) (k + 1) (css.flatten ++ cs)) (hgrow : (w2.alloc tmp).grownBy w3 vt.ownBlock) (hat : vt.ownBlock = some g ∨ g = (w2.alloc tmp).heap.size) :
    PRow w3 n base (.slice (some ⟨g, 0, none⟩) (k + 1) cap) (k + 1) (l ++ [t]) (css ++ [cs]) := by
  have h2 := h.below hb
  have hz : (w2.alloc tmp).heap.size = w2.heap.size + 1 := by simp
  have hz3 := hgrow.size
  have hcell : ∀ p : Addr, p.block < w2.heap.size → vt.ownBlock ≠ some p.block → w3.cell? p = w2.cell? p := fun p hp hne => by
    rw [hgrow.cell_far p (by omega) (fun e => hne e.symm), World.cell?_alloc_lt w2 tmp p hp]
  have hvt : ∀ b, w.heap.size ≤ b → vt.ownBlock ≠ some b := fun b hb e => by
    have := (h.own.lt b e).2; omega
  have hg : ∀ b, b < w2.heap.size → vt.ownBlock ≠ some b → (Value.slice (some ⟨g, 0, none⟩) (k + 1) cap).ownBlock ≠ some b := fun b hb hne e => by
    simp only [Value.ownBlock, Option.some.injEq] at e
    subst e
    rcases hat with hat | hat
    · exact hne hat
    · omega
  refine ⟨by simp [h.len], by simp [h.tl], fun c hc => ?_, by simpa using hown, fun i hi hv' => ?_⟩
  · rcases List.mem_append.1 hc with hc | hc
    · exact h.six c hc
    · simp at hc; subst hc; exact h6
  · rw [List.length_append, h.len, List.length_singleton] at hv'
    by_cases e : i = k
    · subst e
      have e1 : (css ++ [cs])[i]'(by rw [List.length_append, h.len, List.length_singleton]; omega) = cs := by
        rw [List.getElem_append_right (by rw [h.len]; omega)]; simp [h.len]
      have e2 : (l ++ [t])[i]'hi = t := by
        rw [List.getElem_append_right (by rw [h.tl]; omega)]; simp [h.tl]
      rw [e1, e2]
      refine PartAt.more (fun b hb' => ?_) _ _ (PartAt.keep (fun p hp => hcell p hp.2 (hvt _ hp.1)) _ _ hv)
      exact ⟨by omega, by omega, hg b hb'.2 (hvt b hb'.1)⟩
    · have hik : i < css.length := by rw [h.len]; omega
      have hil : i < l.length := by rw [h.tl]; omega
      have e1 : (css ++ [cs])[i]'(by rw [List.length_append, h.len, List.length_singleton]; omega) = css[i] := List.getElem_append_left hik
      have e2 : (l ++ [t])[i]'hi = l[i] := List.getElem_append_left hil
      rw [e1, e2]
      refine PartAt.more (fun b hb' => ?_) _ _ (PartAt.keep (fun p hp => hcell p hp.2.1 hp.2.2) _ _ (h2.part i hil hik))
      exact ⟨hb'.1, by omega, hg b hb'.2.1 hb'.2.2⟩
/-- The part is written. -/
theorem PRow.set {w : World} {n base T : Nat} {vt u : Value} {k : Nat} {l : List PT} {css : List (List Value)} (h : PRow w n base vt k l css) (hT : T < n) (hTb : T < base) : PRow (w.setCell ⟨T, 5, none⟩ u) n base vt k l css := by
  have hheap : ∀ b, b ≠ T → (w.setCell ⟨T, 5, none⟩ u).heap[b]? = w.heap[b]? := fun b hb => by simp [World.setCell, Array.getElem?_modify, Ne.symm hb]
  have hz : (w.setCell ⟨T, 5, none⟩ u).heap.size = w.heap.size := by simp
  refine ⟨h.len, h.tl, h.six, ?_, fun i hi hv => ?_⟩
  · rcases h.own.2 with ⟨e, h0⟩ | ⟨g, cap, cur, e, hb', hg, h1⟩
    · exact ⟨h.own.1, .inl ⟨e, h0⟩⟩
    · exact ⟨h.own.1, .inr ⟨g, cap, cur, e, hb', (hheap g (by omega)).trans hg, h1⟩⟩
  · refine PartAt.more (fun b hb' => ⟨hb'.1, by omega, hb'.2.2⟩) _ _ (PartAt.keep (fun p hp => ?_) _ _ (h.part i hi hv))
    exact World.cell?_setCell_other w _ p u (fun e => by have := hp.1; rw [← e] at this; simp at this; omega)
/-- The whole row, as a tuple's. -/
theorem PRow.parts {w : World} {n base : Nat} {vt : Value} {k : Nat} {l : List PT} {css : List (List Value)} (h : PRow w n base vt k l css) (hn : n ≤ base) :
    ∃ a c, vt = .slice a l.length c ∧ l.length ≤ c ∧ c ≤ maxLen ∧ PartsAt w (fun b => n ≤ b ∧ b < w.heap.size) l a := by
  rcases h.own.2 with ⟨e, h0⟩ | ⟨g, cap, cur, e, hb', hg, hnc, hcm, hcs, htake⟩
  · refine ⟨none, 0, by rw [e, h.tl, h0], by rw [h.tl, h0]; exact Nat.le_refl _, by omega, ?_⟩
    rw [List.length_eq_zero_iff.1 (h.tl.trans h0)]; trivial
  · refine ⟨some ⟨g, 0, none⟩, cap, by rw [h.tl]; exact e, by rw [h.tl]; exact hnc, hcm, PartsAt.of_get (.inr ⟨by omega, (Array.getElem?_eq_some_iff.1 hg).1⟩) fun i hi => ?_⟩
    have hv : i < css.length := by rw [h.len, ← h.tl]; exact hi
    refine ⟨css[i], fun j u hu => ?_, PartAt.more (fun b hb => ⟨hb.1, hb.2.1⟩) _ _ (h.part i hi hv)⟩
    have hj : j < 6 := by have := (List.getElem?_eq_some_iff.1 hu).1; rw [h.six _ (List.getElem_mem hv)] at this; exact this
    have hik : i < k := by rw [← h.len]; exact hv
    have ho := h.own
    rw [e] at ho
    rw [Nat.zero_add, ho.cellAt (i * 6 + j) (by omega)]
    exact flat_get css h.six i hv j u hu
end Go.Proofs.YtjgicjgpahnmaaaDoor
