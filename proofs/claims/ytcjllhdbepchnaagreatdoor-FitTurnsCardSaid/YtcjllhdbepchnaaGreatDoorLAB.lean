/-
  fit.wrong: what is wrong with a value of a field.
-/
import Derived.Test.YtcjllhdbepchnaaGreatDoorLZ
import Derived.Test.YtcjllhdbepchnaaGreatDoorLAA
import Derived.Test.YtcjllhdbepchnaaGreatDoorLX
/-! fit.wrong: what is wrong with a value of a field. -/
namespace Go.Proofs.YtcjllhdbepchnaaGreatDoor
open Go.RowKit Go.WideShapes
set_option linter.unusedVariables false
set_option maxRecDepth 100000 in
set_option maxHeartbeats 2000000 in
theorem wrong_tuple (t : FT) (p : PT) (a : Option Addr) (c : Nat) (a' : Option Addr) (c' : Nat) (w : World) (hk : p.kind = t.s.kind) (hkk : t.s.kind = 7) (hdp : t.deep ≤ 1000) (hraw : RawOk p) (hko : KOk t) (ih : ∀ x ∈ t.fields, WrongAny x) (hlc : t.fields.length ≤ c) (hc : c ≤ 140737488351232) (hf : FieldsAt w (· < w.heap.size) t.fields a) (hn' : p.items.length ≤ maxLen) (hv : ValuesAt w (· < w.heap.size) p.items a') :
    Calls Tryz.prog 44 #[.agg #[.string t.s.name, .int .u8 t.s.kind, .bool t.s.down, .int .u8 t.s.nulls, .bool t.s.bnd, .bool t.s.lb, .string t.s.lm, .bool t.s.hb, .string t.s.hm, .int .i64 t.s.most, .int .i64 t.s.st, .bool t.s.sh, .bool t.s.ba, .slice a t.fields.length c], .iface 109 (.agg #[.slice a' p.items.length c'])] w (WrongPost (FT.fit t p) w) := by
  have hs : FT.fit t p = if p.items.length ≠ t.fields.length then some (122, 0, [], 0) else FT.fitL t.fields p.items 0 := by rw [FT.fit_eq, if_neg (by omega), if_neg (fun h => h hk), if_neg (by omega), if_neg (by omega), if_neg (by omega), if_neg (by omega)]
  have HW := Lib.hid (fun W => want_tuple a' p.items.length c' t.s.kind (by omega) W)
  have HWi := Lib.hid (fun (W : World) (hb : Below w.heap.size w W) => within_step t p a c a' c' W hdp hraw hko ih hlc hc ((hf.below hb).wide hb.size) hn' ((hv.below hb).wide hb.size))
  have HB1 := Lib.hid (below_a1 w (.cells #[.string t.s.name, .int .u8 t.s.kind, .bool t.s.down, .int .u8 t.s.nulls, .bool t.s.bnd, .bool t.s.lb, .string t.s.lm, .bool t.s.hb, .string t.s.hm, .int .i64 t.s.most, .int .i64 t.s.st, .bool t.s.sh, .bool t.s.ba, .slice a t.fields.length c] 57))
  have HX1 := Lib.hid (FBox.new w #[.string t.s.name, .int .u8 t.s.kind, .bool t.s.down, .int .u8 t.s.nulls, .bool t.s.bnd, .bool t.s.lb, .string t.s.lm, .bool t.s.hb, .string t.s.hm, .int .i64 t.s.most, .int .i64 t.s.st, .bool t.s.sh, .bool t.s.ba, .slice a t.fields.length c])
  have ha0 := tupleNoNumber
  have ha1 := tupleNoRaw
  have ha2 := tupleIsList
  rw [hs]
  rw [hkk] at HW HWi HB1 HX1 ⊢
  obtain ⟨r, hr⟩ : ∃ r, r = (if p.items.length ≠ t.fields.length then some (122, 0, [], 0) else FT.fitL t.fields p.items 0 : FR) := ⟨_, rfl⟩
  rw [← hr] at HWi ⊢
  clear hr
  clear hs hk hkk hf hv ih hraw hko hdp hn' hlc hc
  go_enter Tryz.func44, Tryz.ntmps44
  go_wp2_with fail
  refine (HW.out _).mono ?_
  rintro e w2 ⟨hb2, hp2⟩
  rw [if_pos rfl] at hp2
  subst hp2
  have hz2 := hb2.size
  rw [World.size_alloc] at hz2
  have HB2 := Lib.hid (HB1.out.trans (hb2.mono (by simp)))
  have HX2 := Lib.hid (HX1.out.below hb2 (by simp))
  clear hb2 HW HB1 HX1
  obtain ⟨x0, x1, x2, x3, x4, x5, x6, x7, x8, x9, x10, x11, x12, x13⟩ := HX2.out.cells
  go_wp2_with fail
  refine (HWi.out w2 HB2.out).mono ?_
  rintro e w3 ⟨hb3, hp3⟩
  have HB3 := Lib.hid (HB2.out.trans (hb3.mono (by omega)))
  clear HWi hb3 x0 x1 x2 x3 x4 x5 x6 x7 x8 x9 x10 x11 x12 x13
  cases r with
  | none =>
    obtain rfl := hp3
    go_wp2_with fail
    go_ret
    exact ⟨HB3.out, rfl⟩
  | some x =>
    obtain ⟨cc, aa, q, yy⟩ := x
    obtain ⟨b, v, yv, rfl, hlb, hfl, ho, hwy⟩ := hp3
    have HH := Lib.hid (And.intro hlb (And.intro hfl (And.intro ho hwy)))
    clear hlb hfl ho hwy
    go_wp2_with fail
    go_ret
    obtain ⟨hlb, hfl, ho, hwy⟩ := HH.out
    exact ⟨HB3.out, b, v, yv, rfl, by omega, hfl, ownsRow_low ho (by omega), hwy.imp id (fun h => h.imp id (fun ⟨h1, b2, h2, h3, h4⟩ => ⟨h1, b2, h2, by omega, h4⟩))⟩
theorem wrong_step (t : FT) (ih : ∀ x ∈ t.fields, WrongAny x) : WrongAny t := by
  intro p v a c w hdp hraw hko hok hlc hc hf hv
  have hkl := hko.kind
  have hok' := hok
  obtain ⟨_, _, _, h1, h2, h3, h4, _⟩ := hok'
  by_cases k0 : p.kind = 0
  · rw [(ValueAt.null k0).1 hv]
    exact wrong_null t p a c w k0
  by_cases k1 : p.kind = 1
  · rw [(ValueAt.truth k1).1 hv]
    by_cases hk : p.kind = t.s.kind
    · exact wrong_truth t p a c w k1 (by omega)
    · exact wrong_other t p a c w _ _ k0 hk (fun W => by have := want_truth p.yes t.s.kind hkl W; rw [k1]; exact this)
  by_cases k2 : p.kind = 2
  · obtain ⟨rfl, hm⟩ := (ValueAt.whole k2).1 hv
    by_cases hk : p.kind = t.s.kind
    · exact wrong_whole t p a c w hk (by omega) (by unfold maxLen at hm; omega) (by omega) (by omega)
    · exact wrong_other t p a c w _ _ k0 hk (fun W => by have := want_whole p.bel p.mag t.s.kind hkl W; rw [k2]; exact this)
  by_cases k7 : p.kind = 7
  · obtain ⟨a', c', rfl, hl', hcm, hvs⟩ := (ValueAt.tuple k7).1 hv
    by_cases hk : p.kind = t.s.kind
    · exact wrong_tuple t p a c a' c' w hk (by omega) hdp hraw hko ih hlc hc hf (by omega) hvs
    · exact wrong_other t p a c w _ _ k0 hk (fun W => by have := want_tuple a' p.items.length c' t.s.kind hkl W; rw [k7]; exact this)
  · obtain ⟨rfl, hr, hk8⟩ := (ValueAt.row k0 k1 k2 k7).1 hv
    by_cases hk : p.kind = t.s.kind
    · have h3456 : t.s.kind = 3 ∨ t.s.kind = 4 ∨ t.s.kind = 5 ∨ t.s.kind = 6 := by omega
      rcases h3456 with h | h | h | h
      · exact wrong_row3 t p a c w hk h hraw.raw ⟨h4, h3⟩
      · exact wrong_row4 t p a c w hk h hraw.raw ⟨h4, h3⟩
      · exact wrong_row5 t p a c w hk h hraw.raw ⟨h4, h3⟩
      · exact wrong_row6 t p a c w hk h hraw.raw ⟨h4, h3⟩
    · exact wrong_other t p a c w _ _ k0 hk (fun W => want_row p.kind p.raw t.s.kind hkl W)
theorem wrong_any (t : FT) : WrongAny t := FT.all wrong_step t
end Go.Proofs.YtcjllhdbepchnaaGreatDoor

/-! fit.Field and ref12.FieldWhy: what is told of a value of a field. -/
namespace Go.Proofs.YtcjllhdbepchnaaGreatDoor
open Go.RowKit Go.WideShapes
set_option linter.unusedVariables false
/-- What is told of a value of a field. -/
def fieldAns (t : FT) (p : PT) : FR := if (fieldWhy t).1 = 0 then FT.fit t p else some (1, 0, [], (fieldWhy t).1)
/-- What it comes of. -/
def YAt (lo : Nat) (w : World) (y : Int) (yv : Value) : Prop := (y = 0 ∧ yv = .nilIface) ∨ (y = 30 ∧ yv = .iface 34 (.int .i64 30)) ∨ ((y = 4 ∨ (111 ≤ y ∧ y ≤ 116)) ∧ ∃ b A n c, yv = .iface 91 (.pointer (some ⟨b, 0, none⟩)) ∧ lo ≤ b ∧ FltAt w b y 0 (.slice A n c))
/-- What is told, in memory. -/
def AnsAt (r : FR) (lo : Nat) (w : World) (ev : Value) : Prop := match r with
  | none => ev = .nilIface
  | some (c, a, q, y) => ∃ b v yv, ev = .iface 91 (.pointer (some ⟨b, 0, none⟩)) ∧ lo ≤ b ∧ FlY w b c a v yv ∧ w.ownsRow lo 3 1 v q.length (pathVals q) ∧ YAt lo w y yv
def AnsPost (r : FR) (w : World) (e : Ending) (w' : World) : Prop := ∃ v, e = .returned v ∧ Below w.heap.size w w' ∧ AnsAt r w.heap.size w' v
/-- Numbers that are told. -/
def AnsOk : FR → Prop
  | none => True
  | some (c, a, q, y) => (c = 1 ∨ (120 ≤ c ∧ c ≤ 125)) ∧ (y = 0 ∨ y = 4 ∨ y = 30 ∨ (111 ≤ y ∧ y ≤ 116)) ∧ q.length ≤ 1000
theorem KOk.of_good : ∀ (t : FT) (d : Nat) (ahead : List FT), FT.good d ahead t = true → KOk t := by
  refine FT.all fun t ih => ?_
  intro d ahead h
  exact .mk (odd_kind (FT.good_odd h)).2.1 fun x hx => ih x hx _ _ (FT.good_sub h hx)
theorem fieldWhy_kok {t : FT} (h : (fieldWhy t).1 = 0) : KOk t := KOk.of_good t _ _ (fieldWhy_ok.1 h).1
theorem fieldWhy_told (t : FT) : (fieldWhy t).1 = 0 ∨ (111 ≤ (fieldWhy t).1 ∧ (fieldWhy t).1 ≤ 116) := by
  rcases schemaWhy_told 65536 [t] with h | h
  · exact .inl h.1
  · exact .inr ⟨h.1, h.2.1⟩
theorem fieldAns_ok (t : FT) (p : PT) : AnsOk (fieldAns t p) := by
  unfold fieldAns
  split
  · rename_i h0
    have h1 := FT.fit_told t p
    have h2 := FT.fit_len t p
    have h3 := fieldWhy_deep h0
    revert h1 h2
    generalize FT.fit t p = r
    intro h1 h2
    rcases r with _ | ⟨c, a, q, y⟩
    · trivial
    · have h4 : q.length ≤ t.deep := h2
      refine ⟨.inr ⟨h1.1, h1.2.1⟩, ?_, by omega⟩
      rcases h1.2.2 with ⟨_, h⟩ | ⟨_, h⟩ | ⟨_, _, h⟩
      · exact .inr (.inl h)
      · exact .inr (.inr (.inl h))
      · exact .inl h
  · rename_i h0
    exact ⟨.inl rfl, .inr (.inr (.inr ((fieldWhy_told t).resolve_left h0))), Nat.zero_le _⟩
section
variable {w w' : World} {lo lo' : Nat} {y : Int} {yv ev : Value} {r : FR}
theorem YAt.low (h : YAt lo w y yv) (hl : lo' ≤ lo) : YAt lo' w y yv := by
  rcases h with h | h | ⟨h, b, A, n, c, e, hb, hf⟩
  · exact .inl h
  · exact .inr (.inl h)
  · exact .inr (.inr ⟨h, b, A, n, c, e, by omega, hf⟩)
theorem YAt.of_why (h : WhyAt lo w y yv) : YAt lo w y yv := by
  rcases h with h | h | ⟨h, b, e, hb, hf⟩
  · exact .inl h
  · exact .inr (.inl h)
  · exact .inr (.inr ⟨.inl h, b, _, _, _, e, hb, by rw [h]; exact hf⟩)
theorem ownsRow_below {base size n : Nat} {e : TypeId} {v : Value} {xs : List Value} (h : w.ownsRow base e size v n xs) (hb : Below w.heap.size w w') : w'.ownsRow base e size v n xs :=
  ⟨h.1, h.2.imp id fun ⟨g, cap, cur, h1, h2, h3, h4⟩ => ⟨g, cap, cur, h1, h2, (hb.block g (Array.getElem?_eq_some_iff.1 h3).1).trans h3, h4⟩⟩
theorem YAt.below (h : YAt lo w y yv) (hb : Below w.heap.size w w') : YAt lo w' y yv := by
  rcases h with h | h | ⟨h, b, A, n, c, e, hl, hf⟩
  · exact .inl h
  · exact .inr (.inl h)
  · exact .inr (.inr ⟨h, b, A, n, c, e, hl, hf.below hb hf.lt⟩)
theorem AnsAt.below (h : AnsAt r lo w ev) (hb : Below w.heap.size w w') : AnsAt r lo w' ev := by
  rcases r with _ | ⟨c, a, q, y⟩
  · exact h
  · obtain ⟨b, v, yv, e, hl, hf, ho, hy⟩ := h
    exact ⟨b, v, yv, e, hl, (hb.block b (Array.getElem?_eq_some_iff.1 hf).1).trans hf, ownsRow_below ho hb, hy.below hb⟩
theorem AnsAt.low (h : AnsAt r lo w ev) (hl : lo' ≤ lo) : AnsAt r lo' w ev := by
  rcases r with _ | ⟨c, a, q, y⟩
  · exact h
  · obtain ⟨b, v, yv, e, hb, hf, ho, hy⟩ := h
    exact ⟨b, v, yv, e, by omega, hf, ownsRow_low ho hl, hy.low hl⟩
end
set_option maxRecDepth 100000 in
set_option maxHeartbeats 2000000 in
theorem field_any (t : FT) (p : PT) (v : Value) (a : Option Addr) (c : Nat) (w : World) (hraw : RawOk p) (hok : t.s.ok) (hlc : t.fields.length ≤ c) (hc : c ≤ 140737488351232) (hf : FieldsAt w (· < w.heap.size) t.fields a) (hv : ValueAt w (· < w.heap.size) p v) :
    Calls Tryz.prog 19 #[.agg #[.string t.s.name, .int .u8 t.s.kind, .bool t.s.down, .int .u8 t.s.nulls, .bool t.s.bnd, .bool t.s.lb, .string t.s.lm, .bool t.s.hb, .string t.s.hm, .int .i64 t.s.most, .int .i64 t.s.st, .bool t.s.sh, .bool t.s.ba, .slice a t.fields.length c], v] w (AnsPost (fieldAns t p) w) := by
  have hb1 := below_a1 w (.cells #[.string t.s.name, .int .u8 t.s.kind, .bool t.s.down, .int .u8 t.s.nulls, .bool t.s.bnd, .bool t.s.lb, .string t.s.lm, .bool t.s.hb, .string t.s.hm, .int .i64 t.s.most, .int .i64 t.s.st, .bool t.s.sh, .bool t.s.ba, .slice a t.fields.length c] 57)
  have HX1 := Lib.hid (FBox.new w #[.string t.s.name, .int .u8 t.s.kind, .bool t.s.down, .int .u8 t.s.nulls, .bool t.s.bnd, .bool t.s.lb, .string t.s.lm, .bool t.s.hb, .string t.s.hm, .int .i64 t.s.most, .int .i64 t.s.st, .bool t.s.sh, .bool t.s.ba, .slice a t.fields.length c])
  have HC := Lib.hid (refused_any t a c _ hok hlc hc ((hf.below hb1).wide hb1.size))
  have HWr := Lib.hid (fun (W : World) (hb : Below w.heap.size w W) (h0 : (fieldWhy t).1 = 0) => wrong_any t p v a c W (by have := fieldWhy_deep h0; omega) hraw (fieldWhy_kok h0) hok hlc hc ((hf.below hb).wide hb.size) ((hv.below hb).wide hb.size))
  have HB1 := Lib.hid hb1
  have hone := hv.one
  obtain ⟨r, hr⟩ : ∃ r, r = fieldAns t p := ⟨_, rfl⟩
  rw [← hr]
  have HR := Lib.hid hr
  clear hb1 hf hv hraw hok hr
  go_enter Tryz.func19, Tryz.ntmps19
  go_wp2_with fail
  refine HC.out.mono ?_
  rintro e w2 ⟨u, rfl, hb2, he2⟩
  have hz2 := hb2.size
  rw [World.size_alloc] at hz2 he2
  have HB2 := Lib.hid (HB1.out.trans (hb2.mono (by simp)))
  have HX2 := Lib.hid (HX1.out.below hb2 (by simp))
  clear hb2 HC HX1 HB1
  by_cases h0 : (fieldWhy t).1 = 0
  · unfold ErrAt at he2
    rw [if_pos h0] at he2
    subst he2
    have ha : r = FT.fit t p := by rw [HR.out]; unfold fieldAns; rw [if_pos h0]
    have HWr2 := Lib.hid (HWr.out w2 HB2.out h0)
    rw [← ha] at HWr2
    clear ha HWr h0 HR
    obtain ⟨x0, x1, x2, x3, x4, x5, x6, x7, x8, x9, x10, x11, x12, x13⟩ := HX2.out.cells
    go_wp2_with fail
    refine HWr2.out.mono ?_
    rintro e w3 ⟨hb3, hp3⟩
    have hz3 := hb3.size
    have HB3 := Lib.hid (HB2.out.trans (hb3.mono (by omega)))
    clear hb3 HWr2 x0 x1 x2 x3 x4 x5 x6 x7 x8 x9 x10 x11 x12 x13
    rcases r with _ | ⟨cc, aa, q, yy⟩
    · obtain rfl := hp3
      have HT := Lib.hid (told_none w3)
      go_wp2_with fail
      refine HT.out.mono ?_
      rintro e w4 ⟨rfl, hb4⟩
      have HB4 := Lib.hid (HB3.out.trans (hb4.mono (by omega)))
      clear hb4 HT
      go_wp2_with fail
      go_ret
      exact ⟨_, rfl, HB4.out, rfl⟩
    · obtain ⟨b, rv, yv, rfl, hlb, hfl, ho, hwy⟩ := hp3
      have HT := Lib.hid (told_some b w3)
      have HH := Lib.hid (And.intro hlb (And.intro hfl (And.intro ho hwy)))
      clear hlb hfl ho hwy
      go_wp2_with fail
      refine HT.out.mono ?_
      rintro e w4 ⟨rfl, hb4⟩
      have HB4 := Lib.hid (HB3.out.trans (hb4.mono (by omega)))
      have HB34 := Lib.hid hb4
      clear hb4 HT
      go_wp2_with fail
      go_ret
      obtain ⟨hlb, hfl, ho, hwy⟩ := HH.out
      refine ⟨_, rfl, HB4.out, b, rv, yv, rfl, by omega, (HB34.out.block b (Array.getElem?_eq_some_iff.1 hfl).1).trans hfl, ownsRow_low (ownsRow_below ho HB34.out) (by omega), ((YAt.of_why hwy).low (by omega)).below HB34.out⟩
  · unfold ErrAt at he2
    rw [if_neg h0] at he2
    obtain ⟨b, rp, rfl, hlb, hfl, ho⟩ := he2
    have ha : r = some (1, 0, [], (fieldWhy t).1) := by rw [HR.out]; unfold fieldAns; rw [if_neg h0]
    subst ha
    have hk := (fieldWhy_told t).resolve_left h0
    obtain ⟨A, n, m, rfl⟩ := own_slice ho
    have HH := Lib.hid (And.intro hlb hfl)
    clear hlb hfl ho HWr HR
    go_wp2_with fail
    go_ret
    obtain ⟨hlb, hfl⟩ := HH.out
    refine ⟨_, rfl, HB2.out.alloc (by omega) _, _, _, _, rfl, ?_, World.alloc_heap_new _ _, World.ownsRow_nil _ _ _ _, .inr (.inr ⟨.inr hk, b, A, n, m, rfl, by omega, ?_⟩)⟩
    · omega
    · exact hfl.below (below_a1 _ _) hfl.lt
end Go.Proofs.YtcjllhdbepchnaaGreatDoor
