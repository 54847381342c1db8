/-
  fit.Check: what is told of a tuple of a schema's.
-/
import Derived.Test.YtcjllhdbepchnaaGreatDoorLAB
import Derived.Test.YtcjllhdbepchnaaGreatDoorLAH
import Derived.Test.YtcjllhdbepchnaaGreatDoorLAP
import Derived.Test.YtcjllhdbepchnaaGreatDoorLAC
/-! fit.Check: what is told of a tuple of a schema's. -/
namespace Go.Proofs.YtcjllhdbepchnaaGreatDoor
open Go.RowKit Go.WideShapes
set_option linter.unusedVariables false
/-- A tuple of such fields. -/
def tupS : FS := { FS.zero with kind := 7 }
def schemaAns (limit : Int) (l : List FT) (p : PT) : FR := if (schemaWhy limit l).1 = 0 then FT.fit (.mk tupS l) p else some (1, 0, [], (schemaWhy limit l).1)
theorem tup_deep {limit : Int} {l : List FT} (h : (schemaWhy limit l).1 = 0) : (FT.mk tupS l).deep ≤ 17 ∧ KOk (.mk tupS l) ∧ (FT.mk tupS l).s.ok := by
  have h1 := (schemaWhy_ok.1 h).2.2.2.1
  refine ⟨?_, .mk (by show 7 ≤ 7; omega) fun x hx => KOk.of_good x _ _ (FT.goodL_mem h1 x hx), ?_⟩
  · rw [FT.deep_eq]
    have : ∀ l : List FT, (∀ x ∈ l, x.deep ≤ 16) → FT.deepL l ≤ 16 := by
      intro l
      induction l with
      | nil => intro _; rw [FT.deepL]; omega
      | cons t r ihr =>
        intro h
        rw [FT.deepL]
        have h1 := h t List.mem_cons_self
        have h2 := ihr fun x hx => h x (List.mem_cons_of_mem _ hx)
        omega
    have := this l (fun x hx => by have := FT.good_deep x _ _ (FT.goodL_mem h1 x hx); omega)
    show FT.deepL l + 1 ≤ 17
    omega
  · refine ⟨Nat.zero_le _, by show 7 < 256; omega, by show 0 < 256; omega, Nat.zero_le _, Nat.zero_le _, ?_, ?_, ?_, ?_⟩ <;> (show _ ≤ _) <;> simp [FT.s, tupS, FS.zero]
theorem schemaAns_ok (limit : Int) (l : List FT) (p : PT) : AnsOk (schemaAns limit l p) := by
  unfold schemaAns
  split
  · rename_i h0
    have h1 := FT.fit_told (.mk tupS l) p
    have h2 := FT.fit_len (.mk tupS l) p
    have h3 := (tup_deep h0).1
    revert h1 h2
    generalize FT.fit (.mk tupS l) p = r
    intro h1 h2
    rcases r with _ | ⟨c, a, q, y⟩
    · trivial
    · have h4 : q.length ≤ (FT.mk tupS l).deep := h2
      refine ⟨.inr ⟨h1.1, h1.2.1⟩, ?_, by omega⟩
      rcases h1.2.2 with ⟨_, h⟩ | ⟨_, h⟩ | ⟨_, _, h⟩
      · exact .inr (.inl h)
      · exact .inr (.inr (.inl h))
      · exact .inl h
  · rename_i h0
    have h9 := (schemaWhy_told limit l).resolve_left (fun h => h0 h.1)
    exact ⟨.inl rfl, .inr (.inr (.inr ⟨h9.1, h9.2.1⟩)), Nat.zero_le _⟩
/-- A schema's block. -/
def SBx (W : World) (b : Nat) (limit : Int) (A : Option Addr) (n c : Nat) : Prop := W.heap[b]? = some (.cells #[.int .i64 limit, .slice A n c] 24 (0, 0))
theorem SBx.cells {W : World} {b n c : Nat} {limit : Int} {A : Option Addr} (h : SBx W b limit A n c) : W.cell? ⟨b, 0, none⟩ = some (.int .i64 limit) ∧ W.cell? ⟨b, 1, none⟩ = some (.slice A n c) := by simp [World.cell?, show W.heap[b]? = _ from h]
theorem schemaWhy_told2 (limit : Int) (l : List FT) : (schemaWhy limit l).1 = 0 ∨ (111 ≤ (schemaWhy limit l).1 ∧ (schemaWhy limit l).1 ≤ 116) := by
  rcases schemaWhy_told limit l with h | h
  · exact .inl h.1
  · exact .inr ⟨h.1, h.2.1⟩
set_option maxRecDepth 100000 in
set_option maxHeartbeats 2000000 in
theorem check12_any (limit : Int) (l : List FT) (p : PT) (v : Value) (a : Option Addr) (c : Nat) (w : World) (hraw : RawOk p) (hlc : l.length ≤ c) (hc : c ≤ 140737488351232) (hf : FieldsAt w (· < w.heap.size) l a) (hv : ValueAt w (· < w.heap.size) p v) :
    Calls Tryz.prog 14 #[.agg #[.int .i64 limit, .slice a l.length c], v] w (AnsPost (schemaAns limit l p) w) := by
  have hb1 := below_a1 w (.cells #[.int .i64 limit, .slice a l.length c] 24)
  have HX1 := Lib.hid (show SBx (w.alloc (.cells #[.int .i64 limit, .slice a l.length c] 24)) w.heap.size limit a l.length c from World.alloc_heap_new w _)
  have HC := Lib.hid (schChk_any limit l a c _ ((hf.below hb1).wide hb1.size) hlc hc)
  have HWr := Lib.hid (fun (W : World) (hb : Below w.heap.size w W) (h0 : (schemaWhy limit l).1 = 0) => show Calls Tryz.prog 44 #[.agg #[.string ⟨#[]⟩, .int .u8 7, .bool false, .int .u8 0, .bool false, .bool false, .string ⟨#[]⟩, .bool false, .string ⟨#[]⟩, .int .i64 0, .int .i64 0, .bool false, .bool false, .slice a l.length c], v] W (WrongPost (FT.fit (.mk tupS l) p) W) from wrong_any (.mk tupS l) p v a c W (by have := (tup_deep h0).1; omega) hraw (tup_deep h0).2.1 (tup_deep h0).2.2 hlc hc ((hf.below hb).wide hb.size) ((hv.below hb).wide hb.size))
  have HB1 := Lib.hid hb1
  have hone := hv.one
  obtain ⟨r, hr⟩ : ∃ r, r = schemaAns limit l p := ⟨_, rfl⟩
  rw [← hr]
  have HR := Lib.hid hr
  clear hb1 hf hv hraw hr
  go_enter Tryz.func14, Tryz.ntmps14
  go_wp2_with fail
  refine HC.out.mono ?_
  rintro e w2 ⟨u, rfl, hb2, he2⟩
  have hz2 := hb2.size
  rw [World.size_alloc] at hz2 he2
  have HB2 := Lib.hid (HB1.out.trans (hb2.mono (by simp)))
  have HX2 := Lib.hid (show SBx w2 w.heap.size limit a l.length c from (hb2.block _ (by simp)).trans HX1.out)
  clear hb2 HC HX1 HB1
  by_cases h0 : (schemaWhy limit l).1 = 0
  · unfold ErrAt at he2
    rw [if_pos h0] at he2
    subst he2
    have ha : r = FT.fit (.mk tupS l) p := by rw [HR.out]; unfold schemaAns; rw [if_pos h0]
    have HWr2 := Lib.hid (HWr.out w2 HB2.out h0)
    rw [← ha] at HWr2
    clear ha HWr h0 HR
    obtain ⟨x0, x1⟩ := HX2.out.cells
    go_wp2_with fail
    refine HWr2.out.mono ?_
    rintro e w3 ⟨hb3, hp3⟩
    have hz3 := hb3.size
    have HB3 := Lib.hid (HB2.out.trans (hb3.mono (by omega)))
    clear hb3 HWr2 x0 x1
    rcases r with _ | ⟨cc, aa, q, yy⟩
    · obtain rfl := hp3
      have HT := Lib.hid (told_none w3)
      go_wp2_with fail
      refine HT.out.mono ?_
      rintro e w4 ⟨rfl, hb4⟩
      have HB4 := Lib.hid (HB3.out.trans (hb4.mono (by omega)))
      clear hb4 HT
      go_wp2_with fail
      go_ret
      exact ⟨_, rfl, HB4.out, rfl⟩
    · obtain ⟨b, rv, yv, rfl, hlb, hfl, ho, hwy⟩ := hp3
      have HT := Lib.hid (told_some b w3)
      have HH := Lib.hid (And.intro hlb (And.intro hfl (And.intro ho hwy)))
      clear hlb hfl ho hwy
      go_wp2_with fail
      refine HT.out.mono ?_
      rintro e w4 ⟨rfl, hb4⟩
      have HB4 := Lib.hid (HB3.out.trans (hb4.mono (by omega)))
      have HB34 := Lib.hid hb4
      clear hb4 HT
      go_wp2_with fail
      go_ret
      obtain ⟨hlb, hfl, ho, hwy⟩ := HH.out
      refine ⟨_, rfl, HB4.out, b, rv, yv, rfl, by omega, (HB34.out.block b (Array.getElem?_eq_some_iff.1 hfl).1).trans hfl, ownsRow_low (ownsRow_below ho HB34.out) (by omega), ((YAt.of_why hwy).low (by omega)).below HB34.out⟩
  · unfold ErrAt at he2
    rw [if_neg h0] at he2
    obtain ⟨b, rp, rfl, hlb, hfl, ho⟩ := he2
    have ha : r = some (1, 0, [], (schemaWhy limit l).1) := by rw [HR.out]; unfold schemaAns; rw [if_neg h0]
    subst ha
    have hk := (schemaWhy_told2 limit l).resolve_left h0
    obtain ⟨A, n, m, rfl⟩ := own_slice ho
    have HH := Lib.hid (And.intro hlb hfl)
    clear hlb hfl ho HWr HR
    go_wp2_with fail
    go_ret
    obtain ⟨hlb, hfl⟩ := HH.out
    refine ⟨_, rfl, HB2.out.alloc (by omega) _, _, _, _, rfl, ?_, World.alloc_heap_new _ _, World.ownsRow_nil _ _ _ _, .inr (.inr ⟨.inr hk, b, A, n, m, rfl, by omega, ?_⟩)⟩
    · omega
    · exact hfl.below (below_a1 _ _) hfl.lt
end Go.Proofs.YtcjllhdbepchnaaGreatDoor

/-! ref12.CheckWhy: what is told of a tuple of a schema's. -/
namespace Go.Proofs.YtcjllhdbepchnaaGreatDoor
open Go.RowKit Go.WideShapes
set_option linter.unusedVariables false
theorem chk_boxes (limit : Int) (l : List FT) (a : Option Addr) (c : Nat) (ps : Array Value) (w W3 w2 : World) (hW3 : W3 = ((w.alloc (.cells #[.int .i64 limit, .slice a l.length c] 24)).alloc (.cells ps 30)).alloc (.cells #[.int .i64 0, .int .i64 0, .slice none 0 0] 47)) (hb : Below W3.heap.size W3 w2) :
    SBx w2 w.heap.size limit a l.length c ∧ PcBox w2 (w.heap.size + 1) ps ∧ WBox w2 (w.heap.size + 2) ∧ Below w.heap.size w w2 ∧ w.heap.size + 3 ≤ w2.heap.size := by
  have hz : W3.heap.size = w.heap.size + 3 := by rw [hW3]; simp
  have h0 : Below w.heap.size w W3 := by rw [hW3]; exact (((Below.refl w.heap.size w).alloc (Nat.le_refl _) _).alloc (by simp) _).alloc (by simp; omega) _
  have h1 : SBx W3 w.heap.size limit a l.length c := by
    rw [hW3]
    exact (Below.heap_alloc _ _ _ (by simp; omega)).trans ((Below.heap_alloc _ _ _ (by simp)).trans (World.alloc_heap_new w _))
  have h2 : PcBox W3 (w.heap.size + 1) ps := by
    rw [hW3]
    have h9 := World.alloc_heap_new (w.alloc (.cells #[.int .i64 limit, .slice a l.length c] 24)) (.cells ps 30)
    rw [World.size_alloc] at h9
    exact (Below.heap_alloc _ _ _ (by simp)).trans h9
  have h3 : WBox W3 (w.heap.size + 2) := by
    rw [hW3]
    have h9 := World.alloc_heap_new ((w.alloc (.cells #[.int .i64 limit, .slice a l.length c] 24)).alloc (.cells ps 30)) (.cells #[.int .i64 0, .int .i64 0, .slice none 0 0] 47)
    simp only [World.size_alloc] at h9
    exact h9
  exact ⟨(hb.block _ (by omega)).trans h1, (hb.block _ (by omega)).trans h2, (hb.block _ (by omega)).trans h3, h0.trans (hb.mono (by omega)), by have := hb.size; omega⟩
set_option maxRecDepth 100000 in
set_option maxHeartbeats 2000000 in
theorem refCheckWhy_any (limit : Int) (l : List FT) (p : PT) (a : Option Addr) (c : Nat) (a' : Option Addr) (c' : Nat) (w : World) (hraw : RawOk p) (hlc : l.length ≤ c) (hc : c ≤ 140737488351232) (hf : FieldsAt w (· < w.heap.size) l a) (hp : PartAt w (· < w.heap.size) p (partCells p a' c')) :
    Calls Tryz.prog 16 #[.agg #[.int .i64 limit, .slice a l.length c], .agg #[.int .u8 p.kind, .bool p.yes, .bool p.bel, .string p.mag, .string p.raw, .slice a' p.items.length c']] w (RWhyPost (schemaAns limit l p) w) := by
  obtain ⟨W3, hW3⟩ : ∃ W3, W3 = ((w.alloc (.cells #[.int .i64 limit, .slice a l.length c] 24)).alloc (.cells #[.int .u8 p.kind, .bool p.yes, .bool p.bel, .string p.mag, .string p.raw, .slice a' p.items.length c'] 30)).alloc (.cells #[.int .i64 0, .int .i64 0, .slice none 0 0] 47) := ⟨_, rfl⟩
  have HX := Lib.hid (fun (w2 : World) (hb : Below W3.heap.size W3 w2) => chk_boxes limit l a c _ w W3 w2 hW3 hb)
  obtain ⟨_, _, _, hb3, hz3⟩ := HX.out W3 (Below.refl _ _)
  have HC := Lib.hid (refWhy_any limit l a c W3 ((hf.below hb3).wide hb3.size) hlc hc)
  have HIn := Lib.hid (fun (W : World) (hb : Below w.heap.size w W) (h0 : (schemaWhy limit l).1 = 0) => show Calls Tryz.prog 47 #[.agg #[.string ⟨#[]⟩, .int .u8 7, .bool false, .int .u8 0, .bool false, .bool false, .string ⟨#[]⟩, .bool false, .string ⟨#[]⟩, .int .i64 0, .int .i64 0, .bool false, .bool false, .slice a l.length c], .agg #[.int .u8 p.kind, .bool p.yes, .bool p.bel, .string p.mag, .string p.raw, .slice a' p.items.length c']] W (InnerPost (FT.fit (.mk tupS l) p) W) from inner_any (.mk tupS l) p a c a' c' W (by have := (tup_deep h0).1; omega) hraw (tup_deep h0).2.2 hlc hc ((hf.below hb).wide hb.size) ((hp.below hb).wide hb.size))
  obtain ⟨r, hr⟩ : ∃ r, r = schemaAns limit l p := ⟨_, rfl⟩
  rw [← hr]
  have HR := Lib.hid hr
  have HW := Lib.hid hW3
  rw [hW3] at HC
  clear hf hp hraw hr hW3 hb3
  go_enter Tryz.func16, Tryz.ntmps16
  go_wp2_with fail
  refine HC.out.mono ?_
  rintro e w4 ⟨rfl, hb4⟩
  rw [← HW.out] at hb4
  obtain ⟨hx4, hp4, hw4, hB4, hz4⟩ := HX.out w4 hb4
  have HX4 := Lib.hid hx4
  have HP4 := Lib.hid hp4
  have HV4 := Lib.hid hw4
  have HB4 := Lib.hid hB4
  clear hb4 hx4 hp4 hw4 hB4 HC
  by_cases h0 : (schemaWhy limit l).1 = 0
  · have ha : r = FT.fit (.mk tupS l) p := by rw [HR.out]; unfold schemaAns; rw [if_pos h0]
    have HI := Lib.hid (HIn.out w4 HB4.out h0)
    rw [← ha] at HI
    have e0 : ((schemaWhy limit l).1 != 0) = false := by rw [h0]; rfl
    clear ha HR HIn h0
    obtain ⟨x0, x1⟩ := HX4.out.cells
    obtain ⟨y0, y1, y2, y3, y4, y5⟩ := HP4.out.cells
    go_wp2_with fail
    refine HI.out.mono ?_
    rintro e w5 ⟨hb5, hp5⟩
    have hz5 := hb5.size
    have hwd := HV4.out.below hb5 (by omega)
    have HB5 := Lib.hid (HB4.out.trans (hb5.mono (by omega)))
    clear x0 x1 y0 y1 y2 y3 y4 y5 hb5 HI
    obtain ⟨g0, g1, g2⟩ := hwd.cells
    have f0 := hwd.free 0
    have f1 := hwd.free 1
    have f2 := hwd.free 2
    rcases r with _ | ⟨cc, aa, q, yy⟩
    · obtain rfl := hp5
      go_wp2_with fail
      refine bodyPost_ret (by obtain ⟨q0, q1, q2⟩ := hwd.filled (.int .i64 0) (.int .i64 0) (.slice none 0 0); simp [results, Tryz.results16, go_sem, q0, q1, q2]; try rfl) rfl ?_
      exact ⟨none, 0, 0, rfl, ((HB5.out.setCell (by simp only; omega) _).setCell (by simp only; omega) _).setCell (by simp only; omega) _, World.ownsRow_nil _ _ _ _⟩
    · obtain ⟨v, rfl, ho⟩ := hp5
      obtain ⟨A, n, m, rfl⟩ := own_slice ho
      have HO := Lib.hid ho
      clear ho
      go_wp2_with fail
      refine bodyPost_ret (by obtain ⟨q0, q1, q2⟩ := hwd.filled (.int .i64 cc) (.int .i64 aa) (.slice A n m); simp [results, Tryz.results16, go_sem, q0, q1, q2]; try rfl) rfl ?_
      refine ⟨A, n, m, rfl, ((HB5.out.setCell (by simp only; omega) _).setCell (by simp only; omega) _).setCell (by simp only; omega) _, ?_⟩
      have hlo : w.heap.size + 2 < w4.heap.size := by omega
      exact ownsRow_low (((HO.out.setOut (by simp only; omega) _).setOut (by simp only; omega) _).setOut (by simp only; omega) _) (by omega)
  · have ha : r = some (1, 0, [], (schemaWhy limit l).1) := by rw [HR.out]; unfold schemaAns; rw [if_neg h0]
    have e0 : ((schemaWhy limit l).1 != 0) = true := by rw [bne_iff_ne]; exact h0
    subst ha
    clear HR HIn h0
    have hwd := HV4.out
    obtain ⟨g0, g1, g2⟩ := hwd.cells
    have f0 := hwd.free 0
    have f1 := hwd.free 1
    have f2 := hwd.free 2
    go_wp2_with fail
    refine bodyPost_ret (by obtain ⟨q0, q1, q2⟩ := hwd.filled (.int .i64 1) (.int .i64 0) (.slice none 0 0); simp [results, Tryz.results16, go_sem, q0, q1, q2]; try rfl) rfl ?_
    exact ⟨none, 0, 0, rfl, ((HB4.out.setCell (by simp only; omega) _).setCell (by simp only; omega) _).setCell (by simp only; omega) _, World.ownsRow_nil _ _ _ _⟩
end Go.Proofs.YtcjllhdbepchnaaGreatDoor

/-! keep.Spoil: a fault's lists written over, whatever it comes of. -/
namespace Go.Proofs.YtcjllhdbepchnaaGreatDoor
open Go.RowKit Go.WideShapes
set_option linter.unusedVariables false
theorem FlY.other {w : World} {b : Nat} {code at_ : Int} {v yv : Value} (h : FlY w b code at_ v yv) {p : Addr} (hp : p.block ≠ b) (u : Value) : FlY (w.setCell p u) b code at_ v yv := (Below.heap_setCell _ _ _ _ (by omega)).trans h
set_option maxRecDepth 100000 in
set_option maxHeartbeats 2000000 in
theorem spoilY_nil {w0 w : World} {Tb : Nat} {code at_ : Int} {yv : Value} (h : laidMetH Tryz.prog Rows.schemaChecksRow.laid w0) (hb0 : Below w0.heap.size w0 w) (hF : FlY w Tb code at_ (.slice none 0 0) yv) :
    Calls Tryz.prog 18 #[.iface 91 (.pointer (some ⟨Tb, 0, none⟩))] w fun e w' => e = .returned (.tuple #[]) ∧ Spo Tb Tb w w' := by
  have hTl := hF.lt
  have HA := Lib.hid (as_any (Tb := Tb) (b := w.heap.size) (wb := w.alloc (.cells #[.pointer none] 91)) h hb0 (Nat.le_refl _) ((Below.refl _ _).alloc (Nat.le_refl _) _) (BoxAt.new w w.heap.size _ _ rfl))
  have HF := Lib.hid hF
  clear hF h hb0
  go_enter Tryz.func18, Tryz.ntmps18
  go_wp2_with fail
  refine HA.out.mono ?_
  rintro e w1 ⟨rfl, hb1, hf1⟩
  have HF1 := Lib.hid (HF.out.below hb1 hTl)
  have HS1 := Lib.hid (Spo.of (x := Tb) (y := Tb) hb1 (Nat.le_refl _))
  obtain ⟨F0, F1, F2, F3⟩ := HF1.out.cells
  have fz := HF1.out.free 1
  clear HA hb1
  go_wp2_with fail
  go_rounds 1
  all_goals go_end0
  all_goals exact ⟨rfl, HS1.out.set (.inl rfl) _⟩
set_option maxRecDepth 100000 in
set_option maxHeartbeats 2000000 in
theorem spoilY_row {w0 w : World} {Tb g n c : Nat} {code at_ : Int} {yv : Value} (h : laidMetH Tryz.prog Rows.schemaChecksRow.laid w0) (hb0 : Below w0.heap.size w0 w) (hF : FlY w Tb code at_ (.slice (some ⟨g, 0, none⟩) n c) yv) (hg : ∃ cur, w.heap[g]? = some (.cells cur 3 (0, 0)) ∧ n ≤ cur.size) (hn : n ≤ 100000) :
    Calls Tryz.prog 18 #[.iface 91 (.pointer (some ⟨Tb, 0, none⟩))] w fun e w' => e = .returned (.tuple #[]) ∧ Spo Tb g w w' := by
  have hTl := hF.lt
  have hgl : g < w.heap.size := by obtain ⟨cur, h1, _⟩ := hg; exact (Array.getElem?_eq_some_iff.1 h1).1
  have hne : g ≠ Tb := by
    rintro rfl
    obtain ⟨cur, h1, _⟩ := hg
    rw [show w.heap[g]? = _ from hF] at h1
    simp at h1
  have HA := Lib.hid (as_any (Tb := Tb) (b := w.heap.size) (wb := w.alloc (.cells #[.pointer none] 91)) h hb0 (Nat.le_refl _) ((Below.refl _ _).alloc (Nat.le_refl _) _) (BoxAt.new w w.heap.size _ _ rfl))
  have HF := Lib.hid hF
  have HG := Lib.hid hg
  clear hF h hb0 hg
  go_enter Tryz.func18, Tryz.ntmps18
  go_wp2_with fail
  refine HA.out.mono ?_
  rintro e w1 ⟨rfl, hb1, hf1⟩
  have HF1 := Lib.hid (HF.out.below hb1 hTl)
  have HS1 := Lib.hid (Spo.of (x := Tb) (y := g) hb1 (Nat.le_refl _))
  have HG1 := Lib.hid (show ∃ cur, w1.heap[g]? = some (.cells cur 3 (0, 0)) ∧ n ≤ cur.size by obtain ⟨cur, h1, h2⟩ := HG.out; exact ⟨cur, (hb1.block g hgl).trans h1, h2⟩)
  have HC1 := Lib.hid hf1
  clear HA hb1 hf1
  have hf1 := HC1.out
  go_wp2_with fail
  clear hf1
  go_loopw [3] (fun i wr => ∃ k : Nat, i = .int .i64 k ∧ k ≤ n ∧ Hid (Spo Tb g w wr) ∧ Hid (FlY wr Tb code at_ (.slice (some ⟨g, 0, none⟩) n c) yv) ∧ Hid (∃ cur, wr.heap[g]? = some (.cells cur 3 (0, 0)) ∧ n ≤ cur.size) ∧ Hid (wr.cell? ⟨w.heap.size, 0, none⟩ = some (.pointer (some ⟨Tb, 0, none⟩)))) (fun i _ => n - (intOf i).toNat)
  case atStart => exact ⟨0, rfl, by omega, HS1, HF1, HG1, HC1⟩
  case round =>
    clear HS1 HF1 HG1 HC1
    obtain ⟨k, rfl, hk, HS, HFr, HGr, HC⟩ := hrel
    obtain ⟨F0, F1, F2, F3⟩ := HFr.out.cells
    have hf1 := HC.out
    by_cases hlt : k < n
    · obtain ⟨cur, h1, h2⟩ := HGr.out
      have g0 : wr.cell? ⟨g, k, none⟩ = some cur[k] := by simp [World.cell?, h1]
      have z0 : wr.frozen? ⟨g, k, none⟩ = false := by simp [World.frozen?, h1]
      have HS' := Lib.hid (HS.out.set (p := ⟨g, k, none⟩) (.inr rfl) (.int .i64 (-7)))
      have HF' := Lib.hid (HFr.out.other (p := ⟨g, k, none⟩) hne (.int .i64 (-7)))
      have HG' := Lib.hid (show ∃ cur, (wr.setCell ⟨g, k, none⟩ (.int .i64 (-7))).heap[g]? = some (.cells cur 3 (0, 0)) ∧ n ≤ cur.size from ⟨cur.setIfInBounds k (.int .i64 (-7)), by simp [World.setCell, Array.getElem?_modify, h1], by simpa using h2⟩)
      have HC' := Lib.hid (show (wr.setCell ⟨g, k, none⟩ (.int .i64 (-7))).cell? ⟨w.heap.size, 0, none⟩ = some (.pointer (some ⟨Tb, 0, none⟩)) by rw [World.cell?_setCell_other _ _ _ _ (by simp <;> omega)]; exact HC.out)
      go_wp2_with fail
      go_roundw
      case rel => exact ⟨k + 1, by go_num, by omega, HS', HF', HG', HC'⟩
      case measure => simp [intOf]; omega
    · obtain rfl : k = n := by omega
      have fz := HFr.out.free 1
      have HS' := Lib.hid (HS.out.set (p := ⟨Tb, 1, none⟩) (.inl rfl) (.int .i64 (-9)))
      go_wp2_with fail
      go_end0
      exact ⟨rfl, HS'.out⟩
/-- What is told, between two places. -/
def AnsOwn (r : FR) (lo hi : Nat) (W : World) (v : Value) : Prop := match r with
  | none => v = .nilIface
  | some (c, a, q, y) => ∃ b p yv, v = .iface 91 (.pointer (some ⟨b, 0, none⟩)) ∧ lo ≤ b ∧ b < hi ∧ FlY W b c a p yv ∧ W.ownsRow lo 3 1 p q.length (pathVals q) ∧ (∀ g, p.ownBlock = some g → g < hi) ∧ (y = 0 ∧ yv = .nilIface ∨ y = 30 ∧ yv = .iface 34 (.int .i64 30) ∨ (y = 4 ∨ (111 ≤ y ∧ y ≤ 116)) ∧ ∃ b A n c, yv = .iface 91 (.pointer (some ⟨b, 0, none⟩)) ∧ lo ≤ b ∧ b < hi ∧ FltAt W b y 0 (.slice A n c))
theorem AnsAt.own {r : FR} {lo : Nat} {W : World} {v : Value} (h : AnsAt r lo W v) : AnsOwn r lo W.heap.size W v := by
  rcases r with _ | ⟨c, a, q, y⟩
  · exact h
  · obtain ⟨b, p, yv, e, hb, hf, ho, hy⟩ := h
    refine ⟨b, p, yv, e, hb, hf.lt, hf, ho, fun g hg => (ho.lt g hg).2, ?_⟩
    rcases hy with h | h | ⟨h, b2, A, n, c2, e2, hb2, hf2⟩
    · exact .inl h
    · exact .inr (.inl h)
    · exact .inr (.inr ⟨h, b2, A, n, c2, e2, hb2, hf2.lt, hf2⟩)
theorem AnsOwn.ans {r : FR} {lo hi : Nat} {W : World} {v : Value} (h : AnsOwn r lo hi W v) : AnsAt r lo W v := by
  rcases r with _ | ⟨c, a, q, y⟩
  · exact h
  · obtain ⟨b, p, yv, e, hb, _, hf, ho, _, hy⟩ := h
    refine ⟨b, p, yv, e, hb, hf, ho, ?_⟩
    rcases hy with h | h | ⟨h, b2, A, n, c2, e2, hb2, _, hf2⟩
    · exact .inl h
    · exact .inr (.inl h)
    · exact .inr (.inr ⟨h, b2, A, n, c2, e2, hb2, hf2⟩)
theorem AnsOwn.scr {r : FR} {lo hi x y : Nat} {W W' : World} {v : Value} (h : AnsOwn r lo hi W v) (hs : Scr x y W W') (hd : y ≤ lo ∨ hi ≤ x) (hW : hi ≤ W.heap.size) : AnsOwn r lo hi W' v := by
  rcases r with _ | ⟨c, a, q, yy⟩
  · exact h
  · obtain ⟨b, p, yv, e, hb, hb2, hf, ho, hg, hy⟩ := h
    refine ⟨b, p, yv, e, hb, hb2, (hs.block b (by omega) (by omega)).trans hf, ownsRow_scr ho hg hs hd hW, hg, ?_⟩
    rcases hy with h | h | ⟨h, b2, A, n, c2, e2, hl2, hh2, hf2⟩
    · exact .inl h
    · exact .inr (.inl h)
    · exact .inr (.inr ⟨h, b2, A, n, c2, e2, hl2, hh2, (hs.block b2 (by omega) (by omega)).trans hf2⟩)
theorem spoilY {r : FR} {w0 w : World} {lo hi : Nat} {v : Value} (hr : AnsOk r) (h : laidMetH Tryz.prog Rows.schemaChecksRow.laid w0) (hb0 : Below w0.heap.size w0 w) (he : AnsOwn r lo hi w v) :
    Calls Tryz.prog 18 #[v] w fun e w' => e = .returned (.tuple #[]) ∧ Scr lo hi w w' := by
  rcases r with _ | ⟨c, a, q, y⟩
  · obtain rfl := he
    exact (spoil_none w).mono fun e w' ⟨h1, h2⟩ => ⟨h1, h2.os, h2.tape, h2.output, h2.size, fun b hb _ => h2.block b hb⟩
  · obtain ⟨b, p, yv, rfl, hb, hb2, hf, ho, hg, hy⟩ := he
    obtain ⟨hl, ⟨rfl, hn⟩ | ⟨g, cap, cur, rfl, h1, h2, h3, h4, h5, h6⟩⟩ := ho
    · exact (spoilY_nil h hb0 hf).mono fun e w' ⟨k1, k2⟩ => ⟨k1, Scr.ofSpo k2 ⟨hb, hb2⟩ ⟨hb, hb2⟩⟩
    · exact (spoilY_row h hb0 hf ⟨cur, h2, by omega⟩ (by have := hr.2.2; omega)).mono fun e w' ⟨k1, k2⟩ => ⟨k1, Scr.ofSpo k2 ⟨hb, hb2⟩ ⟨h1, hg g rfl⟩⟩
end Go.Proofs.YtcjllhdbepchnaaGreatDoor
