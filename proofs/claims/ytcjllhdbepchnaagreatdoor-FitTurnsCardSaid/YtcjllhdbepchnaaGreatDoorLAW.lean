/-
  fit.Check: what is told of a tuple of a schema's.
-/
import Derived.Test.YtcjllhdbepchnaaGreatDoorLAB
namespace Go.Proofs.YtcjllhdbepchnaaGreatDoor
open Go.RowKit Go.WideShapes
set_option linter.unusedVariables false
/-- A tuple of such fields. -/
def tupS : FS := { FS.zero with kind := 7 }
def schemaAns (limit : Int) (l : List FT) (p : PT) : FR := if (schemaWhy limit l).1 = 0 then FT.fit (.mk tupS l) p else some (1, 0, [], (schemaWhy limit l).1)
theorem tup_deep {limit : Int} {l : List FT} (h : (schemaWhy limit l).1 = 0) : (FT.mk tupS l).deep ≤ 17 ∧ KOk (.mk tupS l) ∧ (FT.mk tupS l).s.ok := by
  have h1 := (schemaWhy_ok.1 h).2.2.2.1
  refine ⟨?_, .mk (by show 7 ≤ 7; omega) fun x hx => KOk.of_good x _ _ (FT.goodL_mem h1 x hx), ?_⟩
  · rw [FT.deep_eq]
    have : ∀ l : List FT, (∀ x ∈ l, x.deep ≤ 16) → FT.deepL l ≤ 16 := by
      intro l
      induction l with
      | nil => intro _; rw [FT.deepL]; omega
      | cons t r ihr =>
        intro h
        rw [FT.deepL]
        have h1 := h t List.mem_cons_self
        have h2 := ihr fun x hx => h x (List.mem_cons_of_mem _ hx)
        omega
    have := this l (fun x hx => by have := FT.good_deep x _ _ (FT.goodL_mem h1 x hx); omega)
    show FT.deepL l + 1 ≤ 17
    omega
  · refine ⟨Nat.zero_le _, by show 7 < 256; omega, by show 0 < 256; omega, Nat.zero_le _, Nat.zero_le _, ?_, ?_, ?_, ?_⟩ <;> (show _ ≤ _) <;> simp [FT.s, tupS, FS.zero]
theorem schemaAns_ok (limit : Int) (l : List FT) (p : PT) : AnsOk (schemaAns limit l p) := by
  unfold schemaAns
  split
  · rename_i h0
    have h1 := FT.fit_told (.mk tupS l) p
    have h2 := FT.fit_len (.mk tupS l) p
    have h3 := (tup_deep h0).1
    revert h1 h2
    generalize FT.fit (.mk tupS l) p = r
    intro h1 h2
    rcases r with _ | ⟨c, a, q, y⟩
    · trivial
    · have h4 : q.length ≤ (FT.mk tupS l).deep := h2
      refine ⟨.inr ⟨h1.1, h1.2.1⟩, ?_, by omega⟩
      rcases h1.2.2 with ⟨_, h⟩ | ⟨_, h⟩ | ⟨_, _, h⟩
      · exact .inr (.inl h)
      · exact .inr (.inr (.inl h))
      · exact .inl h
  · rename_i h0
    have h9 := (schemaWhy_told limit l).resolve_left (fun h => h0 h.1)
    exact ⟨.inl rfl, .inr (.inr (.inr ⟨h9.1, h9.2.1⟩)), Nat.zero_le _⟩
/-- A schema's block. -/
def SBx (W : World) (b : Nat) (limit : Int) (A : Option Addr) (n c : Nat) : Prop := W.heap[b]? = some (.cells #[.int .i64 limit, .slice A n c] 24 (0, 0))
theorem SBx.cells {W : World} {b n c : Nat} {limit : Int} {A : Option Addr} (h : SBx W b limit A n c) : W.cell? ⟨b, 0, none⟩ = some (.int .i64 limit) ∧ W.cell? ⟨b, 1, none⟩ = some (.slice A n c) := by simp [World.cell?, show W.heap[b]? = _ from h]
theorem schemaWhy_told2 (limit : Int) (l : List FT) : (schemaWhy limit l).1 = 0 ∨ (111 ≤ (schemaWhy limit l).1 ∧ (schemaWhy limit l).1 ≤ 116) := by
  rcases schemaWhy_told limit l with h | h
  · exact .inl h.1
  · exact .inr ⟨h.1, h.2.1⟩
set_option maxRecDepth 100000 in
set_option maxHeartbeats 2000000 in
theorem check12_any (limit : Int) (l : List FT) (p : PT) (v : Value) (a : Option Addr) (c : Nat) (w : World) (hraw : RawOk p) (hlc : l.length ≤ c) (hc : c ≤ 140737488351232) (hf : FieldsAt w (· < w.heap.size) l a) (hv : ValueAt w (· < w.heap.size) p v) :
    Calls Tryz.prog 14 #[.agg #[.int .i64 limit, .slice a l.length c], v] w (AnsPost (schemaAns limit l p) w) := by
  have hb1 := below_a1 w (.cells #[.int .i64 limit, .slice a l.length c] 24)
  have HX1 := Lib.hid (show SBx (w.alloc (.cells #[.int .i64 limit, .slice a l.length c] 24)) w.heap.size limit a l.length c from World.alloc_heap_new w _)
  have HC := Lib.hid (schChk_any limit l a c _ ((hf.below hb1).wide hb1.size) hlc hc)
  have HWr := Lib.hid (fun (W : World) (hb : Below w.heap.size w W) (h0 : (schemaWhy limit l).1 = 0) => show Calls Tryz.prog 44 #[.agg #[.string ⟨#[]⟩, .int .u8 7, .bool false, .int .u8 0, .bool false, .bool false, .string ⟨#[]⟩, .bool false, .string ⟨#[]⟩, .int .i64 0, .int .i64 0, .bool false, .bool false, .slice a l.length c], v] W (WrongPost (FT.fit (.mk tupS l) p) W) from wrong_any (.mk tupS l) p v a c W (by have := (tup_deep h0).1; omega) hraw (tup_deep h0).2.1 (tup_deep h0).2.2 hlc hc ((hf.below hb).wide hb.size) ((hv.below hb).wide hb.size))
  have HB1 := Lib.hid hb1
  have hone := hv.one
  obtain ⟨r, hr⟩ : ∃ r, r = schemaAns limit l p := ⟨_, rfl⟩
  rw [← hr]
  have HR := Lib.hid hr
  clear hb1 hf hv hraw hr
  go_enter Tryz.func14, Tryz.ntmps14
  go_wp2_with fail
  refine HC.out.mono ?_
  rintro e w2 ⟨u, rfl, hb2, he2⟩
  have hz2 := hb2.size
  rw [World.size_alloc] at hz2 he2
  have HB2 := Lib.hid (HB1.out.trans (hb2.mono (by simp)))
  have HX2 := Lib.hid (show SBx w2 w.heap.size limit a l.length c from (hb2.block _ (by simp)).trans HX1.out)
  clear hb2 HC HX1 HB1
  by_cases h0 : (schemaWhy limit l).1 = 0
  · unfold ErrAt at he2
    rw [if_pos h0] at he2
    subst he2
    have ha : r = FT.fit (.mk tupS l) p := by rw [HR.out]; unfold schemaAns; rw [if_pos h0]
    have HWr2 := Lib.hid (HWr.out w2 HB2.out h0)
    rw [← ha] at HWr2
    clear ha HWr h0 HR
    obtain ⟨x0, x1⟩ := HX2.out.cells
    go_wp2_with fail
    refine HWr2.out.mono ?_
    rintro e w3 ⟨hb3, hp3⟩
    have hz3 := hb3.size
    have HB3 := Lib.hid (HB2.out.trans (hb3.mono (by omega)))
    clear hb3 HWr2 x0 x1
    rcases r with _ | ⟨cc, aa, q, yy⟩
    · obtain rfl := hp3
      have HT := Lib.hid (told_none w3)
      go_wp2_with fail
      refine HT.out.mono ?_
      rintro e w4 ⟨rfl, hb4⟩
      have HB4 := Lib.hid (HB3.out.trans (hb4.mono (by omega)))
      clear hb4 HT
      go_wp2_with fail
      go_ret
      exact ⟨_, rfl, HB4.out, rfl⟩
    · obtain ⟨b, rv, yv, rfl, hlb, hfl, ho, hwy⟩ := hp3
      have HT := Lib.hid (told_some b w3)
      have HH := Lib.hid (And.intro hlb (And.intro hfl (And.intro ho hwy)))
      clear hlb hfl ho hwy
      go_wp2_with fail
      refine HT.out.mono ?_
      rintro e w4 ⟨rfl, hb4⟩
      have HB4 := Lib.hid (HB3.out.trans (hb4.mono (by omega)))
      have HB34 := Lib.hid hb4
      clear hb4 HT
      go_wp2_with fail
      go_ret
      obtain ⟨hlb, hfl, ho, hwy⟩ := HH.out
      refine ⟨_, rfl, HB4.out, b, rv, yv, rfl, by omega, (HB34.out.block b (Array.getElem?_eq_some_iff.1 hfl).1).trans hfl, ownsRow_low (ownsRow_below ho HB34.out) (by omega), ((YAt.of_why hwy).low (by omega)).below HB34.out⟩
  · unfold ErrAt at he2
    rw [if_neg h0] at he2
    obtain ⟨b, rp, rfl, hlb, hfl, ho⟩ := he2
    have ha : r = some (1, 0, [], (schemaWhy limit l).1) := by rw [HR.out]; unfold schemaAns; rw [if_neg h0]
    subst ha
    have hk := (schemaWhy_told2 limit l).resolve_left h0
    obtain ⟨A, n, m, rfl⟩ := own_slice ho
    have HH := Lib.hid (And.intro hlb hfl)
    clear hlb hfl ho HWr HR
    go_wp2_with fail
    go_ret
    obtain ⟨hlb, hfl⟩ := HH.out
    refine ⟨_, rfl, HB2.out.alloc (by omega) _, _, _, _, rfl, ?_, World.alloc_heap_new _ _, World.ownsRow_nil _ _ _ _, .inr (.inr ⟨.inr hk, b, A, n, m, rfl, by omega, ?_⟩)⟩
    · omega
    · exact hfl.below (below_a1 _ _) hfl.lt
end Go.Proofs.YtcjllhdbepchnaaGreatDoor
