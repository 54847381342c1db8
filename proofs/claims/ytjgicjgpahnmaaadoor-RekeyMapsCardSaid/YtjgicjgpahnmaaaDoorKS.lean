/-
  dovetailkeep.Deep, so far as it says how many parts there are.
-/
import Derived.Test.YtjgicjgpahnmaaaDoorKQ
import Derived.Deep.MidRow
import Derived.ArgAppend
import Derived.Laws.MakeOwn
import Derived.Deep.QuietTactic
import Derived.BigQuiet
/-! dovetailkeep.Deep, so far as it says how many parts there are. -/
namespace Go.Proofs.YtjgicjgpahnmaaaDoor
open Go.RowKit Go.WideShapes
set_option linter.unusedVariables false
mutual
/-- How many parts. -/
def PT.count : PT → Nat
  | .mk _ _ _ _ _ l => PT.countL l + 1
def PT.countL : List PT → Nat
  | [] => 0
  | t :: l => PT.count t + PT.countL l
end
theorem PT.count_eq (t : PT) : t.count = PT.countL t.items + 1 := by cases t; simp [PT.count, PT.items]
theorem PT.count_pos (t : PT) : 1 ≤ t.count := by rw [PT.count_eq]; omega
theorem PT.countL_take : ∀ {l : List PT} {k : Nat} (h : k < l.length), PT.countL (l.take (k + 1)) = PT.countL (l.take k) + l[k].count
  | [], k, h => absurd h (Nat.not_lt_zero k)
  | t :: l, 0, _ => by simp [PT.countL]
  | t :: l, k + 1, h => by
    have := PT.countL_take (l := l) (k := k) (by simpa using h)
    simp only [List.take_succ_cons, PT.countL, List.getElem_cons_succ]; omega
theorem PT.countL_len : ∀ (l : List PT), l.length ≤ PT.countL l
  | [] => Nat.le_refl _
  | t :: l => by have := PT.countL_len l; have := PT.count_pos t; simp only [PT.countL, List.length_cons]; omega
theorem PT.countL_mem : ∀ {l : List PT} {x : PT}, x ∈ l → x.count ≤ PT.countL l
  | t :: l, x, h => by
    rcases List.mem_cons.1 h with rfl | h
    · simp only [PT.countL]; omega
    · have := PT.countL_mem h; simp only [PT.countL]; omega
/-- Not too many to be gone through. -/
def Small (t : PT) : Prop := t.count ≤ 16777217
theorem Small.item {t x : PT} (h : Small t) (hx : x ∈ t.items) : Small x := by
  unfold Small at *; rw [PT.count_eq] at h; have := PT.countL_mem hx; omega
theorem Small.len {t : PT} (h : Small t) : t.items.length ≤ 16777216 := by
  unfold Small at *; rw [PT.count_eq] at h; have := PT.countL_len t.items; omega
def DeepPostX (t : PT) (x l : Int) (L : Nat) (w : World) (e : Ending) (w' : World) : Prop := ∃ n l', e = .returned (.int .i64 n) ∧ IntCell w' L l' ∧ w.grownBy w' (some L) ∧ 0 ≤ n ∧ n ≤ 82 - x ∧ -1 ≤ l' ∧ l' < l ∧ (n ≤ 40 → 0 ≤ l' ∧ (t.count : Int) ≤ l - l')
/-- Not deep: not many. -/
def DeepX (t : PT) (w : World) (e : Ending) (w' : World) : Prop := ∃ n, e = .returned (.int .i64 n) ∧ Below w.heap.size w w' ∧ (n ≤ 40 → Small t)
set_option maxRecDepth 100000 in
set_option maxHeartbeats 4000000 in
theorem deep_anyX : ∀ (t : PT) (a : Option Addr) (c : Nat) (x l : Int) (L B : Nat) (w : World), 0 ≤ x → x ≤ 41 → 0 ≤ l → l ≤ 16777216 → PartAt w (· < B) t (partCells t a c) → B ≤ L → IntCell w L l →
    Calls Tryd.prog 39 #[.agg (partCells t a c).toArray, .int .i64 x, .pointer (some ⟨L, 0, none⟩)] w (DeepPostX t x l L w) := by
  refine PT.all fun t ih => ?_
  intro a c x l L B w hx0 hx1 hl0 hl1 hp hBL hL
  obtain ⟨a1, c1, e1, hk, hm, hr, hlc, hcm, hits⟩ := hp.open
  obtain ⟨rfl, rfl⟩ : a1 = a ∧ c1 = c := by simpa [partCells, eq_comm] using e1
  have HI := Lib.hid hits
  have HIH := Lib.hid ih
  have HL := Lib.hid hL
  have hc := hL.at_
  have hf := hL.free 0
  have hLlt : L < w.heap.size := (Array.getElem?_eq_some_iff.1 hL).1
  clear hits ih hp e1 hL
  have hlen : t.items.length ≤ 9223372036854775807 := by unfold maxLen at hcm; omega
  have HC := Lib.hid (PT.count_eq t)
  have HCT := Lib.hid (fun k (h : k < t.items.length) => PT.countL_take h)
  unfold partCells
  have HB2 := Lib.hid ((grownBy_setCell' w L (.int .i64 ((l - 1)))).trans (World.grownBy_alloc (w.setCell ⟨L, 0, none⟩ (.int .i64 ((l - 1)))) (.cells #[.int .u8 t.kind, .bool t.yes, .bool t.bel, .string t.mag, .string t.raw, .slice a1 t.items.length c1] 30) _))
  have HP2 := Lib.hid (new_part (w.setCell ⟨L, 0, none⟩ (.int .i64 ((l - 1)))) w.heap.size t a1 c1 30 (by simp))
  have HL2 := Lib.hid ((HL.out.set ((l - 1))).alloc (.cells #[.int .u8 t.kind, .bool t.yes, .bool t.bel, .string t.mag, .string t.raw, .slice a1 t.items.length c1] 30))
  by_cases hx : 40 < x
  · go_enter Tryd.func39, Tryd.ntmps39
    go_wp2_with fail
    go_ret
    exact ⟨_, _, rfl, HL2.out, HB2.out, by omega, by omega, by omega, by omega, fun h => absurd h (by omega)⟩
  · by_cases hn : (l - 1) < 0
    · go_enter Tryd.func39, Tryd.ntmps39
      go_wp2_with fail
      go_ret
      exact ⟨_, _, rfl, HL2.out, HB2.out, by omega, by omega, by omega, by omega, fun h => absurd h (by omega)⟩
    · go_enter Tryd.func39, Tryd.ntmps39
      go_wp2_with fail
      go_loopw [7, 8] (fun n i wr => ∃ (k : Nat) (n' l' : Int), n = .int .i64 n' ∧ i = .int .i64 k ∧ k ≤ t.items.length ∧ Hid (IntCell wr L l') ∧ 0 ≤ n' ∧ n' ≤ 81 - x ∧ 0 ≤ l' ∧ l' < l ∧ Hid (n' ≤ 40 → (PT.countL (t.items.take k) : Int) ≤ l - 1 - l') ∧ Hid (w.grownBy wr (some L)) ∧ Hid (CellsAt wr w.heap.size 0 (partCells t a1 c1)) ∧ w.heap.size < wr.heap.size) (fun _ i _ => t.items.length - (intOf i).toNat)
      case atStart => exact ⟨0, _, _, rfl, rfl, by omega, HL2, by omega, by omega, by omega, by omega, Lib.hid (fun _ => by simp [PT.countL]), HB2, HP2, by simp⟩
      case round =>
        clear HL2 HB2 HP2
        obtain ⟨k, n', l', rfl, rfl, hk, HL', hn0, hn1, hl0', hl1', HCn, HB, HP, hwz⟩ := hrel
        have hp5 := HP.out 5 _ rfl
        have hp0 := HP.out 0 _ rfl
        have hL := HL'.out.at_
        have hLf := HL'.out.free 0
        by_cases hlt : k < t.items.length
        · obtain ⟨b, o, a', c', rfl, hb, k0, k1, k2, k3, k4, k5, hpa⟩ := (PartsAt.keep (fun p hp => HB.out.cell_far p (by omega) (by simp; omega)) _ _ HI.out).cells hlt
          have HR := Lib.hid (HIH.out t.items[k] (List.getElem_mem hlt) a' c' (x + 1) l' L B wr (by omega) (by omega) (by omega) (by omega) hpa hBL HL'.out)
          clear hpa
          go_wp2_with fail
          refine HR.out.mono ?_
          rintro e w' ⟨n2, l2, rfl, hL2, hg2, hm0, hm1, hm2, hm3, hm4⟩
          have HM4 := Lib.hid hm4
          clear hm4
          have HB' := Lib.hid (HB.out.trans hg2)
          have HP' := Lib.hid (HP.out.keep fun p hp => hg2.cell_far p (by omega) (by simp; omega))
          have hz' := hg2.size
          have hL2a := hL2.at_
          have HL2 := Lib.hid hL2
          clear hL hLf hL2 hg2 HR k0 k1 k2 k3 k4 k5 hp0 hp5 HP HB HL'
          have hp5 := HP'.out 5 _ rfl
          have hp0 := HP'.out 0 _ rfl
          by_cases hd : n' < n2
          · by_cases hneg : l2 < 0
            · go_wp2_with fail
              go_ret
              exact ⟨_, _, rfl, HL2.out, HB'.out, by omega, by omega, by omega, by omega, fun h => absurd h (by omega)⟩
            · go_wp2_with fail
              go_roundw
              case rel => exact ⟨k + 1, _, _, rfl, by go_num, by omega, HL2, by omega, by omega, by omega, by omega, Lib.hid (fun h => by have h1 := HCT.out k hlt; have h2 := HCn.out (by omega); have h3 := HM4.out (by omega); omega), HB', HP', by omega⟩
              case measure => simp [intOf]; omega
          · by_cases hneg : l2 < 0
            · go_wp2_with fail
              go_ret
              exact ⟨_, _, rfl, HL2.out, HB'.out, by omega, by omega, by omega, by omega, fun h => absurd h (by omega)⟩
            · go_wp2_with fail
              go_roundw
              case rel => exact ⟨k + 1, _, _, rfl, by go_num, by omega, HL2, by omega, by omega, by omega, by omega, Lib.hid (fun h => by have h1 := HCT.out k hlt; have h2 := HCn.out (by omega); have h3 := HM4.out (by omega); omega), HB', HP', by omega⟩
              case measure => simp [intOf]; omega
        · have HTk := Lib.hid (show t.items.take k = t.items from List.take_of_length_le (by omega))
          by_cases h7 : t.kind = 7
          · go_wp2_with fail
            go_ret
            exact ⟨_, _, rfl, HL'.out, HB.out, by omega, by omega, by omega, by omega, fun h => ⟨by omega, by have h1 := HC.out; have h2 := HCn.out (by omega); rw [HTk.out] at h2; omega⟩⟩
          · by_cases hz : t.items.length = 0
            · go_wp2_with fail
              go_ret
              exact ⟨_, _, rfl, HL'.out, HB.out, by omega, by omega, by omega, by omega, fun h => ⟨by omega, by have h1 := HC.out; have h2 := HCn.out (by omega); rw [HTk.out] at h2; omega⟩⟩
            · go_wp2_with fail
              go_ret
              exact ⟨_, _, rfl, HL'.out, HB.out, by omega, by omega, by omega, by omega, fun h => ⟨by omega, by have h1 := HC.out; have h2 := HCn.out (by omega); rw [HTk.out] at h2; omega⟩⟩

set_option maxRecDepth 100000 in
set_option maxHeartbeats 1000000 in
theorem Deep_anyX (t : PT) (a : Option Addr) (c : Nat) (w : World) (hp : PartAt w (· < w.heap.size) t (partCells t a c)) :
    Calls Tryd.prog 21 #[.agg (partCells t a c).toArray, .int .i64 0] w (DeepX t w) := by
  have HP := Lib.hid hp
  obtain ⟨W1, hW1⟩ : ∃ W1, W1 = w.alloc (.cells (partCells t a c).toArray 30) := ⟨_, rfl⟩
  obtain ⟨W2, hW2⟩ : ∃ W2, W2 = W1.alloc (.cells #[.int .i64 16777216] 3) := ⟨_, rfl⟩
  have hz1 : W1.heap.size = w.heap.size + 1 := by rw [hW1]; simp
  have hI : IntCell W2 (w.heap.size + 1) 16777216 := by
    unfold IntCell; rw [hW2, ← hz1]; exact World.alloc_heap_new W1 _
  have hB : Below w.heap.size w W2 := by
    rw [hW2]; refine Below.alloc ?_ (by omega) _; rw [hW1]; exact (Below.refl _ _).alloc (Nat.le_refl _) _
  have HR := Lib.hid (deep_anyX t a c 0 16777216 (w.heap.size + 1) w.heap.size W2 (by omega) (by omega) (by omega) (by omega) (PartAt.below hp hB) (by omega) hI)
  have HB := Lib.hid hB
  rw [hW2, hW1] at HR HB
  clear hp hI hB hW1 hW2 hz1
  unfold partCells at *
  go_enter Tryd.func21, Tryd.ntmps21
  go_wp2_with fail
  refine HR.out.mono ?_
  rintro e w' ⟨n, l', rfl, _, hg, _, _, _, _, hsm⟩
  have HS := Lib.hid (show n ≤ 40 → Small t from fun h => by have := hsm h; unfold Small; omega)
  clear hsm
  have hb : Below w.heap.size w w' := HB.out.trans (grown_below hg (by simp; omega) (by omega))
  clear HR HB hg
  go_wp2_with fail
  go_ret
  exact ⟨_, rfl, hb, HS.out⟩
end Go.Proofs.YtjgicjgpahnmaaaDoor

/-! Parts whose lists lie each at the head of a row of its own, with room behind; rows that may be written over. -/
namespace Go.Proofs.YtjgicjgpahnmaaaDoor
open Go.RowKit Go.WideShapes
set_option linter.unusedVariables false
/-- What marks the room. -/
def markCells : List Value := [.int .u8 99, .bool false, .bool false, .string ⟨#[]⟩, .string ⟨#[109, 97, 114, 107]⟩, .slice none 0 0]
mutual
/-- A part whose lists have room; M: two places, marked. -/
def RmAt (w : World) (S : Nat → Prop) (M : Bool) : PT → List Value → Prop
  | .mk k y b m r l, cs => ∃ a c, cs = partCells (.mk k y b m r l) a c ∧ k < 256 ∧ m.size ≤ maxLen ∧ r.size ≤ maxLen ∧ l.length ≤ c ∧ c ≤ maxLen ∧
      ((a = none ∧ c = 0 ∧ M = false) ∨ ∃ g cur, a = some ⟨g, 0, none⟩ ∧ S g ∧ w.heap[g]? = some (.cells cur 30 (0, 0)) ∧ cur.size = c * 6 ∧ (M = true → c = l.length + 2 ∧ CellsAt w g (l.length * 6) markCells ∧ CellsAt w g (l.length * 6 + 6) markCells)) ∧
      RmsAt w S M l a
def RmsAt (w : World) (S : Nat → Prop) (M : Bool) : List PT → Option Addr → Prop
  | [], _ => True
  | t :: l, a => ∃ b o cs, a = some ⟨b, o, none⟩ ∧ CellsAt w b o cs ∧ RmAt w S M t cs ∧ RmsAt w S M l (some ⟨b, o + 6, none⟩)
end
section
variable {w w' : World} {S S' : Nat → Prop} {M : Bool}
theorem cell_of_heap {w w' : World} {p : Addr} (h : w'.heap[p.block]? = w.heap[p.block]?) : w'.cell? p = w.cell? p := by unfold World.cell?; rw [h]
mutual
theorem RmAt.keep (hk : ∀ b, S b → w'.heap[b]? = w.heap[b]?) : ∀ (t : PT) (cs : List Value), RmAt w S M t cs → RmAt w' S M t cs
  | .mk k y b m r l, cs, h => by
    obtain ⟨a, c, e, h1, h2, h3, h4, h5, h6, h7⟩ := h
    refine ⟨a, c, e, h1, h2, h3, h4, h5, ?_, ?_⟩
    · rcases h6 with h6 | ⟨g, cur, ea, hS, hg, hs, hM⟩
      · exact .inl h6
      · exact .inr ⟨g, cur, ea, hS, (hk g hS).trans hg, hs, fun e => ⟨(hM e).1, (hM e).2.1.keep fun p hp => cell_of_heap (hp ▸ hk g hS), (hM e).2.2.keep fun p hp => cell_of_heap (hp ▸ hk g hS)⟩⟩
    · refine RmsAt.keep hk l a (fun b o e => ?_) h7
      rcases h6 with h6 | ⟨g, cur, ea, hS, _⟩
      · rw [h6.1] at e; cases e
      · rw [ea] at e; injection e with e; injection e with e _; exact e ▸ hS
theorem RmsAt.keep (hk : ∀ b, S b → w'.heap[b]? = w.heap[b]?) : ∀ (l : List PT) (a : Option Addr), (∀ b o, a = some ⟨b, o, none⟩ → S b) → RmsAt w S M l a → RmsAt w' S M l a
  | [], _, _, _ => trivial
  | t :: l, a, ha, h => by
    obtain ⟨b, o, cs, e, hc, h1, h2⟩ := h
    have hS := ha b o e
    refine ⟨b, o, cs, e, hc.keep fun p hp => cell_of_heap (hp ▸ hk b hS), RmAt.keep hk t cs h1, RmsAt.keep hk l _ (fun b' o' e' => ?_) h2⟩
    injection e' with e'; injection e' with e' _; exact e' ▸ hS
end
mutual
theorem RmAt.more (hB : ∀ b, S b → S' b) : ∀ (t : PT) (cs : List Value), RmAt w S M t cs → RmAt w S' M t cs
  | .mk k y b m r l, cs, h => by
    obtain ⟨a, c, e, h1, h2, h3, h4, h5, h6, h7⟩ := h
    exact ⟨a, c, e, h1, h2, h3, h4, h5, h6.imp id (fun ⟨g, cur, ea, hS, hg, hs, hM⟩ => ⟨g, cur, ea, hB g hS, hg, hs, hM⟩), RmsAt.more hB l a h7⟩
theorem RmsAt.more (hB : ∀ b, S b → S' b) : ∀ (l : List PT) (a : Option Addr), RmsAt w S M l a → RmsAt w S' M l a
  | [], _, _ => trivial
  | t :: l, a, h => by
    obtain ⟨b, o, cs, e, hc, h1, h2⟩ := h
    exact ⟨b, o, cs, e, hc, RmAt.more hB t cs h1, RmsAt.more hB l _ h2⟩
end
mutual
theorem RmAt.part : ∀ (t : PT) (cs : List Value), RmAt w S M t cs → PartAt w S t cs
  | .mk k y b m r l, cs, h => by
    obtain ⟨a, c, e, h1, h2, h3, h4, h5, h6, h7⟩ := h
    refine ⟨a, c, e, h1, h2, h3, h4, h5, RmsAt.part l a (fun b o e => ?_) h7⟩
    rcases h6 with h6 | ⟨g, cur, ea, hS, _⟩
    · rw [h6.1] at e; cases e
    · rw [ea] at e; injection e with e; injection e with e _; exact e ▸ hS
theorem RmsAt.part : ∀ (l : List PT) (a : Option Addr), (∀ b o, a = some ⟨b, o, none⟩ → S b) → RmsAt w S M l a → PartsAt w S l a
  | [], _, _, _ => trivial
  | t :: l, a, ha, h => by
    obtain ⟨b, o, cs, e, hc, h1, h2⟩ := h
    have hS := ha b o e
    refine ⟨b, o, cs, e, hS, hc, RmAt.part t cs h1, RmsAt.part l _ (fun b' o' e' => ?_) h2⟩
    injection e' with e'; injection e' with e' _; exact e' ▸ hS
end
/-- Opened. -/
theorem RmAt.open {t : PT} {cs : List Value} (h : RmAt w S M t cs) : ∃ a c, cs = partCells t a c ∧ t.kind < 256 ∧ t.mag.size ≤ maxLen ∧ t.raw.size ≤ maxLen ∧ t.items.length ≤ c ∧ c ≤ maxLen ∧
    ((a = none ∧ c = 0 ∧ M = false) ∨ ∃ g cur, a = some ⟨g, 0, none⟩ ∧ S g ∧ w.heap[g]? = some (.cells cur 30 (0, 0)) ∧ cur.size = c * 6 ∧ (M = true → c = t.items.length + 2 ∧ CellsAt w g (t.items.length * 6) markCells ∧ CellsAt w g (t.items.length * 6 + 6) markCells)) ∧ RmsAt w S M t.items a := by
  cases t; exact h
theorem RmAt.shut {t : PT} {a : Option Addr} {c : Nat} (h1 : t.kind < 256) (h2 : t.mag.size ≤ maxLen) (h3 : t.raw.size ≤ maxLen) (h4 : t.items.length ≤ c) (h5 : c ≤ maxLen)
    (h6 : (a = none ∧ c = 0 ∧ M = false) ∨ ∃ g cur, a = some ⟨g, 0, none⟩ ∧ S g ∧ w.heap[g]? = some (.cells cur 30 (0, 0)) ∧ cur.size = c * 6 ∧ (M = true → c = t.items.length + 2 ∧ CellsAt w g (t.items.length * 6) markCells ∧ CellsAt w g (t.items.length * 6 + 6) markCells))
    (h7 : RmsAt w S M t.items a) : RmAt w S M t (partCells t a c) := by
  cases t; exact ⟨a, c, rfl, h1, h2, h3, h4, h5, h6, h7⟩
theorem RmsAt.get : ∀ {l : List PT} {a : Option Addr}, RmsAt w S M l a → ∀ {i : Nat} (hi : i < l.length), ∃ b o a' c', a = some ⟨b, o, none⟩ ∧ CellsAt w b (o + i * 6) (partCells l[i] a' c') ∧ RmAt w S M l[i] (partCells l[i] a' c')
  | [], _, _, i, hi => absurd hi (Nat.not_lt_zero i)
  | t :: l, a, h, i, hi => by
    obtain ⟨b, o, cs, e, hc, h1, h2⟩ := h
    obtain ⟨a', c', rfl, _⟩ := h1.open
    cases i with
    | zero => exact ⟨b, o, a', c', e, by simpa using hc, h1⟩
    | succ i =>
      have hi' : i < l.length := by simpa using hi
      obtain ⟨b', o', a2, c2, e', hc', h1'⟩ := RmsAt.get h2 hi'
      simp only [Option.some.injEq, Addr.mk.injEq, and_true] at e'
      obtain ⟨rfl, rfl⟩ := e'
      refine ⟨b, o, a2, c2, e, ?_, h1'⟩
      rw [show o + (i + 1) * 6 = o + 6 + i * 6 by omega]
      exact hc'
theorem RmsAt.cells {l : List PT} {a : Option Addr} (h : RmsAt w S M l a) {i : Nat} (hi : i < l.length) : ∃ b o a' c', a = some ⟨b, o, none⟩ ∧ w.cell? ⟨b, o + i * 6, none⟩ = some (.int .u8 l[i].kind) ∧ w.cell? ⟨b, o + i * 6 + 1, none⟩ = some (.bool l[i].yes) ∧
    w.cell? ⟨b, o + i * 6 + 2, none⟩ = some (.bool l[i].bel) ∧ w.cell? ⟨b, o + i * 6 + 3, none⟩ = some (.string l[i].mag) ∧ w.cell? ⟨b, o + i * 6 + 4, none⟩ = some (.string l[i].raw) ∧ w.cell? ⟨b, o + i * 6 + 5, none⟩ = some (.slice a' l[i].items.length c') ∧
    RmAt w S M l[i] (partCells l[i] a' c') := by
  obtain ⟨b, o, a', c', e, hc, h1⟩ := h.get hi
  exact ⟨b, o, a', c', e, hc 0 _ rfl, hc 1 _ rfl, hc 2 _ rfl, hc 3 _ rfl, hc 4 _ rfl, hc 5 _ rfl, h1⟩
/-- Built of its items. -/
theorem RmsAt.of_get : ∀ {l : List PT} {b o : Nat}, (∀ i (hi : i < l.length), ∃ cs, CellsAt w b (o + i * 6) cs ∧ RmAt w S M l[i] cs) → RmsAt w S M l (some ⟨b, o, none⟩)
  | [], _, _, _ => trivial
  | t :: l, b, o, h => by
    obtain ⟨cs, h1, h2⟩ := h 0 (by simp)
    refine ⟨b, o, cs, rfl, by simpa using h1, by simpa using h2, RmsAt.of_get fun i hi => ?_⟩
    obtain ⟨cs, h1, h2⟩ := h (i + 1) (by simpa using hi)
    exact ⟨cs, by rw [show o + 6 + i * 6 = o + (i + 1) * 6 by omega]; exact h1, by simpa using h2⟩
end
/-- A row of parts that may be written over, so deep; v: the slice. -/
def Wide (w : World) (S : Nat → Prop) : Nat → Value → Prop
  | 0, _ => False
  | d + 1, v => v = .slice none 0 0 ∨ ∃ g n c cur, v = .slice (some ⟨g, 0, none⟩) n c ∧ n ≤ c ∧ c ≤ maxLen ∧ n ≤ 16777216 ∧ S g ∧ w.heap[g]? = some (.cells cur 30 (0, 0)) ∧ cur.size = c * 6 ∧
      ∀ i, i < n → ∃ (k : Int) (y b : Bool) (m r : ByteArray) (v' : Value), CellsAt w g (i * 6) [.int .u8 k, .bool y, .bool b, .string m, .string r, v'] ∧ Wide w S d v'
theorem Wide.up {w : World} {S : Nat → Prop} : ∀ {d : Nat} {v : Value}, Wide w S d v → Wide w S (d + 1) v
  | 0, _, h => h.elim
  | d + 1, v, h => by
    rcases h with h | ⟨g, n, c, cur, e, h1, h2, hn, h3, h4, h5, h6⟩
    · exact .inl h
    · refine .inr ⟨g, n, c, cur, e, h1, h2, hn, h3, h4, h5, fun i hi => ?_⟩
      obtain ⟨k, y, b, m, r, v', h7, h8⟩ := h6 i hi
      exact ⟨k, y, b, m, r, v', h7, Wide.up h8⟩
theorem Wide.le {w : World} {S : Nat → Prop} {d d' : Nat} {v : Value} (h : Wide w S d v) (hd : d ≤ d') : Wide w S d' v := by
  induction d' with
  | zero => have : d = 0 := by omega
            subst this; exact h
  | succ n ih =>
    by_cases e : d = n + 1
    · subst e; exact h
    · exact (ih (by omega)).up
theorem Wide.nil (w : World) (S : Nat → Prop) (d : Nat) : Wide w S (d + 1) (.slice none 0 0) := .inl rfl
/-- A part with room may be written over. -/
theorem RmAt.wide {w : World} {S : Nat → Prop} {M : Bool} : ∀ (t : PT) (a : Option Addr) (c : Nat), Small t → RmAt w S M t (partCells t a c) → Wide w S t.count (.slice a t.items.length c) := by
  refine PT.all fun t ih => ?_
  intro a c hsm h
  obtain ⟨a1, c1, e1, h1, h2, h3, h4, h5, h6, h7⟩ := h.open
  obtain ⟨rfl, rfl⟩ : a1 = a ∧ c1 = c := by simpa [partCells, eq_comm] using e1
  rw [PT.count_eq]
  rcases h6 with ⟨rfl, rfl, _⟩ | ⟨g, cur, rfl, hS, hg, hs, _⟩
  · left
    rw [show t.items.length = 0 by omega]
  · refine .inr ⟨g, _, _, cur, rfl, h4, h5, hsm.len, hS, hg, hs, fun i hi => ?_⟩
    obtain ⟨b, o, a', c', e, hc, hr⟩ := h7.get hi
    simp only [Option.some.injEq, Addr.mk.injEq, and_true] at e
    obtain ⟨rfl, rfl⟩ := e
    exact ⟨_, _, _, _, _, _, by simpa [partCells] using hc, (ih _ (List.getElem_mem hi) a' c' (hsm.item (List.getElem_mem hi)) hr).le (PT.countL_mem (List.getElem_mem hi))⟩
end Go.Proofs.YtjgicjgpahnmaaaDoor

/-! A row with room in the making; stores into the middle of a row; make with room. -/
namespace Go
theorem wpList_make_lc {P : Program} (w : World) {ops : Array Oper} {rest : List Oper} {o : Oper} {a : Act} {Q : Exit → Act → World → Prop}
    (hg : o.guard = none) (l c : Operand) (t : TypeId) (hop : o.op = Op.makeSlice t l c)
    (e : TypeId) (i : TypeInfo) (z : Value) (size : Nat) (h1 : P.underlying t = some (.slice e)) (h2 : P.info? e = some i) (h3 : i.zero = some z) (h4 : i.size = size)
    (kl kc : IntKind) (L C : Int) (n cap : Nat) (hl : a.eval l = .int kl L) (hc : a.eval c = .int kc C) (hL : L = (n : Int)) (hC : C = (cap : Int)) (hn : n ≤ cap) (b2 : i.bytes * cap ≤ 281474976710656) (b3 : cap ≤ 9223372036854775807)
    (hK : wpList P ops Q rest (a.put o.dst (.slice (some ⟨w.heap.size, 0, none⟩) n cap)) (w.alloc (.cells (madeCells z.cells (cap * size)) e))) :
    wpList P ops Q (o :: rest) a w := by
  refine wpList_plain hg fun K hK' => ?_
  subst hL hC
  have hb' : (i.bytes : Int) * (cap : Int) ≤ 281474976710656 := by
    have h : ((i.bytes * cap : Nat) : Int) ≤ 281474976710656 := by omega
    rwa [Int.natCast_mul] at h
  have hrun := run_make (P := P) w t e i z h1 h2 h3 kl kc n cap (by omega) (by omega) hb' (by omega)
  simp only [Int.toNat_natCast, h4] at hrun
  unfold Oper.wp
  simp [execOp, hop, hl, hc, hrun, Result.andThen]
  exact hK' _ _ hK
theorem step_store_mid {P : Program} {ops : Array Oper} {op : Oper} {a : Act} {w : World} {K : Act → World → Prop} {Q : Exit → Act → World → Prop} {E : Prop} (hgd : op.guard = none) (ty : TypeId) (x y : Operand) (ho : op.op = .store ty x y)
    (b o : Nat) (cells : Array Value) (hx : a.eval x = .pointer (some ⟨b, o, none⟩)) (hy : a.eval y = .agg cells)
    (ht : w.there b o cells.size) (hi : (P.info? ty).map (·.size) = some cells.size) (h1 : cells.all (·.oneCell') = true)
    (h : K (a.put op.dst undef) (w.setCells b o cells.toList)) : if Region.wanted op (yielded ops a.tmps) = true then Oper.wp P op a w K Q else E := by
  have hw : Region.wanted op (yielded ops a.tmps) = true := by simp [Region.wanted, hgd]
  rw [if_pos hw]
  exact wp_store_mid ty x y ho b o cells hx hy ht hi h1 h
end Go
namespace Go.Proofs.YtjgicjgpahnmaaaDoor
open Go.RowKit Go.WideShapes
set_option linter.unusedVariables false
theorem setCells_heap (g : Nat) : ∀ (vs : List Value) (o : Nat) (w : World) {b : Nat}, b ≠ g → (w.setCells g o vs).heap[b]? = w.heap[b]?
  | [], _, _, _, _ => rfl
  | v :: r, o, w, b, hb => by
    rw [World.setCells, setCells_heap g r _ _ hb]
    simp [World.setCell, Array.getElem?_modify, Ne.symm hb]
theorem setCells_size (g : Nat) : ∀ (vs : List Value) (o : Nat) (w : World), (w.setCells g o vs).heap.size = w.heap.size
  | [], _, _ => rfl
  | v :: r, o, w => by rw [World.setCells, setCells_size g r]; simp
theorem setCells_blk (g : Nat) (T : TypeId) (n : Nat) : ∀ (vs : List Value) (o : Nat) (w : World), (∃ cur, w.heap[g]? = some (.cells cur T (0, 0)) ∧ cur.size = n) → ∃ cur, (w.setCells g o vs).heap[g]? = some (.cells cur T (0, 0)) ∧ cur.size = n
  | [], _, _, h => h
  | v :: r, o, w, h => by
    rw [World.setCells]
    refine setCells_blk g T n r _ _ ?_
    obtain ⟨cur, h1, h2⟩ := h
    exact ⟨cur.setIfInBounds o v, by simp [World.setCell, Array.getElem?_modify, h1], by simp [h2]⟩
theorem below_puts {B : Nat} {w w' : World} (h : Below B w w') (g : Nat) (hg : B ≤ g) : ∀ (vs : List Value) (o : Nat), Below B w (w'.setCells g o vs) := by
  intro vs
  induction vs generalizing w' with
  | nil => intro o; exact h
  | cons v r ih => intro o; rw [World.setCells]; exact ih (h.setCell (p := ⟨g, o, none⟩) (by simpa using hg) v) (o + 1)
theorem blk_there {w : World} {g n : Nat} {T : TypeId} (h : ∃ cur, w.heap[g]? = some (.cells cur T (0, 0)) ∧ cur.size = n) {o m : Nat} (ho : o + m ≤ n) : w.there g o m := fun j hj => by
  obtain ⟨cur, h1, h2⟩ := h
  refine ⟨?_, by simp [World.frozen?, h1]⟩
  have : o + j < cur.size := by omega
  simp [World.cell?, h1, Array.getElem?_eq_getElem this]
theorem CellsAt.put {w : World} {g o : Nat} {cs : List Value} (h : w.there g o cs.length) : CellsAt (w.setCells g o cs) g o cs := fun j v hv => by
  have hj : j < cs.length := (List.getElem?_eq_some_iff.1 hv).1
  rw [World.cell?_setCells_in g cs o w (fun i hi => (h i hi).1) j hj, ← hv, List.getElem?_eq_getElem hj]
theorem CellsAt.apart {w : World} {b o : Nat} {cs : List Value} (h : CellsAt w b o cs) (g o' : Nat) (vs : List Value) (hap : b ≠ g ∨ o + cs.length ≤ o' ∨ o' + vs.length ≤ o) : CellsAt (w.setCells g o' vs) b o cs := fun j v hv => by
  have hj : j < cs.length := (List.getElem?_eq_some_iff.1 hv).1
  rw [World.cell?_setCells_out g vs o' w ⟨b, o + j, none⟩ (fun hb _ => by
    rcases hap with hap | hap | hap
    · exact absurd hb hap
    · left; show o + j < o'; omega
    · right; show o' + vs.length ≤ o + j; omega)]
  exact h j v hv
theorem partCells_len (t : PT) (a : Option Addr) (c : Nat) : (partCells t a c).length = 6 := rfl
theorem markCells_len : markCells.length = 6 := rfl
/-- A row with room in the making: k of n parts are there, j of two places are marked. -/
structure LRow (w : World) (g n k j : Nat) (its : List PT) : Prop where
  blk : ∃ cur, w.heap[g]? = some (.cells cur 30 (0, 0)) ∧ cur.size = (n + 2) * 6
  it : ∀ i (hi : i < its.length), i < k → ∃ a' c', CellsAt w g (i * 6) (partCells its[i] a' c') ∧ RmAt w (fun b => g < b ∧ b < w.heap.size) true its[i] (partCells its[i] a' c')
  mrk : ∀ i, i < j → CellsAt w g ((n + i) * 6) markCells
section
variable {w w' : World} {g n k j : Nat} {its : List PT}
theorem LRow.there (h : LRow w g n k j its) {i : Nat} (hi : i < n + 2) : w.there g (i * 6) 6 := blk_there h.blk (by omega)
theorem LRow.lt (h : LRow w g n k j its) : g < w.heap.size := by obtain ⟨cur, h1, _⟩ := h.blk; exact (Array.getElem?_eq_some_iff.1 h1).1
theorem LRow.below (h : LRow w g n k j its) (hb : Below w.heap.size w w') : LRow w' g n k j its :=
  ⟨by obtain ⟨cur, h1, h2⟩ := h.blk; exact ⟨cur, (hb.block g (Array.getElem?_eq_some_iff.1 h1).1).trans h1, h2⟩,
   fun i hi hk => by
    obtain ⟨a', c', h1, h2⟩ := h.it i hi hk
    exact ⟨a', c', h1.keep fun p hp => hb.cell (by rw [hp]; exact h.lt), RmAt.more (fun b hb' => ⟨hb'.1, Nat.lt_of_lt_of_le hb'.2 hb.size⟩) _ _ (RmAt.keep (fun b hb' => hb.block b hb'.2) _ _ h2)⟩,
   fun i hi => (h.mrk i hi).keep fun p hp => hb.cell (by rw [hp]; exact h.lt)⟩
theorem LRow.put (h : LRow w g n k j its) (hl : its.length = n) (hk : k < n) {a' : Option Addr} {c' : Nat} (hr : RmAt w (fun b => g < b ∧ b < w.heap.size) true (its[k]'(by omega)) (partCells (its[k]'(by omega)) a' c')) :
    LRow (w.setCells g (k * 6) (partCells (its[k]'(by omega)) a' c')) g n (k + 1) j its := by
  have hz := setCells_size g (partCells (its[k]'(by omega)) a' c') (k * 6) w
  refine ⟨setCells_blk g _ _ _ _ _ h.blk, fun i hi hik => ?_, fun i hi => (h.mrk i hi).apart _ _ _ (.inr (.inr (by rw [partCells_len, Nat.add_mul]; omega)))⟩
  by_cases e : i = k
  · subst e
    exact ⟨a', c', CellsAt.put (h.there (by omega)), RmAt.more (fun b hb' => ⟨hb'.1, by omega⟩) _ _ (RmAt.keep (fun b hb' => setCells_heap g _ _ _ (by omega)) _ _ hr)⟩
  · obtain ⟨a2, c2, h1, h2⟩ := h.it i hi (by omega)
    exact ⟨a2, c2, h1.apart _ _ _ (.inr (.inl (by rw [partCells_len]; omega))), RmAt.more (fun b hb' => ⟨hb'.1, by omega⟩) _ _ (RmAt.keep (fun b hb' => setCells_heap g _ _ _ (by omega)) _ _ h2)⟩
theorem LRow.mark (h : LRow w g n k j its) (hk : its.length = n) (hj : j < 2) : LRow (w.setCells g ((n + j) * 6) markCells) g n k (j + 1) its := by
  have hz := setCells_size g markCells ((n + j) * 6) w
  refine ⟨setCells_blk g _ _ _ _ _ h.blk, fun i hi hik => ?_, fun i hi => ?_⟩
  · obtain ⟨a2, c2, h1, h2⟩ := h.it i hi hik
    exact ⟨a2, c2, h1.apart _ _ _ (.inr (.inl (by rw [partCells_len]; omega))), RmAt.more (fun b hb' => ⟨hb'.1, by omega⟩) _ _ (RmAt.keep (fun b hb' => setCells_heap g _ _ _ (by omega)) _ _ h2)⟩
  · by_cases e : i = j
    · subst e; exact CellsAt.put (h.there (by omega))
    · exact (h.mrk i (by omega)).apart _ _ _ (.inr (.inl (by rw [markCells_len]; omega)))
theorem LRow.markAt {m : Nat} (h : LRow w g n k (m - n) its) (hk : its.length = n) (hm : n ≤ m) (hj : m < n + 2) : LRow (w.setCells g (m * 6) markCells) g n k (m + 1 - n) its := by
  have := h.mark hk (by omega)
  rw [show n + (m - n) = m by omega] at this
  rw [show m + 1 - n = m - n + 1 by omega]; exact this
theorem LRow.out (h : LRow w g n k j its) {b o : Nat} (hb : b < g) (u : Value) : LRow (w.setCell ⟨b, o, none⟩ u) g n k j its := by
  have hheap : ∀ b', b' ≠ b → (w.setCell ⟨b, o, none⟩ u).heap[b']? = w.heap[b']? := fun b' hb' => by simp [World.setCell, Array.getElem?_modify, Ne.symm hb']
  have hz : (w.setCell ⟨b, o, none⟩ u).heap.size = w.heap.size := by simp
  have hc : ∀ p : Addr, p.block = g → (w.setCell ⟨b, o, none⟩ u).cell? p = w.cell? p := fun p hp => cell_of_heap (by rw [hp]; exact hheap g (by omega))
  refine ⟨by obtain ⟨cur, h1, h2⟩ := h.blk; exact ⟨cur, (hheap g (by omega)).trans h1, h2⟩, fun i hi hik => ?_, fun i hi => (h.mrk i hi).keep hc⟩
  obtain ⟨a2, c2, h1, h2⟩ := h.it i hi hik
  exact ⟨a2, c2, h1.keep hc, RmAt.more (fun b hb' => ⟨hb'.1, by omega⟩) _ _ (RmAt.keep (fun b' hb' => hheap b' (by omega)) _ _ h2)⟩
theorem LRow.rm {t : PT} (h : LRow w g n n 2 t.items) (hl : t.items.length = n) (hn : n + 2 ≤ maxLen) (hk : t.kind < 256 ∧ t.mag.size ≤ maxLen ∧ t.raw.size ≤ maxLen) : RmAt w (fun b => g ≤ b ∧ b < w.heap.size) true t (partCells t (some ⟨g, 0, none⟩) (n + 2)) := by
  obtain ⟨cur, h1, h2⟩ := h.blk
  refine RmAt.shut hk.1 hk.2.1 hk.2.2 (by omega) hn (.inr ⟨g, cur, rfl, ⟨Nat.le_refl _, h.lt⟩, h1, h2, fun _ => ⟨by omega, ?_, ?_⟩⟩) (RmsAt.of_get fun i hi => ?_)
  · have := h.mrk 0 (by omega); rw [hl]; exact this
  · have := h.mrk 1 (by omega); rw [hl, show n * 6 + 6 = (n + 1) * 6 by omega]; exact this
  · obtain ⟨a2, c2, h3, h4⟩ := h.it i hi (by omega)
    exact ⟨_, by rw [Nat.zero_add]; exact h3, RmAt.more (fun b hb' => ⟨by omega, hb'.2⟩) _ _ h4⟩
theorem LRow.new (w : World) (T : Nat) (hT : T = w.heap.size) (n : Nat) (c : Array Value) (hc : c.size = (n + 2) * 6) (its : List PT) : LRow (w.alloc (.cells c 30)) T n 0 0 its := by
  subst hT
  exact ⟨⟨c, World.alloc_heap_new w _, hc⟩, fun i hi hk => absurd hk (Nat.not_lt_zero i), fun i hi => absurd hi (Nat.not_lt_zero i)⟩
end
section
variable {w w' : World} {T g : Nat} {x0 x1 x2 x3 x4 x5 : Value}
theorem QBox.puts (h : QBox w T x0 x1 x2 x3 x4 x5) (o : Nat) (vs : List Value) (hne : T ≠ g) : QBox (w.setCells g o vs) T x0 x1 x2 x3 x4 x5 := (setCells_heap g vs o w hne).trans h
theorem RBox.puts (h : RBox w T) (o : Nat) (vs : List Value) (hne : T ≠ g) : RBox (w.setCells g o vs) T := (setCells_heap g vs o w hne).trans h
end
theorem setCells6 (w : World) (g o : Nat) (v0 v1 v2 v3 v4 v5 : Value) : w.setCells g o [v0, v1, v2, v3, v4, v5] = ((((((w.setCell ⟨g, o, none⟩ v0).setCell ⟨g, o + 1, none⟩ v1).setCell ⟨g, o + 2, none⟩ v2).setCell ⟨g, o + 3, none⟩ v3).setCell ⟨g, o + 4, none⟩ v4).setCell ⟨g, o + 5, none⟩ v5) := rfl
theorem puts6 (w : World) (g o : Nat) (t : PT) (a : Option Addr) (c : Nat) : w.setCells g o (partCells t a c) = w.setCells g o [.int .u8 t.kind, .bool t.yes, .bool t.bel, .string t.mag, .string t.raw, .slice a t.items.length c] := rfl
theorem there6 {w : World} {g o : Nat} (h : w.there g o 6) (v0 v1 v2 v3 v4 : Value) : ∃ u0 u1 u2 u3 u4 u5, w.cell? ⟨g, o, none⟩ = some u0 ∧ (w.setCell ⟨g, o, none⟩ v0).cell? ⟨g, o + 1, none⟩ = some u1 ∧ ((w.setCell ⟨g, o, none⟩ v0).setCell ⟨g, o + 1, none⟩ v1).cell? ⟨g, o + 2, none⟩ = some u2 ∧ (((w.setCell ⟨g, o, none⟩ v0).setCell ⟨g, o + 1, none⟩ v1).setCell ⟨g, o + 2, none⟩ v2).cell? ⟨g, o + 3, none⟩ = some u3 ∧ ((((w.setCell ⟨g, o, none⟩ v0).setCell ⟨g, o + 1, none⟩ v1).setCell ⟨g, o + 2, none⟩ v2).setCell ⟨g, o + 3, none⟩ v3).cell? ⟨g, o + 4, none⟩ = some u4 ∧ (((((w.setCell ⟨g, o, none⟩ v0).setCell ⟨g, o + 1, none⟩ v1).setCell ⟨g, o + 2, none⟩ v2).setCell ⟨g, o + 3, none⟩ v3).setCell ⟨g, o + 4, none⟩ v4).cell? ⟨g, o + 5, none⟩ = some u5 ∧ w.frozen? ⟨g, o, none⟩ = false ∧ w.frozen? ⟨g, o + 1, none⟩ = false ∧ w.frozen? ⟨g, o + 2, none⟩ = false ∧ w.frozen? ⟨g, o + 3, none⟩ = false ∧ w.frozen? ⟨g, o + 4, none⟩ = false ∧ w.frozen? ⟨g, o + 5, none⟩ = false := by
  obtain ⟨u0, h0⟩ := Option.isSome_iff_exists.1 (h 0 (by omega)).1
  obtain ⟨u1, h1⟩ := Option.isSome_iff_exists.1 (h 1 (by omega)).1
  obtain ⟨u2, h2⟩ := Option.isSome_iff_exists.1 (h 2 (by omega)).1
  obtain ⟨u3, h3⟩ := Option.isSome_iff_exists.1 (h 3 (by omega)).1
  obtain ⟨u4, h4⟩ := Option.isSome_iff_exists.1 (h 4 (by omega)).1
  obtain ⟨u5, h5⟩ := Option.isSome_iff_exists.1 (h 5 (by omega)).1
  refine ⟨u0, u1, u2, u3, u4, u5, ?_, ?_, ?_, ?_, ?_, ?_, (h 0 (by omega)).2, (h 1 (by omega)).2, (h 2 (by omega)).2, (h 3 (by omega)).2, (h 4 (by omega)).2, (h 5 (by omega)).2⟩
  · exact h0
  · rw [World.cell?_setCell_other _ _ _ _ (by simp)]; exact h1
  · rw [World.cell?_setCell_other _ _ _ _ (by simp), World.cell?_setCell_other _ _ _ _ (by simp)]; exact h2
  · rw [World.cell?_setCell_other _ _ _ _ (by simp), World.cell?_setCell_other _ _ _ _ (by simp), World.cell?_setCell_other _ _ _ _ (by simp)]; exact h3
  · rw [World.cell?_setCell_other _ _ _ _ (by simp), World.cell?_setCell_other _ _ _ _ (by simp), World.cell?_setCell_other _ _ _ _ (by simp), World.cell?_setCell_other _ _ _ _ (by simp)]; exact h4
  · rw [World.cell?_setCell_other _ _ _ _ (by simp), World.cell?_setCell_other _ _ _ _ (by simp), World.cell?_setCell_other _ _ _ _ (by simp), World.cell?_setCell_other _ _ _ _ (by simp), World.cell?_setCell_other _ _ _ _ (by simp)]; exact h5
theorem part_size : (Tryd.prog.info? 30).map (·.size) = some 6 := by kernel_rfl
end Go.Proofs.YtjgicjgpahnmaaaDoor

/-! keep.Kept: a part that was lent is as it was. -/
namespace Go.Proofs.YtjgicjgpahnmaaaDoor
open Go.RowKit Go.WideShapes
set_option linter.unusedVariables false
theorem RmAt.wideS {w : World} {B B' : Nat} {M : Bool} {t : PT} {cs : List Value} (h : RmAt w (· < B) M t cs) (hB : B ≤ B') : RmAt w (· < B') M t cs := RmAt.more (fun b hb => Nat.lt_of_lt_of_le hb hB) _ _ h
theorem RmAt.below {w w' : World} {B : Nat} {M : Bool} {t : PT} {cs : List Value} (h : RmAt w (· < B) M t cs) (hb : Below B w w') : RmAt w' (· < B) M t cs := RmAt.keep (fun b hb' => hb.block b hb') _ _ h
set_option maxRecDepth 100000 in
set_option maxHeartbeats 2000000 in
theorem kept_any : ∀ (t : PT) (a : Option Addr) (c : Nat) (a' : Option Addr) (c' : Nat) (w : World), Small t → RmAt w (· < w.heap.size) true t (partCells t a c) → PartAt w (· < w.heap.size) t (partCells t a' c') →
    Calls Tryd.prog 38 #[.agg (partCells t a c).toArray, .agg (partCells t a' c').toArray] w (Ret (.bool true) w) := by
  refine PT.all fun t ih => ?_
  intro a c a' c' w hsm hp hp'
  obtain ⟨a1, N, e1, _, _, _, _, _, hrow, hits⟩ := hp.open
  obtain ⟨rfl, rfl⟩ : a1 = a ∧ N = c := by simpa [partCells, eq_comm] using e1
  obtain ⟨a2, c2, e2, _, _, _, hlc', hcm', hits'⟩ := hp'.open
  obtain ⟨rfl, rfl⟩ : a2 = a' ∧ c2 = c' := by simpa [partCells, eq_comm] using e2
  obtain ⟨g, cur, rfl, hg, hgb, hgs, hM⟩ : ∃ g cur, a1 = some ⟨g, 0, none⟩ ∧ g < w.heap.size ∧ w.heap[g]? = some (.cells cur 30 (0, 0)) ∧ cur.size = N * 6 ∧ (true = true → N = t.items.length + 2 ∧ CellsAt w g (t.items.length * 6) markCells ∧ CellsAt w g (t.items.length * 6 + 6) markCells) := by
    rcases hrow with ⟨_, _, h⟩ | h
    · cases h
    · exact h
  obtain ⟨hN, hm1, hm2⟩ := hM rfl
  have hlen := hsm.len
  have hN1 : t.items.length + 2 ≤ N := by omega
  have hN2 : N ≤ t.items.length + 2 := by omega
  have HMk := Lib.hid (show ∀ m, t.items.length ≤ m → m < N → CellsAt w g (m * 6) markCells from fun m h1 h2 => by
    by_cases e : m = t.items.length
    · subst e; exact hm1
    · rw [show m * 6 = t.items.length * 6 + 6 by omega]; exact hm2)
  have HI := Lib.hid hits
  have HI' := Lib.hid hits'
  have HIH := Lib.hid (fun (x : PT) (hx : x ∈ t.items) => fun a c a' c' w => ih x hx a c a' c' w (hsm.item hx))
  clear hits hits' ih hp hp' e1 e2 hrow hM hm1 hm2 hgb hgs hsm hN hcm'
  have HB2 := Lib.hid (fun o o2 => ((Below.refl w.heap.size w).alloc (Nat.le_refl _) o).alloc (by simp : w.heap.size ≤ (w.alloc o).heap.size) o2)
  have HX2 := Lib.hid (fun o2 => (QBox.new w w.heap.size (.int .u8 t.kind) (.bool t.yes) (.bool t.bel) (.string t.mag) (.string t.raw) (.slice (some ⟨g, 0, none⟩) t.items.length N) rfl).below ((Below.refl _ _).alloc (Nat.le_refl _) o2) (by simp))
  have HY2 := Lib.hid (fun o => QBox.new (w.alloc o) (w.heap.size + 1) (.int .u8 t.kind) (.bool t.yes) (.bool t.bel) (.string t.mag) (.string t.raw) (.slice a2 t.items.length c2) (by simp))
  unfold partCells
  go_enter Tryd.func38, Tryd.ntmps38
  go_wp2_with fail
  go_loopw [5] (fun i wr => ∃ (k : Nat), i = .int .i64 k ∧ k ≤ t.items.length ∧ Hid (Below w.heap.size w wr) ∧ Hid (QBox wr w.heap.size (.int .u8 t.kind) (.bool t.yes) (.bool t.bel) (.string t.mag) (.string t.raw) (.slice (some ⟨g, 0, none⟩) t.items.length N)) ∧ Hid (QBox wr (w.heap.size + 1) (.int .u8 t.kind) (.bool t.yes) (.bool t.bel) (.string t.mag) (.string t.raw) (.slice a2 t.items.length c2)) ∧ w.heap.size + 2 ≤ wr.heap.size) (fun i _ => t.items.length - (intOf i).toNat)
  case atStart => exact ⟨0, rfl, by omega, Lib.hid (HB2.out _ _), Lib.hid (HX2.out _), Lib.hid (HY2.out _), by simp⟩
  case round =>
    clear HB2 HX2 HY2
    obtain ⟨k, rfl, hk, HB, HX, HY, hwz⟩ := hrel
    have x5 := HX.out.cells.2.2.2.2.2
    have y5 := HY.out.cells.2.2.2.2.2
    by_cases hlt : k < t.items.length
    · obtain ⟨b, o, aa, cc, eb, k0, k1, k2, k3, k4, k5, hpa⟩ := (show RmsAt wr (· < w.heap.size) true t.items (some ⟨g, 0, none⟩) from RmsAt.keep (fun b hb => HB.out.block b hb) _ _ (fun b o e => by injection e with e; injection e with e _; exact e ▸ hg) HI.out).cells hlt
      simp only [Option.some.injEq, Addr.mk.injEq, and_true] at eb
      obtain ⟨rfl, rfl⟩ := eb
      rw [Nat.zero_add] at k0 k1 k2 k3 k4 k5
      obtain ⟨b', o', aa', cc', rfl, hb', l0, l1, l2, l3, l4, l5, hpa'⟩ := (HI'.out.below HB.out).cells hlt
      have hB1 : Below wr.heap.size wr wr.drew := (Below.refl _ _).drew
      have HR := Lib.hid (HIH.out t.items[k] (List.getElem_mem hlt) aa cc aa' cc' wr.drew ((hpa.wideS (by omega : w.heap.size ≤ wr.heap.size)).below hB1) ((hpa'.wide (by omega : w.heap.size ≤ wr.heap.size)).below hB1))
      unfold partCells at HR
      clear hpa hpa' hB1
      go_wp2_with fail
      go_region_law (go_simp; go_at_call 38; refine HR.out.mono ?_; rintro e w2 ⟨rfl, hb2⟩; have HB2 := Lib.hid (HB.out.drew.trans (hb2.mono (by simp only [World.size_drew]; omega))); have hz2 := hb2.size; simp only [World.size_drew] at hz2; have HX2 := Lib.hid (HX.out.below (Below.trans (Below.refl wr.heap.size wr).drew hb2) (by omega)); have HY2 := Lib.hid (HY.out.below (Below.trans (Below.refl wr.heap.size wr).drew hb2) (by omega)))
      all_goals (
        clear x5 y5 k0 k1 k2 k3 k4 k5 l0 l1 l2 l3 l4 l5
        go_wp2_with fail
        go_roundw
        case rel => exact ⟨k + 1, by go_num, by omega, HB2, HX2, HY2, by omega⟩
        case measure => simp [intOf]; omega)
    · obtain rfl : k = t.items.length := by omega
      go_wp2_with fail
      clear x5 y5 HIH HI HI' HY
      go_loopw [7] (fun i wr => ∃ (m : Nat), i = .int .i64 m ∧ t.items.length ≤ m ∧ m ≤ N ∧ Hid (Below w.heap.size w wr) ∧ w.heap.size + 2 ≤ wr.heap.size) (fun i _ => N - (intOf i).toNat)
      case atStart => exact ⟨t.items.length, rfl, by omega, by omega, HB, hwz⟩
      case round =>
        clear HB HX hwz
        obtain ⟨m, rfl, hm1, hm2, HB, hwz⟩ := hrel
        by_cases hj2 : m < N
        · have hmk := (HMk.out m hm1 hj2).keep (w' := wr) (fun p hp => HB.out.cell (by rw [hp]; exact hg))
          have m0 := hmk 0 _ rfl
          have m4 := hmk 4 _ rfl
          rw [Nat.add_zero] at m0
          clear hmk
          go_wp2_with fail
          go_roundw
          case rel => exact ⟨m + 1, by go_num, by omega, by omega, HB, by omega⟩
          case measure => simp [intOf]; omega
        · go_wp2_with fail
          go_ret
          exact ⟨rfl, HB.out⟩
end Go.Proofs.YtjgicjgpahnmaaaDoor

/-! keep.Lent: a part whose lists have marked room behind them. -/
namespace Go.Proofs.YtjgicjgpahnmaaaDoor
open Go.RowKit Go.WideShapes
set_option linter.unusedVariables false
/-- It comes back so, in new blocks. -/
def LentPost (t : PT) (w : World) (e : Ending) (w' : World) : Prop := ∃ (a : Option Addr) (c : Nat), e = .returned (.agg #[.int .u8 t.kind, .bool t.yes, .bool t.bel, .string t.mag, .string t.raw, .slice a t.items.length c]) ∧ Below w.heap.size w w' ∧ RmAt w' (fun b => w.heap.size ≤ b ∧ b < w'.heap.size) true t (partCells t a c)
set_option maxRecDepth 100000 in
set_option maxHeartbeats 2000000 in
theorem lent_any : ∀ (t : PT) (a : Option Addr) (c : Nat) (w : World), Small t → PartAt w (· < w.heap.size) t (partCells t a c) →
    Calls Tryd.prog 32 #[.agg (partCells t a c).toArray] w (LentPost t w) := by
  refine PT.all fun t ih => ?_
  intro a c w hsm hp
  obtain ⟨a1, c1, e1, hk, hm, hr, hlc, hcm, hits⟩ := hp.open
  obtain ⟨rfl, rfl⟩ : a1 = a ∧ c1 = c := by simpa [partCells, eq_comm] using e1
  have hlen := hsm.len
  obtain ⟨N, hN1, hN2⟩ : ∃ N, t.items.length + 2 ≤ N ∧ N ≤ t.items.length + 2 := ⟨_, Nat.le_refl _, Nat.le_refl _⟩
  obtain ⟨i0, hi, hz0, hz1, hzb⟩ := info_parts part_info
  have HI := Lib.hid hits
  have HIH := Lib.hid (fun (x : PT) (hx : x ∈ t.items) => fun a c w => ih x hx a c w (hsm.item hx))
  have HK := Lib.hid (⟨hk, hm, hr⟩ : t.kind < 256 ∧ t.mag.size ≤ maxLen ∧ t.raw.size ≤ maxLen)
  clear hits ih hp e1 hk hm hr hcm hlc hsm
  have HB0 := Lib.hid (fun o o2 o3 o4 => ((((Below.refl w.heap.size w).alloc (Nat.le_refl _) o).alloc (by simp : w.heap.size ≤ (w.alloc o).heap.size) o2).alloc (by simp; omega : w.heap.size ≤ ((w.alloc o).alloc o2).heap.size) o3).alloc (by simp; omega : w.heap.size ≤ (((w.alloc o).alloc o2).alloc o3).heap.size) o4)
  have HP0 := Lib.hid (fun o2 o3 o4 => (((QBox.new w w.heap.size (.int .u8 t.kind) (.bool t.yes) (.bool t.bel) (.string t.mag) (.string t.raw) (.slice a1 t.items.length c1) rfl).below ((Below.refl _ _).alloc (Nat.le_refl _) o2) (by simp)).below ((Below.refl _ _).alloc (Nat.le_refl _) o3) (by simp; omega)).below ((Below.refl _ _).alloc (Nat.le_refl _) o4) (by simp; omega))
  have HR0 := Lib.hid (fun o o3 o4 => ((RBox.new (w.alloc o) (w.heap.size + 1) (by simp)).below ((Below.refl _ _).alloc (Nat.le_refl _) o3) (by simp : w.heap.size + 1 < ((w.alloc o).alloc _).heap.size)).below ((Below.refl _ _).alloc (Nat.le_refl _) o4) (by simp <;> omega))
  have HX0 := Lib.hid (fun o o2 v o4 => ((QBox.new ((w.alloc o).alloc o2) (w.heap.size + 1 + 1) (.int .u8 t.kind) (.bool t.yes) (.bool t.bel) (.string t.mag) (.string t.raw) v (by simp)).below ((Below.refl _ _).alloc (Nat.le_refl _) o4) (by simp <;> omega)))
  have HV0 := Lib.hid (fun W c h2 h1 => LRow.new W (w.heap.size + 1 + 1 + 1) h1 t.items.length c h2 t.items)
  unfold partCells
  go_enter Tryd.func32, Tryd.ntmps32
  go_wp2_with (at_make; refine wpList_make_lc _ rfl _ _ 28 rfl 30 i0 (.agg #[.int .u8 0, .bool false, .bool false, .string ⟨#[]⟩, .string ⟨#[]⟩, .slice none 0 0]) 6 Tryd.underlying28 hi hz0 hz1 _ _ _ _ t.items.length N rfl rfl (by omega) (by omega) (by omega) (by rw [hzb]; omega) (by omega) ?_)
  go_loopw [4] (fun i wr => ∃ (k : Nat), i = .int .i64 k ∧ k ≤ t.items.length ∧ Hid (Below w.heap.size w wr) ∧ Hid (QBox wr w.heap.size (.int .u8 t.kind) (.bool t.yes) (.bool t.bel) (.string t.mag) (.string t.raw) (.slice a1 t.items.length c1)) ∧ Hid (RBox wr (w.heap.size + 1)) ∧ Hid (QBox wr (w.heap.size + 1 + 1) (.int .u8 t.kind) (.bool t.yes) (.bool t.bel) (.string t.mag) (.string t.raw) (.slice (some ⟨w.heap.size + 1 + 1 + 1, 0, none⟩) t.items.length N)) ∧ Hid (LRow wr (w.heap.size + 1 + 1 + 1) t.items.length k 0 t.items) ∧ w.heap.size + 4 ≤ wr.heap.size) (fun i _ => t.items.length - (intOf i).toNat)
  case atStart => exact ⟨0, rfl, by omega, Lib.hid (HB0.out _ _ _ _), Lib.hid (HP0.out _ _ _), Lib.hid (HR0.out _ _ _), Lib.hid (HX0.out _ _ _ _), Lib.hid (HV0.out _ _ (by simp [madeCells, show N = t.items.length + 2 by omega]) (by simp)), by simp⟩
  case round =>
    clear HB0 HX0 HV0 HR0 HP0
    obtain ⟨k, rfl, hk, HB, HP, HR, HX, HV, hwz⟩ := hrel
    have p5 := HP.out.cells.2.2.2.2.2
    have x5 := HX.out.cells.2.2.2.2.2
    by_cases hlt : k < t.items.length
    · obtain ⟨b, o, aa, cc, rfl, hb, k0, k1, k2, k3, k4, k5, hpa⟩ := (HI.out.below HB.out).cells hlt
      have hB1 : Below wr.heap.size wr wr.drew := (Below.refl _ _).drew
      have HRc := Lib.hid (HIH.out t.items[k] (List.getElem_mem hlt) aa cc wr.drew ((hpa.wide (by omega : w.heap.size ≤ wr.heap.size)).below hB1))
      have HB1 := Lib.hid hB1
      unfold partCells at HRc
      clear hpa hB1
      go_wp2_with fail
      go_region_law (go_simp; go_at_call 32; refine HRc.out.mono ?_; rintro e w2 ⟨a2, c2, rfl, hb2, hr2⟩; have HRm := Lib.hid hr2; clear hr2; have hbr2 := HB1.out.trans (hb2.mono (by simp)); have hzz2 := hbr2.size; have HV2 := Lib.hid (HV.out.below hbr2); have HX2 := Lib.hid (HX.out.below hbr2 (by omega)); have x52 := HX2.out.cells.2.2.2.2.2; obtain ⟨u0, u1, u2, u3, u4, u5, s0, s1, s2, s3, s4, s5, f0, f1, f2, f3, f4, f5⟩ := there6 (HV2.out.there (i := k) (by omega)) (.int .u8 t.items[k].kind) (.bool t.items[k].yes) (.bool t.items[k].bel) (.string t.items[k].mag) (.string t.items[k].raw))
      all_goals (
        have hr2' := RmAt.more (S' := fun b => w.heap.size + 1 + 1 + 1 < b ∧ b < w2.heap.size) (fun b hb => by have h1 := hb.1; simp at h1; exact ⟨by omega, hb.2⟩) _ _ HRm.out
        have HV' := Lib.hid (HV2.out.put rfl hlt hr2')
        have HB' := Lib.hid (below_puts (HB.out.trans (hbr2.mono (by omega))) (w.heap.size + 1 + 1 + 1) (by omega) (partCells t.items[k] a2 c2) (k * 6))
        have HX' := Lib.hid (HX2.out.puts (g := w.heap.size + 1 + 1 + 1) (k * 6) (partCells t.items[k] a2 c2) (by omega))
        have HP' := Lib.hid ((HP.out.below hbr2 (by omega)).puts (g := w.heap.size + 1 + 1 + 1) (k * 6) (partCells t.items[k] a2 c2) (by omega))
        have HR' := Lib.hid ((HR.out.below hbr2 (by omega)).puts (g := w.heap.size + 1 + 1 + 1) (k * 6) (partCells t.items[k] a2 c2) (by omega))
        have hz4 := setCells_size (w.heap.size + 1 + 1 + 1) (partCells t.items[k] a2 c2) (k * 6) w2
        rw [puts6, setCells6] at HV' HB' HX' HP' HR' hz4
        clear s0 s1 s2 s3 s4 s5 f0 f1 f2 f3 f4 f5 x52 x5 p5
        go_wp2_with fail
        go_roundw
        case rel => exact ⟨k + 1, by go_num, by omega, HB', HP', HR', HX', HV', by omega⟩
        case measure => simp [intOf]; omega)
    · obtain rfl : k = t.items.length := by omega
      have hlenI : t.items.length ≤ 9223372036854775807 := by omega
      go_wp2_with fail
      clear x5 p5
      go_loopw [6] (fun i wr => ∃ (m : Nat), i = .int .i64 m ∧ t.items.length ≤ m ∧ m ≤ N ∧ Hid (Below w.heap.size w wr) ∧ Hid (RBox wr (w.heap.size + 1)) ∧ Hid (QBox wr (w.heap.size + 1 + 1) (.int .u8 t.kind) (.bool t.yes) (.bool t.bel) (.string t.mag) (.string t.raw) (.slice (some ⟨w.heap.size + 1 + 1 + 1, 0, none⟩) t.items.length N)) ∧ Hid (LRow wr (w.heap.size + 1 + 1 + 1) t.items.length t.items.length (m - t.items.length) t.items) ∧ w.heap.size + 4 ≤ wr.heap.size) (fun i _ => N - (intOf i).toNat)
      case atStart => exact ⟨t.items.length, rfl, by omega, by omega, HB, HR, HX, by rw [Nat.sub_self]; exact HV, hwz⟩
      case round =>
        clear HB HR HX HV HP hwz HIH HI
        obtain ⟨m, rfl, hm1, hm2, HB, HR, HX, HV, hwz⟩ := hrel
        by_cases hj2 : m < N
        · obtain ⟨u0, u1, u2, u3, u4, u5, s0, s1, s2, s3, s4, s5, f0, f1, f2, f3, f4, f5⟩ := there6 (HV.out.there (i := m) (by omega)) (.int .u8 99) (.bool false) (.bool false) (.string ⟨#[]⟩) (.string ⟨#[109, 97, 114, 107]⟩)
          have HV' := Lib.hid (HV.out.markAt rfl hm1 (by omega))
          have HB' := Lib.hid (below_puts HB.out (w.heap.size + 1 + 1 + 1) (by omega) markCells (m * 6))
          have HX' := Lib.hid (HX.out.puts (g := w.heap.size + 1 + 1 + 1) (m * 6) markCells (by omega))
          have HR' := Lib.hid (HR.out.puts (g := w.heap.size + 1 + 1 + 1) (m * 6) markCells (by omega))
          have hz4 := setCells_size (w.heap.size + 1 + 1 + 1) markCells (m * 6) wr
          unfold markCells at HV' HB' HX' HR' hz4
          rw [setCells6] at HV' HB' HX' HR' hz4
          go_wp2_with fail
          go_roundw
          case rel => exact ⟨m + 1, by go_num, by omega, by omega, HB', HR', HX', HV', by omega⟩
          case measure => simp [intOf]; omega
        · obtain rfl : N = m := by omega
          have HRm := Lib.hid ((show LRow wr (w.heap.size + 1 + 1 + 1) t.items.length t.items.length 2 t.items by have h9 := HV.out; rw [show N - t.items.length = 2 by omega] at h9; exact h9).rm rfl (by unfold maxLen; omega) HK.out)
          rw [show t.items.length + 2 = N by omega] at HRm
          obtain ⟨y0, y1, y2, y3, y4, y5⟩ := HX.out.cells
          obtain ⟨r0, r1, r2, r3, r4, r5⟩ := HR.out.cells
          have f0 := HR.out.free 0
          have f1 := HR.out.free 1
          have f2 := HR.out.free 2
          have f3 := HR.out.free 3
          have f4 := HR.out.free 4
          have f5 := HR.out.free 5
          go_wp2_with fail
          obtain ⟨q0, q1, q2, q3, q4, q5⟩ := HR.out.filled (.int .u8 t.kind) (.bool t.yes) (.bool t.bel) (.string t.mag) (.string t.raw) (.slice (some ⟨w.heap.size + 1 + 1 + 1, 0, none⟩) t.items.length N)
          refine bodyPost_ret (by simp [results, Tryd.results32, go_sem, q0, q1, q2, q3, q4, q5]; try rfl) rfl ?_
          refine ⟨_, _, rfl, (((((HB.out.setCell (by simp only; omega) _).setCell (by simp only; omega) _).setCell (by simp only; omega) _).setCell (by simp only; omega) _).setCell (by simp only; omega) _).setCell (by simp only; omega) _, ?_⟩
          refine RmAt.more (S := fun b => w.heap.size + 1 + 1 + 1 ≤ b ∧ b < wr.heap.size) (fun b hb => ⟨by omega, by simp; exact hb.2⟩) _ _ (RmAt.keep (fun b hb => ?_) _ _ HRm.out)
          have hk : ∀ W (o : Nat) (u : Value), (World.setCell W ⟨w.heap.size + 1, o, none⟩ u).heap[b]? = W.heap[b]? := fun W o u => by simp [World.setCell, Array.getElem?_modify, show w.heap.size + 1 ≠ b by omega]
          rw [hk, hk, hk, hk, hk, hk]
end Go.Proofs.YtjgicjgpahnmaaaDoor

/-! A row of sources that the law makes. -/
namespace Go.Proofs.YtjgicjgpahnmaaaDoor
open Go.RowKit Go.WideShapes
set_option linter.unusedVariables false
theorem source_info : (Tryd.prog.info? 39).map (fun i => (i.zero, i.size, i.bytes)) = some (some (.agg #[.int .i64 0, .int .u8 0, .bool false, .bool false, .string ⟨#[]⟩, .string ⟨#[]⟩, .slice none 0 0]), 7, 80) := by kernel_rfl
theorem flat_getN (n : Nat) : ∀ (css : List (List Value)), (∀ c ∈ css, c.length = n) → ∀ (i : Nat) (hi : i < css.length) (j : Nat) u, (css[i])[j]? = some u → css.flatten[i * n + j]? = some u
  | [], _, i, hi, _, _, _ => absurd hi (Nat.not_lt_zero i)
  | c :: css, h, i, hi, j, u, hu => by
    have hc : c.length = n := h c (by simp)
    cases i with
    | zero =>
      have hj : j < c.length := (List.getElem?_eq_some_iff.1 hu).1
      rw [List.flatten_cons, show 0 * n + j = j by omega, List.getElem?_append_left hj]; exact hu
    | succ i =>
      have e : (i + 1) * n = i * n + n := by rw [Nat.add_mul]; omega
      rw [List.flatten_cons, List.getElem?_append_right (by omega), show (i + 1) * n + j - c.length = i * n + j by omega]
      exact flat_getN n css (fun c hc => h c (by simp [hc])) i (by simpa using hi) j u hu
/-- So many sources stand in a row of one's own; their parts lie below B. -/
structure SRow (w : World) (B base : Nat) (vt : Value) (k : Nat) (l : List (Int × PT)) (css : List (List Value)) : Prop where
  len : css.length = k
  tl : l.length = k
  le : B ≤ base
  own : w.ownsRow base 39 7 vt k css.flatten
  src : ∀ i (hi : i < l.length) (hv : i < css.length), ∃ a c, css[i] = .int .i64 l[i].1 :: partCells l[i].2 a c ∧ PartAt w (· < B) l[i].2 (partCells l[i].2 a c)
theorem SRow.start (w : World) (B base : Nat) (h : B ≤ base) : SRow w B base (.slice none 0 0) 0 [] [] :=
  ⟨rfl, rfl, h, World.ownsRow_nil _ _ _ _, fun i hi hv => absurd hv (Nat.not_lt_zero i)⟩
theorem SRow.lt {w : World} {B base : Nat} {vt : Value} {k : Nat} {l : List (Int × PT)} {css : List (List Value)} (h : SRow w B base vt k l css) (b : Nat) (e : vt.ownBlock = some b) : base ≤ b ∧ b < w.heap.size := h.own.lt b e
theorem SRow.below {w w' : World} {B base n : Nat} {vt : Value} {k : Nat} {l : List (Int × PT)} {css : List (List Value)} (h : SRow w B base vt k l css) (hb : Below w.heap.size w w') (hB : B ≤ w.heap.size) : SRow w' B base vt k l css :=
  ⟨h.len, h.tl, h.le, by
    rcases h.own.2 with ⟨e, h0⟩ | ⟨g, cap, cur, e, hb', hg, h1⟩
    · exact ⟨h.own.1, .inl ⟨e, h0⟩⟩
    · exact ⟨h.own.1, .inr ⟨g, cap, cur, e, hb', (hb.block g (Array.getElem?_eq_some_iff.1 hg).1).trans hg, h1⟩⟩,
   fun i hi hv => by
    obtain ⟨a, c, e, hp⟩ := h.src i hi hv
    exact ⟨a, c, e, PartAt.keep (fun p hp => hb.cell (by omega)) _ _ hp⟩⟩
/-- Another row grew. -/
theorem SRow.far {w w2 w3 : World} {B base : Nat} {vt vu : Value} {k : Nat} {l : List (Int × PT)} {css : List (List Value)} {tmp : Obj} (h : SRow w B base vt k l css) (hB : B ≤ w.heap.size) (hb : Below w.heap.size w w2) (hgrow : (w2.alloc tmp).grownBy w3 vu.ownBlock) (hvu : ∀ b, vu.ownBlock = some b → B ≤ b ∧ vt.ownBlock ≠ some b) : SRow w3 B base vt k l css := by
  have hz : (w2.alloc tmp).heap.size = w2.heap.size + 1 := by simp
  have hb2 := hb.size
  have hkeep : ∀ b, b < w.heap.size → vu.ownBlock ≠ some b → w3.heap[b]? = w.heap[b]? := fun b hl hne => by
    rw [hgrow.block b (by omega) (fun e => hne e.symm), Below.heap_alloc w2 tmp b (by omega)]; exact hb.block b hl
  refine ⟨h.len, h.tl, h.le, ?_, fun i hi hv => ?_⟩
  · rcases h.own.2 with ⟨e, h0⟩ | ⟨g, cap, cur, e, hb', hg, h1⟩
    · exact ⟨h.own.1, .inl ⟨e, h0⟩⟩
    · refine ⟨h.own.1, .inr ⟨g, cap, cur, e, hb', (hkeep g (Array.getElem?_eq_some_iff.1 hg).1 (fun e2 => (hvu g e2).2 (by rw [e]; rfl))).trans hg, h1⟩⟩
  · obtain ⟨a, c, e, hp⟩ := h.src i hi hv
    exact ⟨a, c, e, PartAt.keep (fun p hp => World.cell?_of_block (hkeep p.block (by omega) (fun e2 => by have := (hvu _ e2).1; omega))) _ _ hp⟩
/-- One source more. -/
theorem SRow.step {w w2 w3 : World} {B base : Nat} {vt : Value} {k : Nat} {l : List (Int × PT)} {css : List (List Value)} {x : Int} {p : PT} {a : Option Addr} {c : Nat} {tmp : Obj} {g cap : Nat} (h : SRow w B base vt k l css) (hB : B ≤ w.heap.size)
    (hv : PartAt w2 (· < B) p (partCells p a c)) (hb : Below w.heap.size w w2)
    (hown : w3.ownsRow base 39 7 (.slice (some ⟨g, 0, none⟩) (k + 1) cap) (k + 1) (css.flatten ++ .int .i64 x :: partCells p a c)) (hgrow : (w2.alloc tmp).grownBy w3 vt.ownBlock) :
    SRow w3 B base (.slice (some ⟨g, 0, none⟩) (k + 1) cap) (k + 1) (l ++ [(x, p)]) (css ++ [.int .i64 x :: partCells p a c]) := by
  have hz : (w2.alloc tmp).heap.size = w2.heap.size + 1 := by simp
  have hb2 := hb.size
  have hcell : ∀ q : Addr, q.block < B → w3.cell? q = w2.cell? q := fun q hq => by
    rw [hgrow.cell_far q (by omega) (fun e => by have := (h.own.lt _ e.symm).1; have := h.le; omega), World.cell?_alloc_lt w2 tmp q (by omega)]
  refine ⟨by simp [h.len], by simp [h.tl], h.le, by simpa using hown, fun i hi hv' => ?_⟩
  rw [List.length_append, h.len, List.length_singleton] at hv'
  by_cases e : i = k
  · subst e
    have e1 : (css ++ [.int .i64 x :: partCells p a c])[i]'(by rw [List.length_append, h.len, List.length_singleton]; omega) = .int .i64 x :: partCells p a c := by
      rw [List.getElem_append_right (by rw [h.len]; omega)]; simp [h.len]
    have e2 : (l ++ [(x, p)])[i]'hi = (x, p) := by
      rw [List.getElem_append_right (by rw [h.tl]; omega)]; simp [h.tl]
    rw [e1, e2]
    exact ⟨a, c, rfl, PartAt.keep (fun q hq => hcell q hq) _ _ hv⟩
  · have hik : i < css.length := by rw [h.len]; omega
    have hil : i < l.length := by rw [h.tl]; omega
    have e1 : (css ++ [.int .i64 x :: partCells p a c])[i]'(by rw [List.length_append, h.len, List.length_singleton]; omega) = css[i] := List.getElem_append_left hik
    have e2 : (l ++ [(x, p)])[i]'hi = l[i] := List.getElem_append_left hil
    rw [e1, e2]
    obtain ⟨a', c', e3, hp⟩ := h.src i hil hik
    exact ⟨a', c', e3, PartAt.keep (fun q hq => (hcell q hq).trans (hb.cell (by omega))) _ _ hp⟩
/-- The whole row. -/
theorem SRow.srcs {w : World} {B base : Nat} {vt : Value} {k : Nat} {l : List (Int × PT)} {css : List (List Value)} (h : SRow w B base vt k l css) (hB : B ≤ w.heap.size) :
    ∃ a c, vt = .slice a l.length c ∧ SrcsAt w (· < w.heap.size) l a := by
  rcases h.own.2 with ⟨e, h0⟩ | ⟨g, cap, cur, e, hb', hg, hnc, hcm, hcs, htake⟩
  · refine ⟨none, 0, by rw [e, h.tl, h0], fun i hi => absurd hi (by rw [h.tl, h0]; omega)⟩
  · refine ⟨some ⟨g, 0, none⟩, cap, by rw [h.tl]; exact e, fun i hi => ?_⟩
    have hv : i < css.length := by rw [h.len, ← h.tl]; exact hi
    obtain ⟨a', c', e3, hp⟩ := h.src i hi hv
    refine ⟨g, 0, a', c', rfl, (Array.getElem?_eq_some_iff.1 hg).1, fun j u hu => ?_, PartAt.more (fun b hb => by have := hb; omega) _ _ hp⟩
    have hj : j < 7 := by have := (List.getElem?_eq_some_iff.1 hu).1; simpa [partCells] using this
    have hik : i < k := by rw [← h.len]; exact hv
    have ho := h.own
    rw [e] at ho
    rw [Nat.zero_add, ho.cellAt (i * 7 + j) (by omega)]
    refine flat_getN 7 css (fun c hc => ?_) i hv j u (by rw [e3]; exact hu)
    obtain ⟨i2, hi2, rfl⟩ := List.getElem_of_mem hc
    obtain ⟨a2, c2, e2, _⟩ := h.src i2 (by rw [h.tl, ← h.len]; exact hi2) hi2
    rw [e2]; rfl
end Go.Proofs.YtjgicjgpahnmaaaDoor

/-! law18's lent: sources whose parts have room behind their lists. -/
namespace Go.Proofs.YtjgicjgpahnmaaaDoor
open Go.RowKit Go.WideShapes
set_option linter.unusedVariables false
def srcCells (x : Int × PT) (a : Option Addr) (c : Nat) : List Value := .int .i64 x.1 :: partCells x.2 a c
theorem srcCells_len (x : Int × PT) (a : Option Addr) (c : Nat) : (srcCells x a c).length = 7 := rfl
structure SLRow (w : World) (g n k j : Nat) (l : List (Int × PT)) : Prop where
  blk : ∃ cur, w.heap[g]? = some (.cells cur 39 (0, 0)) ∧ cur.size = (n + 2) * 7
  it : ∀ i (hi : i < l.length), i < k → ∃ a' c', CellsAt w g (i * 7) (srcCells l[i] a' c') ∧ RmAt w (fun b => g < b ∧ b < w.heap.size) true l[i].2 (partCells l[i].2 a' c')
  mrk : ∀ i, i < j → w.cell? ⟨g, (n + i) * 7, none⟩ = some (.int .i64 (-99))
section
variable {w w' : World} {g n k j : Nat} {l : List (Int × PT)}
theorem SLRow.there (h : SLRow w g n k j l) {i : Nat} (hi : i < n + 2) : w.there g (i * 7) 7 := blk_there h.blk (by omega)
theorem SLRow.lt (h : SLRow w g n k j l) : g < w.heap.size := by obtain ⟨cur, h1, _⟩ := h.blk; exact (Array.getElem?_eq_some_iff.1 h1).1
theorem SLRow.below (h : SLRow w g n k j l) (hb : Below w.heap.size w w') : SLRow w' g n k j l :=
  ⟨by obtain ⟨cur, h1, h2⟩ := h.blk; exact ⟨cur, (hb.block g (Array.getElem?_eq_some_iff.1 h1).1).trans h1, h2⟩,
   fun i hi hk => by
    obtain ⟨a', c', h1, h2⟩ := h.it i hi hk
    exact ⟨a', c', h1.keep fun p hp => hb.cell (by rw [hp]; exact h.lt), RmAt.more (fun b hb' => ⟨hb'.1, Nat.lt_of_lt_of_le hb'.2 hb.size⟩) _ _ (RmAt.keep (fun b hb' => hb.block b hb'.2) _ _ h2)⟩,
   fun i hi => (hb.cell h.lt).trans (h.mrk i hi)⟩
theorem SLRow.put (h : SLRow w g n k j l) (hl : l.length = n) (hk : k < n) {a' : Option Addr} {c' : Nat} (hr : RmAt w (fun b => g < b ∧ b < w.heap.size) true (l[k]'(by omega)).2 (partCells (l[k]'(by omega)).2 a' c')) :
    SLRow (w.setCells g (k * 7) (srcCells (l[k]'(by omega)) a' c')) g n (k + 1) j l := by
  have hz := setCells_size g (srcCells (l[k]'(by omega)) a' c') (k * 7) w
  refine ⟨setCells_blk g _ _ _ _ _ h.blk, fun i hi hik => ?_, fun i hi => ?_⟩
  · by_cases e : i = k
    · subst e
      exact ⟨a', c', CellsAt.put (h.there (by omega)), RmAt.more (fun b hb' => ⟨hb'.1, by omega⟩) _ _ (RmAt.keep (fun b hb' => setCells_heap g _ _ _ (by omega)) _ _ hr)⟩
    · obtain ⟨a2, c2, h1, h2⟩ := h.it i hi (by omega)
      exact ⟨a2, c2, h1.apart _ _ _ (.inr (.inl (by rw [srcCells_len]; omega))), RmAt.more (fun b hb' => ⟨hb'.1, by omega⟩) _ _ (RmAt.keep (fun b hb' => setCells_heap g _ _ _ (by omega)) _ _ h2)⟩
  · rw [World.cell?_setCells_out g _ _ w ⟨g, (n + i) * 7, none⟩ (fun _ _ => .inr (by rw [srcCells_len, Nat.add_mul]; simp only; omega))]
    exact h.mrk i hi
theorem SLRow.mark (h : SLRow w g n k j l) (hkn : k ≤ n) (hj : j < 2) : SLRow (w.setCell ⟨g, (n + j) * 7, none⟩ (.int .i64 (-99))) g n k (j + 1) l := by
  refine ⟨setCells_blk g 39 _ [.int .i64 (-99)] ((n + j) * 7) w h.blk, fun i hi hik => ?_, fun i hi => ?_⟩
  · obtain ⟨a2, c2, h1, h2⟩ := h.it i hi hik
    exact ⟨a2, c2, h1.apart g ((n + j) * 7) [.int .i64 (-99)] (.inr (.inl (by rw [srcCells_len, Nat.add_mul]; omega))), RmAt.more (fun b hb' => ⟨hb'.1, by simpa using hb'.2⟩) _ _ (RmAt.keep (fun b hb' => Below.heap_setCell _ _ _ _ (by simp only; omega)) _ _ h2)⟩
  · by_cases e : i = j
    · subst e
      obtain ⟨u, hu⟩ := Option.isSome_iff_exists.1 (h.there (i := n + i) (by omega) 0 (by omega)).1
      exact World.cell?_setCell_same _ _ _ (by simpa using hu)
    · rw [World.cell?_setCell_other _ _ _ _ (by simp <;> omega)]
      exact h.mrk i (by omega)
theorem SLRow.markAt {m : Nat} (h : SLRow w g n k (m - n) l) (hkn : k ≤ n) (hm : n ≤ m) (hj : m < n + 2) : SLRow (w.setCell ⟨g, m * 7, none⟩ (.int .i64 (-99))) g n k (m + 1 - n) l := by
  have := h.mark hkn (by omega)
  rw [show n + (m - n) = m by omega] at this
  rw [show m + 1 - n = m - n + 1 by omega]; exact this
theorem SLRow.new (w : World) (T : Nat) (hT : T = w.heap.size) (n : Nat) (c : Array Value) (hc : c.size = (n + 2) * 7) (l : List (Int × PT)) : SLRow (w.alloc (.cells c 39)) T n 0 0 l := by
  subst hT
  exact ⟨⟨c, World.alloc_heap_new w _, hc⟩, fun i hi hk => absurd hk (Nat.not_lt_zero i), fun i hi => absurd hi (Nat.not_lt_zero i)⟩
end
theorem setCells7 (w : World) (g o : Nat) (v0 v1 v2 v3 v4 v5 v6 : Value) : w.setCells g o [v0, v1, v2, v3, v4, v5, v6] = (((((((w.setCell ⟨g, o, none⟩ v0).setCell ⟨g, o + 1, none⟩ v1).setCell ⟨g, o + 2, none⟩ v2).setCell ⟨g, o + 3, none⟩ v3).setCell ⟨g, o + 4, none⟩ v4).setCell ⟨g, o + 5, none⟩ v5).setCell ⟨g, o + 6, none⟩ v6) := rfl
theorem there7 {w : World} {g o : Nat} (h : w.there g o 7) (v0 v1 v2 v3 v4 v5 : Value) : ∃ u0 u1 u2 u3 u4 u5 u6, w.cell? ⟨g, o, none⟩ = some u0 ∧ (w.setCell ⟨g, o, none⟩ v0).cell? ⟨g, o + 1, none⟩ = some u1 ∧ ((w.setCell ⟨g, o, none⟩ v0).setCell ⟨g, o + 1, none⟩ v1).cell? ⟨g, o + 2, none⟩ = some u2 ∧ (((w.setCell ⟨g, o, none⟩ v0).setCell ⟨g, o + 1, none⟩ v1).setCell ⟨g, o + 2, none⟩ v2).cell? ⟨g, o + 3, none⟩ = some u3 ∧ ((((w.setCell ⟨g, o, none⟩ v0).setCell ⟨g, o + 1, none⟩ v1).setCell ⟨g, o + 2, none⟩ v2).setCell ⟨g, o + 3, none⟩ v3).cell? ⟨g, o + 4, none⟩ = some u4 ∧ (((((w.setCell ⟨g, o, none⟩ v0).setCell ⟨g, o + 1, none⟩ v1).setCell ⟨g, o + 2, none⟩ v2).setCell ⟨g, o + 3, none⟩ v3).setCell ⟨g, o + 4, none⟩ v4).cell? ⟨g, o + 5, none⟩ = some u5 ∧ ((((((w.setCell ⟨g, o, none⟩ v0).setCell ⟨g, o + 1, none⟩ v1).setCell ⟨g, o + 2, none⟩ v2).setCell ⟨g, o + 3, none⟩ v3).setCell ⟨g, o + 4, none⟩ v4).setCell ⟨g, o + 5, none⟩ v5).cell? ⟨g, o + 6, none⟩ = some u6 ∧ w.frozen? ⟨g, o, none⟩ = false ∧ w.frozen? ⟨g, o + 1, none⟩ = false ∧ w.frozen? ⟨g, o + 2, none⟩ = false ∧ w.frozen? ⟨g, o + 3, none⟩ = false ∧ w.frozen? ⟨g, o + 4, none⟩ = false ∧ w.frozen? ⟨g, o + 5, none⟩ = false ∧ w.frozen? ⟨g, o + 6, none⟩ = false := by
  obtain ⟨u0, h0⟩ := Option.isSome_iff_exists.1 (h 0 (by omega)).1
  obtain ⟨u1, h1⟩ := Option.isSome_iff_exists.1 (h 1 (by omega)).1
  obtain ⟨u2, h2⟩ := Option.isSome_iff_exists.1 (h 2 (by omega)).1
  obtain ⟨u3, h3⟩ := Option.isSome_iff_exists.1 (h 3 (by omega)).1
  obtain ⟨u4, h4⟩ := Option.isSome_iff_exists.1 (h 4 (by omega)).1
  obtain ⟨u5, h5⟩ := Option.isSome_iff_exists.1 (h 5 (by omega)).1
  obtain ⟨u6, h6⟩ := Option.isSome_iff_exists.1 (h 6 (by omega)).1
  refine ⟨u0, u1, u2, u3, u4, u5, u6, ?_, ?_, ?_, ?_, ?_, ?_, ?_, (h 0 (by omega)).2, (h 1 (by omega)).2, (h 2 (by omega)).2, (h 3 (by omega)).2, (h 4 (by omega)).2, (h 5 (by omega)).2, (h 6 (by omega)).2⟩
  · exact h0
  · rw [World.cell?_setCell_other _ _ _ _ (by simp)]; exact h1
  · rw [World.cell?_setCell_other _ _ _ _ (by simp), World.cell?_setCell_other _ _ _ _ (by simp)]; exact h2
  · rw [World.cell?_setCell_other _ _ _ _ (by simp), World.cell?_setCell_other _ _ _ _ (by simp), World.cell?_setCell_other _ _ _ _ (by simp)]; exact h3
  · rw [World.cell?_setCell_other _ _ _ _ (by simp), World.cell?_setCell_other _ _ _ _ (by simp), World.cell?_setCell_other _ _ _ _ (by simp), World.cell?_setCell_other _ _ _ _ (by simp)]; exact h4
  · rw [World.cell?_setCell_other _ _ _ _ (by simp), World.cell?_setCell_other _ _ _ _ (by simp), World.cell?_setCell_other _ _ _ _ (by simp), World.cell?_setCell_other _ _ _ _ (by simp), World.cell?_setCell_other _ _ _ _ (by simp)]; exact h5
  · rw [World.cell?_setCell_other _ _ _ _ (by simp), World.cell?_setCell_other _ _ _ _ (by simp), World.cell?_setCell_other _ _ _ _ (by simp), World.cell?_setCell_other _ _ _ _ (by simp), World.cell?_setCell_other _ _ _ _ (by simp), World.cell?_setCell_other _ _ _ _ (by simp)]; exact h6
theorem puts7 (w : World) (g o : Nat) (x : Int × PT) (a : Option Addr) (c : Nat) : w.setCells g o (srcCells x a c) = w.setCells g o [.int .i64 x.1, .int .u8 x.2.kind, .bool x.2.yes, .bool x.2.bel, .string x.2.mag, .string x.2.raw, .slice a x.2.items.length c] := rfl
def Lent18Post (l : List (Int × PT)) (w : World) (e : Ending) (w' : World) : Prop := ∃ g, e = .returned (.slice (some ⟨g, 0, none⟩) l.length (l.length + 2)) ∧ Below w.heap.size w w' ∧ w.heap.size ≤ g ∧ SLRow w' g l.length l.length 2 l
set_option maxRecDepth 100000 in
set_option maxHeartbeats 2000000 in
theorem lent18_any (l : List (Int × PT)) (A : Option Addr) (C : Nat) (w : World) (hl : SrcsAt w (· < w.heap.size) l A) (hll : l.length ≤ 4000) (hsm : ∀ i (hi : i < l.length), Small l[i].2) :
    Calls Tryd.prog 14 #[.slice A l.length C] w (Lent18Post l w) := by
  obtain ⟨N, hN1, hN2⟩ : ∃ N, l.length + 2 ≤ N ∧ N ≤ l.length + 2 := ⟨_, Nat.le_refl _, Nat.le_refl _⟩
  obtain ⟨i0, hi, hz0, hz1, hzb⟩ := info_parts source_info
  have HL := Lib.hid hl
  have HSm := Lib.hid hsm
  have HB0 := Lib.hid (fun o => (Below.refl w.heap.size w).alloc (Nat.le_refl _) o)
  have HV0 := Lib.hid (fun c h2 => SLRow.new w w.heap.size rfl l.length c h2 l)
  clear hl hsm
  go_enter Tryd.func14, Tryd.ntmps14
  go_wp2_with (at_make; refine wpList_make_lc _ rfl _ _ 23 rfl 39 i0 (.agg #[.int .i64 0, .int .u8 0, .bool false, .bool false, .string ⟨#[]⟩, .string ⟨#[]⟩, .slice none 0 0]) 7 Tryd.underlying23 hi hz0 hz1 _ _ _ _ l.length N rfl rfl (by omega) (by omega) (by omega) (by rw [hzb]; omega) (by omega) ?_)
  go_loopw [4] (fun i wr => ∃ (k : Nat), i = .int .i64 k ∧ k ≤ l.length ∧ Hid (Below w.heap.size w wr) ∧ Hid (SLRow wr w.heap.size l.length k 0 l) ∧ w.heap.size + 1 ≤ wr.heap.size) (fun i _ => l.length - (intOf i).toNat)
  case atStart => exact ⟨0, rfl, by omega, Lib.hid (HB0.out _), Lib.hid (HV0.out _ (by simp [madeCells, show N = l.length + 2 by omega])), by simp⟩
  case round =>
    clear HB0 HV0
    obtain ⟨k, rfl, hk, HB, HV, hwz⟩ := hrel
    by_cases hlt : k < l.length
    · obtain ⟨b, o, aa, cc, rfl, hb, k0, k1, k2, k3, k4, k5, k6, hpa⟩ := (HL.out.below HB.out).cells hlt
      have hB1 : Below wr.heap.size wr wr.drew := (Below.refl _ _).drew
      have HRc := Lib.hid (lent_any l[k].2 aa cc wr.drew (HSm.out k hlt) ((hpa.wide (by omega : w.heap.size ≤ wr.heap.size)).below hB1))
      have HB1 := Lib.hid hB1
      unfold partCells at HRc
      clear hpa hB1
      go_wp2_with fail
      go_region_law (go_simp; go_at_call 32; refine HRc.out.mono ?_; rintro e w2 ⟨a2, c2, rfl, hb2, hr2⟩; have HRm := Lib.hid hr2; clear hr2; have hbr2 := HB1.out.trans (hb2.mono (by simp)); have hzz2 := hbr2.size; have HBr := Lib.hid hbr2; have HV2 := Lib.hid (HV.out.below hbr2); have k02 := (hbr2.cell (p := ⟨b, o + k * 7, none⟩) (by simp only; omega)).trans k0; clear hbr2; obtain ⟨u0, u1, u2, u3, u4, u5, u6, s0, s1, s2, s3, s4, s5, s6, f0, f1, f2, f3, f4, f5, f6⟩ := there7 (HV2.out.there (i := k) (by omega)) (.int .i64 l[k].1) (.int .u8 l[k].2.kind) (.bool l[k].2.yes) (.bool l[k].2.bel) (.string l[k].2.mag) (.string l[k].2.raw))
      all_goals (
        have hr2' := RmAt.more (S' := fun b => w.heap.size < b ∧ b < w2.heap.size) (fun b hb => by have h1 := hb.1; simp at h1; exact ⟨by omega, hb.2⟩) _ _ HRm.out
        have HV' := Lib.hid (HV2.out.put rfl hlt hr2')
        have HB' := Lib.hid (below_puts (HB.out.trans (HBr.out.mono (by omega))) w.heap.size (Nat.le_refl _) (srcCells l[k] a2 c2) (k * 7))
        have hz4 := setCells_size w.heap.size (srcCells l[k] a2 c2) (k * 7) w2
        rw [puts7, setCells7] at HV' HB' hz4
        clear s0 s1 s2 s3 s4 s5 s6 f0 f1 f2 f3 f4 f5 f6 k0 k1 k2 k3 k4 k5 k6 k02
        go_wp2_with fail
        go_roundw
        case rel => exact ⟨k + 1, by go_num, by omega, HB', HV', by omega⟩
        case measure => simp [intOf]; omega)
    · obtain rfl : k = l.length := by omega
      go_wp2_with fail
      go_loopw [6] (fun i wr => ∃ (m : Nat), i = .int .i64 m ∧ l.length ≤ m ∧ m ≤ N ∧ Hid (Below w.heap.size w wr) ∧ Hid (SLRow wr w.heap.size l.length l.length (m - l.length) l) ∧ w.heap.size + 1 ≤ wr.heap.size) (fun i _ => N - (intOf i).toNat)
      case atStart => exact ⟨l.length, rfl, by omega, by omega, HB, by rw [Nat.sub_self]; exact HV, hwz⟩
      case round =>
        clear HB HV hwz HL
        obtain ⟨m, rfl, hm1, hm2, HB, HV, hwz⟩ := hrel
        by_cases hj2 : m < N
        · have hth := HV.out.there (i := m) (by omega)
          obtain ⟨u0, s0⟩ := Option.isSome_iff_exists.1 (hth 0 (by omega)).1
          have f0 := (hth 0 (by omega)).2
          rw [Nat.add_zero] at s0 f0
          clear hth
          have HV' := Lib.hid (HV.out.markAt (Nat.le_refl _) hm1 (by omega))
          have HB' := Lib.hid (HB.out.setCell (p := ⟨w.heap.size, m * 7, none⟩) (Nat.le_refl _) (.int .i64 (-99)))
          go_wp2_with fail
          go_roundw
          case rel => exact ⟨m + 1, by go_num, by omega, by omega, HB', HV', by simp; omega⟩
          case measure => simp [intOf]; omega
        · obtain rfl : N = m := by omega
          have HVe := Lib.hid (show SLRow wr w.heap.size l.length l.length 2 l by have h9 := HV.out; rw [show N - l.length = 2 by omega] at h9; exact h9)
          go_wp2_with fail
          go_ret
          refine ⟨w.heap.size, ?_, HB.out, Nat.le_refl _, HVe.out⟩
          rw [show l.length + 2 = N by omega]
          rfl
end Go.Proofs.YtjgicjgpahnmaaaDoor

/-! law18's kept: sources that were lent are as they were. -/
namespace Go.Proofs.YtjgicjgpahnmaaaDoor
open Go.RowKit Go.WideShapes
set_option linter.unusedVariables false
theorem SLRow.cells {w : World} {g n k j : Nat} {l : List (Int × PT)} (h : SLRow w g n k j l) {i : Nat} (hi : i < l.length) (hk : i < k) : ∃ a' c', w.cell? ⟨g, i * 7, none⟩ = some (.int .i64 l[i].1) ∧ w.cell? ⟨g, i * 7 + 1, none⟩ = some (.int .u8 l[i].2.kind) ∧ w.cell? ⟨g, i * 7 + 2, none⟩ = some (.bool l[i].2.yes) ∧
    w.cell? ⟨g, i * 7 + 3, none⟩ = some (.bool l[i].2.bel) ∧ w.cell? ⟨g, i * 7 + 4, none⟩ = some (.string l[i].2.mag) ∧ w.cell? ⟨g, i * 7 + 5, none⟩ = some (.string l[i].2.raw) ∧ w.cell? ⟨g, i * 7 + 6, none⟩ = some (.slice a' l[i].2.items.length c') ∧
    RmAt w (fun b => g < b ∧ b < w.heap.size) true l[i].2 (partCells l[i].2 a' c') := by
  obtain ⟨a', c', hc, h1⟩ := h.it i hi hk
  exact ⟨a', c', hc 0 _ rfl, hc 1 _ rfl, hc 2 _ rfl, hc 3 _ rfl, hc 4 _ rfl, hc 5 _ rfl, hc 6 _ rfl, h1⟩
theorem below_drewN' {B : Nat} {w w' : World} (h : Below B w w') : ∀ n, Below B w (w'.drewN n) := fun n => ⟨h.os, h.tape, h.output, h.size, h.block⟩
set_option maxRecDepth 100000 in
set_option maxHeartbeats 2000000 in
theorem kept18_any (l : List (Int × PT)) (A : Option Addr) (C : Nat) (g : Nat) (w : World) (hll : l.length ≤ 4000) (hsm : ∀ i (hi : i < l.length), Small l[i].2) (hr : SLRow w g l.length l.length 2 l) (hl : SrcsAt w (· < w.heap.size) l A) :
    Calls Tryd.prog 17 #[.slice (some ⟨g, 0, none⟩) l.length (l.length + 2), .slice A l.length C] w (Ret (.bool true) w) := by
  obtain ⟨N, hN1, hN2⟩ : ∃ N, l.length + 2 ≤ N ∧ N ≤ l.length + 2 := ⟨_, Nat.le_refl _, Nat.le_refl _⟩
  have HL := Lib.hid hl
  have HSm := Lib.hid hsm
  have HR := Lib.hid hr
  have HB0 := Lib.hid (Below.refl w.heap.size w)
  have hNN : l.length + 2 = N := by omega
  rw [hNN]
  clear hl hsm hr hNN
  go_enter Tryd.func17, Tryd.ntmps17
  go_wp2_with fail
  go_loopw [5, 6] (fun i t6 wr => ∃ (k : Nat), i = .int .i64 k ∧ k ≤ l.length ∧ Hid (Below w.heap.size w wr)) (fun i _ _ => l.length - (intOf i).toNat)
  case atStart => exact ⟨0, rfl, by omega, HB0⟩
  case round =>
    clear HB0
    obtain ⟨k, rfl, hk, HB⟩ := hrel
    have hwz := HB.out.size
    by_cases hlt : k < l.length
    · obtain ⟨b, o, aa, cc, rfl, hb, k0, k1, k2, k3, k4, k5, k6, hpa⟩ := (HL.out.below HB.out).cells hlt
      obtain ⟨a2, c2, l0, l1, l2, l3, l4, l5, l6, hra⟩ := (HR.out.below HB.out).cells hlt hlt
      have hB1 : Below wr.heap.size wr wr.drew := (Below.refl _ _).drew
      have HRc := Lib.hid (kept_any l[k].2 a2 c2 aa cc wr.drew (HSm.out k hlt) ((RmAt.more (fun b hb => hb.2) _ _ hra).below hB1) ((hpa.wide (by omega : w.heap.size ≤ wr.heap.size)).below hB1))
      unfold partCells at HRc
      clear hpa hB1 hra
      go_wp2_with fail
      go_region_law (go_simp; go_at_call 38; refine HRc.out.mono ?_; rintro e w2 ⟨rfl, hb2⟩; have HB2 := Lib.hid (HB.out.drew.trans (hb2.mono (by simp only [World.size_drew]; omega))); have hbr2 := (Below.refl wr.heap.size wr).drew.trans (hb2.mono (by simp only [World.size_drew]; omega)); have k02 := (hbr2.cell (p := ⟨b, o + k * 7, none⟩) (by simp only; omega)).trans k0; have l02 := (hbr2.cell (p := ⟨g, k * 7, none⟩) (by simp only; exact Nat.lt_of_lt_of_le HR.out.lt hwz)).trans l0; clear hbr2)
      all_goals (
        clear k0 k1 k2 k3 k4 k5 k6 l0 l1 l2 l3 l4 l5 l6
        go_wp2_with fail
        go_quiet (fail)
        all_goals (
          have HB3 := Lib.hid (below_drewN' HB2.out nq)
          go_wp2_with fail
          go_roundw
          case rel => exact ⟨k + 1, by go_num, by omega, HB3⟩
          case measure => simp [intOf]; omega))
    · obtain rfl : k = l.length := by omega
      go_wp2_with fail
      go_loopw [8] (fun i wr => ∃ (m : Nat), i = .int .i64 m ∧ l.length ≤ m ∧ m ≤ N ∧ Hid (Below w.heap.size w wr)) (fun i _ => N - (intOf i).toNat)
      case atStart => exact ⟨l.length, rfl, by omega, by omega, HB⟩
      case round =>
        clear HB hwz HL
        obtain ⟨m, rfl, hm1, hm2, HB⟩ := hrel
        by_cases hj2 : m < N
        · have hm0 := (HR.out.below HB.out).mrk (m - l.length) (by omega)
          rw [show l.length + (m - l.length) = m by omega] at hm0
          go_wp2_with fail
          go_roundw
          case rel => exact ⟨m + 1, by go_num, by omega, by omega, HB⟩
          case measure => simp [intOf]; omega
        · go_wp2_with fail
          go_ret
          exact ⟨rfl, HB.out⟩
end Go.Proofs.YtjgicjgpahnmaaaDoor

/-! Rows of parts that may be written over: what keeps them. -/
namespace Go.Proofs.YtjgicjgpahnmaaaDoor
open Go.RowKit Go.WideShapes
set_option linter.unusedVariables false
section
variable {w w' : World} {S : Nat → Prop}
theorem Wide.keep (hk : ∀ b, S b → w'.heap[b]? = w.heap[b]?) : ∀ {d : Nat} {v : Value}, Wide w S d v → Wide w' S d v
  | 0, _, h => h.elim
  | d + 1, v, h => by
    rcases h with h | ⟨g, n, c, cur, e, h1, h2, hn, h3, h4, h5, h6⟩
    · exact .inl h
    · refine .inr ⟨g, n, c, cur, e, h1, h2, hn, h3, (hk g h3).trans h4, h5, fun i hi => ?_⟩
      obtain ⟨k, y, b, m, r, v', h7, h8⟩ := h6 i hi
      exact ⟨k, y, b, m, r, v', h7.keep fun p hp => cell_of_heap (hp ▸ hk g h3), Wide.keep hk h8⟩
theorem Wide.more {S' : Nat → Prop} (hB : ∀ b, S b → S' b) : ∀ {d : Nat} {v : Value}, Wide w S d v → Wide w S' d v
  | 0, _, h => h.elim
  | d + 1, v, h => by
    rcases h with h | ⟨g, n, c, cur, e, h1, h2, hn, h3, h4, h5, h6⟩
    · exact .inl h
    · refine .inr ⟨g, n, c, cur, e, h1, h2, hn, hB g h3, h4, h5, fun i hi => ?_⟩
      obtain ⟨k, y, b, m, r, v', h7, h8⟩ := h6 i hi
      exact ⟨k, y, b, m, r, v', h7, Wide.more hB h8⟩
/-- A row turned, part by part. -/
theorem Wide.turn {g : Nat} (hk : ∀ b, b ≠ g → w'.heap[b]? = w.heap[b]?) (hb : ∀ cur, w.heap[g]? = some (.cells cur 30 (0, 0)) → ∃ cur', w'.heap[g]? = some (.cells cur' 30 (0, 0)) ∧ cur'.size = cur.size)
    (hc : ∀ i (k : Int) (y b : Bool) (m r : ByteArray) (v' : Value), CellsAt w g (i * 6) [.int .u8 k, .bool y, .bool b, .string m, .string r, v'] → ∃ (k' : Int) (y' b' : Bool) (m' r' : ByteArray) (v2 : Value), CellsAt w' g (i * 6) [.int .u8 k', .bool y', .bool b', .string m', .string r', v2] ∧ (v2 = v' ∨ v2 = .slice none 0 0)) :
    ∀ {d : Nat} {v : Value}, Wide w S d v → Wide w' S d v
  | 0, _, h => h.elim
  | d + 1, v, h => by
    rcases h with h | ⟨g', n, c, cur, e, h1, h2, hn, h3, h4, h5, h6⟩
    · exact .inl h
    · by_cases eg : g' = g
      · subst eg
        obtain ⟨cur', h4', h5'⟩ := hb cur h4
        refine .inr ⟨g', n, c, cur', e, h1, h2, hn, h3, h4', h5'.trans h5, fun i hi => ?_⟩
        obtain ⟨k, y, b, m, r, v', h7, h8⟩ := h6 i hi
        obtain ⟨k', y', b', m', r', v2, h9, h10⟩ := hc i k y b m r v' h7
        refine ⟨k', y', b', m', r', v2, h9, ?_⟩
        rcases h10 with rfl | rfl
        · exact Wide.turn hk hb hc h8
        · cases d with
          | zero => exact h8.elim
          | succ d => exact .inl rfl
      · refine .inr ⟨g', n, c, cur, e, h1, h2, hn, h3, (hk g' eg).trans h4, h5, fun i hi => ?_⟩
        obtain ⟨k, y, b, m, r, v', h7, h8⟩ := h6 i hi
        exact ⟨k, y, b, m, r, v', h7.keep fun p hp => cell_of_heap (hp ▸ hk g' eg), Wide.turn hk hb hc h8⟩
theorem Wide.puts {g j : Nat} {k : Int} {y b : Bool} {m r : ByteArray} (ht : w.there g (j * 6) 6) {d : Nat} {v : Value} (h : Wide w S d v) : Wide (w.setCells g (j * 6) [.int .u8 k, .bool y, .bool b, .string m, .string r, .slice none 0 0]) S d v := by
  refine h.turn (g := g) (fun b hb => setCells_heap g _ _ _ hb) (fun cur hc => ?_) (fun i k' y' b' m' r' v' hc => ?_)
  · obtain ⟨cur', h1, h2⟩ := setCells_blk g _ cur.size [.int .u8 k, .bool y, .bool b, .string m, .string r, .slice none 0 0] (j * 6) w ⟨cur, hc, rfl⟩
    exact ⟨cur', h1, h2⟩
  · by_cases e : i = j
    · subst e
      exact ⟨k, y, b, m, r, _, CellsAt.put ht, .inr rfl⟩
    · exact ⟨k', y', b', m', r', v', hc.apart g (j * 6) _ (.inr (by simp; omega)), .inl rfl⟩
theorem Wide.raw {g j : Nat} {s : ByteArray} {d : Nat} {v : Value} (h : Wide w S d v) : Wide (w.setCell ⟨g, j * 6 + 4, none⟩ (.string s)) S d v := by
  refine h.turn (g := g) (fun b hb => by simp [World.setCell, Array.getElem?_modify, Ne.symm hb]) (fun cur hc => ⟨cur.setIfInBounds (j * 6 + 4) (.string s), by simp [World.setCell, Array.getElem?_modify, hc], by simp⟩) (fun i k' y' b' m' r' v' hc => ?_)
  by_cases e : i = j
  · subst e
    refine ⟨k', y', b', m', s, v', fun q u hu => ?_, .inl rfl⟩
    have hq : q < 6 := by have := (List.getElem?_eq_some_iff.1 hu).1; simpa using this
    by_cases e4 : q = 4
    · subst e4
      have g4 := hc 4 (.string r') rfl
      rw [World.cell?_setCell_same _ _ _ g4]
      exact hu
    · rw [World.cell?_setCell_other _ _ _ _ (by simp <;> omega)]
      refine hc q u ?_
      rw [← hu]
      match q, hq, e4 with
      | 0, _, _ => rfl
      | 1, _, _ => rfl
      | 2, _, _ => rfl
      | 3, _, _ => rfl
      | 4, _, h => exact absurd rfl h
      | 5, _, _ => rfl
  · exact ⟨k', y', b', m', r', v', fun q u hu => by
      have hq : q < 6 := by have := (List.getElem?_eq_some_iff.1 hu).1; simpa using this
      rw [World.cell?_setCell_other _ _ _ _ (by simp <;> omega)]
      exact hc q u hu, .inl rfl⟩
theorem Wide.row {d g n c : Nat} (h : Wide w S (d + 1) (.slice (some ⟨g, 0, none⟩) n c)) : n ≤ c ∧ c ≤ maxLen ∧ n ≤ 16777216 ∧ S g ∧ (∃ cur, w.heap[g]? = some (.cells cur 30 (0, 0)) ∧ cur.size = c * 6) ∧ ∀ i, i < n → ∃ (k : Int) (y b : Bool) (m r : ByteArray) (v' : Value), w.cell? ⟨g, i * 6, none⟩ = some (.int .u8 k) ∧ w.cell? ⟨g, i * 6 + 1, none⟩ = some (.bool y) ∧ w.cell? ⟨g, i * 6 + 2, none⟩ = some (.bool b) ∧ w.cell? ⟨g, i * 6 + 3, none⟩ = some (.string m) ∧ w.cell? ⟨g, i * 6 + 4, none⟩ = some (.string r) ∧ w.cell? ⟨g, i * 6 + 5, none⟩ = some v' ∧ Wide w S d v' := by
  rcases h with h | ⟨g', n', c', cur, e, h1, h2, hn, h3, h4, h5, h6⟩
  · cases h
  · simp only [Value.slice.injEq, Option.some.injEq, Addr.mk.injEq, and_true] at e
    obtain ⟨rfl, rfl, rfl⟩ := e
    refine ⟨h1, h2, hn, h3, ⟨cur, h4, h5⟩, fun i hi => ?_⟩
    obtain ⟨k, y, b, m, r, v', h7, h8⟩ := h6 i hi
    exact ⟨k, y, b, m, r, v', h7 0 _ rfl, h7 1 _ rfl, h7 2 _ rfl, h7 3 _ rfl, h7 4 _ rfl, h7 5 _ rfl, h8⟩
/-- What writing over rows of S does. -/
structure Puts (S : Nat → Prop) (B : Nat) (w w' : World) : Prop where
  bel : Below B w w'
  old : ∀ b, b < w.heap.size → ¬ S b → w'.heap[b]? = w.heap[b]?
  wide : ∀ (d : Nat) (v : Value), Wide w S d v → Wide w' S d v
section
variable {B : Nat} {a : World}
theorem Puts.refl (S : Nat → Prop) (B : Nat) (w : World) : Puts S B w w := ⟨Below.refl _ _, fun _ _ _ => rfl, fun _ _ h => h⟩
theorem Puts.trans {w1 w2 w3 : World} (h : Puts S B w1 w2) (k : Puts S B w2 w3) : Puts S B w1 w3 :=
  ⟨h.bel.trans k.bel, fun b hb hs => (k.old b (Nat.lt_of_lt_of_le hb h.bel.size) hs).trans (h.old b hb hs), fun d v hv => k.wide d v (h.wide d v hv)⟩
theorem Puts.drew (h : Puts S B a w) : Puts S B a w.drew := ⟨h.bel.drew, h.old, fun d v hv => Wide.keep (w := w) (w' := w.drew) (fun _ _ => rfl) (h.wide d v hv)⟩
theorem Puts.alloc (h : Puts S B a w) (hB : B ≤ w.heap.size) (hS : ∀ b, S b → b < w.heap.size) (o : Obj) : Puts S B a (w.alloc o) :=
  ⟨h.bel.alloc hB o, fun b hb hs => (Below.heap_alloc w o b (Nat.lt_of_lt_of_le hb h.bel.size)).trans (h.old b hb hs), fun d v hv => (h.wide d v hv).keep fun b hb => Below.heap_alloc w o b (hS b hb)⟩
/-- A new block's cell. -/
theorem Puts.cell (h : Puts S B a w) {p : Addr} (hp : a.heap.size ≤ p.block) (hB : B ≤ p.block) (hS : ∀ b, S b → b ≠ p.block) (u : Value) : Puts S B a (w.setCell p u) :=
  ⟨h.bel.setCell hB u, fun b hb hs => (Below.heap_setCell w p u b (by omega)).trans (h.old b hb hs), fun d v hv => (h.wide d v hv).keep fun b hb => Below.heap_setCell w p u b (hS b hb)⟩
theorem Puts.grown (h : Puts S B a w) (hB : B ≤ w.heap.size) (hS : ∀ b, S b → b < w.heap.size) (hg : w.grownBy w' none) : Puts S B a w' :=
  ⟨h.bel.grown hg hB (fun k e => by cases e), fun b hb hs => (hg.block b (Nat.lt_of_lt_of_le hb h.bel.size) (by simp)).trans (h.old b hb hs), fun d v hv => (h.wide d v hv).keep fun b hb => hg.block b (hS b hb) (by simp)⟩
theorem Puts.puts (h : Puts S B a w) {g j : Nat} (hg : S g) (hB : B ≤ g) {k : Int} {y b : Bool} {m r : ByteArray} (ht : w.there g (j * 6) 6) : Puts S B a (w.setCells g (j * 6) [.int .u8 k, .bool y, .bool b, .string m, .string r, .slice none 0 0]) :=
  ⟨below_puts h.bel g hB _ _, fun b hb hs => (setCells_heap g _ _ _ (fun e => hs (by subst e; exact hg))).trans (h.old b hb hs), fun d v hv => (h.wide d v hv).puts ht⟩
theorem Puts.raw (h : Puts S B a w) {g j : Nat} (hg : S g) (hB : B ≤ g) (s : ByteArray) : Puts S B a (w.setCell ⟨g, j * 6 + 4, none⟩ (.string s)) :=
  ⟨h.bel.setCell hB _, fun b hb hs => (Below.heap_setCell w _ _ b (fun e => hs (by subst e; exact hg))).trans (h.old b hb hs), fun d v hv => (h.wide d v hv).raw⟩
end
end
end Go.Proofs.YtjgicjgpahnmaaaDoor

/-! keep.Write: a part's lists written over. -/
namespace Go.Proofs.YtjgicjgpahnmaaaDoor
open Go.RowKit Go.WideShapes
set_option linter.unusedVariables false
def WritePost (S : Nat → Prop) (B : Nat) (w : World) (e : Ending) (w' : World) : Prop := e = .returned (.tuple #[]) ∧ Puts S B w w'
def newCells : List Value := [.int .u8 78, .bool false, .bool false, .string ⟨#[]⟩, .string ⟨#[]⟩, .slice none 0 0]
theorem wpList_append_room {P : Program} (w : World) {ops : Array Oper} {rest : List Oper} {o : Oper} {a : Act} {Q : Exit → Act → World → Prop}
    (hg : o.guard = none) (s x : Operand) (t : TypeId) (hop : o.op = Op.call { callee := Callee.builtin Builtin.append, args := #[s, x], argTypes := #[t, t] })
    (e : TypeId) (i : TypeInfo) (size : Nat) (h1 : P.underlying t = some (.slice e)) (h2 : P.info? e = some i) (h4 : i.size = size)
    (b off n cap : Nat) (hs : a.eval s = .slice (some ⟨b, off, none⟩) n cap)
    (ad : Addr) (m c : Nat) (news : List Value) (hx : a.eval x = .slice (some ad) m c) (hn : news.length = m * size) (hc : ∀ j u, news[j]? = some u → w.cell? (ad.add j) = some u) (h1c : ∀ u ∈ news, u.oneCell' = true)
    (hr : n + m ≤ cap) (hth : w.there b (off + n * size) news.length)
    (hroom : ∀ w', w' = w.setCells b (off + n * size) news → wpList P ops Q rest (a.put o.dst (.slice (some ⟨b, off, none⟩) (n + m) cap)) w') :
    wpList P ops Q (o :: rest) a w := by
  refine wpList_plain hg fun K hK' => ?_
  subst h4
  have hrun := run_append_room_cells (P := P) w t o.type e i h1 h2 b off n cap ad m c news hn hc h1c hr (fun j hj => (hth j hj).1) (fun j hj => (hth j hj).2)
  unfold Oper.wp
  simp [execOp, hop, resolve, invoke, builtin, hs, hx, hrun, Result.andThen]
  exact hK' _ _ (hroom _ rfl)
theorem own_row {w : World} {base : Nat} {v : Value} {n : Nat} {xs : List Value} (h : w.ownsRow base 30 6 v n xs) (hn : 0 < n) : ∃ g c, v = .slice (some ⟨g, 0, none⟩) n c ∧ base ≤ g ∧ w.there g ((n - 1) * 6) 6 := by
  rcases h.2 with ⟨_, h0⟩ | ⟨g, cap, cur, rfl, hb, hg, hc, hm, hs, ht⟩
  · omega
  · exact ⟨g, cap, rfl, hb, blk_there ⟨cur, hg, hs⟩ (by omega)⟩
set_option maxRecDepth 100000 in
set_option maxHeartbeats 2000000 in
theorem write_nil (S : Nat → Prop) (B : Nat) (kk : Int) (y b : Bool) (m r : ByteArray) (w : World) (hB : B ≤ w.heap.size) (hS : ∀ g, S g → B ≤ g ∧ g < w.heap.size) :
    Calls Tryd.prog 19 #[.agg #[.int .u8 kk, .bool y, .bool b, .string m, .string r, .slice none 0 0]] w (WritePost S B w) := by
  obtain ⟨i0, hi, hz0, hz1, hz2⟩ := info_parts part_info
  have HS := Lib.hid hS
  have HP0 := Lib.hid (fun o => (Puts.refl S B w).alloc hB (fun b hb => (hS b hb).2) o)
  have HX0 := Lib.hid (QBox.new w w.heap.size (.int .u8 kk) (.bool y) (.bool b) (.string m) (.string r) (.slice none 0 0) rfl)
  clear hS
  go_enter Tryd.func19, Tryd.ntmps19
  go_wp2_with fail
  go_loopw [2] (fun i wr => i = .int .i64 0 ∧ Hid (Puts S B w wr) ∧ Hid (QBox wr w.heap.size (.int .u8 kk) (.bool y) (.bool b) (.string m) (.string r) (.slice none 0 0)) ∧ w.heap.size + 1 ≤ wr.heap.size) (fun i _ => 0)
  case atStart => exact ⟨rfl, Lib.hid (HP0.out _), HX0, by simp⟩
  case round =>
    clear HP0 HX0
    obtain ⟨rfl, HP, HX, hwz⟩ := hrel
    have x5 := HX.out.cells.2.2.2.2.2
    go_wp2_with (at_builtin; refine wpList_append_grows _ rfl _ _ 28 rfl 30 i0 (.agg #[.int .u8 0, .bool false, .bool false, .string ⟨#[]⟩, .string ⟨#[]⟩, .slice none 0 0]) 6 72 Tryd.underlying28 hi hz0 hz1 hz2 rfl (by decide) none 0 0 [] rfl (fun _ => ⟨rfl, rfl⟩) rfl (fun b e => by cases e) ⟨wr.heap.size, 0, none⟩ 1 1 [.int .u8 78, .bool false, .bool false, .string ⟨#[]⟩, .string ⟨#[]⟩, .slice none 0 0] rfl rfl (World.news_of_block (cs := #[.int .u8 78, .bool false, .bool false, .string ⟨#[]⟩, .string ⟨#[]⟩, .slice none 0 0]) (t := 30) (fr := (0, 0)) (heap_alloc_new wr _)) (by simp [Value.oneCell']) (by omega) (by simp [maxLen]) (by omega) ?_)
    intro v2 w2 hown hgr
    obtain ⟨g2, c2, rfl, hg2, hth⟩ := own_row hown (by omega)
    have hgz : wr.heap.size + 1 ≤ g2 := by simpa using hg2
    have HTH := Lib.hid hth
    clear hg2 hth hown
    have hc4 := (HTH.out 4 (by omega)).1
    have hf4 := (HTH.out 4 (by omega)).2
    obtain ⟨u4, hu4⟩ := Option.isSome_iff_exists.1 hc4
    clear hc4
    simp only [Nat.sub_self, Nat.zero_mul, Nat.zero_add] at hu4 hf4

    go_wp2_with fail
    go_end0
    have hSr : ∀ b, S b → b < wr.heap.size := fun b hb => by have := (HS.out b hb).2; omega
    exact ⟨rfl, ((HP.out.alloc (by omega) hSr _).grown (by simp; omega) (fun b hb => by have := hSr b hb; simp; omega) hgr).cell (p := ⟨g2, 4, none⟩) (by simp only; omega) (by simp only; omega) (fun b hb => by have := hSr b hb; simp only; omega) _⟩
theorem QBox.puts' {S : Nat → Prop} {B : Nat} {w w' : World} {T : Nat} {x0 x1 x2 x3 x4 x5 : Value} (h : QBox w T x0 x1 x2 x3 x4 x5) (hp : Puts S B w w') (hT : ¬ S T) : QBox w' T x0 x1 x2 x3 x4 x5 := (hp.old T h.lt hT).trans h
theorem heap_setCells_put {w : World} {g n : Nat} {x0 x1 x2 x3 x4 x5 : Value} (h : w.there g (n * 6) 6) : (w.setCells g (n * 6) [x0, x1, x2, x3, x4, x5]).cell? ⟨g, n * 6 + 4, none⟩ = some x4 := CellsAt.put (cs := [x0, x1, x2, x3, x4, x5]) h 4 _ rfl
theorem olds_of {w : World} {g N : Nat} (h : w.there g 0 N) : ∃ olds : List Value, olds.length = N ∧ ∀ j u, olds[j]? = some u → w.cell? ((⟨g, 0, none⟩ : Addr).add j) = some u := by
  refine ⟨(List.range N).map fun j => (w.cell? ⟨g, 0 + j, none⟩).getD undef, by simp, fun j u hj => ?_⟩
  have hjN : j < N := by have := (List.getElem?_eq_some_iff.1 hj).1; simpa using this
  obtain ⟨v, hv⟩ := Option.isSome_iff_exists.1 (h j hjN).1
  rw [List.getElem?_map, List.getElem?_range hjN] at hj
  simp only [Option.map_some, hv, Option.getD_some, Option.some.injEq] at hj
  rw [← hj, Addr.add_lit]; exact hv
theorem room_facts {S : Nat → Prop} {B d g k c : Nat} {w wr w3 : World} (HP : Hid (Puts S B w wr)) (hB : B ≤ wr.heap.size) (hSr : Hid (∀ b, S b → B ≤ b ∧ b < wr.heap.size)) (HG : Hid (S g)) (h : Wide wr S (d + 1) (.slice (some ⟨g, 0, none⟩) k c)) (hroom : k < c)
    (hw3 : w3 = (wr.alloc (Obj.cells #[.int .u8 78, .bool false, .bool false, .string ⟨#[]⟩, .string ⟨#[]⟩, .slice none 0 0] 30)).setCells g (0 + k * 6) [.int .u8 78, .bool false, .bool false, .string ⟨#[]⟩, .string ⟨#[]⟩, .slice none 0 0]) :
    Hid (Puts S B w w3) ∧ w3.cell? ⟨g, k * 6 + 4, none⟩ = some (.string ⟨#[]⟩) ∧ w3.frozen? ⟨g, k * 6 + 4, none⟩ = false := by
  rw [Nat.zero_add] at hw3
  obtain ⟨_, _, _, _, ⟨cur, hb2, hb3⟩, _⟩ := h.row
  have hbl := (Below.heap_alloc wr (Obj.cells #[.int .u8 78, .bool false, .bool false, .string ⟨#[]⟩, .string ⟨#[]⟩, .slice none 0 0] 30) _ (hSr.out g HG.out).2).trans hb2
  have hth := blk_there ⟨cur, hbl, hb3⟩ (o := k * 6) (m := 6) (by omega)
  refine ⟨Lib.hid ?_, ?_, ?_⟩
  · rw [hw3]
    exact (HP.out.alloc hB (fun b hb => (hSr.out b hb).2) _).puts (j := k) (k := 78) (y := false) (b := false) (m := ⟨#[]⟩) (r := ⟨#[]⟩) HG.out (hSr.out g HG.out).1 hth
  · rw [hw3]; exact heap_setCells_put hth
  · obtain ⟨cur', hb2', _⟩ := setCells_blk g 30 _ [.int .u8 78, .bool false, .bool false, .string ⟨#[]⟩, .string ⟨#[]⟩, .slice none 0 0] (k * 6) (wr.alloc (Obj.cells #[.int .u8 78, .bool false, .bool false, .string ⟨#[]⟩, .string ⟨#[]⟩, .slice none 0 0] 30)) ⟨cur, hbl, rfl⟩
    simp only [World.frozen?, hw3, hb2']
    rfl
set_option maxRecDepth 100000 in
set_option maxHeartbeats 700000 in
theorem write_any (S : Nat → Prop) (B : Nat) : ∀ (d : Nat) (kk : Int) (y b : Bool) (m r : ByteArray) (v : Value) (w : World), B ≤ w.heap.size → (∀ g, S g → B ≤ g ∧ g < w.heap.size) → Wide w S d v →
    Calls Tryd.prog 19 #[.agg #[.int .u8 kk, .bool y, .bool b, .string m, .string r, v]] w (WritePost S B w) := by
  intro d
  induction d with
  | zero => intro kk y b m r v w _ _ h; exact h.elim
  | succ d ih =>
    intro kk y b m r v w hB hS hW
    have hW' := hW
    rcases hW with rfl | ⟨g, n, c, cur, rfl, hnc, hcm, hn, hg, hblk, hcs, hit⟩
    · exact write_nil S B kk y b m r w hB hS
    clear hcs hit hblk cur hcm
    obtain ⟨i0, hi, hz0, hz1, hz2⟩ := info_parts part_info
    have hgS := hS g hg
    have HS := Lib.hid hS
    have HG := Lib.hid hg
    have HW := Lib.hid hW'
    have HIH := Lib.hid ih
    have HP0 := Lib.hid (fun o => (Puts.refl S B w).alloc hB (fun b hb => (hS b hb).2) o)
    have HX0 := Lib.hid (QBox.new w w.heap.size (.int .u8 kk) (.bool y) (.bool b) (.string m) (.string r) (.slice (some ⟨g, 0, none⟩) n c) rfl)
    clear hS hW' ih hg
    go_enter Tryd.func19, Tryd.ntmps19
    go_wp2_with fail
    go_loopw [2] (fun i wr => ∃ k : Nat, i = .int .i64 k ∧ k ≤ n ∧ Hid (Puts S B w wr) ∧ Hid (QBox wr w.heap.size (.int .u8 kk) (.bool y) (.bool b) (.string m) (.string r) (.slice (some ⟨g, 0, none⟩) n c)) ∧ w.heap.size + 1 ≤ wr.heap.size) (fun i _ => n - (intOf i).toNat)
    case atStart => exact ⟨0, rfl, by omega, Lib.hid (HP0.out _), HX0, by simp⟩
    case round =>
      clear HP0 HX0
      obtain ⟨k, rfl, hk, HP, HX, hwz⟩ := hrel
      have x5 := HX.out.cells.2.2.2.2.2
      have hSr := Lib.hid (fun b (hb : S b) => show B ≤ b ∧ b < wr.heap.size from ⟨(HS.out b hb).1, by have := (HS.out b hb).2; omega⟩)
      have HWr := Lib.hid (HP.out.wide (d + 1) _ HW.out)
      by_cases hlt : k < n
      · obtain ⟨k', y', b', m', r', v', k0, k1, k2, k3, k4, k5, hv'⟩ := HWr.out.row.2.2.2.2.2 k hlt
        have HRc := Lib.hid (HIH.out k' y' b' m' r' v' wr (by omega) hSr.out hv')
        clear hv'
        go_wp2_with fail
        refine HRc.out.mono ?_
        rintro e w2 ⟨rfl, hp2⟩
        have HP2 := Lib.hid (HP.out.trans hp2)
        have HX2 := Lib.hid (HX.out.puts' hp2 (fun h => by have := (HS.out _ h).2; omega))
        have hz2' := hp2.bel.size
        obtain ⟨_, _, _, _, ⟨cur, hb2, hb3⟩, _⟩ := (hp2.wide (d + 1) _ HWr.out).row
        have HTH := Lib.hid (blk_there ⟨cur, hb2, hb3⟩ (o := k * 6) (m := 6) (by omega))
        obtain ⟨u0, u1, u2, u3, u4, u5, s0, s1, s2, s3, s4, s5, f0, f1, f2, f3, f4, f5⟩ := there6 HTH.out (.int .u8 77) (.bool false) (.bool false) (.string ⟨#[]⟩) (.string ⟨#[119, 114, 105, 116, 116, 101, 110]⟩)
        have x52 := HX2.out.cells.2.2.2.2.2
        clear hb2 hb3 cur hp2 k0 k1 k2 k3 k4 k5 x5
        have HP3 := Lib.hid (HP2.out.puts (j := k) (k := 77) (y := false) (b := false) (m := ⟨#[]⟩) (r := ⟨#[119, 114, 105, 116, 116, 101, 110]⟩) HG.out hgS.1 HTH.out)
        have HX3 := Lib.hid (HX2.out.puts (g := g) (k * 6) [.int .u8 77, .bool false, .bool false, .string ⟨#[]⟩, .string ⟨#[119, 114, 105, 116, 116, 101, 110]⟩, .slice none 0 0] (by omega))
        have hz3 := setCells_size g [.int .u8 77, .bool false, .bool false, .string ⟨#[]⟩, .string ⟨#[119, 114, 105, 116, 116, 101, 110]⟩, .slice none 0 0] (k * 6) w2
        rw [setCells6] at HP3 HX3 hz3
        go_wp2_with fail
        go_roundw
        case rel => exact ⟨k + 1, by go_num, by omega, HP3, HX3, by omega⟩
        case measure => simp [intOf]; omega
      · obtain rfl : k = n := by omega
        by_cases hroom : k < c
        · have HTH := Lib.hid (show (wr.alloc (Obj.cells #[.int .u8 78, .bool false, .bool false, .string ⟨#[]⟩, .string ⟨#[]⟩, .slice none 0 0] 30)).there g (k * 6) 6 by
            obtain ⟨_, _, _, _, ⟨cur, hb2, hb3⟩, _⟩ := HWr.out.row
            exact blk_there ⟨cur, (Below.heap_alloc _ _ _ (hSr.out g HG.out).2).trans hb2, hb3⟩ (by omega))
          have HO := Lib.hid (HWr.out.row.2.2.2.2.2)
          go_wp2_with (at_builtin; refine wpList_append_room _ rfl _ _ 28 rfl 30 i0 6 Tryd.underlying28 hi hz1 g 0 k c rfl ⟨wr.heap.size, 0, none⟩ 1 1 [.int .u8 78, .bool false, .bool false, .string ⟨#[]⟩, .string ⟨#[]⟩, .slice none 0 0] rfl rfl (World.news_of_block (cs := #[.int .u8 78, .bool false, .bool false, .string ⟨#[]⟩, .string ⟨#[]⟩, .slice none 0 0]) (t := 30) (fr := (0, 0)) (heap_alloc_new wr _)) (by simp [Value.oneCell']) (by omega) (by rw [Nat.zero_add]; exact fun j hj => HTH.out j hj) ?_; intro w3 hw3; obtain ⟨HP4, c4, f4⟩ := room_facts HP (by omega) hSr HG HWr.out hroom hw3; have HW3 := Lib.hid hw3; clear hw3 x5)
          go_wp2_with fail
          go_end0
          exact ⟨rfl, HP4.out.raw HG.out hgS.1 _⟩
        · obtain ⟨olds, ho1, ho2⟩ := olds_of (w := wr.alloc (Obj.cells #[.int .u8 78, .bool false, .bool false, .string ⟨#[]⟩, .string ⟨#[]⟩, .slice none 0 0] 30)) (g := g) (N := k * 6) (by
            obtain ⟨_, _, _, _, ⟨cur, hb2, hb3⟩, _⟩ := HWr.out.row
            exact blk_there ⟨cur, (Below.heap_alloc _ _ _ (hSr.out g HG.out).2).trans hb2, hb3⟩ (by omega))
          have HO1 := Lib.hid ho1
          have HO2 := Lib.hid (show ∀ b, some (⟨g, 0, none⟩ : Addr) = some b → ∀ j u, olds[j]? = some u → (wr.alloc (Obj.cells #[.int .u8 78, .bool false, .bool false, .string ⟨#[]⟩, .string ⟨#[]⟩, .slice none 0 0] 30)).cell? (b.add j) = some u from fun b e j u hj => by cases e; exact ho2 j u hj)
          clear ho1 ho2
          go_wp2_with (at_builtin; refine wpList_append_grows _ rfl _ _ 28 rfl 30 i0 (.agg #[.int .u8 0, .bool false, .bool false, .string ⟨#[]⟩, .string ⟨#[]⟩, .slice none 0 0]) 6 72 Tryd.underlying28 hi hz0 hz1 hz2 rfl (by decide) (some ⟨g, 0, none⟩) k c olds rfl (fun h => by cases h) HO1.out HO2.out ⟨wr.heap.size, 0, none⟩ 1 1 [.int .u8 78, .bool false, .bool false, .string ⟨#[]⟩, .string ⟨#[]⟩, .slice none 0 0] rfl rfl (World.news_of_block (cs := #[.int .u8 78, .bool false, .bool false, .string ⟨#[]⟩, .string ⟨#[]⟩, .slice none 0 0]) (t := 30) (fr := (0, 0)) (heap_alloc_new wr _)) (by simp [Value.oneCell']) (by omega) (by unfold maxLen; omega) (by omega) ?_)
          intro v2 w2 hown hgr
          obtain ⟨g2, c2, rfl, hg2, hth⟩ := own_row hown (by omega)
          have hgz : wr.heap.size + 1 ≤ g2 := by simpa using hg2
          have HTH := Lib.hid hth
          have HGR := Lib.hid hgr
          clear hg2 hth hown hgr
          have hc4 := (HTH.out 4 (by omega)).1
          have hf4 := (HTH.out 4 (by omega)).2
          obtain ⟨u4, hu4⟩ := Option.isSome_iff_exists.1 hc4
          clear hc4
          simp only [Nat.add_sub_cancel] at hu4 hf4
          go_wp2_with fail
          go_end0
          exact ⟨rfl, ((HP.out.alloc (by omega) (fun b hb => (hSr.out b hb).2) _).grown (by simp; omega) (fun b hb => by have := (hSr.out b hb).2; simp; omega) HGR.out).cell (p := ⟨g2, k * 6 + 4, none⟩) (by simp only; omega) (by simp only; omega) (fun b hb => by have := (hSr.out b hb).2; simp only; omega) _⟩
end Go.Proofs.YtjgicjgpahnmaaaDoor

/-! errors.As and errors.Is of a fault, answered by our machine. -/
namespace Go.Proofs.YtjgicjgpahnmaaaDoor
open Go.RowKit Go.WideShapes Ev
set_option linter.unusedVariables false
theorem EL_base {w : World} (h : laidMetH Tryd.prog Rows.rekeyGoesUptoRow.laid w) (T : Nat) : HR Tryd.prog w (EL T) baseW 64 w := by
  have h0 := base_hr h
  have lt : ∀ i o, baseW.get i = some o → i < 48 := fun i o ho => by
    obtain ⟨b, r, k1, _⟩ := h0.born i o ho rfl
    simp only [E0] at k1
    split at k1
    · assumption
    · cases k1
  have same : ∀ i, i < 48 → (EL T).blk i = some i := fun i hi => by simp [EL, hi]
  refine ⟨h0.below, fun i b e => ?_, fun g hg => same g hg, fun i j o o' b h1 h2 e1 e2 => ?_, fun i hp => absurd hp Bool.false_ne_true, fun i o ho hp => ?_⟩
  · simp only [EL] at e
    split at e
    · exact ⟨by omega, fun h => by omega⟩
    · split at e
      · exact ⟨by omega, fun h => by omega⟩
      · cases e
  · rw [same i (lt i o h1)] at e1
    rw [same j (lt j o' h2)] at e2
    cases e1; cases e2; rfl
  · obtain ⟨b, r, k1, k2, k3⟩ := h0.born i o ho rfl
    have hi := lt i o ho
    have hb : b = i := by simp [E0, hi] at k1; exact k1.symm
    subst hb
    have hto : ∀ i b, E0.blk i = some b → (EL T).blk i = some b ∧ (EL T).cap i = E0.cap i := by
      intro i b h
      simp only [E0] at h
      split at h
      · injection h with h; subst h; exact ⟨same _ (by assumption), rfl⟩
      · cases h
    have hle : E0.le (EL T) := ⟨hto, rfl⟩
    exact ⟨b, r, same b hi, k2, k3.mono hle k1⟩
noncomputable def asMem : T AObj := baseW.set 64 (.cells (T.leaf.set 0 (.pointer none)) 1 66 false)
def asChk (r : Tr (Out × Mem)) : Bool := match r with
  | .ok (.ret (.bool true), m) => match m.H.get 64 with
    | some (.cells cs n _ _) => match cs.get 0 with
      | some (.pointer (some ⟨48, 0, none⟩)) => Nat.blt 0 n
      | _ => false
    | _ => false
  | _ => false
theorem as_ran : asChk (evCall2 (fun _ _ _ => none) Tryd.prog 100000 60 35 [.iface 66 (.pointer (some ⟨48, 0, none⟩)), .iface 77 (.pointer (some ⟨64, 0, none⟩))] ⟨asMem, 65, 0⟩) = true := by kernel_rfl
theorem asChk_ok {r : Tr (Out × Mem)} (h : asChk r = true) : ∃ m cs n e g, r = .ok (.ret (.bool true), m) ∧ m.H.get 64 = some (.cells cs n e g) ∧ cs.get 0 = some (.pointer (some ⟨48, 0, none⟩)) ∧ 0 < n := by
  unfold asChk at h
  split at h
  · split at h
    · split at h
      · exact ⟨_, _, _, _, _, rfl, by assumption, by assumption, by simpa [Nat.blt_eq] using h⟩
      · cases h
    · cases h
  · cases h
theorem call_full {P : Program} {w0 w : World} {E : Env} {H : T AObj} {next : Nat} (hP : Plainly P) (hm : P.follows .mixedOrders = true) (steps n : Nat) (f : FuncId) {l : List Value} {args : Array Value} {v : Value} {m : Mem} (h0 : HR P w0 E H next w) (hv : VRL E l args.toList) (hr : evCall2 (fun _ _ _ => none) P steps n f l ⟨H, next, 0⟩ = .ok (.ret v, m)) :
    Calls P f args w fun e w' => ∃ E' v', E.le E' ∧ HR P w0 E' m.H m.next w' ∧ e = .returned v' ∧ VR E' v v' := by
  obtain ⟨_, hc⟩ := evCall2_ok hP hm no_sums steps n f _ _ _ _ hr
  refine Calls.mono (hc E w args h0 (Nat.zero_le _) hv) fun e w'' ⟨E', k1, k2, _, _, k5⟩ => ?_
  cases e with
  | returned v' => exact ⟨E', v', k1, k2, rfl, k5⟩
  | _ => exact k5.elim
set_option maxRecDepth 100000 in
/-- errors.As of a fault: it is laid into the box. -/
theorem as_any {w0 w wb : World} {Tb b : Nat} (h : laidMetH Tryd.prog Rows.rekeyGoesUptoRow.laid w0) (hb0 : Below w0.heap.size w0 w) (hge : w.heap.size ≤ b) (hb : Below w.heap.size w wb) (hbox : BoxAt wb b (.pointer none) 66) :
    Calls Tryd.prog 35 #[.iface 66 (.pointer (some ⟨Tb, 0, none⟩)), .iface 77 (.pointer (some ⟨b, 0, none⟩))] wb fun e w' => e = .returned (.bool true) ∧ Below w.heap.size w w' ∧ w'.cell? ⟨b, 0, none⟩ = some (.pointer (some ⟨Tb, 0, none⟩)) := by
  have h0 : HR Tryd.prog w (EL Tb) baseW 64 w := by
    have h1 := EL_base h Tb
    refine ⟨Below.refl _ _, fun i b e => ⟨(h1.dom i b e).1, fun h64 => by have := (h1.dom i b e).1; omega⟩, h1.glob, h1.inj, fun i hp => absurd hp Bool.false_ne_true, fun i o ho hp => ?_⟩
    obtain ⟨b, r, k1, k2, k3⟩ := h1.born i o ho hp
    exact ⟨b, r, k1, by rw [hb0.block b (Array.getElem?_eq_some_iff.1 k2).1]; exact k2, k3⟩
  have hor : OR Tryd.prog ((EL Tb).more 64 b none) 64 (.cells (T.leaf.set 0 (.pointer none)) 1 66 false) (.cells #[.pointer none] 66 (0, 0)) := by
    refine ⟨#[.pointer none], ⟨_, _, fun _ => .inl rfl, fun _ => rfl, rfl⟩, by simp [sizeOk, Env.more], fun j v hj hv => ?_⟩
    obtain rfl : j = 0 := by omega
    rw [T.get_set _ _ _ (by omega), if_pos rfl] at hv
    injection hv with hv
    subst hv
    exact ⟨_, rfl, .ptr0⟩
  have hr := HR.newAt h0 (by decide) hge hor hb hbox
  obtain ⟨m, cs, n, el, g, hev, hg1, hg2, hn⟩ := asChk_ok as_ran
  refine Calls.mono (call_full (plainly_of plainT) mixedT _ _ _ hr (.cons (.iface _ (.ptr 0 (by simp [Env.more, EL]))) (.cons (.iface _ (.ptr 0 (by simp [Env.more]))) .nil)) hev) fun e w' ⟨E', v', k1, k2, k3, k4⟩ => ?_
  cases k4
  have e64 := (k1.to 64 b (by simp [Env.more])).1
  have e48 := (k1.to 48 Tb (by simp [Env.more, EL])).1
  obtain ⟨b9, r, g3, g4, g5⟩ := k2.obj e64 hg1
  rw [e64] at g3
  injection g3 with g3
  subst g3
  obtain ⟨arr, ⟨fz, el', _, _, rfl⟩, hsz, hcell⟩ := g5
  refine ⟨k3, k2.below, ?_⟩
  obtain ⟨v', h1, h2⟩ := hcell 0 _ hn hg2
  cases h2 with
  | ptr _ hblk =>
    rw [e48] at hblk
    injection hblk with hblk
    subst hblk
    simp only [World.cell?, g4]
    exact h1
end Go.Proofs.YtjgicjgpahnmaaaDoor
