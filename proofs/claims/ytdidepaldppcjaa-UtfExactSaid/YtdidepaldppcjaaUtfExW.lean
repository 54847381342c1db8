/-
  UtfExact's walk.
-/
import Derived.Test.YtdidepaldppcjaaUtfExM
import Derived.Test.YtdidepaldppcjaaUtfOps
import Derived.Test.YtdidepaldppcjaaUtfAwake
import Derived.Deep.RegionHeld3
namespace Go.Proofs.Ytdidepaldppcjaa
open Go.RowKit
/-- So far as the sum is small, all that it is of is small. -/
def SumOf (len : Nat) (S : Nat → ByteArray) (Z : Nat → List Int) (n i : Nat) : Prop := n ≤ 2147483647 → len ≤ 2147483647 ∧ ∀ j, j < i → (S j).size ≤ 2147483647 ∧ (Z j).length ≤ 2147483647
theorem addN_le {n k : Nat} (h : addN n k ≤ 2147483647) : n ≤ 2147483647 ∧ k ≤ 2147483647 := by
  unfold addN at h; split at h
  · assumption
  · omega
theorem SumOf.step {len : Nat} {S : Nat → ByteArray} {Z : Nat → List Int} {n i : Nat} (h : SumOf len S Z n i) : SumOf len S Z (addN n (addN (S i).size (Z i).length)) (i + 1) := by
  intro hs
  have h1 := addN_le hs
  have h2 := addN_le h1.2
  refine ⟨(h h1.1).1, fun j hj => ?_⟩
  by_cases e : j = i
  · subst e; exact h2
  · exact (h h1.1).2 j (by omega)
theorem add_quiet (n k : Nat) (w : World) (d : Nat) : Calls Try.prog 9 #[.int .i64 n, .int .i64 k] (w.drewN d) fun e w'' => e = .returned (.int .i64 (addN n k : Nat)) ∧ ∃ m, w'' = w.drewN m :=
  (add_big n k _).mono fun _ _ h => ⟨h.1, d, h.2.symm⟩
theorem keepB {w w' w'' : World} {p : Addr} {v : Value} {B : Nat} (h : w'.cell? p = some v ∧ Below B w w') (hb : Below w'.heap.size w' w'') (hB : B ≤ w.heap.size) : w''.cell? p = some v ∧ Below B w w'' :=
  ⟨(hb.cell (World.block_lt_of_cell? _ _ h.1)).trans h.1, h.2.trans (hb.mono (Nat.le_trans hB h.2.size))⟩
/-- What Points gives back, in one piece. -/
def ptsL (s : ByteArray) : List Int := match badAt (chars s) with | some _ => [] | none => ptsOf (chars s)
def ptsE (s : ByteArray) : Nat := match badAt (chars s) with | some _ => 30 | none => 0
def ptsK (s : ByteArray) : Nat := match badAt (chars s) with | some k => k | none => 0
theorem ptsL_len (s : ByteArray) : (ptsL s).length ≤ s.size := by
  unfold ptsL; split
  · exact Nat.zero_le _
  · rw [ptsOf_len]; exact chars_len s
theorem points_one {s : ByteArray} {w : World} {e : Ending} {w1 : World} (h : PointsPost s w e w1) : ∃ a c, e = .returned (.tuple #[.slice a (ptsL s).length c, .int .i64 (ptsE s), .int .i64 (ptsK s)]) ∧
    w1.ownsRow w.heap.size 3 1 (.slice a (ptsL s).length c) (ptsL s).length (ints (ptsL s)) ∧ Below w.heap.size w w1 := by
  rcases h with ⟨k, hk, rfl, hb⟩ | ⟨hk, v, rfl, hown, _, hb⟩
  · refine ⟨none, 0, ?_, ?_, hb⟩
    · simp only [ptsL, ptsE, ptsK, hk]; rfl
    · simp only [ptsL, hk]; exact World.ownsRow_nil _ _ _ _
  · obtain ⟨a, c, rfl⟩ : ∃ a c, v = .slice a (ptsOf (chars s)).length c := by
      rcases hown.2 with ⟨rfl, h0⟩ | ⟨g, cap, cur, rfl, _⟩
      · rw [h0]; exact ⟨_, _, rfl⟩
      · exact ⟨_, _, rfl⟩
    refine ⟨a, c, ?_, ?_, hb⟩
    · simp only [ptsL, ptsE, ptsK, hk]; rfl
    · simp only [ptsL, hk]; exact hown
def txtS (l : List Int) : ByteArray := match badPt l with | some _ => ⟨#[]⟩ | none => strOf (textB l)
def txtE (l : List Int) : Nat := match badPt l with | some _ => 30 | none => 0
def txtK (l : List Int) : Nat := match badPt l with | some k => k | none => 0
theorem text_one {l : List Int} {w : World} {e : Ending} {w1 : World} (h : TextPost l w e w1) : e = .returned (.tuple #[.string (txtS l), .int .i64 (txtE l), .int .i64 (txtK l)]) ∧ Below w.heap.size w w1 := by
  obtain ⟨hb, ⟨k, hk, rfl⟩ | ⟨hk, rfl⟩⟩ := h
  · refine ⟨?_, hb⟩; simp only [txtS, txtE, txtK, hk]; rfl
  · refine ⟨?_, hb⟩; simp only [txtS, txtE, txtK, hk]; rfl
theorem same_b (va vb : Value) (xs ys : List Int) (w : World) (B : Nat) (ha : RowAt w B va (ints xs)) (hb : RowAt w B vb (ints ys)) (hx : xs.length ≤ maxLen) :
    Calls Try.prog 14 #[va, vb] w fun e w' => e = .returned (.bool (sameI xs ys)) ∧ Below w.heap.size w w' :=
  (same_any va vb xs ys w B ha hb hx).mono fun _ _ ⟨h, n, hn⟩ => ⟨h, hn ▸ below_drewN (Below.refl _ _) n⟩
theorem marked_row {w : World} {g : Nat} {l : List Int} (hg : w.heap[g]? = some (.cells (marked l).toArray 3 (0, 0))) (hl : l.length ≤ 1099511627776) : RowAt w w.heap.size (.slice (some ⟨g, 0, none⟩) l.length (l.length + 2)) (ints l) := by
  have hown := heap_full (base := g) hg (Nat.le_refl _) (by rw [marked_len]; unfold maxLen; omega)
  rw [marked_len] at hown
  have hlt : g < w.heap.size := (Array.getElem?_eq_some_iff.1 hg).1
  exact ⟨_, _, by rw [ints_len], by rw [ints_len]; omega, fun hp => ⟨g, 0, rfl, hlt, fun i u hu => by
      have hi : i < (ints l).length := (List.getElem?_eq_some_iff.1 hu).1
      rw [Nat.zero_add, hown.cellAt i (by rw [ints_len] at hi; omega), marked, List.getElem?_append_left hi]
      exact hu⟩⟩
theorem told_form {w : World} {base n : Nat} {e : TypeId} {v : Value} {xs : List Value} (h : w.ownsRow base e 1 v n xs) : ∃ A c, v = .slice A n c := by
  rcases h.2 with ⟨rfl, h0⟩ | ⟨g, cap, cur, rfl, _⟩
  · rw [h0]; exact ⟨_, _, rfl⟩
  · exact ⟨_, _, rfl⟩
theorem row_ofU {w : World} {base m : Nat} {A1 : Option Addr} {c1 : Nat} {U : Nat → Value} (h : w.ownsRow base 25 1 (.slice A1 m c1) m ((List.range m).map U)) {j : Nat} (hj : j < m) : ∃ b, A1 = some ⟨b, 0, none⟩ ∧ w.cell? ⟨b, j, none⟩ = some (U j) := by
  obtain ⟨g, cap, hv, _, _⟩ := h.form (by omega)
  simp only [Value.slice.injEq, true_and] at hv
  obtain ⟨rfl, rfl⟩ := hv
  refine ⟨g, rfl, ?_⟩
  rw [h.cellAt j (by omega)]
  simp [hj]
theorem row_nlen {w : World} {base n : Nat} {e : TypeId} {v : Value} {l : List Int} (h : w.ownsRow base e 1 v n (ints l)) : n = l.length := by
  have := h.1; rw [ints_len] at this; omega
theorem same_q (va vb : Value) (xs : List Int) (w : World) (B d : Nat) (ha : RowAt w B va (ints xs)) (hb : RowAt w B vb (ints xs)) (hx : xs.length ≤ maxLen) :
    Calls Try.prog 14 #[va, vb] (w.drewN d) fun e w' => e = .returned (.bool true) ∧ ∃ m, w' = w.drewN m :=
  (same_any va vb xs xs (w.drewN d) B (ha.drewN d) (hb.drewN d) hx).mono fun _ _ ⟨h, n, hn⟩ => ⟨by rw [h, show sameI xs xs = true from decide_eq_true rfl], d + n, by rw [hn, World.drewN_drewN]⟩
theorem startB (wr : World) (a b c : Value) (t : TypeId) : (wr.alloc (.cells #[a, b, c] t)).drew.cell? ⟨wr.heap.size, 1, none⟩ = some b ∧ Below wr.heap.size wr (wr.alloc (.cells #[a, b, c] t)).drew := by
  refine ⟨?_, below_drewN ((Below.refl _ _).alloc (Nat.le_refl _) _) 1⟩
  show (wr.alloc (.cells #[a, b, c] t)).cell? ⟨wr.heap.size, 1, none⟩ = some b
  rw [World.cell?_alloc_at _ _ _ _ (by simp)]; rfl
theorem refcheck_b (s : ByteArray) (w : World) (hs : s.size < 9223372036854775800) :
    Calls Try.prog 11 #[.string s] w fun e w' => e = .returned (.int .i64 (checkV s)) ∧ Below w.heap.size w w' :=
  (refcheck_any s w hs).mono fun _ _ ⟨h, n, hn⟩ => ⟨h, hn ▸ below_drewN (Below.refl _ _) n⟩
set_option maxRecDepth 100000 in
set_option maxHeartbeats 8000000 in
theorem exact_any (a : Option Addr) (len cap : Nat) (K : Nat → Int) (S : Nat → ByteArray) (L : Nat → Value) (Z : Nat → List Int) (w : World) (ho : OpsAt w a len K S L Z) (hl : len ≤ maxLen) :
    Calls Try.prog 4 #[.slice a len cap] w fun e w' => e = .returned (.bool true) ∧ Below w.heap.size w w' := by
  obtain ⟨i0, hi, hz0, hz1, hz2⟩ := info_parts int_info
  obtain ⟨i1, hi1, hy0, hy1, hy2⟩ := info_parts ints_info
  have HO := Lib.hid ho
  unfold maxLen at hl
  clear ho
  go_enter Try.func4, Try.ntmps4
  go_wp2_with fail
  go_loopw [3, 4] (fun nv iv wr => ∃ n i : Nat, nv = .int .i64 n ∧ iv = .int .i64 i ∧ i ≤ len ∧ Hid (SumOf len S Z n i) ∧ Below w.heap.size w wr) (fun _ iv _ => len - (intOf iv).toNat)
  case atStart => exact ⟨len, 0, rfl, rfl, by omega, Lib.hid (fun h => ⟨h, fun j hj => by omega⟩), Below.refl _ _⟩
  case round =>
    obtain ⟨n, i, rfl, rfl, hil, HS, hB⟩ := hrel
    by_cases hlt : i < len
    · by_cases hn : n ≤ 2147483647
      · obtain ⟨b, o, rfl, hb, c0, c1, c2, hrow, hs, hz⟩ := (HO.out.below hB) i hlt
        obtain ⟨A, c, hL, hc, _⟩ := hrow.ints
        rw [hL] at c2
        clear hrow
        go_wp2_with fail
        go_quiet (first | (go_at_call 9; exact add_quiet _ _ _ _))
        go_wp2_with fail
        go_roundw
        case rel => exact ⟨_, i + 1, rfl, by go_num, by omega, Lib.hid HS.out.step, below_drewN hB _⟩
        case measure => simp [intOf]; omega
      · go_wp2_with fail
        go_ret
        exact ⟨rfl, hB⟩
    · obtain rfl : i = len := by omega
      by_cases hn : n ≤ 2147483647
      · have HM := Lib.hid (HS.out hn).2
        have hlen := (HS.out hn).1
        have HO2 := Lib.hid (HO.out.below hB)
        have HT := Lib.hid (T2.start (base := w.heap.size) wr wr.heap.size (Nat.le_refl _))
        clear HS
        go_wp2_with fail
        go_loopw [5, 6, 7, 8, 9, 10, 11, 12, 13, 14, 15, 16, 17, 18, 19, 20, 21] (fun vt vw iv _ _ _ _ _ _ _ _ _ _ _ _ _ _ wr => ∃ (q m : Nat) (A : Nat → Option Addr) (N C : Nat → Nat) (U : Nat → Value) (X : Nat → List Int), iv = .int .i64 q ∧ q ≤ i ∧ m ≤ q ∧ Hid (T2 w.heap.size wr.heap.size wr vt vw A N C U X m) ∧ Below w.heap.size w wr)
          (fun _ _ iv _ _ _ _ _ _ _ _ _ _ _ _ _ _ _ => i - (intOf iv).toNat)
        case atStart => exact ⟨0, 0, _, _, _, _, _, rfl, by omega, by omega, HT, hB⟩
        case round =>
          clear HT HO2 hB
          obtain ⟨q, m, A, N, C, U, X, rfl, hq, hmq, HT, hB⟩ := hrel
          by_cases hlt : q < i
          · obtain ⟨b, o, rfl, hb, c0, c1, c2, hrow, hs, hz⟩ := (HO.out.below hB) q hlt
            have hsm := HM.out q hlt
            obtain ⟨A0, cc, hL, hcc, _⟩ := hrow.ints
            rw [hL] at c2 hrow
            have hwz := hB.size
            by_cases hk1 : K q = 1
            · have hb1 : (K q == 1) = true := by simp [hk1]
              clear hk1
              go_wp2_with fail
              go_region_held3 (fun w' => w'.cell? ⟨wr.heap.size, 1, none⟩ = some (.string (S q)) ∧ Below wr.heap.size wr w') (first | exact startB _ _ _ _ _ | exact keepB (by assumption) (by assumption) (Nat.le_refl _))
                (first | (go_at_call 10; refine (check_any (S q) (by omega) _).mono ?_; rintro e w' ⟨rfl, hb2⟩) | (go_at_call 11; refine (refcheck_b (S q) _ (by omega)).mono ?_; rintro e w' ⟨rfl, hb2⟩))
              rename _ ∧ Below wr.heap.size wr w' => hS
              have hB2 := hS.2
              clear hS
              go_wp2_with fail
              go_roundw
              case rel => exact ⟨q + 1, m, A, N, C, U, X, by go_num, by omega, by omega, Lib.hid (HT.out.below hB2).raise, hB.trans (hB2.mono hwz)⟩
              case measure => simp [intOf]; omega
            · by_cases hk2 : K q = 2
              · have hb1 : (K q == 1) = false := by simp [hk1]
                have hb2 : (K q == 2) = true := by simp [hk2]
                clear hk1 hk2
                go_wp2_with fail
                have hpl : (ptsL (S q)).length ≤ 2147483647 := by have := ptsL_len (S q); omega
                refine (points_any (S q) (by omega) _).mono ?_
                rintro e w1 hp1
                obtain ⟨a1, c1, rfl, hown1, hbw1⟩ := points_one hp1
                have hB1 : Below wr.heap.size wr w1 := ((Below.refl _ _).alloc (Nat.le_refl _) _).trans (hbw1.mono (by simp))
                have hcell1 : w1.cell? ⟨wr.heap.size, 1, none⟩ = some (.string (S q)) := (hbw1.cell (by simp)).trans (by rw [World.cell?_alloc_at _ _ _ _ (by simp)]; rfl)
                have HL1 := Lib.hid hown1
                have hz1 := hbw1.size
                clear hown1 hp1 hbw1
                go_wp2_with fail
                refine (refpoints_any (S q) (by omega) _).mono ?_
                rintro e w2 hp2
                obtain ⟨a2, c2, rfl, hown2, hbw2⟩ := points_one hp2
                have hz2 := hbw2.size
                have hB2 := hB1.trans (hbw2.mono hB1.size)
                have HL3 := Lib.hid (own_below HL1.out hbw2 (Nat.le_refl _))
                have HL2 := Lib.hid hown2
                clear hown2 hp2 hbw2 HL1 hB1 hcell1
                have HS := Lib.hid (same_b _ _ (ptsL (S q)) (ptsL (S q)) w2 w2.heap.size (RowAt.of_own HL3.out) (RowAt.of_own HL2.out) (by unfold maxLen; omega))
                have hsame : sameI (ptsL (S q)) (ptsL (S q)) = true := decide_eq_true rfl
                go_wp2_with fail
                refine HS.out.mono ?_
                rintro e w3 ⟨rfl, hbw3⟩
                rw [hsame]
                clear HS hsame
                have hz3 := hbw3.size
                have hB3 := hB2.trans (hbw3.mono hB2.size)
                have HT2 := Lib.hid (HT.out.below hB3)
                have hz4 := hB3.size
                have HL5 := Lib.hid (own_below HL3.out hbw3 (Nat.le_refl _))
                have HL4 := Lib.hid (own_below HL2.out hbw3 (Nat.le_refl _))
                clear HL2 HL3 hbw3 hB2
                go_wp2_with (first
                  | (at_builtin; refine wpList_append_keeps _ rfl _ _ 28 rfl w.heap.size 25 i1 (.slice none 0 0) 24 Try.underlying28 hi1 hy0 hy1 hy2 rfl _ m _ rfl (HT2.out.told.alloc _) ⟨w3.heap.size, 0, none⟩ 1 (.slice a1 (ptsL (S q)).length c1) rfl (new_cell _ _ _) rfl (by unfold maxLen; omega) (by omega) (by simp; omega) ?_; intro g4 cap4 w4 hown4 hgrow4 hat4 hgl4 hkeep4; clear hkeep4; have hz5 : w3.heap.size + 1 ≤ w4.heap.size := (by have := hgrow4.size; simpa using this))
                  | (at_builtin; refine wpList_append_keeps _ rfl _ _ 28 rfl w.heap.size 25 i1 (.slice none 0 0) 24 Try.underlying28 hi1 hy0 hy1 hy2 rfl _ m _ rfl ((HT2.out.want_kept hgrow4).alloc _) ⟨w4.heap.size, 0, none⟩ 1 (.slice a2 (ptsL (S q)).length c2) rfl (new_cell _ _ _) rfl (by unfold maxLen; omega) (by omega) (by simp; omega) ?_; intro g5 cap5 w5 hown5 hgrow5 hat5 hgl5 hkeep5; clear hkeep5))
                have hb5 : Below w.heap.size w w5 := ((((hB.trans (hB3.mono hwz)).alloc (by omega) _).grown hgrow4 (by simp; omega) (fun j ej => (HT2.out.told.lt j ej).1)).alloc (by omega) _).grown hgrow5 (by simp; omega) (fun j ej => (HT2.out.want.lt j ej).1)
                have HT5 := Lib.hid (HT2.out.step (own_base HL5.out (by simp)) (own_base HL4.out (by simp at hz1; omega)) (by omega) hwz hown4 hgrow4 hat4 hown5 hgrow5 hat5)
                go_roundw
                case rel => exact ⟨q + 1, m + 1, _, _, _, _, _, by go_num, by omega, by omega, HT5, hb5⟩
                case measure => simp [intOf]; omega
              · by_cases hk3 : K q = 3
                · have hb1 : (K q == 1) = false := by simp [hk1]
                  have hb2 : (K q == 2) = false := by simp [hk2]
                  have hb3 : (K q == 3) = true := by simp [hk3]
                  clear hk1 hk2 hk3
                  have HR := Lib.hid hrow
                  go_wp2_with fail
                  refine (lent_any _ (Z q) _ ((HR.out.alloc (Nat.le_refl _) _).more (by simp)) (by omega)).mono ?_
                  rintro e w1 ⟨g, rfl, hg1, hg2, hbw1⟩
                  have hz1 : wr.heap.size + 1 ≤ w1.heap.size := by have := hbw1.size; simpa using this
                  have hgg : wr.heap.size + 1 ≤ g := by simpa using hg1
                  have hlt1 : g < w1.heap.size := (Array.getElem?_eq_some_iff.1 hg2).1
                  have hB1 : Below wr.heap.size wr w1 := ((Below.refl _ _).alloc (Nat.le_refl _) _).trans (hbw1.mono (by simp))
                  have hcell1 : w1.cell? ⟨wr.heap.size, 2, none⟩ = some (.slice A0 (Z q).length cc) := (hbw1.cell (by simp)).trans (by rw [World.cell?_alloc_at _ _ _ _ (by simp)]; rfl)
                  have HG1 := Lib.hid hg2
                  clear hg2 hg1 hbw1
                  go_wp2_with fail
                  refine (text_any _ (Z q) _ (marked_row HG1.out (by omega)) (by omega)).mono ?_
                  rintro e w2 hp2
                  obtain ⟨rfl, hbw2⟩ := text_one hp2
                  have hz2 := hbw2.size
                  have hB2 := hB1.trans (hbw2.mono hB1.size)
                  have hcell2 := (hbw2.cell (p := ⟨wr.heap.size, 2, none⟩) (by simp only; omega)).trans hcell1
                  have HG2 := Lib.hid ((hbw2.block g hlt1).trans HG1.out)
                  clear hp2 hbw2 hcell1
                  go_wp2_with fail
                  refine (reftext_any _ (Z q) _ ((HR.out.below hB2).more (by omega)) (by omega)).mono ?_
                  rintro e w3 hp3
                  obtain ⟨rfl, hbw3⟩ := text_one hp3
                  have hz3 := hbw3.size
                  have hB3 := hB2.trans (hbw3.mono hB2.size)
                  have hcell3 := (hbw3.cell (p := ⟨wr.heap.size, 2, none⟩) (by simp only; omega)).trans hcell2
                  have HG3 := Lib.hid ((hbw3.block g (by omega)).trans HG2.out)
                  clear hp3 hbw3 hcell2 HG1 HG2
                  go_wp2_with fail
                  refine (back_any _ (Z q) g _ HG3.out ((HR.out.below hB3).more (by omega)) (by omega)).mono ?_
                  rintro e w4 ⟨rfl, hbw4⟩
                  have hB4 := hB3.trans (hbw4.mono (by omega))
                  have HT4 := Lib.hid (HT.out.below hB4).raise
                  have hb4 := hB.trans (hB4.mono hwz)
                  clear hbw4 hcell3 HG3
                  go_wp2_with fail
                  go_roundw
                  case rel => exact ⟨q + 1, m, _, _, _, _, _, by go_num, by omega, by omega, HT4, hb4⟩
                  case measure => simp [intOf]; omega
                · have hb1 : (K q == 1) = false := by simp [hk1]
                  have hb2 : (K q == 2) = false := by simp [hk2]
                  have hb3 : (K q == 3) = false := by simp [hk3]
                  clear hk1 hk2 hk3
                  have HT1 := Lib.hid (HT.out.below ((Below.refl wr.heap.size wr).alloc (Nat.le_refl _) (.cells #[.int .i64 (K q), .string (S q), .slice A0 (Z q).length cc] 27))).raise
                  have hb1' := hB.alloc (by omega : w.heap.size ≤ wr.heap.size) (.cells #[.int .i64 (K q), .string (S q), .slice A0 (Z q).length cc] 27)
                  go_wp2_with fail
                  go_roundw
                  case rel => exact ⟨q + 1, m, _, _, _, _, _, by go_num, by omega, by omega, HT1, hb1'⟩
                  case measure => simp [intOf]; omega
          · obtain rfl : q = i := by omega
            obtain ⟨A0, c0, e0⟩ := told_form HT.out.told
            obtain ⟨A1, c1, e1⟩ := told_form HT.out.want
            subst e0 e1
            go_wp2_with fail
            have HT0 := Lib.hid HT.out.raise
            clear HT HO HM
            go_loopw [22] (fun iv wr => ∃ r : Nat, iv = .int .i64 r ∧ r ≤ m ∧ Hid (T2 w.heap.size wr.heap.size wr (.slice A0 m c0) (.slice A1 m c1) A N C U X m) ∧ Below w.heap.size w wr) (fun iv _ => m - (intOf iv).toNat)
            case atStart => exact ⟨0, rfl, by omega, HT0, hB⟩
            case round =>
              clear HT0 hB
              obtain ⟨r, rfl, hr, HT, hB⟩ := hrel
              by_cases hlt : r < m
              · obtain ⟨b0, e0, k0⟩ := row_of HT.out.told hlt
                obtain ⟨b1, e1, k1⟩ := row_ofU HT.out.want hlt
                subst e0 e1
                have hsz := HT.out.small r hlt
                have HQ := Lib.hid (fun d => same_q _ _ (X r) wr wr.heap.size d (RowAt.of_own (HT.out.own r hlt)) (RowAt.of_own (HT.out.wan r hlt)) (by have := row_nlen (HT.out.own r hlt); unfold maxLen; omega))
                go_wp2_with fail
                go_quiet (first | (go_at_call 14; exact HQ.out _))
                go_wp2_with fail
                go_roundw
                case rel => exact ⟨r + 1, by go_num, by omega, Lib.hid (HT.out.below (below_drewN (Below.refl _ _) _)), below_drewN hB _⟩
                case measure => simp [intOf]; omega
              · obtain rfl : r = m := by omega
                have hbz := hB.size
                have HOW := Lib.hid (owned_any w.heap.size r c0 A0 A N C wr HT.out.told (fun j hj => ⟨_, HT.out.own j hj⟩) HT.out.apart (by omega) HT.out.small hbz)
                clear HT
                go_wp2_with fail
                refine HOW.out.mono ?_
                rintro e w8 ⟨rfl, hb8⟩
                have hB8 := hB.trans hb8
                go_wp2_with fail
                refine (awake_any _).mono ?_
                rintro e w9 ⟨rfl, hb9⟩
                have hB9 := hB8.trans (hb9.mono hB8.size)
                go_wp2_with fail
                go_ret
                exact ⟨rfl, hB9⟩

      · go_wp2_with fail
        go_ret
        exact ⟨rfl, hB⟩
end Go.Proofs.Ytdidepaldppcjaa
