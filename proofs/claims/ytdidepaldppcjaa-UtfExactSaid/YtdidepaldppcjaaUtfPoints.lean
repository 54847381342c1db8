/-
  utf.Points: what it returns, at every string of at most 2^40 bytes.
-/
import Derived.Test.YtdidepaldppcjaaUtfCheck
namespace Go.Proofs.Ytdidepaldppcjaa
open Go.RowKit Go.Shelf
attribute [local go_sem] Oper.semAt_some

theorem charsFrom_len (s : ByteArray) : ∀ f k, (charsFrom s f k).length ≤ f := by
  intro f
  induction f with
  | zero => intro k; simp [charsFrom]
  | succ f ih =>
    intro k; simp only [charsFrom]; split
    · split
      · simp
      · simp; exact ih _
    · simp
theorem chars_len (s : ByteArray) : (chars s).length ≤ s.size := charsFrom_len s _ _
/-- The points of a list of characters. -/
def ptsOf (l : List (Nat × Int)) : List Int := l.map (·.2)
theorem ptsOf_len (l : List (Nat × Int)) : (ptsOf l).length = l.length := by simp [ptsOf]
theorem int_info : (Try.prog.info? 3).map (fun i => (i.zero, i.size, i.bytes)) = some (some (.int .i64 0), 1, 8) := by kernel_rfl


theorem row_ge {W : World} {n e size k : Nat} {v : Value} {xs : List Value} (h : W.ownsRow n e size v k xs) {g : Nat} (hg : v.ownBlock = some g) : n ≤ g := by
  rcases h.2 with ⟨rfl, _⟩ | ⟨g', cap, cur, rfl, hb, _, _⟩
  · simp [Value.ownBlock] at hg
  · obtain rfl : g' = g := by simpa [Value.ownBlock] using hg
    exact hb
theorem _root_.Go.World.ownsRow.base_le {W : World} {n n' e size k : Nat} {v : Value} {xs : List Value} (h : W.ownsRow n e size v k xs) (hn : n' ≤ n) : W.ownsRow n' e size v k xs := by
  refine ⟨h.1, ?_⟩
  rcases h.2 with h0 | ⟨g, cap, cur, h1, hb, h2⟩
  · exact .inl h0
  · exact .inr ⟨g, cap, cur, h1, Nat.le_trans hn hb, h2⟩
/-- 'out = append(out, x)' in a loop's body, out in a box below the rows' base: what the walk owes. -/
theorem boxed_appended {W w1 : World} {n₀ n₁ B t e size : Nat} {v v' : Value} {k m : Nat} {xs ys : List Value} {tmp : Obj}
    (hv : Boxed W B t v) (hBn : B < n₁) (hrow : W.ownsRow n₁ e size v k xs) (hn : n₁ ≤ W.heap.size) (hn₀ : n₀ ≤ B)
    (hown' : w1.ownsRow n₁ e size v' m ys) (hgrow : (W.alloc tmp).grownBy w1 v.ownBlock) :
    Boxed w1 B t v ∧ Boxed (w1.setCell ⟨B, 0, none⟩ v') B t v' ∧ (w1.setCell ⟨B, 0, none⟩ v').ownsRow n₁ e size v' m ys ∧ KeepsOthers W (w1.setCell ⟨B, 0, none⟩ v') ∧ Below n₀ W (w1.setCell ⟨B, 0, none⟩ v') ∧
      (∀ B' t' u, B' < n₁ → B' ≠ B → Boxed W B' t' u → Boxed (w1.setCell ⟨B, 0, none⟩ v') B' t' u) := by
  have hne : ∀ B', B' < n₁ → some B' ≠ v.ownBlock := fun B' h e => by have := row_ge hrow e.symm; omega
  have hne' : ∀ B', B' < n₁ → some B' ≠ v'.ownBlock := fun B' h e => by have := row_ge hown' e.symm; omega
  have hv1 : Boxed w1 B t v := (hv.alloc tmp).kept hgrow (hne B hBn)
  refine ⟨hv1, hv1.set v', hown'.kept (grownBy_setCell' w1 B v') (.inr (hne' B hBn).symm), ?_, ?_, fun B' t' u h1 h2 h3 => (((h3.alloc tmp).kept hgrow (hne B' h1)).other h2 v')⟩
  · refine ((KeepsOthers.alloc W tmp).trans (KeepsOthers.of_grownBy hgrow fun j o ej hj => ?_)).trans (KeepsOthers.setCell _ _ _)
    rcases (hrow.alloc tmp).2 with ⟨rfl, _⟩ | ⟨g, cap, cur, rfl, _, hgb, _⟩
    · simp [Value.ownBlock] at ej
    · obtain rfl : g = j := by simpa [Value.ownBlock] using ej
      rw [hgb] at hj; cases hj; rfl
  · exact (((Below.refl n₀ W).alloc (by omega) tmp).grown hgrow (by simp; omega) fun j ej => by have := row_ge hrow ej; omega).setCell (p := ⟨B, 0, none⟩) hn₀ v'
/-- The answer of utf.Points. -/
def PointsPost (s : ByteArray) (w : World) (e : Ending) (W' : World) : Prop :=
  (∃ k, badAt (chars s) = some k ∧ e = .returned (.tuple #[.slice none 0 0, .int .i64 30, .int .i64 (k : Nat)]) ∧ Below w.heap.size w W') ∨
  (badAt (chars s) = none ∧ ∃ v, e = .returned (.tuple #[v, .int .i64 0, .int .i64 0]) ∧ W'.ownsRow w.heap.size 3 1 v (ptsOf (chars s)).length ((ptsOf (chars s)).map (Value.int .i64)) ∧ (v = .slice none 0 0 ↔ chars s = []) ∧ Below w.heap.size w W')

set_option maxRecDepth 100000 in
set_option maxHeartbeats 4000000 in
theorem points_any (s : ByteArray) (hs : s.size ≤ 1099511627776) (w : World) : Calls Try.prog 12 #[.string s] w (PointsPost s w) := by
  refine (callsIn_wide (n := 3)).1 ?_
  have hro : Fence.wide.round = none := rfl
  have h1 : 1 ≤ 3 := by omega
  obtain ⟨i0, hi, hz0, hz1, hz2⟩ := info_parts int_info
  have hcl := chars_len s
  refine callsIn_of_wp_marks Try.func12 rfl trivial ?_ hro
  simp only [Try.ntmps12, List.size_toArray, List.length_cons, List.length_nil, Nat.reduceAdd, Nat.reduceSub, Array.replicate_succ, Array.replicate_zero, List.push_toArray, List.append_toArray, List.nil_append, List.cons_append]
  gi_wp2_with (refine ⟨trivial, ?_⟩; gi_at_call 20; refine (characters_in (3 - 1) _ _).mono ?_; rintro e w' ⟨rfl, rfl⟩)
  have b2 := Boxed.new w 25 (.slice none 0 0)
  have b3 := Boxed.new (w.alloc (.cells #[.slice none 0 0] 25)) 30 (.int .i64 0)
  have b4 := Boxed.new ((w.alloc (.cells #[.slice none 0 0] 25)).alloc (.cells #[.int .i64 0] 30)) 3 (.int .i64 0)
  have b5 := Boxed.new (((w.alloc (.cells #[.slice none 0 0] 25)).alloc (.cells #[.int .i64 0] 30)).alloc (.cells #[.int .i64 0] 3)) 25 (.slice none 0 0)
  have b6 := Boxed.new ((((w.alloc (.cells #[.slice none 0 0] 25)).alloc (.cells #[.int .i64 0] 30)).alloc (.cells #[.int .i64 0] 3)).alloc (.cells #[.slice none 0 0] 25)) 9 (.string s)
  simp only [World.size_alloc] at b3 b4 b5 b6
  have hB0 : Below w.heap.size w (((((w.alloc (.cells #[.slice none 0 0] 25)).alloc (.cells #[.int .i64 0] 30)).alloc (.cells #[.int .i64 0] 3)).alloc (.cells #[.slice none 0 0] 25)).alloc (.cells #[.string s] 9)) :=
    (((((Below.refl _ w).alloc (Nat.le_refl _) _).alloc (by simp) _).alloc (by simp; omega) _).alloc (by simp; omega) _).alloc (by simp; omega) _
  obtain ⟨W5, hW5⟩ : ∃ W5, (((((w.alloc (.cells #[.slice none 0 0] 25)).alloc (.cells #[.int .i64 0] 30)).alloc (.cells #[.int .i64 0] 3)).alloc (.cells #[.slice none 0 0] 25)).alloc (.cells #[.string s] 9)) = W5 := ⟨_, rfl⟩
  have hz5 : W5.heap.size = w.heap.size + 5 := by rw [← hW5]; simp
  have c2 : Boxed W5 w.heap.size 25 (.slice none 0 0) := by rw [← hW5]; exact ((((b2.alloc _).alloc _).alloc _).alloc _)
  have c3 : Boxed W5 (w.heap.size + 1) 30 (.int .i64 0) := by rw [← hW5]; exact (((b3.alloc _).alloc _).alloc _)
  have c4 : Boxed W5 (w.heap.size + 1 + 1) 3 (.int .i64 0) := by rw [← hW5]; exact ((b4.alloc _).alloc _)
  have c5 : Boxed W5 (w.heap.size + 1 + 1 + 1) 25 (.slice none 0 0) := by rw [← hW5]; exact (b5.alloc _)
  have c6 : Boxed W5 (w.heap.size + 1 + 1 + 1 + 1) 9 (.string s) := by rw [← hW5]; exact b6
  rw [hW5] at hB0 ⊢
  clear b2 b3 b4 b5 b6 hW5
  refine wpIn_rangeFunc_ownG hro h1 (gf := 24) (lb := #[.pointer (some ⟨w.heap.size + 1 + 1 + 1 + 1, 0, none⟩)]) rfl trivial (enters_of Try.func24 (by kernel_rfl) rfl)
    (chars_stops (3 - 1) (by omega) (w.heap.size + 1 + 1 + 1 + 1) s (by omega) _ (by omega) c6.cell) keepBox_t (keepBox_b (by omega)) (Below.refl _ _) (fun _ => rfl)
    (fun pre W => (((((∀ p ∈ pre, 0 ≤ p.2) ∧ Boxed W (w.heap.size + 1 + 1 + 1 + 1) 9 (.string s)) ∧ Boxed W w.heap.size 25 (.slice none 0 0)) ∧ Boxed W (w.heap.size + 1) 30 (.int .i64 0) ∧ Boxed W (w.heap.size + 1 + 1) 3 (.int .i64 0)) ∧
      ∃ v, Boxed W (w.heap.size + 1 + 1 + 1) 25 v ∧ W.ownsRow (w.heap.size + 5) 3 1 v (ptsOf pre).length ((ptsOf pre).map (Value.int .i64)) ∧ (v = .slice none 0 0 ↔ pre = [])) ∧ Below w.heap.size w W)
    (fun c pre W => (c = .ret ∧ ∃ ini last, pre = ini ++ [last] ∧ (∀ p ∈ ini, 0 ≤ p.2) ∧ last.2 < 0 ∧ W.cell? ⟨w.heap.size, 0, none⟩ = some (.slice none 0 0) ∧ W.cell? ⟨w.heap.size + 1, 0, none⟩ = some (.int .i64 30) ∧ W.cell? ⟨w.heap.size + 1 + 1, 0, none⟩ = some (.int .i64 (last.1 : Int))) ∧ Below w.heap.size w W)
    (OwnFrom.and (OwnFrom.and (OwnFrom.and (OwnFrom.and (OwnFrom.and (ownFrom_pure _ _) (Own.from (boxed_own _ _ _) _)) (Own.from (boxed_own _ _ _) _)) (OwnFrom.and (Own.from (boxed_own _ _ _) _) (Own.from (boxed_own _ _ _) _)))
      (Own.from (holdsRow_own (w.heap.size + 5) (w.heap.size + 1 + 1 + 1) 25 3 1 (fun pre => (ptsOf pre).length) (fun pre => (ptsOf pre).map (Value.int .i64)) (fun pre v => v = .slice none 0 0 ↔ pre = [])) _)) (ownFrom_below (Nat.le_refl _) (by omega)))
    (fun c => OwnFrom.and (Own.from (fun s A B row hs hg hr => by obtain ⟨hc, ini, last, e1, e2, e3, e4, e5, e6⟩ := hs; exact ⟨hc, ini, last, e1, e2, e3, cell_kept e4 hg hr, cell_kept e5 hg hr, cell_kept e6 hg hr⟩) _) (ownFrom_below (Nat.le_refl _) (by omega)))
    ⟨⟨⟨⟨⟨by simp, c6⟩, c2⟩, c3, c4⟩, _, c5, World.ownsRow_nil _ _ _ _, by simp⟩, hB0⟩
    (fun x => { tmps := #[.string s, undef, .pointer (some ⟨w.heap.size, 0, none⟩), .pointer (some ⟨w.heap.size + 1, 0, none⟩), .pointer (some ⟨w.heap.size + 1 + 1, 0, none⟩), .pointer (some ⟨w.heap.size + 1 + 1 + 1, 0, none⟩), .int .i64 (x.1 : Int), .int .i64 x.2, .string s, .func (.func 24) #[] #[.pointer (some ⟨w.heap.size + 1 + 1 + 1 + 1, 0, none⟩)], .int .i64 (x.1 : Int), .int .i64 x.2, undef, undef, undef, undef, undef, undef, undef, undef], defers := [] }) ?assign ?body ?done ?stop
  case assign =>
    intro l x W K hK
    gi_wp2
    exact hK
  case body =>
    rintro l pre x W ⟨⟨⟨⟨⟨hp, d6⟩, d2⟩, d3, d4⟩, v, hv, hrow, hnil⟩, hB⟩ hlen
    have hc := hv.cell
    have g2 := d2.cell
    have g3 := d3.cell
    have g4 := d4.cell
    have f2 := d2.frozen
    have f3 := d3.frozen
    have f4 := d4.frozen
    have hpl : (ptsOf pre).length ≤ pre.length := by rw [ptsOf_len]; exact Nat.le_refl _
    have hsz := hB.size
    have hW6 : w.heap.size + 5 ≤ W.heap.size := by have := d6.lt; omega
    gi_wp2_with (gi_at_builtin; refine wpListIn_append_own _ rfl _ _ 25 rfl (w.heap.size + 5) 3 i0 (.int .i64 0) 1 8 Try.underlying25 hi hz0 hz1 hz2 rfl (by decide) _ _ _ rfl (hrow.alloc _) ⟨W.heap.size, 0, none⟩ 1 1 [.int .i64 x.2] rfl rfl (cell_one_new _ _ _) (by simp [Value.oneCell']) (by unfold maxLen; omega) (by omega) (by simp; omega) ?_; intro v' w1 hown' hgrow _; obtain ⟨g', cap', rfl⟩ := ownsRow_succ hown'; obtain ⟨hv1, hv2, hr2, hk2, hb2, ho2⟩ := boxed_appended (n₀ := w.heap.size) hv (by omega) hrow hW6 (by omega) hown' hgrow; have hc1 := hv1.cell; have hf1 := hv1.frozen)
    · have hx : x.2 < 0 := by assumption
      have s2 := d2.set (.slice none 0 0)
      have s3 := (d3.other (B' := w.heap.size) (by omega) (.slice none 0 0)).set (.int .i64 30)
      have s4 := ((d4.other (B' := w.heap.size) (by omega) (.slice none 0 0)).other (B' := w.heap.size + 1) (by omega) (.int .i64 30)).set (.int .i64 (x.1 : Int))
      exact ⟨(((KeepsOthers.setCell _ _ _).trans (KeepsOthers.setCell _ _ _)).trans (KeepsOthers.setCell _ _ _)).from _,
        ⟨rfl, pre, x, rfl, hp, hx, ((s2.other (B' := w.heap.size + 1) (by omega) _).other (B' := w.heap.size + 1 + 1) (by omega) _).cell, (s3.other (B' := w.heap.size + 1 + 1) (by omega) _).cell, s4.cell⟩,
        ((hB.setCell (p := ⟨w.heap.size, 0, none⟩) (by simp) _).setCell (p := ⟨w.heap.size + 1, 0, none⟩) (by simp) _).setCell (p := ⟨w.heap.size + 1 + 1, 0, none⟩) (by simp; omega) _⟩
    · have hx : 0 ≤ x.2 := by assumption
      have e6 := ho2 _ _ _ (by omega) (by omega) d6
      exact ⟨hk2.from _, e6.cell.trans d6.cell.symm, ⟨⟨⟨⟨fun p hp' => (List.mem_append.1 hp').elim (hp p) (fun e => by simp at e; subst e; exact hx), e6⟩, ho2 _ _ _ (by omega) (by omega) d2⟩, ho2 _ _ _ (by omega) (by omega) d3, ho2 _ _ _ (by omega) (by omega) d4⟩,
        _, hv2, by simpa [ptsOf] using hr2, by simp⟩, hB.trans hb2⟩
  case done =>
    rintro D ys W hD rfl ⟨⟨⟨⟨⟨hne, d6⟩, d2⟩, d3, d4⟩, v, hv, hrow, hnil⟩, hB⟩ hK
    obtain ⟨A, n, cap, rfl⟩ : ∃ A n cap, v = .slice A n cap := by
      rcases hrow.2 with ⟨rfl, _⟩ | ⟨g, cap, cur, rfl, _⟩
      · exact ⟨_, _, _, rfl⟩
      · exact ⟨_, _, _, rfl⟩
    have hc := hv.cell
    have g2 := d2.cell
    have g3 := d3.cell
    have g4 := d4.cell
    have f2 := d2.frozen
    have f3 := d3.frozen
    have f4 := d4.frozen
    gi_wp2
    have s2 := d2.set (.slice A n cap)
    have s3 := (d3.other (B' := w.heap.size) (by omega) (.slice A n cap)).set (.int .i64 0)
    have s4 := ((d4.other (B' := w.heap.size) (by omega) (.slice A n cap)).other (B' := w.heap.size + 1) (by omega) (.int .i64 0)).set (.int .i64 0)
    have hK' := (((KeepsOthers.setCell W ⟨w.heap.size, 0, none⟩ (.slice A n cap)).trans (KeepsOthers.setCell _ ⟨w.heap.size + 1, 0, none⟩ (.int .i64 0))).trans (KeepsOthers.setCell _ ⟨w.heap.size + 1 + 1, 0, none⟩ (.int .i64 0))).same D _ hK rfl
    refine ⟨by simp, .inl ⟨_, _, rfl, run_takeDeferred hK', ?_⟩⟩
    have k2 := cell_kept ((s2.other (B' := w.heap.size + 1) (by omega) (.int .i64 0)).other (B' := w.heap.size + 1 + 1) (by omega) (.int .i64 0)).cell (grownBy_putObj' _ D (.deferred none)) (fun r e => by cases e; exact ⟨_, hK', rfl⟩)
    have k3 := cell_kept (s3.other (B' := w.heap.size + 1 + 1) (by omega) (.int .i64 0)).cell (grownBy_putObj' _ D (.deferred none)) (fun r e => by cases e; exact ⟨_, hK', rfl⟩)
    have k4 := cell_kept s4.cell (grownBy_putObj' _ D (.deferred none)) (fun r e => by cases e; exact ⟨_, hK', rfl⟩)
    have hne' : ∀ B, B < w.heap.size + 5 → (Value.slice A n cap).ownBlock ≠ some B := fun B h e => by have := row_ge hrow e; omega
    have hrow' := (((hrow.kept (grownBy_setCell' W w.heap.size (.slice A n cap)) (.inr (hne' _ (by omega)))).kept (grownBy_setCell' _ (w.heap.size + 1) (.int .i64 0)) (.inr (hne' _ (by omega)))).kept (grownBy_setCell' _ (w.heap.size + 1 + 1) (.int .i64 0)) (.inr (hne' _ (by omega))))
    refine ⟨.tuple #[.slice A n cap, .int .i64 0, .int .i64 0], ?_, .inr ⟨badAt_none _ hne, _, rfl, (ownsRow_putObj hrow' _ hK' rfl).base_le (by omega), hnil, ?_⟩⟩
    · simp [results, Try.f12, go_sem, k2, k3, k4]
    · exact (((hB.setCell (p := ⟨w.heap.size, 0, none⟩) (by simp) _).setCell (p := ⟨w.heap.size + 1, 0, none⟩) (by simp) _).setCell (p := ⟨w.heap.size + 1 + 1, 0, none⟩) (by simp; omega) _).trans (belowK_b (w := w) (Nat.le_refl _) _ D _ _ (by omega) hK' rfl rfl)
  case stop =>
    rintro D c pre W hD ⟨t, ht⟩ ⟨⟨rfl, ini, last, rfl, e2, e3, h2, h3, h4⟩, hB⟩ hK
    gi_wp2
    refine ⟨by simp, .inl ⟨_, _, rfl, run_takeDeferred hK, ?_⟩⟩
    have k2 := cell_kept h2 (grownBy_putObj' _ D (.deferred none)) (fun r e => by cases e; exact ⟨_, hK, rfl⟩)
    have k3 := cell_kept h3 (grownBy_putObj' _ D (.deferred none)) (fun r e => by cases e; exact ⟨_, hK, rfl⟩)
    have k4 := cell_kept h4 (grownBy_putObj' _ D (.deferred none)) (fun r e => by cases e; exact ⟨_, hK, rfl⟩)
    refine ⟨.tuple #[.slice none 0 0, .int .i64 30, .int .i64 (last.1 : Int)], ?_, .inl ⟨last.1, ?_, rfl, hB.trans (belowK_b (w := w) (Nat.le_refl _) W D _ _ (by omega) hK rfl rfl)⟩⟩
    · simp [results, Try.f12, go_sem, k2, k3, k4]
    · rw [← ht, List.append_assoc, badAt_app _ _ e2]
      simp [badAt, e3]
end Go.Proofs.Ytdidepaldppcjaa
