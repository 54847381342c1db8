/-
  What Entries' walk leans on: clones of rows, a map gone through.
-/
import Derived.Test.YthcjcdchmdgnjaaGreatDoorKS
import Derived.Test.YthcjcdchmdgnjaaGreatDoorKW
import Derived.Test.YthcjcdchmdgnjaaGreatDoorKAC
namespace Go.Proofs.YthcjcdchmdgnjaaGreatDoor
open Go.RowKit Go.WideShapes
set_option linter.unusedVariables false
set_option linter.unusedSimpArgs false
theorem cloneInts_ok (b o c : Nat) (l : List Int) (w : World) (h : CellsAt w b o (intCells l)) (hn : l.length ≤ 8) :
    Calls Tryz.prog 23 #[.slice (some ⟨b, o, none⟩) l.length c] w fun e w' => ∃ v', e = .returned v' ∧ w'.ownsRow w.heap.size 3 1 v' l.length (intCells l) ∧ Below w.heap.size w w' := by
  obtain ⟨i, hi, h0, h1, h2⟩ := info_parts intInfo
  refine (AnyE.slices_Clone lays23c i (.int .i64 0) 1 8 hi h0 h1 h2 rfl (by decide) Tryz.sizeOf3 b o l.length c (intCells l) w (by simp [intCells]) (by unfold maxLen; omega) (by omega) (fun j u hu => h j u hu) (fun u hu => by obtain ⟨x, _, rfl⟩ := List.mem_map.1 hu; rfl)).mono ?_
  rintro e w' ⟨v', he, ho, _, hb⟩
  exact ⟨v', he, ho, hb⟩
theorem elsCells_quad (l : List EL) : (elsCells l).length = l.length * 4 := by
  induction l with
  | nil => rfl
  | cons e l ih =>
    have e1 : elsCells (e :: l) = e.cells ++ elsCells l := rfl
    rw [e1, List.length_append, ih]
    simp [EL.cells]
    omega
theorem cloneEls_ok (b o c : Nat) (l : List EL) (w : World) (h : CellsAt w b o (elsCells l)) (hn : l.length ≤ 16) :
    Calls Tryz.prog 24 #[.slice (some ⟨b, o, none⟩) l.length c] w fun e w' => ∃ v', e = .returned v' ∧ w'.ownsRow w.heap.size 43 4 v' l.length (elsCells l) ∧ Below w.heap.size w w' := by
  obtain ⟨i, hi, h0, h1, h2⟩ := info_parts elInfo
  have hlen := elsCells_quad l
  refine (AnyE.slices_Clone lays24c i _ 4 32 hi h0 h1 h2 rfl (by decide) Tryz.sizeOf43 b o l.length c (elsCells l) w hlen (by unfold maxLen; omega) (by omega) (fun j u hu => h j u hu) (elsCells_one l)).mono ?_
  rintro e w' ⟨v', he, ho, _, hb⟩
  exact ⟨v', he, ho, hb⟩
theorem RangeAt.left_eq {w : World} {b r : Nat} {K : Value → Prop} {l left : List (Value × Value)} (h : RangeAt w b r K l left) : w.rangeLeft b r = left.length := by
  obtain ⟨es, clock, since, seen, c0, h1, h2, h3, h4, h5, h6, h7, h8, rfl⟩ := h
  unfold World.rangeLeft
  simp [h1, h5]
theorem rowCells_head {l : List Int} (h : l.length ≤ 8) : ∃ b c d e f g i j : Int, rowCells l = [.int .i64 l.length, .int .i64 b, .int .i64 c, .int .i64 d, .int .i64 e, .int .i64 f, .int .i64 g, .int .i64 i, .int .i64 j] := by
  obtain ⟨a, b, c, d, e, f, g, i, j, hx⟩ := rowCells_ints h
  have ha : a = l.length := by
    have h2 : (rowCells l)[0]? = some (.int .i64 a) := by rw [hx]; rfl
    have h3 : (rowCells l)[0]? = some (.int .i64 l.length) := rfl
    rw [h2] at h3
    cases h3; rfl
  subst ha
  exact ⟨b, c, d, e, f, g, i, j, hx⟩
theorem rowCells_pts (l : List Int) (i : Nat) (u : Value) (h : (intCells l)[i]? = some u) : (rowCells l)[1 + i]? = some u := by
  rw [rowCells, Nat.add_comm, List.getElem?_cons_succ, List.getElem?_append_left (List.getElem?_eq_some_iff.1 h).1, h]
/-- What has been laid out so far: entries with their two slices. -/
def outCells (l : List (EN × Value × Value)) : List Value := l.flatMap fun t => [t.2.1, t.2.2]
theorem outCells_snoc (l : List (EN × Value × Value)) (t : EN × Value × Value) : outCells (l ++ [t]) = outCells l ++ [t.2.1, t.2.2] := by simp [outCells]
theorem outCells_len (l : List (EN × Value × Value)) : (outCells l).length = l.length * 2 := by
  induction l with
  | nil => rfl
  | cons e l ih => simp [outCells] at ih ⊢; omega
theorem entInfo : (Tryz.prog.info? 36).map (fun i => (i.zero, i.size, i.bytes)) = some (some (.agg #[.slice none 0 0, .slice none 0 0]), 2, 48) := by kernel_rfl
theorem own_lower {w : World} {b b' n s : Nat} {e : TypeId} {v : Value} {xs : List Value} (h : w.ownsRow b e s v n xs) (hb : b' ≤ b) : w.ownsRow b' e s v n xs := by
  refine ⟨h.1, ?_⟩
  rcases h.2 with h2 | ⟨g, cap, cur, h1, h2, h3⟩
  · exact Or.inl h2
  · exact Or.inr ⟨g, cap, cur, h1, Nat.le_trans hb h2, h3⟩
/-- Which entries are still to come. -/
def RestM (w : World) (B : Nat) (rest : List EN) (left : List (Value × Value)) : Prop := rest.length = left.length ∧ ∀ (i : Nat) x p, rest[i]? = some x → left[i]? = some p → EntM w B x p
theorem RestM.keep {w w' : World} {B : Nat} {rest : List EN} {left : List (Value × Value)} (h : RestM w B rest left) (hk : ∀ p : Addr, p.block < B → w'.cell? p = w.cell? p) : RestM w' B rest left :=
  ⟨h.1, fun i x p hx hp => ⟨(h.2 i x p hx hp).1, (h.2 i x p hx hp).2.keep hk⟩⟩
/-- An entry's two slices, made by the call. -/
def OwnE (w : World) (B : Nat) (t : EN × Value × Value) : Prop := w.ownsRow B 3 1 t.2.1 t.1.pts.length (intCells t.1.pts) ∧ w.ownsRow B 43 4 t.2.2 t.1.els.length (elsCells t.1.els)
/-- Rows of unlike types lie apart. -/
theorem own_apart2 {w : World} {b b' n n' s s' : Nat} {e e' : TypeId} {v v' : Value} {xs xs' : List Value} (h : w.ownsRow b e s v n xs) (h' : w.ownsRow b' e' s' v' n' xs') (hne : e ≠ e') : v.ownBlock = none ∨ v.ownBlock ≠ v'.ownBlock := by
  rcases h.2 with ⟨rfl, _⟩ | ⟨g, cap, cur, rfl, _, hg, _⟩
  · exact Or.inl rfl
  · rcases h'.2 with ⟨rfl, _⟩ | ⟨g', cap', cur', rfl, _, hg', _⟩
    · exact Or.inr (by simp [Value.ownBlock])
    · refine Or.inr fun hh => ?_
      have : g = g' := by simpa [Value.ownBlock] using hh
      subst this
      rw [hg] at hg'
      cases hg'
      exact hne rfl
theorem OwnE.grown {w w' : World} {B n : Nat} {t : EN × Value × Value} {v : Value} {xs : List Value} {b : Nat} (h : OwnE w B t) (ho : w.ownsRow b 36 2 v n xs) (hg : w.grownBy w' v.ownBlock) : OwnE w' B t :=
  ⟨h.1.kept hg (own_apart2 h.1 ho (by decide)), h.2.kept hg (own_apart2 h.2 ho (by decide))⟩
theorem OwnE.under {w w' : World} {B : Nat} {t : EN × Value × Value} (h : OwnE w B t) (hb : Below w.heap.size w w') : OwnE w' B t := ⟨own_under h.1 hb, own_under h.2 hb⟩
theorem RestM.pick {w : World} {B : Nat} {rest : List EN} {l1 l2 : List (Value × Value)} {p : Value × Value} (h : RestM w B rest (l1 ++ p :: l2)) : ∃ r1 x r2, rest = r1 ++ x :: r2 ∧ EntM w B x p ∧ RestM w B (r1 ++ r2) (l1 ++ l2) := by
  have hlen := h.1
  simp at hlen
  have hi : l1.length < rest.length := by omega
  have e : rest = rest.take l1.length ++ rest[l1.length] :: rest.drop (l1.length + 1) := by rw [← List.drop_eq_getElem_cons hi, List.take_append_drop]
  refine ⟨rest.take l1.length, rest[l1.length], rest.drop (l1.length + 1), e, h.2 l1.length _ _ (List.getElem?_eq_getElem hi) (by simp), ?_, ?_⟩
  · simp; omega
  · intro i x q hx hq
    by_cases hil : i < l1.length
    · rw [List.getElem?_append_left (by simp; omega)] at hx
      rw [List.getElem?_append_left hil] at hq
      rw [List.getElem?_take_of_lt hil] at hx
      exact h.2 i x q hx (by rw [List.getElem?_append_left hil]; exact hq)
    · rw [List.getElem?_append_right (by simp; omega)] at hx
      rw [List.getElem?_append_right (by omega)] at hq
      simp only [List.length_take, List.getElem?_drop] at hx
      rw [Nat.min_eq_left (by omega)] at hx
      exact h.2 (i + 1) x q (by rw [show i + 1 = l1.length + 1 + (i - l1.length) by omega]; exact hx) (by
        rw [List.getElem?_append_right (by omega), show i + 1 - l1.length = (i - l1.length) + 1 by omega, List.getElem?_cons_succ]; exact hq)
end Go.Proofs.YthcjcdchmdgnjaaGreatDoor
