/-
  UtfExact's owned: what memory holds, step by step.
-/
import Derived.Test.YtdidepaldppcjaaUtfLent
import Derived.Lib.SmallJoins
namespace Go.Proofs.Ytdidepaldppcjaa
open Go.RowKit
def rep (n : Nat) (c : Int) : List Value := List.replicate n (.int .i64 c)
theorem rep_len (n : Nat) (c : Int) : (rep n c).length = n := by simp [rep]
theorem rep_get {n : Nat} {c : Int} {j : Nat} (h : j < n) : (rep n c)[j]? = some (.int .i64 c) := by simp [rep, h]
theorem rep_succ (n : Nat) (c : Int) : rep n c ++ [.int .i64 c] = rep (n + 1) c := by simp [rep, List.replicate_succ']
section
variable (base m : Nat) (A : Nat → Option Addr) (N C : Nat → Nat) (va : Value)
/-- The row of the lists that came out. -/
abbrev lists : List Value := (List.range m).map fun j => .slice (A j) (N j) (C j)
/-- So many lists are written full, and so much of the next one. -/
def S1 (w : World) (i k : Nat) : Prop :=
  w.ownsRow base 25 1 va m (lists m A N C) ∧
  ∀ j, j < m → ∃ xs, w.ownsRow base 3 1 (.slice (A j) (N j) (C j)) (N j) xs ∧ (j < i → xs = rep (N j) (1000 + (j : Int))) ∧ (j = i → xs.take k = rep k (1000 + (j : Int)))
variable {base m A N C va}
theorem own_at {w : World} {I : TypeId} {j n c : Nat} {xs : List Value} (h : w.ownsRow base I 1 (.slice (A j) n c) n xs) : (A j = none ∧ n = 0) ∨ ∃ g, A j = some ⟨g, 0, none⟩ ∧ base ≤ g ∧ g < w.heap.size := by
  rcases h.2 with ⟨h0, hn⟩ | ⟨g, cap, cur, hv, hb, hg, _⟩
  · simp only [Value.slice.injEq] at h0; exact .inl ⟨h0.1, hn⟩
  · simp only [Value.slice.injEq] at hv; exact .inr ⟨g, hv.1, hb, (Array.getElem?_eq_some_iff.1 hg).1⟩
theorem ob_some {g n c : Nat} {a : Option Addr} (h : a = some ⟨g, 0, none⟩) : (Value.slice a n c).ownBlock = some g := by subst h; rfl
theorem ob_inv {g n c : Nat} {w : World} {I : TypeId} {j : Nat} {xs : List Value} (h : w.ownsRow base I 1 (.slice (A j) n c) n xs) (hg : (Value.slice (A j) n c).ownBlock = some g) : A j = some ⟨g, 0, none⟩ := by
  rcases own_at h with ⟨h0, _⟩ | ⟨g', h0, _⟩
  · rw [h0] at hg; cases hg
  · rw [h0] at hg ⊢; simp only [Value.ownBlock, Option.some.injEq] at hg; rw [hg]
theorem row_of {w : World} {A0 : Option Addr} {c0 : Nat} (h : w.ownsRow base 25 1 (.slice A0 m c0) m (lists m A N C)) {j : Nat} (hj : j < m) : ∃ b, A0 = some ⟨b, 0, none⟩ ∧ w.cell? ⟨b, j, none⟩ = some (.slice (A j) (N j) (C j)) := by
  obtain ⟨g, cap, hv, _, _⟩ := h.form (by omega)
  simp only [Value.slice.injEq, true_and] at hv
  obtain ⟨rfl, rfl⟩ := hv
  refine ⟨g, rfl, ?_⟩
  rw [h.cellAt j (by omega)]
  simp [lists, hj]
theorem S1.store {w : World} {i k g : Nat} (hap : ∀ i j g, i < m → j < m → A i = some ⟨g, 0, none⟩ → A j = some ⟨g, 0, none⟩ → i = j) (h : S1 base m A N C va w i k) (hi : i < m) (hk : k < N i) (hg : A i = some ⟨g, 0, none⟩) :
    S1 base m A N C va (w.setCell ⟨g, k, none⟩ (.int .i64 (1000 + (i : Int)))) i (k + 1) := by
  obtain ⟨xs, hx, _, hxi⟩ := h.2 i hi
  have hxi := hxi rfl
  have hx' := hx
  rw [hg] at hx'
  obtain ⟨hs, hgr⟩ := hx'.stored k (.int .i64 (1000 + (i : Int)))
  refine ⟨h.1.kept hgr ?_, fun j hj => ?_⟩
  · by_cases he : va.ownBlock = some g
    · exact absurd (ob_some hg) (row_kinds h.1 hx (by decide) g he)
    · exact .inr he
  · by_cases hji : j = i
    · subst hji
      refine ⟨xs.set k (.int .i64 (1000 + (j : Int))), by rw [hg]; exact hs, fun h => by omega, fun _ => ?_⟩
      have hl := hx.1
      rw [List.take_set, List.take_add_one, hxi, List.getElem?_eq_getElem (by omega)]
      rw [List.set_append_right _ _ (by rw [rep_len]; omega), rep_len, Nat.sub_self]
      exact rep_succ k _
    · obtain ⟨ys, hy, h1, h2⟩ := h.2 j hj
      refine ⟨ys, hy.kept hgr ?_, h1, fun e => absurd e hji⟩
      by_cases he : (Value.slice (A j) (N j) (C j)).ownBlock = some g
      · exact absurd (hap j i g hj hi (ob_inv hy he) hg) hji
      · exact .inr he
theorem S1.next {w : World} {i : Nat} (h : S1 base m A N C va w i (N i)) (hi : i < m) : S1 base m A N C va w (i + 1) 0 := by
  refine ⟨h.1, fun j hj => ?_⟩
  obtain ⟨xs, hx, h1, h2⟩ := h.2 j hj
  refine ⟨xs, hx, fun hji => ?_, fun _ => by simp [rep]⟩
  by_cases e : j = i
  · subst e
    have := h2 rfl
    rwa [List.take_of_length_le (by have := hx.1; omega)] at this
  · exact h1 (by omega)
theorem S1.start {w : World} (hl : w.ownsRow base 25 1 va m (lists m A N C)) (hr : ∀ j, j < m → ∃ xs, w.ownsRow base 3 1 (.slice (A j) (N j) (C j)) (N j) xs) : S1 base m A N C va w 0 0 :=
  ⟨hl, fun j hj => by obtain ⟨xs, hx⟩ := hr j hj; exact ⟨xs, hx, fun h => by omega, fun _ => by simp [rep]⟩⟩
variable (base m A N C va)
/-- So many lists are grown. -/
structure S2 (w : World) (vL : Value) (Ls : Nat → Value) (i : Nat) : Prop where
  row : w.ownsRow base 25 1 va m (lists m A N C)
  old : ∀ j, i ≤ j → j < m → w.ownsRow base 3 1 (.slice (A j) (N j) (C j)) (N j) (rep (N j) (1000 + (j : Int)))
  long : w.ownsRow base 25 1 vL i ((List.range i).map Ls)
  grown : ∀ j, j < i → w.ownsRow base 3 1 (Ls j) (N j + 40) (rep (N j) (1000 + (j : Int)) ++ rep 40 (5000 + (j : Int)))
  kept : ∀ j, j < i → ∀ x, x < N j → ∃ g, A j = some ⟨g, 0, none⟩ ∧ w.cell? ⟨g, x, none⟩ = some (.int .i64 (1000 + (j : Int)))
  apart : ∀ j j' g, j < i → i ≤ j' → j' < m → (Ls j).ownBlock = some g → A j' ≠ some ⟨g, 0, none⟩
  two : ∀ g, vL.ownBlock = some g → va.ownBlock ≠ some g
  sep : ∀ j g, j < m → vL.ownBlock = some g → A j ≠ some ⟨g, 0, none⟩
  bnd : ∀ j g, j < m → A j = some ⟨g, 0, none⟩ → g < w.heap.size
/-- One list is grown by so many. -/
structure G2 (W w : World) (vx : Value) (i k : Nat) : Prop where
  grown : W.grownBy w (Value.slice (A i) (N i) (C i)).ownBlock
  own : w.ownsRow base 3 1 vx (N i + k) (rep (N i) (1000 + (i : Int)) ++ rep k (5000 + (i : Int)))
  far : vx.ownBlock = (Value.slice (A i) (N i) (C i)).ownBlock ∨ ∀ g, vx.ownBlock = some g → W.heap.size ≤ g
  kept : ∀ x, x < N i → ∃ g, A i = some ⟨g, 0, none⟩ ∧ w.cell? ⟨g, x, none⟩ = some (.int .i64 (1000 + (i : Int)))
variable {base m A N C va}
theorem S2.start {w : World} (h : S1 base m A N C va w m 0) : S2 base m A N C va w (.slice none 0 0) (fun _ => .nilFunc) 0 :=
  ⟨h.1, fun j _ hj => by obtain ⟨xs, hx, h1, _⟩ := h.2 j hj; rw [← h1 hj]; exact hx, World.ownsRow_nil _ _ _ _, fun j hj => by omega, fun j hj => by omega, fun j _ _ hj => by omega, fun g hg => (by cases hg), fun j g _ hg => (by cases hg), fun j g hj hA => by
    obtain ⟨xs, hx, _⟩ := h.2 j hj
    exact (hx.lt g (ob_some hA)).2⟩
theorem G2.start {W : World} {vL : Value} {Ls : Nat → Value} {i : Nat} (h : S2 base m A N C va W vL Ls i) (hi : i < m) : G2 base A N C W W (.slice (A i) (N i) (C i)) i 0 := by
  have ho := h.old i (Nat.le_refl _) hi
  refine ⟨grown_refl _ _, by simpa [rep] using ho, .inl rfl, fun x hx => ?_⟩
  rcases own_at ho with ⟨_, h0⟩ | ⟨g, hg, _, _⟩
  · omega
  · refine ⟨g, hg, ?_⟩
    have ho' := ho
    rw [hg] at ho'
    rw [ho'.cellAt x (by omega), rep_get hx]
theorem G2.step {W w w1 : World} {vx : Value} {i k g cap : Nat} {tmp : Obj} (h : G2 base A N C W w vx i k)
    (hown : w1.ownsRow base 3 1 (.slice (some ⟨g, 0, none⟩) (N i + k + 1) cap) (N i + k + 1) ((rep (N i) (1000 + (i : Int)) ++ rep k (5000 + (i : Int))) ++ [.int .i64 (5000 + (i : Int))]))
    (hgrow : (w.alloc tmp).grownBy w1 vx.ownBlock) (hat : vx.ownBlock = some g ∨ g = (w.alloc tmp).heap.size)
    (hkeep : ∀ g0, vx.ownBlock = some g0 → ∀ j x, (rep (N i) (1000 + (i : Int)) ++ rep k (5000 + (i : Int)))[j]? = some x → w1.cell? ⟨g0, j, none⟩ = some x) :
    G2 base A N C W w1 (.slice (some ⟨g, 0, none⟩) (N i + k + 1) cap) i (k + 1) := by
  have hz := h.grown.size
  have hg0 : W.grownBy (w.alloc tmp) (Value.slice (A i) (N i) (C i)).ownBlock := grown_trans h.grown (World.grownBy_alloc w tmp (Value.slice (A i) (N i) (C i)).ownBlock) (.inl rfl)
  refine ⟨grown_trans hg0 hgrow (h.far.imp id fun h g hg => h g hg), ?_, ?_, fun x hx => ?_⟩
  · rw [List.append_assoc, rep_succ] at hown; exact hown
  · rcases hat with hat | hat
    · rcases h.far with hf | hf
      · exact .inl (by rw [← hf, hat]; rfl)
      · exact .inr fun g' hg' => by
          simp only [Value.ownBlock, Option.some.injEq] at hg'; subst hg'; exact hf g hat
    · exact .inr fun g' hg' => by
        simp only [Value.ownBlock, Option.some.injEq] at hg'; subst hg'; rw [hat]; simp; omega
  · obtain ⟨g1, hA, hc⟩ := h.kept x hx
    refine ⟨g1, hA, ?_⟩
    by_cases he : vx.ownBlock = some g1
    · exact hkeep g1 he x _ (by rw [List.getElem?_append_left (by rw [rep_len]; exact hx)]; exact rep_get hx)
    · have hlt := World.block_lt_of_cell? w _ hc
      have h1 : (w.alloc tmp).cell? ⟨g1, x, none⟩ = some (.int .i64 (1000 + (i : Int))) := by rw [World.cell?_alloc_lt _ _ _ hlt]; exact hc
      exact hgrow.cell h1 (fun e => he e.symm)
def upd (Ls : Nat → Value) (i : Nat) (v : Value) : Nat → Value := fun j => if j = i then v else Ls j
theorem map_upd (Ls : Nat → Value) (i : Nat) (v : Value) : (List.range i).map Ls ++ [v] = (List.range (i + 1)).map (upd Ls i v) := by
  rw [List.range_succ, List.map_append]
  congr 1
  · refine List.map_congr_left fun j hj => ?_
    have := List.mem_range.1 hj
    unfold upd; rw [if_neg (by omega)]
  · simp [upd]
theorem S2.long_in {W w : World} {vL vx : Value} {Ls : Nat → Value} {i q : Nat} (h : S2 base m A N C va W vL Ls i) (hi : i < m) (hG : G2 base A N C W w vx i q) : w.ownsRow base 25 1 vL i ((List.range i).map Ls) :=
  h.long.kept hG.grown (by
    by_cases he : vL.ownBlock = (Value.slice (A i) (N i) (C i)).ownBlock
    · cases hb : vL.ownBlock with
      | none => exact .inl rfl
      | some b => exact absurd (he ▸ hb) (row_kinds h.long (h.old i (Nat.le_refl _) hi) (by decide) b hb)
    · exact .inr he)
theorem S2.step {W w w1 : World} {vL vx : Value} {Ls : Nat → Value} {i g cap : Nat} {tmp : Obj} (hap : ∀ i j g, i < m → j < m → A i = some ⟨g, 0, none⟩ → A j = some ⟨g, 0, none⟩ → i = j)
    (h : S2 base m A N C va W vL Ls i) (hi : i < m) (hG : G2 base A N C W w vx i 40)
    (hown : w1.ownsRow base 25 1 (.slice (some ⟨g, 0, none⟩) (i + 1) cap) (i + 1) ((List.range i).map Ls ++ [vx]))
    (hgrow : (w.alloc tmp).grownBy w1 vL.ownBlock) (hat : vL.ownBlock = some g ∨ g = (w.alloc tmp).heap.size) :
    S2 base m A N C va w1 (.slice (some ⟨g, 0, none⟩) (i + 1) cap) (upd Ls i vx) (i + 1) := by
  have hold := h.old i (Nat.le_refl _) hi
  have hz := hG.grown.size
  have hrow1 : w.ownsRow base 25 1 va m (lists m A N C) := h.row.kept hG.grown (by
    by_cases he : va.ownBlock = (Value.slice (A i) (N i) (C i)).ownBlock
    · cases hb : va.ownBlock with
      | none => exact .inl rfl
      | some b => exact absurd (he ▸ hb) (row_kinds h.row hold (by decide) b hb)
    · exact .inr he)
  have hlong1 : w.ownsRow base 25 1 vL i ((List.range i).map Ls) := h.long.kept hG.grown (by
    by_cases he : vL.ownBlock = (Value.slice (A i) (N i) (C i)).ownBlock
    · cases hb : vL.ownBlock with
      | none => exact .inl rfl
      | some b => exact absurd (he ▸ hb) (row_kinds h.long hold (by decide) b hb)
    · exact .inr he)
  have keepI : ∀ {n : Nat} {v : Value} {xs : List Value}, w.ownsRow base 3 1 v n xs → w1.ownsRow base 3 1 v n xs := fun {n v xs} hv =>
    (hv.alloc tmp).kept hgrow (by
      by_cases he : v.ownBlock = vL.ownBlock
      · cases hb : v.ownBlock with
        | none => exact .inl rfl
        | some b => exact absurd (he ▸ hb) (row_kinds hv hlong1 (by decide) b hb)
      · exact .inr he)
  have keepC : ∀ {j b x : Nat} {u : Value}, j < m → A j = some ⟨b, 0, none⟩ → w.cell? ⟨b, x, none⟩ = some u → w1.cell? ⟨b, x, none⟩ = some u := fun {j b x u} hj hA hc => by
    have h1 : (w.alloc tmp).cell? ⟨b, x, none⟩ = some u := by rw [World.cell?_alloc_lt _ _ _ (World.block_lt_of_cell? w _ hc)]; exact hc
    exact hgrow.cell h1 (fun e => h.sep j b hj e.symm hA)
  -- the lists that are not reached yet, in the world behind the growing
  have old1 : ∀ j, i + 1 ≤ j → j < m → w.ownsRow base 3 1 (.slice (A j) (N j) (C j)) (N j) (rep (N j) (1000 + (j : Int))) := fun j hj hjm => by
    have ho := h.old j (by omega) hjm
    refine ho.kept hG.grown ?_
    by_cases he : (Value.slice (A j) (N j) (C j)).ownBlock = (Value.slice (A i) (N i) (C i)).ownBlock
    · cases hb : (Value.slice (A j) (N j) (C j)).ownBlock with
      | none => exact .inl rfl
      | some b => exact absurd (hap j i b hjm hi (ob_inv ho hb) (ob_inv hold (he ▸ hb))) (by omega)
    · exact .inr he
  have grown1 : ∀ j, j < i → w.ownsRow base 3 1 (Ls j) (N j + 40) (rep (N j) (1000 + (j : Int)) ++ rep 40 (5000 + (j : Int))) := fun j hj => by
    refine (h.grown j hj).kept hG.grown ?_
    by_cases he : (Ls j).ownBlock = (Value.slice (A i) (N i) (C i)).ownBlock
    · cases hb : (Ls j).ownBlock with
      | none => exact .inl rfl
      | some b => exact absurd (ob_inv hold (he ▸ hb)) (h.apart j i b hj (Nat.le_refl _) hi hb)
    · exact .inr he
  have kept1 : ∀ j, j < i → ∀ x, x < N j → ∃ g, A j = some ⟨g, 0, none⟩ ∧ w.cell? ⟨g, x, none⟩ = some (.int .i64 (1000 + (j : Int))) := fun j hj x hx => by
    obtain ⟨b, hA, hc⟩ := h.kept j hj x hx
    refine ⟨b, hA, hG.grown.cell hc fun e => ?_⟩
    exact absurd (hap j i b (by omega) hi hA (ob_inv hold e.symm)) (by omega)
  refine ⟨?_, fun j hj hjm => keepI (old1 j hj hjm), by rw [← map_upd]; exact hown, fun j hj => ?_, fun j hj x hx => ?_, fun j j' b hj hj' hjm hb => ?_, fun b hb => ?_, fun j b hj hb => ?_, fun j b hj hA => ?_⟩
  · refine (hrow1.alloc tmp).kept hgrow ?_
    by_cases he : va.ownBlock = vL.ownBlock
    · cases hb : va.ownBlock with
      | none => exact .inl rfl
      | some b => exact absurd hb (h.two b (he ▸ hb))
    · exact .inr he
  · by_cases e : j = i
    · subst e; rw [show upd Ls j vx j = vx by simp [upd]]; exact keepI hG.own
    · rw [show upd Ls i vx j = Ls j by simp [upd, e]]; exact keepI (grown1 j (by omega))
  · by_cases e : j = i
    · subst e
      obtain ⟨b, hA, hc⟩ := hG.kept x hx
      exact ⟨b, hA, keepC hi hA hc⟩
    · obtain ⟨b, hA, hc⟩ := kept1 j (by omega) x hx
      exact ⟨b, hA, keepC (by omega) hA hc⟩
  · by_cases e : j = i
    · subst e
      rw [show upd Ls j vx j = vx by simp [upd]] at hb
      intro hA
      rcases hG.far with hf | hf
      · have := hap j j' b hi hjm (ob_inv hold (by rw [← hf]; exact hb)) hA
        omega
      · have h1 := hf b hb
        have ho := h.old j' (by omega) hjm
        have h2 := (ho.lt b (ob_some hA)).2
        omega
    · rw [show upd Ls i vx j = Ls j by simp [upd, e]] at hb
      exact h.apart j j' b (by omega) (by omega) hjm hb
  · simp only [Value.ownBlock, Option.some.injEq] at hb
    subst hb
    rcases hat with hat | hat
    · exact h.two g hat
    · intro hv
      have h1 := (hrow1.lt g hv).2
      have h2 : (w.alloc tmp).heap.size = w.heap.size + 1 := by simp
      omega
  · simp only [Value.ownBlock, Option.some.injEq] at hb
    subst hb
    rcases hat with hat | hat
    · exact h.sep j g hj hat
    · intro hA
      have h1 := h.bnd j g hj hA
      have h2 : (w.alloc tmp).heap.size = w.heap.size + 1 := by simp
      omega
  · have h1 := h.bnd j b hj hA
    have h2 : (w.alloc tmp).heap.size = w.heap.size + 1 := by simp
    have h3 := hgrow.size
    omega
end
end Go.Proofs.Ytdidepaldppcjaa
