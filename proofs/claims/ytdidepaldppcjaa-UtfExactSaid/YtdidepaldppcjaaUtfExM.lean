/-
  UtfExact: what memory holds while the script is played: the lists that came out and the lists that were wanted.
-/
import Derived.Test.YtdidepaldppcjaaUtfOwned
namespace Go.Proofs.Ytdidepaldppcjaa
open Go.RowKit
section
variable (base : Nat)
structure T2 (B : Nat) (w : World) (vt vw : Value) (A : Nat → Option Addr) (N C : Nat → Nat) (U : Nat → Value) (X : Nat → List Int) (n : Nat) : Prop where
  told : w.ownsRow base 25 1 vt n (lists n A N C)
  want : w.ownsRow base 25 1 vw n ((List.range n).map U)
  own : ∀ j, j < n → w.ownsRow base 3 1 (.slice (A j) (N j) (C j)) (N j) (ints (X j))
  wan : ∀ j, j < n → w.ownsRow base 3 1 (U j) (N j) (ints (X j))
  apart : ∀ i j g, i < n → j < n → A i = some ⟨g, 0, none⟩ → A j = some ⟨g, 0, none⟩ → i = j
  two : ∀ g, vt.ownBlock = some g → vw.ownBlock ≠ some g
  small : ∀ j, j < n → N j ≤ 1099511627776
  bnd : ∀ j g, j < n → A j = some ⟨g, 0, none⟩ → g < B
  top : B ≤ w.heap.size
variable {base}
theorem T2.start (w : World) (B : Nat) (hB : B ≤ w.heap.size) : T2 base B w (.slice none 0 0) (.slice none 0 0) (fun _ => none) (fun _ => 0) (fun _ => 0) (fun _ => .nilFunc) (fun _ => []) 0 :=
  ⟨World.ownsRow_nil _ _ _ _, World.ownsRow_nil _ _ _ _, fun j hj => absurd hj (Nat.not_lt_zero j), fun j hj => absurd hj (Nat.not_lt_zero j), fun i j g hi => absurd hi (Nat.not_lt_zero i), fun g hg => (by cases hg), fun j hj => absurd hj (Nat.not_lt_zero j), fun j g hj => absurd hj (Nat.not_lt_zero j), hB⟩
variable {B : Nat} {w : World} {vt vw : Value} {A : Nat → Option Addr} {N C : Nat → Nat} {U : Nat → Value} {X : Nat → List Int} {n : Nat}
/-- New blocks change nothing of it. -/
theorem T2.below {w' : World} (h : T2 base B w vt vw A N C U X n) (hb : Below w.heap.size w w') : T2 base B w' vt vw A N C U X n :=
  ⟨own_below h.told hb (Nat.le_refl _), own_below h.want hb (Nat.le_refl _), fun j hj => own_below (h.own j hj) hb (Nat.le_refl _), fun j hj => own_below (h.wan j hj) hb (Nat.le_refl _), h.apart, h.two, h.small, h.bnd, Nat.le_trans h.top hb.size⟩
theorem T2.raise (h : T2 base B w vt vw A N C U X n) : T2 base w.heap.size w vt vw A N C U X n :=
  ⟨h.told, h.want, h.own, h.wan, h.apart, h.two, h.small, fun j g hj hA => Nat.lt_of_lt_of_le (h.bnd j g hj hA) h.top, Nat.le_refl _⟩
/-- What the second append finds of the lists that were wanted. -/
theorem T2.want_kept {w1 : World} {tmp : Obj} (h : T2 base B w vt vw A N C U X n) (hgrow : (w.alloc tmp).grownBy w1 vt.ownBlock) : w1.ownsRow base 25 1 vw n ((List.range n).map U) :=
  (h.want.alloc tmp).kept hgrow (by
    by_cases he : vw.ownBlock = vt.ownBlock
    · cases hb : vw.ownBlock with
      | none => exact .inl rfl
      | some b => exact absurd hb (h.two b (he ▸ hb))
    · exact .inr he)
theorem grown_kind {w w1 : World} {tmp : Obj} {v : Value} {k m : Nat} {xs ys : List Value} {u : Value} (hrow : w.ownsRow base 25 1 v k ys) (hgrow : (w.alloc tmp).grownBy w1 v.ownBlock) {b0 : Nat} (hu : w.ownsRow b0 3 1 u m xs) : w1.ownsRow b0 3 1 u m xs :=
  (hu.alloc tmp).kept hgrow (by
    by_cases he : u.ownBlock = v.ownBlock
    · cases hb : u.ownBlock with
      | none => exact .inl rfl
      | some b => exact absurd (he ▸ hb) (row_kinds hu hrow (by decide) b hb)
    · exact .inr he)
def updA {α : Type} (f : Nat → α) (i : Nat) (v : α) : Nat → α := fun j => if j = i then v else f j
theorem updA_same {α : Type} (f : Nat → α) (i : Nat) (v : α) : updA f i v i = v := by simp [updA]
theorem updA_lt {α : Type} (f : Nat → α) {i j : Nat} (v : α) (h : j < i) : updA f i v j = f j := by unfold updA; rw [if_neg (by omega)]
theorem lists_upd (a : Option Addr) (k c : Nat) : lists n A N C ++ [.slice a k c] = lists (n + 1) (updA A n a) (updA N n k) (updA C n c) := by
  unfold lists
  rw [List.range_succ, List.map_append]
  congr 1
  · refine List.map_congr_left fun j hj => ?_
    have := List.mem_range.1 hj
    rw [updA_lt _ _ this, updA_lt _ _ this, updA_lt _ _ this]
  · simp [updA]
theorem T2.step {w1 w2 : World} {a : Option Addr} {c g cap g' cap' : Nat} {l : List Int} {b : Value} {tmp tmp' : Obj} (h : T2 base B w vt vw A N C U X n)
    (ha : w.ownsRow B 3 1 (.slice a l.length c) l.length (ints l)) (hb : w.ownsRow base 3 1 b l.length (ints l)) (hl : l.length ≤ 1099511627776) (hbase : base ≤ B)
    (hown : w1.ownsRow base 25 1 (.slice (some ⟨g, 0, none⟩) (n + 1) cap) (n + 1) (lists n A N C ++ [.slice a l.length c])) (hgrow : (w.alloc tmp).grownBy w1 vt.ownBlock) (hat : vt.ownBlock = some g ∨ g = (w.alloc tmp).heap.size)
    (hown' : w2.ownsRow base 25 1 (.slice (some ⟨g', 0, none⟩) (n + 1) cap') (n + 1) ((List.range n).map U ++ [b])) (hgrow' : (w1.alloc tmp').grownBy w2 vw.ownBlock) (hat' : vw.ownBlock = some g' ∨ g' = (w1.alloc tmp').heap.size) :
    T2 base w2.heap.size w2 (.slice (some ⟨g, 0, none⟩) (n + 1) cap) (.slice (some ⟨g', 0, none⟩) (n + 1) cap') (updA A n a) (updA N n l.length) (updA C n c) (upd U n b) (updA X n l) (n + 1) := by
  have hw1 := h.want_kept hgrow
  have keep : ∀ {m b0 : Nat} {xs : List Value} {u : Value}, w.ownsRow b0 3 1 u m xs → w2.ownsRow b0 3 1 u m xs := fun hu => grown_kind hw1 hgrow' (grown_kind h.told hgrow hu)
  have s1 : (w.alloc tmp).heap.size = w.heap.size + 1 := by simp
  have s2 := hgrow.size
  have s3 : (w1.alloc tmp').heap.size = w1.heap.size + 1 := by simp
  have s4 := hgrow'.size
  have htop := h.top
  refine ⟨?_, by rw [← map_upd]; exact hown', fun j hj => ?_, fun j hj => ?_, fun i j q hi hj hA hA' => ?_, fun q hq => ?_, fun j hj => ?_, fun j q hj hA => ?_, Nat.le_refl _⟩
  · rw [← lists_upd]
    refine (hown.alloc tmp').kept hgrow' ?_
    by_cases he : (Value.slice (some ⟨g, 0, none⟩) (n + 1) cap).ownBlock = vw.ownBlock
    · exfalso
      have hv : vw.ownBlock = some g := he.symm
      rcases hat with hat | hat
      · exact h.two g hat hv
      · have := (h.want.lt g hv).2
        omega
    · exact .inr he
  · by_cases e : j = n
    · subst e
      rw [updA_same, updA_same, updA_same, updA_same]
      exact keep (own_base ha hbase)
    · have hjn : j < n := by omega
      rw [updA_lt _ _ hjn, updA_lt _ _ hjn, updA_lt _ _ hjn, updA_lt _ _ hjn]
      exact keep (h.own j hjn)
  · by_cases e : j = n
    · subst e
      rw [updA_same, updA_same, show upd U j b j = b by simp [upd]]
      exact keep hb
    · have hjn : j < n := by omega
      rw [updA_lt _ _ hjn, updA_lt _ _ hjn, show upd U n b j = U j by simp [upd, e]]
      exact keep (h.wan j hjn)
  · by_cases e : i = n
    · by_cases e' : j = n
      · omega
      · have hjn : j < n := by omega
        rw [e, updA_same] at hA
        rw [updA_lt _ _ hjn] at hA'
        have h1 := (ha.lt q (ob_some hA)).1
        have h2 := h.bnd j q hjn hA'
        omega
    · have hin : i < n := by omega
      rw [updA_lt _ _ hin] at hA
      by_cases e' : j = n
      · rw [e', updA_same] at hA'
        have h1 := (ha.lt q (ob_some hA')).1
        have h2 := h.bnd i q hin hA
        omega
      · have hjn : j < n := by omega
        rw [updA_lt _ _ hjn] at hA'
        exact h.apart i j q hin hjn hA hA'
  · simp only [Value.ownBlock, Option.some.injEq] at hq
    subst hq
    intro hq'
    simp only [Value.ownBlock, Option.some.injEq] at hq'
    subst hq'
    rcases hat with hat | hat
    · rcases hat' with hat' | hat'
      · exact h.two _ hat hat'
      · have := (h.told.lt _ hat).2
        omega
    · rcases hat' with hat' | hat'
      · have := (h.want.lt _ hat').2
        omega
      · have := hown.lt _ (rfl : (Value.slice (some ⟨g', 0, none⟩) (n + 1) cap).ownBlock = some g')
        omega
  · by_cases e : j = n
    · subst e; rw [updA_same]; exact hl
    · rw [updA_lt _ _ (by omega)]; exact h.small j (by omega)
  · by_cases e : j = n
    · subst e
      rw [updA_same] at hA
      have := (ha.lt q (ob_some hA)).2
      omega
    · rw [updA_lt _ _ (by omega)] at hA
      have := h.bnd j q (by omega) hA
      omega
end
/-- dovetaillaw03.add, of numbers that are not below 0. -/
def addN (n k : Nat) : Nat := if n ≤ 2147483647 ∧ k ≤ 2147483647 then n + k else 2147483648
theorem add_big (n k : Nat) (w : World) : Calls Try.prog 9 #[.int .i64 n, .int .i64 k] w fun e w' => e = .returned (.int .i64 (addN n k : Nat)) ∧ w = w' := by
  by_cases h1 : n ≤ 2147483647
  · by_cases h2 : k ≤ 2147483647
    · have HF := Lib.hid (show addN n k = n + k from if_pos ⟨h1, h2⟩)
      go_enter Try.func9, Try.ntmps9
      go_wp2_with fail
      go_ret
      exact ⟨by rw [HF.out]; go_num, rfl⟩
    · have HF := Lib.hid (show addN n k = 2147483648 from if_neg (fun h => h2 h.2))
      go_enter Try.func9, Try.ntmps9
      go_wp2_with fail
      go_ret
      exact ⟨by rw [HF.out]; rfl, rfl⟩
  · have HF := Lib.hid (show addN n k = 2147483648 from if_neg (fun h => h1 h.1))
    go_enter Try.func9, Try.ntmps9
    go_wp2_with fail
    go_ret
    exact ⟨by rw [HF.out]; rfl, rfl⟩
end Go.Proofs.Ytdidepaldppcjaa
