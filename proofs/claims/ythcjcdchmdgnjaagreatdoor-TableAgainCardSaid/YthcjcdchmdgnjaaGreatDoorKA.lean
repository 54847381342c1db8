/-
  Words of our own on memory: a slice that reads as a list of one-cell values; rows that a call owns.
-/
import Derived.Below
import Derived.RangeFuncBox
import Derived.RangeFuncNested
import Derived.Laws.OwnMore
import Derived.Deep.Draws
import Derived.Lib.Hide
import Derived.Test.YthcjcdchmdgnjaaGreatDoorProg
import Derived.Lib.Join
/-! Words of our own on memory: a slice that reads as a list of one-cell values; rows that a call owns. -/
namespace Go.Proofs.YthcjcdchmdgnjaaGreatDoor
open Go.RowKit

theorem ret_bool {a b : Bool} (h : a = b) : Ending.returned (.bool a) = .returned (.bool b) := by rw [h]
theorem ret_int {k : IntKind} {a b : Int} (h : a = b) : Ending.returned (.int k a) = .returned (.int k b) := by rw [h]

/-- The cells at b, o on are vs. -/
def CellsAt (w : World) (b o : Nat) (vs : List Value) : Prop := ∀ i u, vs[i]? = some u → w.cell? ⟨b, o + i, none⟩ = some u
theorem CellsAt.keep {w w' : World} {b o : Nat} {vs : List Value} (h : CellsAt w b o vs) (hk : ∀ p : Addr, p.block = b → w'.cell? p = w.cell? p) : CellsAt w' b o vs := fun i u hu => (hk _ rfl).trans (h i u hu)
theorem CellsAt.at_ {w : World} {b o : Nat} {vs : List Value} (h : CellsAt w b o vs) {i : Nat} (hi : i < vs.length) : w.cell? ⟨b, o + i, none⟩ = some vs[i] := h i _ (List.getElem?_eq_getElem hi)
/-- The slice value v reads as the one-cell values vs, below block B. -/
def RowAt (w : World) (B : Nat) (v : Value) (vs : List Value) : Prop :=
  ∃ A c, v = .slice A vs.length c ∧ vs.length ≤ c ∧ (0 < vs.length → ∃ b o, A = some ⟨b, o, none⟩ ∧ b < B ∧ CellsAt w b o vs)
section
variable {w w' : World} {B B' : Nat} {v : Value} {vs : List Value}
theorem RowAt.nil (w : World) (B c : Nat) : RowAt w B (.slice none 0 c) [] := ⟨none, c, rfl, Nat.zero_le _, fun h => absurd h (by simp)⟩
theorem RowAt.keep (h : RowAt w B v vs) (hk : ∀ p : Addr, p.block < B → w'.cell? p = w.cell? p) : RowAt w' B v vs := by
  obtain ⟨A, c, e, hl, h⟩ := h
  refine ⟨A, c, e, hl, fun hp => ?_⟩
  obtain ⟨b, o, ea, hb, hc⟩ := h hp
  exact ⟨b, o, ea, hb, hc.keep fun p hp => hk p (by omega)⟩
theorem RowAt.below (h : RowAt w B v vs) (hb : Below B w w') : RowAt w' B v vs := h.keep fun _ hp => hb.cell hp
theorem RowAt.more (h : RowAt w B v vs) (hB : B ≤ B') : RowAt w B' v vs := by
  obtain ⟨A, c, e, hl, h⟩ := h
  refine ⟨A, c, e, hl, fun hp => ?_⟩
  obtain ⟨b, o, ea, hb, hc⟩ := h hp
  exact ⟨b, o, ea, by omega, hc⟩
theorem RowAt.drewN (h : RowAt w B v vs) (n : Nat) : RowAt (w.drewN n) B v vs := h.keep fun _ _ => rfl
theorem RowAt.alloc (h : RowAt w B v vs) (hB : B ≤ w.heap.size) (o : Obj) : RowAt (w.alloc o) B v vs := h.keep fun p hp => World.cell?_alloc_lt w o p (by omega)
theorem RowAt.setCell (h : RowAt w B v vs) {p : Addr} (hB : B ≤ p.block) (u : Value) : RowAt (w.setCell p u) B v vs :=
  h.keep fun q hq => World.cell?_setCell_other w p q u (fun e => by subst e; omega)
theorem RowAt.grown (h : RowAt w B v vs) {row : Option Nat} (hg : w.grownBy w' row) (hB : B ≤ w.heap.size) (hr : ∀ g, row = some g → B ≤ g) : RowAt w' B v vs :=
  h.keep fun p hp => World.cell?_of_block (hg.block p.block (by omega) (fun e => by have := hr _ e.symm; omega))
theorem RowAt.of_own {base : Nat} {e n : Nat} (h : w.ownsRow base e 1 v n vs) : RowAt w w.heap.size v vs := by
  have hlen : vs.length = n := by have := h.1; omega
  rcases h.2 with ⟨rfl, h0⟩ | ⟨g, cap, cur, rfl, hb, hg, hc, hm, hs, ht⟩
  · rw [h0] at hlen
    rw [List.eq_nil_of_length_eq_zero hlen]; exact RowAt.nil _ _ _
  · refine ⟨_, cap, by rw [hlen], by omega, fun _ => ⟨g, 0, rfl, (Array.getElem?_eq_some_iff.1 hg).1, fun i u hu => ?_⟩⟩
    have hi : i < n := by
      have := (List.getElem?_eq_some_iff.1 hu).1; omega
    rw [← ht, List.getElem?_take] at hu
    simp only [Nat.mul_one, hi, if_true] at hu
    simp [World.cell?, hg, ← hu]
theorem RowAt.len (h : RowAt w B v vs) : ∃ A c, v = .slice A vs.length c := by obtain ⟨A, c, e, _⟩ := h; exact ⟨A, c, e⟩
end
theorem row_ge {W : World} {n e size k : Nat} {v : Value} {xs : List Value} (h : W.ownsRow n e size v k xs) {g : Nat} (hg : v.ownBlock = some g) : n ≤ g := by
  rcases h.2 with ⟨rfl, _⟩ | ⟨g', cap, cur, rfl, hb, _, _⟩
  · simp [Value.ownBlock] at hg
  · obtain rfl : g' = g := by simpa [Value.ownBlock] using hg
    exact hb
theorem own_base {W : World} {n n' e size k : Nat} {v : Value} {xs : List Value} (h : W.ownsRow n e size v k xs) (hn : n' ≤ n) : W.ownsRow n' e size v k xs := by
  refine ⟨h.1, ?_⟩
  rcases h.2 with h0 | ⟨g, cap, cur, h1, hb, h2⟩
  · exact .inl h0
  · exact .inr ⟨g, cap, cur, h1, Nat.le_trans hn hb, h2⟩
theorem own_drewN {W : World} {n e size k : Nat} {v : Value} {xs : List Value} (h : W.ownsRow n e size v k xs) (q : Nat) : (W.drewN q).ownsRow n e size v k xs := h
/-- The numbers of a list, as values. -/
def ints (xs : List Int) : List Value := xs.map (Value.int .i64)
theorem ints_len (xs : List Int) : (ints xs).length = xs.length := by simp [ints]
theorem ints_get {xs : List Int} {i : Nat} (h : i < xs.length) : (ints xs)[i]? = some (.int .i64 xs[i]) := by simp [ints, h]
theorem RowAt.ints {w : World} {B : Nat} {v : Value} {xs : List Int} (h : RowAt w B v (ints xs)) :
    ∃ A c, v = .slice A xs.length c ∧ xs.length ≤ c ∧ (0 < xs.length → ∃ b o, A = some ⟨b, o, none⟩ ∧ b < B ∧ ∀ j (hj : j < xs.length), w.cell? ⟨b, o + j, none⟩ = some (.int .i64 xs[j])) := by
  obtain ⟨A, c, e, hl, h⟩ := h
  rw [ints_len] at e hl
  refine ⟨A, c, e, hl, fun hp => ?_⟩
  obtain ⟨b, o, ea, hb, hc⟩ := h (by rw [ints_len]; exact hp)
  exact ⟨b, o, ea, hb, fun j hj => hc j _ (ints_get hj)⟩
theorem below_drewN {B : Nat} {w w' : World} (h : Below B w w') (n : Nat) : Below B w (w'.drewN n) := by
  induction n with
  | zero => exact h
  | succ n ih => exact ih.drew
end Go.Proofs.YthcjcdchmdgnjaaGreatDoor

/-! Numbers by sixteens, in plain words. -/
namespace Go.Proofs.YthcjcdchmdgnjaaGreatDoor
set_option linter.unusedVariables false
/-- A digit's byte. -/
def hexU (d : Nat) : UInt8 := if d < 10 then UInt8.ofNat (48 + d) else UInt8.ofNat (55 + d)
/-- The same, small. -/
def hexS (d : Nat) : UInt8 := if d < 10 then UInt8.ofNat (48 + d) else UInt8.ofNat (87 + d)
/-- The k lowest digits of n, the highest one ahead. -/
def digs (c : Nat → UInt8) : Nat → Nat → List UInt8
  | 0, _ => []
  | k + 1, n => c (n / 16 ^ k % 16) :: digs c k n
theorem digs_len (c : Nat → UInt8) : ∀ k n, (digs c k n).length = k
  | 0, _ => rfl
  | k + 1, n => by rw [digs, List.length_cons, digs_len c k n]
/-- How many digits a number has: one at least. -/
def hexN (n : Nat) : Nat := if n < 16 then 1 else hexN (n / 16) + 1
decreasing_by omega
theorem hexN_lt (n : Nat) : n / 16 ^ hexN n = 0 := by
  induction n using Nat.strongRecOn with
  | _ n ih =>
    rw [hexN]
    split
    · simp; omega
    · rw [Nat.pow_succ, Nat.mul_comm, ← Nat.div_div_eq_div_mul]
      exact ih (n / 16) (by omega)
theorem hexN_pos (n : Nat) : 1 ≤ hexN n := by rw [hexN]; split <;> omega
/-- The digit behind the highest one is none. -/
theorem hexN_ge {n k : Nat} (hk : 1 ≤ k) (h : k < hexN n) : 1 ≤ n / 16 ^ k := by
  induction n using Nat.strongRecOn generalizing k with
  | _ n ih =>
    rw [hexN] at h
    split at h
    · omega
    · obtain ⟨j, rfl⟩ : ∃ j, k = j + 1 := ⟨k - 1, by omega⟩
      rw [Nat.pow_succ, Nat.mul_comm, ← Nat.div_div_eq_div_mul]
      by_cases hj : j = 0
      · subst hj; simp; omega
      · exact ih (n / 16) (by omega) (by omega) (by omega)
theorem hexN_le {n k : Nat} (hk : 1 ≤ k) (h : n / 16 ^ k = 0) : hexN n ≤ k := by
  refine Nat.le_of_not_lt fun h9 => ?_
  have := hexN_ge hk h9
  omega
/-- A number with four digits at least. -/
def hexW (n : Nat) : List UInt8 := digs hexU (max 4 (hexN n)) n
theorem hexW_len (n : Nat) : (hexW n).length = max 4 (hexN n) := digs_len _ _ _
theorem hexN_few {n : Nat} (h : n ≤ 1114111) : hexN n ≤ 6 := hexN_le (by omega) (Nat.div_eq_of_lt (by omega))
theorem hexW_few {n : Nat} (h : n ≤ 1114111) : (hexW n).length ≤ 6 := by rw [hexW_len]; have := hexN_few h; omega
theorem hexW_four (n : Nat) : 4 ≤ (hexW n).length := by rw [hexW_len]; omega
/-- The loop's end, of the document's. -/
theorem digs_end {n k : Nat} (h4 : 4 ≤ k) (h0 : n / 16 ^ k = 0) (h : k = 4 ∨ n / 16 ^ (k - 1) ≠ 0) : digs hexU k n = hexW n := by
  have h1 := hexN_le (by omega) h0
  have h2 : k ≤ max 4 (hexN n) := by
    rcases h with rfl | h
    · omega
    · have : ¬ hexN n ≤ k - 1 := fun h9 => h (by
        have h8 := hexN_lt n
        have h7 : 16 ^ hexN n ≤ 16 ^ (k - 1) := Nat.pow_le_pow_right (by omega) h9
        have h6 := Nat.div_le_div_left h7 (Nat.pow_pos (by omega)) (a := n)
        rw [h8] at h6
        exact Nat.le_zero.1 h6)
      omega
  unfold hexW
  rw [show k = max 4 (hexN n) by omega]
/-- Noughts ahead. -/
theorem digs_pad (k n : Nat) (h : n / 16 ^ k = 0) : digs hexU (k + 1) n = 48 :: digs hexU k n := by
  rw [digs, h]; rfl
/-- From the low end. -/
theorem digs_low (c : Nat → UInt8) : ∀ k n, digs c (k + 1) n = digs c k (n / 16) ++ [c (n % 16)]
  | 0, n => by simp [digs]
  | k + 1, n => by
    rw [digs, digs_low c k n, digs, List.cons_append, Nat.div_div_eq_div_mul, Nat.pow_succ, Nat.mul_comm 16]
end Go.Proofs.YthcjcdchmdgnjaaGreatDoor

/-! A table's entries and their text, in plain words. -/
namespace Go.Proofs.YthcjcdchmdgnjaaGreatDoor
set_option linter.unusedVariables false
/-- An element. -/
structure EL where
  v : Bool
  p : Int
  s : Int
  t : Int
/-- An entry. -/
structure EN where
  pts : List Int
  els : List EL
def pointB (p : Int) : Bool := decide (0 ≤ p ∧ p ≤ 1114111 ∧ (p < 55296 ∨ 57343 < p))
def rightB (e : EL) : Bool := decide (0 ≤ e.p ∧ e.p ≤ 64319 ∧ 0 ≤ e.s ∧ e.s ≤ 65535 ∧ 0 ≤ e.t ∧ e.t ≤ 65535 ∧ (e.p = 0 ∨ e.s ≠ 0) ∧ (e.s = 0 ∨ e.t ≠ 0) ∧ (e.v = false ∨ e.p ≠ 0))
/-- How two rows of points stand. -/
def ahead : List Int → List Int → Int
  | [], [] => 0
  | [], _ :: _ => -1
  | _ :: _, [] => 1
  | a :: x, b :: y => if a < b then -1 else if b < a then 1 else ahead x y
theorem ahead_cases : ∀ a b, ahead a b = -1 ∨ ahead a b = 0 ∨ ahead a b = 1
  | [], [] => by simp [ahead]
  | [], _ :: _ => by simp [ahead]
  | _ :: _, [] => by simp [ahead]
  | a :: x, b :: y => by
    rw [ahead]
    split
    · exact .inl rfl
    · split
      · exact .inr (.inr rfl)
      · exact ahead_cases x y
/-- Behind a common beginning. -/
theorem ahead_drop : ∀ (k : Nat) (a b : List Int), (∀ j, j < k → ∃ v, a[j]? = some v ∧ b[j]? = some v) → ahead a b = ahead (a.drop k) (b.drop k)
  | 0, a, b, _ => rfl
  | k + 1, [], b, h => by obtain ⟨v, h1, _⟩ := h 0 (by omega); simp at h1
  | k + 1, a :: x, [], h => by obtain ⟨v, _, h1⟩ := h 0 (by omega); simp at h1
  | k + 1, a :: x, b :: y, h => by
    obtain ⟨v, h1, h2⟩ := h 0 (by omega)
    simp at h1 h2
    rw [ahead, if_neg (by omega), if_neg (by omega), List.drop_succ_cons, List.drop_succ_cons]
    exact ahead_drop k x y fun j hj => by
      obtain ⟨u, g1, g2⟩ := h (j + 1) (by omega)
      exact ⟨u, by simpa using g1, by simpa using g2⟩
def EL.text (e : EL) : List UInt8 := [91, if e.v then 42 else 46] ++ hexW e.p.toNat ++ [46] ++ hexW e.s.toNat ++ [46] ++ hexW e.t.toNat ++ [93]
def EN.text (x : EN) : List UInt8 := Lib.join (x.pts.map fun p => hexW p.toNat) [32] ++ [59] ++ (x.els.map EL.text).flatten
def EN.may (x : EN) : Bool := decide (1 ≤ x.pts.length ∧ x.pts.length ≤ 8 ∧ 1 ≤ x.els.length ∧ x.els.length ≤ 16) && x.pts.all pointB && x.els.all rightB
/-- May the entry with this number stand there? -/
def tabMay (l : List EN) (i : Nat) : Bool := match l[i]? with
  | none => true
  | some x => x.may && (decide (i = 0) || (match l[i - 1]? with
    | none => true
    | some y => decide (ahead y.pts x.pts < 0)))
def tabText (l : List EN) : List UInt8 := Lib.join (l.map EN.text) [10]
/-- What is wrong with entries' text. -/
def tabWhy (l : List EN) : Int := if 4096 < l.length then 2 else if (List.range l.length).all (tabMay l) then (if 65536 < (tabText l).length then 2 else 0) else 1
def tabOut (l : List EN) : List UInt8 := if tabWhy l = 0 then tabText l else []
theorem rightB_of {e : EL} (h : rightB e = true) : 0 ≤ e.p ∧ e.p ≤ 64319 ∧ 0 ≤ e.s ∧ e.s ≤ 65535 ∧ 0 ≤ e.t ∧ e.t ≤ 65535 := by
  unfold rightB at h
  have := of_decide_eq_true h
  exact ⟨this.1, this.2.1, this.2.2.1, this.2.2.2.1, this.2.2.2.2.1, this.2.2.2.2.2.1⟩
theorem hexW_word {n : Nat} (h : n ≤ 65535) : (hexW n).length = 4 := by
  rw [hexW_len]
  have : hexN n ≤ 4 := hexN_le (by omega) (Nat.div_eq_of_lt (by omega))
  omega
theorem elText_len {e : EL} (h : rightB e = true) : e.text.length = 17 := by
  obtain ⟨h1, h2, h3, h4, h5, h6⟩ := rightB_of h
  unfold EL.text
  simp only [List.length_append, List.length_cons, List.length_nil]
  rw [hexW_word (by omega), hexW_word (by omega), hexW_word (by omega)]
theorem join_len (sep : List UInt8) (m : Nat) : ∀ l : List (List UInt8), (∀ x ∈ l, x.length ≤ m) → (Lib.join l sep).length ≤ l.length * (m + sep.length)
  | [], _ => by simp [Lib.join_nil]
  | x :: r, h => by
    rw [Lib.join_cons, List.length_append]
    have h1 := h x (by simp)
    have h2 : (Lib.joinTail sep r).length ≤ r.length * (m + sep.length) := by
      have : ∀ r : List (List UInt8), (∀ x ∈ r, x.length ≤ m) → (Lib.joinTail sep r).length ≤ r.length * (m + sep.length) := by
        intro r
        induction r with
        | nil => intro _; simp [Lib.joinTail]
        | cons y r ih =>
          intro hr
          have g1 := ih fun x hx => hr x (by simp [hx])
          have g2 := hr y (by simp)
          simp only [Lib.joinTail, List.map_cons, List.flatten_cons, List.length_append] at g1 ⊢
          rw [List.length_cons, Nat.succ_mul]
          omega
      exact this r fun x hx => h x (by simp [hx])
    rw [List.length_cons, Nat.succ_mul]
    omega
theorem flat_len (m : Nat) : ∀ l : List (List UInt8), (∀ x ∈ l, x.length ≤ m) → l.flatten.length ≤ l.length * m
  | [], _ => by simp
  | x :: r, h => by
    have h1 := h x (by simp)
    have h2 := flat_len m r fun y hy => h y (by simp [hy])
    rw [List.flatten_cons, List.length_append, List.length_cons, Nat.succ_mul]
    omega
theorem pointB_of {p : Int} (h : pointB p = true) : 0 ≤ p ∧ p ≤ 1114111 := by
  unfold pointB at h
  have := of_decide_eq_true h
  exact ⟨this.1, this.2.1⟩
theorem enText_few {x : EN} (h : x.may = true) : x.text.length ≤ 329 := by
  unfold EN.may at h
  simp only [Bool.and_eq_true, decide_eq_true_eq, List.all_eq_true] at h
  obtain ⟨⟨⟨h1, h2, h3, h4⟩, h5⟩, h6⟩ := h
  have g1 := join_len [32] 6 (x.pts.map fun p => hexW p.toNat) fun y hy => by
    obtain ⟨p, hp, rfl⟩ := List.mem_map.1 hy
    obtain ⟨q1, q2⟩ := pointB_of (h5 p hp)
    exact hexW_few (by omega)
  have g2 := flat_len 17 (x.els.map EL.text) fun y hy => by
    obtain ⟨e, he, rfl⟩ := List.mem_map.1 hy
    exact Nat.le_of_eq (elText_len (h6 e he))
  rw [List.length_map] at g1 g2
  unfold EN.text
  simp only [List.length_append, List.length_cons, List.length_nil] at g1 ⊢
  omega
end Go.Proofs.YthcjcdchmdgnjaaGreatDoor
