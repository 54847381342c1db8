/-
  Words of our own on memory: a slice that reads as a list of one-cell values; rows that a call owns.
-/
import Derived.Below
import Derived.RangeFuncBox
import Derived.RangeFuncNested
import Derived.Laws.OwnMore
import Derived.Deep.Draws
import Derived.Lib.Hide
import Derived.Test.YtlkdjdcnbcegeaaGreatDoorProg
import Derived.Lib.ParseIntBMem
import Derived.Laws.BytesString
import Derived.Laws.Cells
import Derived.ProofKit
/-! Words of our own on memory: a slice that reads as a list of one-cell values; rows that a call owns. -/
namespace Go.Proofs.YtlkdjdcnbcegeaaGreatDoor
open Go.RowKit

theorem ret_bool {a b : Bool} (h : a = b) : Ending.returned (.bool a) = .returned (.bool b) := by rw [h]
theorem ret_int {k : IntKind} {a b : Int} (h : a = b) : Ending.returned (.int k a) = .returned (.int k b) := by rw [h]

/-- The cells at b, o on are vs. -/
def CellsAt (w : World) (b o : Nat) (vs : List Value) : Prop := ∀ i u, vs[i]? = some u → w.cell? ⟨b, o + i, none⟩ = some u
theorem CellsAt.keep {w w' : World} {b o : Nat} {vs : List Value} (h : CellsAt w b o vs) (hk : ∀ p : Addr, p.block = b → w'.cell? p = w.cell? p) : CellsAt w' b o vs := fun i u hu => (hk _ rfl).trans (h i u hu)
theorem CellsAt.at_ {w : World} {b o : Nat} {vs : List Value} (h : CellsAt w b o vs) {i : Nat} (hi : i < vs.length) : w.cell? ⟨b, o + i, none⟩ = some vs[i] := h i _ (List.getElem?_eq_getElem hi)
/-- The slice value v reads as the one-cell values vs, below block B. -/
def RowAt (w : World) (B : Nat) (v : Value) (vs : List Value) : Prop :=
  ∃ A c, v = .slice A vs.length c ∧ vs.length ≤ c ∧ (0 < vs.length → ∃ b o, A = some ⟨b, o, none⟩ ∧ b < B ∧ CellsAt w b o vs)
section
variable {w w' : World} {B B' : Nat} {v : Value} {vs : List Value}
theorem RowAt.nil (w : World) (B c : Nat) : RowAt w B (.slice none 0 c) [] := ⟨none, c, rfl, Nat.zero_le _, fun h => absurd h (by simp)⟩
theorem RowAt.keep (h : RowAt w B v vs) (hk : ∀ p : Addr, p.block < B → w'.cell? p = w.cell? p) : RowAt w' B v vs := by
  obtain ⟨A, c, e, hl, h⟩ := h
  refine ⟨A, c, e, hl, fun hp => ?_⟩
  obtain ⟨b, o, ea, hb, hc⟩ := h hp
  exact ⟨b, o, ea, hb, hc.keep fun p hp => hk p (by omega)⟩
theorem RowAt.below (h : RowAt w B v vs) (hb : Below B w w') : RowAt w' B v vs := h.keep fun _ hp => hb.cell hp
theorem RowAt.more (h : RowAt w B v vs) (hB : B ≤ B') : RowAt w B' v vs := by
  obtain ⟨A, c, e, hl, h⟩ := h
  refine ⟨A, c, e, hl, fun hp => ?_⟩
  obtain ⟨b, o, ea, hb, hc⟩ := h hp
  exact ⟨b, o, ea, by omega, hc⟩
theorem RowAt.drewN (h : RowAt w B v vs) (n : Nat) : RowAt (w.drewN n) B v vs := h.keep fun _ _ => rfl
theorem RowAt.alloc (h : RowAt w B v vs) (hB : B ≤ w.heap.size) (o : Obj) : RowAt (w.alloc o) B v vs := h.keep fun p hp => World.cell?_alloc_lt w o p (by omega)
theorem RowAt.setCell (h : RowAt w B v vs) {p : Addr} (hB : B ≤ p.block) (u : Value) : RowAt (w.setCell p u) B v vs :=
  h.keep fun q hq => World.cell?_setCell_other w p q u (fun e => by subst e; omega)
theorem RowAt.grown (h : RowAt w B v vs) {row : Option Nat} (hg : w.grownBy w' row) (hB : B ≤ w.heap.size) (hr : ∀ g, row = some g → B ≤ g) : RowAt w' B v vs :=
  h.keep fun p hp => World.cell?_of_block (hg.block p.block (by omega) (fun e => by have := hr _ e.symm; omega))
theorem RowAt.of_own {base : Nat} {e n : Nat} (h : w.ownsRow base e 1 v n vs) : RowAt w w.heap.size v vs := by
  have hlen : vs.length = n := by have := h.1; omega
  rcases h.2 with ⟨rfl, h0⟩ | ⟨g, cap, cur, rfl, hb, hg, hc, hm, hs, ht⟩
  · rw [h0] at hlen
    rw [List.eq_nil_of_length_eq_zero hlen]; exact RowAt.nil _ _ _
  · refine ⟨_, cap, by rw [hlen], by omega, fun _ => ⟨g, 0, rfl, (Array.getElem?_eq_some_iff.1 hg).1, fun i u hu => ?_⟩⟩
    have hi : i < n := by
      have := (List.getElem?_eq_some_iff.1 hu).1; omega
    rw [← ht, List.getElem?_take] at hu
    simp only [Nat.mul_one, hi, if_true] at hu
    simp [World.cell?, hg, ← hu]
theorem RowAt.len (h : RowAt w B v vs) : ∃ A c, v = .slice A vs.length c := by obtain ⟨A, c, e, _⟩ := h; exact ⟨A, c, e⟩
end
theorem row_ge {W : World} {n e size k : Nat} {v : Value} {xs : List Value} (h : W.ownsRow n e size v k xs) {g : Nat} (hg : v.ownBlock = some g) : n ≤ g := by
  rcases h.2 with ⟨rfl, _⟩ | ⟨g', cap, cur, rfl, hb, _, _⟩
  · simp [Value.ownBlock] at hg
  · obtain rfl : g' = g := by simpa [Value.ownBlock] using hg
    exact hb
theorem own_base {W : World} {n n' e size k : Nat} {v : Value} {xs : List Value} (h : W.ownsRow n e size v k xs) (hn : n' ≤ n) : W.ownsRow n' e size v k xs := by
  refine ⟨h.1, ?_⟩
  rcases h.2 with h0 | ⟨g, cap, cur, h1, hb, h2⟩
  · exact .inl h0
  · exact .inr ⟨g, cap, cur, h1, Nat.le_trans hn hb, h2⟩
theorem own_drewN {W : World} {n e size k : Nat} {v : Value} {xs : List Value} (h : W.ownsRow n e size v k xs) (q : Nat) : (W.drewN q).ownsRow n e size v k xs := h
/-- The numbers of a list, as values. -/
def ints (xs : List Int) : List Value := xs.map (Value.int .i64)
theorem ints_len (xs : List Int) : (ints xs).length = xs.length := by simp [ints]
theorem ints_get {xs : List Int} {i : Nat} (h : i < xs.length) : (ints xs)[i]? = some (.int .i64 xs[i]) := by simp [ints, h]
theorem RowAt.ints {w : World} {B : Nat} {v : Value} {xs : List Int} (h : RowAt w B v (ints xs)) :
    ∃ A c, v = .slice A xs.length c ∧ xs.length ≤ c ∧ (0 < xs.length → ∃ b o, A = some ⟨b, o, none⟩ ∧ b < B ∧ ∀ j (hj : j < xs.length), w.cell? ⟨b, o + j, none⟩ = some (.int .i64 xs[j])) := by
  obtain ⟨A, c, e, hl, h⟩ := h
  rw [ints_len] at e hl
  refine ⟨A, c, e, hl, fun hp => ?_⟩
  obtain ⟨b, o, ea, hb, hc⟩ := h (by rw [ints_len]; exact hp)
  exact ⟨b, o, ea, hb, fun j hj => hc j _ (ints_get hj)⟩
theorem below_drewN {B : Nat} {w w' : World} (h : Below B w w') (n : Nat) : Below B w (w'.drewN n) := by
  induction n with
  | zero => exact h
  | succ n ih => exact ih.drew
end Go.Proofs.YtlkdjdcnbcegeaaGreatDoor

/-! Numbers by sixteens, in plain words. -/
namespace Go.Proofs.YtlkdjdcnbcegeaaGreatDoor
set_option linter.unusedVariables false
/-- A digit's byte. -/
def hexU (d : Nat) : UInt8 := if d < 10 then UInt8.ofNat (48 + d) else UInt8.ofNat (55 + d)
/-- The same, small. -/
def hexS (d : Nat) : UInt8 := if d < 10 then UInt8.ofNat (48 + d) else UInt8.ofNat (87 + d)
/-- The k lowest digits of n, the highest one ahead. -/
def digs (c : Nat → UInt8) : Nat → Nat → List UInt8
  | 0, _ => []
  | k + 1, n => c (n / 16 ^ k % 16) :: digs c k n
theorem digs_len (c : Nat → UInt8) : ∀ k n, (digs c k n).length = k
  | 0, _ => rfl
  | k + 1, n => by rw [digs, List.length_cons, digs_len c k n]
/-- How many digits a number has: one at least. -/
def hexN (n : Nat) : Nat := if n < 16 then 1 else hexN (n / 16) + 1
decreasing_by omega
theorem hexN_lt (n : Nat) : n / 16 ^ hexN n = 0 := by
  induction n using Nat.strongRecOn with
  | _ n ih =>
    rw [hexN]
    split
    · simp; omega
    · rw [Nat.pow_succ, Nat.mul_comm, ← Nat.div_div_eq_div_mul]
      exact ih (n / 16) (by omega)
theorem hexN_pos (n : Nat) : 1 ≤ hexN n := by rw [hexN]; split <;> omega
/-- The digit behind the highest one is none. -/
theorem hexN_ge {n k : Nat} (hk : 1 ≤ k) (h : k < hexN n) : 1 ≤ n / 16 ^ k := by
  induction n using Nat.strongRecOn generalizing k with
  | _ n ih =>
    rw [hexN] at h
    split at h
    · omega
    · obtain ⟨j, rfl⟩ : ∃ j, k = j + 1 := ⟨k - 1, by omega⟩
      rw [Nat.pow_succ, Nat.mul_comm, ← Nat.div_div_eq_div_mul]
      by_cases hj : j = 0
      · subst hj; simp; omega
      · exact ih (n / 16) (by omega) (by omega) (by omega)
theorem hexN_le {n k : Nat} (hk : 1 ≤ k) (h : n / 16 ^ k = 0) : hexN n ≤ k := by
  refine Nat.le_of_not_lt fun h9 => ?_
  have := hexN_ge hk h9
  omega
/-- A number with four digits at least. -/
def hexW (n : Nat) : List UInt8 := digs hexU (max 4 (hexN n)) n
theorem hexW_len (n : Nat) : (hexW n).length = max 4 (hexN n) := digs_len _ _ _
theorem hexN_few {n : Nat} (h : n ≤ 1114111) : hexN n ≤ 6 := hexN_le (by omega) (Nat.div_eq_of_lt (by omega))
theorem hexW_few {n : Nat} (h : n ≤ 1114111) : (hexW n).length ≤ 6 := by rw [hexW_len]; have := hexN_few h; omega
theorem hexW_four (n : Nat) : 4 ≤ (hexW n).length := by rw [hexW_len]; omega
/-- The loop's end, of the document's. -/
theorem digs_end {n k : Nat} (h4 : 4 ≤ k) (h0 : n / 16 ^ k = 0) (h : k = 4 ∨ n / 16 ^ (k - 1) ≠ 0) : digs hexU k n = hexW n := by
  have h1 := hexN_le (by omega) h0
  have h2 : k ≤ max 4 (hexN n) := by
    rcases h with rfl | h
    · omega
    · have : ¬ hexN n ≤ k - 1 := fun h9 => h (by
        have h8 := hexN_lt n
        have h7 : 16 ^ hexN n ≤ 16 ^ (k - 1) := Nat.pow_le_pow_right (by omega) h9
        have h6 := Nat.div_le_div_left h7 (Nat.pow_pos (by omega)) (a := n)
        rw [h8] at h6
        exact Nat.le_zero.1 h6)
      omega
  unfold hexW
  rw [show k = max 4 (hexN n) by omega]
/-- Noughts ahead. -/
theorem digs_pad (k n : Nat) (h : n / 16 ^ k = 0) : digs hexU (k + 1) n = 48 :: digs hexU k n := by
  rw [digs, h]; rfl
/-- From the low end. -/
theorem digs_low (c : Nat → UInt8) : ∀ k n, digs c (k + 1) n = digs c k (n / 16) ++ [c (n % 16)]
  | 0, n => by simp [digs]
  | k + 1, n => by
    rw [digs, digs_low c k n, digs, List.cons_append, Nat.div_div_eq_div_mul, Nat.pow_succ, Nat.mul_comm 16]
end Go.Proofs.YtlkdjdcnbcegeaaGreatDoor

/-! Numbers by sixteens, read: in plain words. -/
namespace Go.Proofs.YtlkdjdcnbcegeaaGreatDoor
open Go.RowKit Go.Lib
set_option linter.unusedVariables false
/-- What a byte is worth as a digit. -/
def hexD (c : UInt8) : Option Nat :=
  if 48 ≤ c.toNat ∧ c.toNat ≤ 57 then some (c.toNat - 48)
  else if 65 ≤ c.toNat ∧ c.toNat ≤ 70 then some (c.toNat - 55)
  else if 97 ≤ c.toNat ∧ c.toNat ≤ 102 then some (c.toNat - 87) else none
/-- A text by sixteens, up to M. -/
def parseX (M : Nat) : Nat → List UInt8 → NumEnd Nat
  | acc, [] => .ok acc
  | acc, c :: r => match hexD c with
    | none => NumEnd.syntax
    | some d => if M < acc * 16 + d then .range else parseX M (acc * 16 + d) r
theorem hexD_lt {c : UInt8} {d : Nat} (h : hexD c = some d) : d < 16 := by
  unfold hexD at h
  split at h
  · cases h; omega
  · split at h
    · cases h; omega
    · split at h
      · cases h; omega
      · cases h
theorem hexD_hexU {d : Nat} (h : d < 16) : hexD (hexU d) = some d := by
  have hc : d = 0 ∨ d = 1 ∨ d = 2 ∨ d = 3 ∨ d = 4 ∨ d = 5 ∨ d = 6 ∨ d = 7 ∨ d = 8 ∨ d = 9 ∨ d = 10 ∨ d = 11 ∨ d = 12 ∨ d = 13 ∨ d = 14 ∨ d = 15 := by omega
  rcases hc with rfl | rfl | rfl | rfl | rfl | rfl | rfl | rfl | rfl | rfl | rfl | rfl | rfl | rfl | rfl | rfl <;> rfl
set_option synthInstance.maxHeartbeats 400000 in
set_option synthInstance.maxSize 2000 in
/-- A byte that is no cipher, by lower's answer. -/
theorem lower_or : ∀ n : Nat, n < 256 → ¬ (48 ≤ n ∧ n ≤ 57) →
    (57 < n ∧ n ≠ 95 ∧ 97 ≤ n ||| 32 ∧ n ||| 32 ≤ 102 ∧ hexD (UInt8.ofNat n) = some ((n ||| 32) - 87)) ∨ (hexD (UInt8.ofNat n) = none ∧ (n < 48 ∧ n ||| 32 < 97 ∨ 57 < n ∧ n ≠ 95 ∧ n ||| 32 < 97 ∨ 57 < n ∧ n ≠ 95 ∧ 102 < n ||| 32 ∧ n ||| 32 ≤ 122 ∨ 57 < n ∧ n ≠ 95 ∧ 122 < n ||| 32 ∨ n = 95 ∧ n ||| 32 = 127)) := by
  decide +kernel
theorem parseX_le {M : Nat} : ∀ {l : List UInt8} {acc n : Nat}, acc ≤ M → parseX M acc l = .ok n → n ≤ M
  | [], acc, n, ha, h => by simp only [parseX] at h; cases h; exact ha
  | c :: r, acc, n, ha, h => by
    simp only [parseX] at h
    split at h
    · cases h
    · split at h
      · cases h
      · exact parseX_le (by omega) h
/-- The digits of a number are read as it. -/
theorem parseX_digs {M : Nat} : ∀ (k n acc : Nat), acc * 16 ^ k + n % 16 ^ k ≤ M → parseX M acc (digs hexU k n) = .ok (acc * 16 ^ k + n % 16 ^ k)
  | 0, n, acc, h => by simp [digs, parseX, Nat.mod_one]
  | k + 1, n, acc, h => by
    have hd : n / 16 ^ k % 16 < 16 := Nat.mod_lt _ (by omega)
    have he : n % 16 ^ (k + 1) = n / 16 ^ k % 16 * 16 ^ k + n % 16 ^ k := by
      rw [Nat.pow_succ, Nat.mod_mul]; rw [Nat.mul_comm, Nat.add_comm]
    have hs : acc * 16 ^ (k + 1) + n % 16 ^ (k + 1) = (acc * 16 + n / 16 ^ k % 16) * 16 ^ k + n % 16 ^ k := by
      rw [he, Nat.pow_succ, Nat.add_mul, Nat.mul_assoc acc, Nat.mul_comm 16, Nat.add_assoc]
    have hM : acc * 16 + n / 16 ^ k % 16 ≤ M := by
      have h1 : 1 ≤ 16 ^ k := Nat.pow_pos (by omega)
      have h2 := Nat.mul_le_mul_left (acc * 16 + n / 16 ^ k % 16) h1
      omega
    simp only [digs, parseX, hexD_hexU hd]
    rw [if_neg (by omega), parseX_digs k n _ (by omega), hs]
theorem parseX_hexW {M n : Nat} (h : n ≤ M) : parseX M 0 (hexW n) = .ok n := by
  have h1 := hexN_lt n
  have h2 : n % 16 ^ (max 4 (hexN n)) = n := by
    refine Nat.mod_eq_of_lt ?_
    have h3 : n < 16 ^ hexN n := by
      rcases Nat.div_eq_zero_iff.1 h1 with h4 | h4
      · have := Nat.pow_pos (n := hexN n) (show 0 < 16 by omega); omega
      · exact h4
    exact Nat.lt_of_lt_of_le h3 (Nat.pow_le_pow_right (by omega) (by omega))
  rw [hexW, parseX_digs _ _ _ (by omega)]
  simp [h2]
end Go.Proofs.YtlkdjdcnbcegeaaGreatDoor

/-! Words of our own on byte slices: bytes that a call owns, and their string. -/
namespace Go.Proofs.YtlkdjdcnbcegeaaGreatDoor
open Go.RowKit
/-- Bytes as values. -/
def u8s (bs : List Nat) : List Value := bs.map fun b : Nat => Value.int .u8 (b : Int)
theorem u8s_len (bs : List Nat) : (u8s bs).length = bs.length := by simp [u8s]
theorem u8s_append (a b : List Nat) : u8s (a ++ b) = u8s a ++ u8s b := by simp [u8s]
/-- Bytes as a string. -/
def strOf (bs : List Nat) : ByteArray := ⟨(bs.map UInt8.ofNat).toArray⟩
theorem foldl_push (bs : List Nat) (r : ByteArray) : (bs.map fun b : Nat => (b : Int)).foldl (fun r n => r.push (UInt8.ofNat n.toNat)) r = ⟨r.data ++ (bs.map UInt8.ofNat).toArray⟩ := by
  induction bs generalizing r with
  | nil => simp
  | cons b bs ih =>
    simp only [List.map_cons, List.foldl_cons, Int.toNat_natCast]
    rw [ih]
    cases r with | mk d => show ByteArray.mk (d.push (UInt8.ofNat b) ++ (bs.map UInt8.ofNat).toArray) = _; simp
theorem u8_info : (Tryz.prog.info? 5).map (fun i => (i.zero, i.size, i.bytes)) = some (some (.int .u8 0), 1, 1) := by kernel_rfl
/-- string(v), v a byte slice that reads as bs. -/
theorem run_string_row {w : World} {B : Nat} {v : Value} {bs : List Nat} (h : RowAt w B v (u8s bs)) :
    (convert 160 9 v).run Tryz.prog w = .ok (.string (strOf bs)) w := by
  obtain ⟨A, c, rfl, hl, hc⟩ := h
  rw [run_convert_bytes_string w 160 9 5 _ _ _ Tryz.underlying160 Tryz.underlying5 Tryz.underlying9]
  cases bs with
  | nil =>
    cases A with
    | none => simp [Conv.bytesToString, strOf]; rfl
    | some a =>
      have := run_bytesToString (P := Tryz.prog) w a 0 c [] (by simp [loadCells, loadCellsFrom])
      exact this.trans (by simp [strOf]; rfl)
  | cons b bs =>
    obtain ⟨g, o, rfl, _, hcell⟩ := hc (by simp [u8s])
    have := run_bytesToString (P := Tryz.prog) w ⟨g, o, none⟩ (u8s (b :: bs)).length c ((b :: bs).map fun b : Nat => (b : Int)) (by
      have := run_loadCells_list (P := Tryz.prog) (w := w) ⟨g, o, none⟩ (u8s (b :: bs)) (fun j u hu => by
        have := hcell j u hu
        unfold Addr.add
        split
        · rename_i h0; subst h0; simpa using this
        · simpa using this)
      rw [show (List.map (Value.int IntKind.u8) (List.map (fun b : Nat => (b : Int)) (b :: bs))) = u8s (b :: bs) by simp [u8s]]
      exact this)
    rw [this, foldl_push]
    simp [strOf]
theorem cells_new (w : World) (cs : Array Value) (t : TypeId) : ∀ j u, cs.toList[j]? = some u → (w.alloc (.cells cs t)).cell? ((⟨w.heap.size, 0, none⟩ : Addr).add j) = some u := by
  intro j u hj
  rw [Go.WideShapes.add_plain]
  have h := World.alloc_heap_new w (.cells cs t)
  simp only [World.cell?, h, Option.isSome_none, Nat.zero_add]
  simpa using hj
end Go.Proofs.YtlkdjdcnbcegeaaGreatDoor
