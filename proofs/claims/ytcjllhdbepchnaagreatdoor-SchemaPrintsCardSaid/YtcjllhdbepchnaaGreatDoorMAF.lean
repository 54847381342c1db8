/-
  A number in decimal, in plain words: bytes that are divided by ten, again and again.
-/
import Derived.Lib.ItoaNum
import Derived.Test.YtcjllhdbepchnaaGreatDoorMG
import Derived.Laws.BytesString
import Derived.Laws.Cells
import Derived.ProofKit
/-! A number in decimal, in plain words: bytes that are divided by ten, again and again. -/
namespace Go.Proofs.YtcjllhdbepchnaaGreatDoor
set_option linter.unusedVariables false
/-- What bytes say, the highest first. -/
def valF : Nat → List Nat → Nat
  | v, [] => v
  | v, b :: l => valF (256 * v + b) l
/-- The quotients of a division by ten, and what is left. -/
def divQ : Nat → List Nat → List Nat
  | _, [] => []
  | r, b :: l => ((256 * r + b) / 10) :: divQ ((256 * r + b) % 10) l
def divR : Nat → List Nat → Nat
  | r, [] => r
  | r, b :: l => divR ((256 * r + b) % 10) l
theorem valF_split : ∀ (l : List Nat) (v : Nat), valF v l = v * 256 ^ l.length + valF 0 l
  | [], v => by simp [valF]
  | b :: l, v => by
    rw [valF, valF, valF_split l (256 * v + b), valF_split l (256 * 0 + b), List.length_cons, Nat.pow_succ]
    have h1 : (256 * v + b) * 256 ^ l.length = 256 * v * 256 ^ l.length + b * 256 ^ l.length := Nat.add_mul _ _ _
    have h2 : v * (256 ^ l.length * 256) = 256 * v * 256 ^ l.length := by
      rw [Nat.mul_comm (256 ^ l.length) 256, ← Nat.mul_assoc, Nat.mul_comm v 256]
    have h3 : (256 * 0 + b) * 256 ^ l.length = b * 256 ^ l.length := by rw [Nat.mul_zero, Nat.zero_add]
    omega
theorem divQ_len : ∀ (l : List Nat) (r : Nat), (divQ r l).length = l.length
  | [], _ => rfl
  | b :: l, r => by rw [divQ, List.length_cons, List.length_cons, divQ_len l]
theorem divR_lt : ∀ (l : List Nat) (r : Nat), r < 10 → divR r l < 10
  | [], _, h => h
  | b :: l, r, _ => by rw [divR]; exact divR_lt l _ (Nat.mod_lt _ (by omega))
theorem divQ_byte : ∀ (l : List Nat) (r : Nat), r < 10 → (∀ b ∈ l, b < 256) → ∀ q ∈ divQ r l, q < 256
  | [], _, _, _, q, h => by cases h
  | b :: l, r, hr, hb, q, h => by
    rw [divQ] at h
    rcases List.mem_cons.1 h with rfl | h
    · have := hb b List.mem_cons_self
      omega
    · exact divQ_byte l _ (Nat.mod_lt _ (by omega)) (fun x hx => hb x (List.mem_cons_of_mem _ hx)) q h
theorem div_val : ∀ (l : List Nat) (r : Nat), 10 * valF 0 (divQ r l) + divR r l = r * 256 ^ l.length + valF 0 l
  | [], r => by simp [divQ, divR, valF]
  | b :: l, r => by
    have ih := div_val l ((256 * r + b) % 10)
    rw [divQ, divR, valF, valF, valF_split (divQ _ l), divQ_len, valF_split l (256 * 0 + b), List.length_cons, Nat.pow_succ]
    have hd : 10 * ((256 * r + b) / 10) + (256 * r + b) % 10 = 256 * r + b := Nat.div_add_mod _ _
    obtain ⟨P, hP⟩ : ∃ P, P = 256 ^ l.length := ⟨_, rfl⟩
    rw [← hP] at ih ⊢
    obtain ⟨q, hq⟩ : ∃ q, q = (256 * r + b) / 10 := ⟨_, rfl⟩
    obtain ⟨s, hs⟩ : ∃ s, s = (256 * r + b) % 10 := ⟨_, rfl⟩
    rw [← hq, ← hs] at hd
    rw [← hs] at ih
    rw [← hq, ← hs, Nat.mul_zero, Nat.zero_add, Nat.zero_add]
    have h1 : 10 * (q * P) + s * P = 256 * r * P + b * P := by
      rw [← Nat.mul_assoc, ← Nat.add_mul, hd, Nat.add_mul]
    have h2 : r * (P * 256) = 256 * r * P := by rw [Nat.mul_comm P 256, ← Nat.mul_assoc, Nat.mul_comm r 256]
    rw [h2]
    omega
theorem div_ten (l : List Nat) : valF 0 (divQ 0 l) = valF 0 l / 10 ∧ divR 0 l = valF 0 l % 10 := by
  have h := div_val l 0
  have h2 := divR_lt l 0 (by omega)
  rw [Nat.zero_mul, Nat.zero_add] at h
  omega
/-- Noughts ahead say nothing. -/
theorem valF_zeros : ∀ (l : List Nat), valF 0 (l.dropWhile (· == 0)) = valF 0 l
  | [] => rfl
  | b :: l => by
    rw [List.dropWhile_cons]
    split
    · rename_i h
      have hb : b = 0 := by simpa using h
      rw [valF_zeros l, valF, hb]
    · rfl
theorem strip_head : ∀ (l : List Nat), l.dropWhile (· == 0) = [] ∨ ∃ b r, l.dropWhile (· == 0) = b :: r ∧ b ≠ 0
  | [] => .inl rfl
  | b :: l => by
    rw [List.dropWhile_cons]
    split
    · exact strip_head l
    · rename_i h
      exact .inr ⟨b, l, rfl, by simpa using h⟩
theorem valF_pos {b : Nat} {r : List Nat} (hb : b ≠ 0) : 0 < valF 0 (b :: r) := by
  rw [valF, valF_split]
  have : 0 < 256 ^ r.length := Nat.pow_pos (by omega)
  have h2 : 0 < (256 * 0 + b) * 256 ^ r.length := Nat.mul_pos (by omega) this
  omega
/-- The digits that are told so far, the lowest first, and what is still to be told. -/
def ToldD (v0 v : Nat) (back : List UInt8) : Prop := Lib.decDigits v0 = (if v = 0 then [] else Lib.decDigits v) ++ back.reverse
theorem ToldD.start {v : Nat} (h : v ≠ 0) : ToldD v v [] := by unfold ToldD; rw [if_neg h]; simp
theorem ToldD.step {v0 v : Nat} {back : List UInt8} (h : ToldD v0 v back) (hv : v ≠ 0) : ToldD v0 (v / 10) (back ++ [UInt8.ofNat (48 + v % 10)]) := by
  unfold ToldD at *
  rw [if_neg hv] at h
  rw [h, List.reverse_append, List.reverse_singleton, ← List.append_assoc]
  congr 1
  rw [Lib.decDigits]
  by_cases h9 : v < 10
  · rw [dif_pos h9, if_pos (by omega), Nat.mod_eq_of_lt h9]; rfl
  · rw [dif_neg h9, if_neg (by omega)]
theorem ToldD.end {v0 : Nat} {back : List UInt8} (h : ToldD v0 0 back) : back.reverse = Lib.decDigits v0 := by
  unfold ToldD at h; rw [if_pos rfl] at h; simpa using h.symm
/-- A number's text. -/
def numText (bel : Bool) (m : ByteArray) : List UInt8 := if m.size = 0 then [48] else (if bel then [45] else []) ++ Lib.decDigits (valF 0 (m.data.toList.map (·.toNat)))
end Go.Proofs.YtcjllhdbepchnaaGreatDoor

/-! ref11.decimal: a number in tens. -/
namespace Go.Proofs.YtcjllhdbepchnaaGreatDoor
open Go.RowKit Go.WideShapes
set_option linter.unusedVariables false
/-- Bytes as a text. -/
def txt (l : List UInt8) : ByteArray := ⟨l.toArray⟩
theorem txt_append (a b : List UInt8) : txt a ++ txt b = txt (a ++ b) := by
  apply ByteArray.ext
  simp [txt]
theorem txt_size (l : List UInt8) : (txt l).size = l.length := by simp [txt, ByteArray.size]
theorem dec_len (u : Nat) : (Lib.decDigits u).length ≤ u + 1 := by
  induction u using Nat.strongRecOn with
  | _ u ih =>
    rw [Lib.decDigits]
    split
    · simp
    · have := ih (u / 10) (by omega)
      rw [List.length_append, List.length_singleton]
      omega
set_option maxRecDepth 100000 in
set_option maxHeartbeats 1000000 in
theorem decimal_small (n : Nat) (hn : n < 10) (w : World) : Calls Tryz.prog 63 #[.int .i64 n] w (Ret (.string (txt (Lib.decDigits n))) w) := by
  have HB := Lib.hid (Below.refl w.heap.size w)
  have hc : n = 0 ∨ n = 1 ∨ n = 2 ∨ n = 3 ∨ n = 4 ∨ n = 5 ∨ n = 6 ∨ n = 7 ∨ n = 8 ∨ n = 9 := by omega
  have HE := Lib.hid (show Lib.decDigits n = [UInt8.ofNat (48 + n)] by rw [Lib.decDigits, dif_pos hn])
  clear hn
  rcases hc with rfl | rfl | rfl | rfl | rfl | rfl | rfl | rfl | rfl | rfl
  all_goals (
    go_enter Tryz.func63, Tryz.ntmps63
    go_wp2_with fail
    go_ret
    refine ⟨?_, HB.out⟩
    rw [HE.out]
    rfl)
set_option maxRecDepth 100000 in
set_option maxHeartbeats 1000000 in
theorem decimal_any : ∀ (n : Nat) (w : World), n ≤ 9223372036854775807 → Calls Tryz.prog 63 #[.int .i64 n] w (Ret (.string (txt (Lib.decDigits n))) w) := by
  intro n
  induction n using Nat.strongRecOn with
  | _ n ih =>
    intro w hn
    by_cases h : n < 10
    · exact decimal_small n h w
    · have h10 : ¬ (n : Int) < 10 := by omega
      have HA := Lib.hid (fun w => ih (n / 10) (by omega) w (by omega))
      have HR := Lib.hid (fun w => decimal_small (n % 10) (Nat.mod_lt _ (by omega)) w)
      have hq : (n : Int).tdiv 10 = ((n / 10 : Nat) : Int) := by rw [Int.tdiv_eq_ediv_of_nonneg (by omega)]; omega
      have hr : (n : Int).tmod 10 = ((n % 10 : Nat) : Int) := by rw [Int.tmod_eq_emod_of_nonneg (by omega)]; omega
      have HE := Lib.hid (show txt (Lib.decDigits (n / 10)) ++ txt (Lib.decDigits (n % 10)) = txt (Lib.decDigits n) by
        have e1 : Lib.decDigits (n % 10) = [UInt8.ofNat (48 + n % 10)] := by rw [Lib.decDigits, dif_pos (Nat.mod_lt _ (by omega))]
        have e2 : Lib.decDigits n = Lib.decDigits (n / 10) ++ [UInt8.ofNat (48 + n % 10)] := by
          conv => lhs; rw [Lib.decDigits]
          exact dif_neg h
        rw [txt_append, e1, e2])
      have hs1 : (txt (Lib.decDigits (n / 10))).size + (txt (Lib.decDigits (n % 10))).size ≤ 9223372036854775807 := by
        rw [txt_size, txt_size]
        have h1 := dec_len (n / 10)
        have h2 := dec_len (n % 10)
        omega
      clear ih
      go_enter Tryz.func63, Tryz.ntmps63
      go_wp2_with fail
      refine (HA.out _).mono ?_
      rintro e w1 ⟨rfl, hb1⟩
      have HB1 := Lib.hid hb1
      clear hb1
      go_wp2_with fail
      refine (HR.out _).mono ?_
      rintro e w2 ⟨rfl, hb2⟩
      have HB2 := Lib.hid (HB1.out.trans (hb2.mono HB1.out.size))
      clear hb2
      go_wp2_with fail
      go_ret
      rw [← HE.out]
      exact ⟨rfl, HB2.out⟩
end Go.Proofs.YtcjllhdbepchnaaGreatDoor

/-! Words of our own on byte slices: bytes that a call owns, and their string. -/
namespace Go.Proofs.YtcjllhdbepchnaaGreatDoor
open Go.RowKit
/-- Bytes as values. -/
def u8s (bs : List Nat) : List Value := bs.map fun b : Nat => Value.int .u8 (b : Int)
theorem u8s_len (bs : List Nat) : (u8s bs).length = bs.length := by simp [u8s]
theorem u8s_append (a b : List Nat) : u8s (a ++ b) = u8s a ++ u8s b := by simp [u8s]
/-- Bytes as a string. -/
def strOf (bs : List Nat) : ByteArray := ⟨(bs.map UInt8.ofNat).toArray⟩
theorem foldl_push (bs : List Nat) (r : ByteArray) : (bs.map fun b : Nat => (b : Int)).foldl (fun r n => r.push (UInt8.ofNat n.toNat)) r = ⟨r.data ++ (bs.map UInt8.ofNat).toArray⟩ := by
  induction bs generalizing r with
  | nil => simp
  | cons b bs ih =>
    simp only [List.map_cons, List.foldl_cons, Int.toNat_natCast]
    rw [ih]
    cases r with | mk d => show ByteArray.mk (d.push (UInt8.ofNat b) ++ (bs.map UInt8.ofNat).toArray) = _; simp
theorem u8_info : (Tryz.prog.info? 5).map (fun i => (i.zero, i.size, i.bytes)) = some (some (.int .u8 0), 1, 1) := by kernel_rfl
/-- string(v), v a byte slice that reads as bs. -/
theorem run_string_row {w : World} {B : Nat} {v : Value} {bs : List Nat} (h : RowAt w B v (u8s bs)) :
    (convert 153 9 v).run Tryz.prog w = .ok (.string (strOf bs)) w := by
  obtain ⟨A, c, rfl, hl, hc⟩ := h
  rw [run_convert_bytes_string w 153 9 5 _ _ _ Tryz.underlying153 Tryz.underlying5 Tryz.underlying9]
  cases bs with
  | nil =>
    cases A with
    | none => simp [Conv.bytesToString, strOf]; rfl
    | some a =>
      have := run_bytesToString (P := Tryz.prog) w a 0 c [] (by simp [loadCells, loadCellsFrom])
      exact this.trans (by simp [strOf]; rfl)
  | cons b bs =>
    obtain ⟨g, o, rfl, _, hcell⟩ := hc (by simp [u8s])
    have := run_bytesToString (P := Tryz.prog) w ⟨g, o, none⟩ (u8s (b :: bs)).length c ((b :: bs).map fun b : Nat => (b : Int)) (by
      have := run_loadCells_list (P := Tryz.prog) (w := w) ⟨g, o, none⟩ (u8s (b :: bs)) (fun j u hu => by
        have := hcell j u hu
        unfold Addr.add
        split
        · rename_i h0; subst h0; simpa using this
        · simpa using this)
      rw [show (List.map (Value.int IntKind.u8) (List.map (fun b : Nat => (b : Int)) (b :: bs))) = u8s (b :: bs) by simp [u8s]]
      exact this)
    rw [this, foldl_push]
    simp [strOf]
theorem cells_new (w : World) (cs : Array Value) (t : TypeId) : ∀ j u, cs.toList[j]? = some u → (w.alloc (.cells cs t)).cell? ((⟨w.heap.size, 0, none⟩ : Addr).add j) = some u := by
  intro j u hj
  rw [Go.WideShapes.add_plain]
  have h := World.alloc_heap_new w (.cells cs t)
  simp only [World.cell?, h, Option.isSome_none, Nat.zero_add]
  simpa using hj
end Go.Proofs.YtcjllhdbepchnaaGreatDoor
