/-
  ref02.Print: a number's text.
-/
import Derived.Test.YtcjllhdbepchnaaGreatDoorMAF
import Derived.Test.YtcjllhdbepchnaaGreatDoorMG
import Derived.Lib.ConvBytes
import Derived.Lib.AtoiErrMem
import Derived.WalkLawsBesides
import Derived.Deep.QuietTactic
import Derived.BigQuiet
import Derived.Deep.DeepCutAuto
namespace Go.Proofs.YtcjllhdbepchnaaGreatDoor
open Go.RowKit Go.WideShapes
set_option linter.unusedVariables false
def sLen : Value → Nat
  | .slice _ n _ => n
  | _ => 0
theorem divR_snoc : ∀ (a : List Nat) (r b : Nat), divR r (a ++ [b]) = (256 * divR r a + b) % 10
  | [], r, b => rfl
  | x :: a, r, b => by rw [List.cons_append, divR, divR, divR_snoc a]
theorem divQ_snoc : ∀ (a : List Nat) (r b : Nat), divQ r (a ++ [b]) = divQ r a ++ [(256 * divR r a + b) / 10]
  | [], r, b => rfl
  | x :: a, r, b => by rw [List.cons_append, divQ, divQ, divR, divQ_snoc a]; rfl
theorem take_snoc {l : List Nat} {k : Nat} (h : k < l.length) : l.take (k + 1) = l.take k ++ [l[k]] := by
  rw [List.take_add_one, List.getElem?_eq_getElem h]; rfl
theorem div_step {l : List Nat} {k : Nat} (h : k < l.length) : divQ 0 (l.take (k + 1)) ++ l.drop (k + 1) = (divQ 0 (l.take k) ++ l.drop k).set k ((256 * divR 0 (l.take k) + l[k]) / 10) := by
  have hl : (divQ 0 (l.take k)).length = k := by rw [divQ_len, List.length_take]; omega
  rw [List.set_append_right k _ (by omega), hl, Nat.sub_self, List.drop_eq_getElem_cons h, List.set_cons_zero, take_snoc h, divQ_snoc, List.append_assoc]
  rfl
theorem div_get {l : List Nat} {k : Nat} (h : k < l.length) : ∃ hk : k < (divQ 0 (l.take k) ++ l.drop k).length, (divQ 0 (l.take k) ++ l.drop k)[k] = l[k] := by
  have hl : (divQ 0 (l.take k)).length = k := by rw [divQ_len, List.length_take]; omega
  have hd : (l.drop k).length = l.length - k := List.length_drop
  refine ⟨by rw [List.length_append]; omega, ?_⟩
  rw [List.getElem_append_right (by omega)]
  simp [hl]
theorem told_next {l l' back : List Nat} {v0 : Nat} (hl : 0 < l.length) (hd : l.dropWhile (· == 0) = l) (he : l'.dropWhile (· == 0) = (divQ 0 l).dropWhile (· == 0)) (h : ToldD v0 (valF 0 l) (back.map UInt8.ofNat)) : ToldD v0 (valF 0 l') ((back ++ [48 + divR 0 l]).map UInt8.ofNat) := by
  have hv : valF 0 l ≠ 0 := by
    rcases strip_head l with h0 | ⟨b, r, h0, hb⟩
    · rw [hd] at h0; rw [h0] at hl; exact absurd hl (by simp)
    · rw [hd] at h0; rw [h0]; exact Nat.ne_of_gt (valF_pos hb)
  have := h.step hv
  have e : valF 0 l' = valF 0 l / 10 := by rw [← valF_zeros l', he, valF_zeros, (div_ten l).1]
  rw [e, List.map_append, List.map_singleton, (div_ten l).2]
  exact this
theorem told_len {v0 v : Nat} {back : List UInt8} (h : ToldD v0 v back) : back.length ≤ (Lib.decDigits v0).length := by
  unfold ToldD at h
  rw [h, List.length_append, List.length_reverse]
  omega
theorem own_sLen {w : World} {base : Nat} {e : TypeId} {v : Value} {n : Nat} {xs : List Value} (h : w.ownsRow base e 1 v n xs) : sLen v = n := by
  rcases h.2 with ⟨rfl, rfl⟩ | ⟨g, cap, cur, rfl, _⟩ <;> rfl
/-- Bytes in a block, from a place on. -/
def MagAt (w : World) (M o : Nat) (l : List Nat) : Prop := ∃ cur : Array Value, w.heap[M]? = some (.cells cur 5 (cur.size, cur.size + 1)) ∧ o + l.length ≤ cur.size ∧ ∀ j (h : j < l.length), cur[o + j]? = some (.int .u8 (l[j] : Nat))
theorem MagAt.cell {w : World} {M o : Nat} {l : List Nat} (h : MagAt w M o l) {j : Nat} (hj : j < l.length) : w.cell? ⟨M, o + j, none⟩ = some (.int .u8 (l[j] : Nat)) := by
  obtain ⟨cur, h1, h2, h3⟩ := h
  rw [cell_of_row w M (o + j) cur _ _ h1]
  exact h3 j hj
theorem MagAt.free {w : World} {M o : Nat} {l : List Nat} (h : MagAt w M o l) {j : Nat} (hj : j < l.length) : w.frozen? ⟨M, o + j, none⟩ = false := by
  obtain ⟨cur, h1, h2, h3⟩ := h
  simp [World.frozen?, h1]
  omega
theorem MagAt.lt {w : World} {M o : Nat} {l : List Nat} (h : MagAt w M o l) : M < w.heap.size := by
  obtain ⟨cur, h1, _⟩ := h
  exact (Array.getElem?_eq_some_iff.1 h1).1
theorem MagAt.same {w w' : World} {M o : Nat} {l : List Nat} (h : MagAt w M o l) (hs : w'.heap[M]? = w.heap[M]?) : MagAt w' M o l := by
  obtain ⟨cur, h1, h2, h3⟩ := h
  exact ⟨cur, hs.trans h1, h2, h3⟩
theorem MagAt.tail {w : World} {M o b : Nat} {l : List Nat} (h : MagAt w M o (b :: l)) : MagAt w M (o + 1) l := by
  obtain ⟨cur, h1, h2, h3⟩ := h
  refine ⟨cur, h1, by simp at h2; omega, fun j hj => ?_⟩
  have := h3 (j + 1) (by simp; omega)
  rw [show o + 1 + j = o + (j + 1) by omega]
  simpa using this
theorem MagAt.set {w : World} {M o : Nat} {l : List Nat} (h : MagAt w M o l) {j : Nat} (hj : j < l.length) (b : Nat) : MagAt (w.setCell ⟨M, o + j, none⟩ (.int .u8 b)) M o (l.set j b) := by
  obtain ⟨cur, h1, h2, h3⟩ := h
  refine ⟨cur.setIfInBounds (o + j) (.int .u8 b), ?_, by simpa using h2, fun i hi => ?_⟩
  · simp [World.setCell]
    rw [Array.getElem?_modify, if_pos rfl, h1]
    rfl
  · rw [List.length_set] at hi
    rw [Array.getElem?_setIfInBounds, List.getElem_set]
    by_cases e : j = i
    · subst e
      rw [if_pos rfl, if_pos (by omega), if_pos rfl]
    · rw [if_neg (by omega), if_neg e]
      exact h3 i hi
theorem magAt_bytes (w : World) (m : ByteArray) : MagAt (Lib.bytesWorld w 5 m) w.heap.size 0 (m.data.toList.map (·.toNat)) := by
  refine ⟨_, Lib.bytesWorld_at_new w _ m, ?_, fun j hj => ?_⟩
  · simp [Lib.bytesCells]
  · rw [List.length_map] at hj
    have hj2 : j < m.size := by simpa using hj
    simp [Lib.bytesCells, Array.getElem?_append, hj2]
theorem head_ok {b : Bool} {m : ByteArray} (hm : m.size ≤ 255) (hp : 0 < m.size) (hw : numWhy b m = 0) : ∃ x r, m.data.toList.map (·.toNat) = x :: r ∧ x ≠ 0 := by
  have hz : ((m[0].toNat : Int) == 0) = false := by
    cases h : ((m[0].toNat : Int) == 0) with
    | false => rfl
    | true => rw [numWhy_zero (by omega) hp h] at hw; cases hw
  have hne : m[0].toNat ≠ 0 := by intro e; rw [e] at hz; simp at hz
  cases hl : m.data.toList with
  | nil =>
    have : m.data.size = 0 := by rw [← Array.length_toList, hl]; rfl
    have : m.size = 0 := this
    omega
  | cons a r =>
    refine ⟨a.toNat, r.map (·.toNat), by simp, ?_⟩
    have : m[0] = a := by
      show m.data[0] = a
      rw [← Array.getElem_toList]
      simp [hl]
    rw [← this]; exact hne
theorem valF_lt : ∀ (l : List Nat), (∀ b ∈ l, b < 256) → valF 0 l < 256 ^ l.length
  | [], _ => by simp [valF]
  | b :: l, h => by
    have ih := valF_lt l (fun x hx => h x (List.mem_cons_of_mem _ hx))
    have hb := h b List.mem_cons_self
    rw [valF, valF_split, List.length_cons, Nat.pow_succ, Nat.mul_zero, Nat.zero_add]
    have : b * 256 ^ l.length ≤ 255 * 256 ^ l.length := Nat.mul_le_mul_right _ (by omega)
    omega
theorem nDigits_le : ∀ (k v : Nat), v < 10 ^ (k + 1) → Lib.nDigits v ≤ k + 1
  | 0, v, h => by rw [Lib.nDigits_small (by simpa using h)]; omega
  | k + 1, v, h => by
    by_cases h9 : v < 10
    · rw [Lib.nDigits_small h9]; omega
    · rw [Lib.nDigits_big h9]
      have := nDigits_le k (v / 10) (by rw [Nat.pow_succ] at h; omega)
      omega
theorem pow_thousand : ∀ (n : Nat), 256 ^ n ≤ 10 ^ (3 * n)
  | 0 => by simp
  | n + 1 => by
    have ih := pow_thousand n
    have e : 10 ^ (3 * (n + 1)) = 10 ^ (3 * n) * 1000 := by rw [Nat.mul_add, Nat.pow_add]
    rw [e, Nat.pow_succ]
    exact Nat.mul_le_mul ih (by omega)
theorem digits_le (k : Nat) (l : List Nat) (h : ∀ b ∈ l, b < 256) (hl : 3 * l.length ≤ k + 1) : (Lib.decDigits (valF 0 l)).length ≤ k + 1 := by
  rw [Lib.decDigits_length]
  have h1 := valF_lt l h
  have h2 := pow_thousand l.length
  have h3 : 10 ^ (3 * l.length) ≤ 10 ^ (k + 1) := Nat.pow_le_pow_right (by omega) hl
  exact nDigits_le k _ (Nat.lt_of_lt_of_le h1 (Nat.le_trans h2 h3))
theorem digits_bound {m : ByteArray} (hm : m.size ≤ 255) : (Lib.decDigits (valF 0 (m.data.toList.map (·.toNat)))).length ≤ 799 := by
  refine digits_le 798 _ (by intro x hx; obtain ⟨y, _, rfl⟩ := List.mem_map.1 hx; exact y.toNat_lt) ?_
  have hl : (m.data.toList.map (·.toNat)).length = m.size := by simp
  omega
/-- The sign. -/
def sgnl (b : Bool) : List Nat := if b then [45] else []
theorem sgnl_len (b : Bool) : (sgnl b).length ≤ 1 := by cases b <;> simp [sgnl]
theorem strOf_txt (l : List Nat) : strOf l = txt (l.map UInt8.ofNat) := rfl
theorem rev_step {back : List Nat} {k : Nat} (h : k < back.length) (sgn : List Nat) : u8s (sgn ++ (back.drop k).reverse) = u8s (sgn ++ (back.drop (k + 1)).reverse) ++ [.int .u8 (back[k] : Nat)] := by
  rw [List.drop_eq_getElem_cons h, List.reverse_cons, ← List.append_assoc, u8s_append]
  rfl
theorem numText_told {b : Bool} {m : ByteArray} (hp : 0 < m.size) {back : List Nat} (h : (back.map UInt8.ofNat).reverse = Lib.decDigits (valF 0 (m.data.toList.map (·.toNat)))) : strOf (sgnl b ++ back.reverse) = txt (numText b m) := by
  have hne : ¬ m.size = 0 := by omega
  unfold numText
  rw [strOf_txt, if_neg hne, ← h, List.map_append, List.map_reverse]
  cases b <;> rfl
set_option maxRecDepth 100000 in
set_option maxHeartbeats 2000000 in
theorem refPrint_ok (b : Bool) (m : ByteArray) (w : World) (hm : m.size ≤ 255) (hp : 0 < m.size) (hw : numWhy b m = 0) :
    Calls Tryz.prog 114 #[.agg #[.bool b, .string m]] w (fun e w' => e = .returned (.tuple #[.string (txt (numText b m)), .int .i64 0]) ∧ Below w.heap.size w w') := by
  have HB := Lib.hid ((Below.refl w.heap.size w).alloc (Nat.le_refl _) (.cells #[.bool b, .string m] 27))
  have HC := Lib.hid (fun w => refNatCheck_any b m w (by unfold maxLen; omega))
  rw [hw] at HC
  obtain ⟨xh, xr, hxe, hx0⟩ := head_ok hm hp hw
  have HZ : Hid ((m.data.toList.map (·.toNat)).dropWhile (· == 0) = m.data.toList.map (·.toNat)) := Lib.hid (by rw [hxe, List.dropWhile_cons, if_neg (by simpa using hx0)])
  have HP0 : Hid (valF 0 (m.data.toList.map (·.toNat)) ≠ 0) := Lib.hid (by rw [hxe]; exact Nat.ne_of_gt (valF_pos hx0))
  have HDn : Hid ((Lib.decDigits (valF 0 (m.data.toList.map (·.toNat)))).length ≤ 799) := Lib.hid (digits_bound hm)
  clear hw hxe hx0
  have hcv := fun w s => Lib.run_convert_string_bytes (P := Tryz.prog) w 9 153 5 s Tryz.underlying9 Tryz.underlying153 Tryz.underlying5
  go_enter Tryz.func114, Tryz.ntmps114
  go_wp2_with fail
  refine (HC.out _).mono ?_
  rintro e w2 ⟨rfl, hb2⟩
  have HB2 := Lib.hid (HB.out.trans (hb2.mono HB.out.size))
  have g0 := (hb2.cell (p := ⟨w.heap.size, 0, none⟩) (by simp)).trans (show _ = some (.bool b) from by have h := World.alloc_heap_new w (.cells #[.bool b, .string m] 27); simp only [World.cell?, h]; rfl)
  have g1 := (hb2.cell (p := ⟨w.heap.size, 1, none⟩) (by simp)).trans (show _ = some (.string m) from by have h := World.alloc_heap_new w (.cells #[.bool b, .string m] 27); simp only [World.cell?, h]; rfl)
  have hsz := hb2.size
  simp at hsz
  clear hb2
  have hTl : w.heap.size < w2.heap.size := by omega
  clear hsz
  generalize hT : w.heap.size = T at g0 g1 hTl ⊢
  have HT := Lib.hid hT
  clear hT
  go_wp2_with fail
  have HM : Hid (∃ c, MagAt (Lib.bytesWorld w2 5 m) w2.heap.size 0 (m.data.toList.map (·.toNat)) ∧ m.size ≤ c) := Lib.hid ⟨m.size, magAt_bytes w2 m, Nat.le_refl _⟩
  have HBw : Hid (Below w.heap.size w (Lib.bytesWorld w2 5 m)) := Lib.hid (HB2.out.trans ((Lib.bytesWorld_below w2 _ m).mono HB2.out.size))
  have hTw : (Lib.bytesWorld w2 5 m).cell? ⟨T, 0, none⟩ = some (.bool b) := (Lib.bytesWorld_old w2 _ m ⟨T, 0, none⟩ hTl).trans g0
  have hcw : m.size ≤ grownCap w2 m.size 0 5 := grownCap_ge w2 m.size 0 _
  have hsw := Lib.bytesWorld_size w2 5 m
  generalize hW : Lib.bytesWorld w2 5 m = W at HM HBw hTw hsw ⊢
  generalize hG : grownCap w2 m.size 0 5 = G at hcw ⊢
  clear hW hG g0 g1 HB2
  generalize hMM : w2.heap.size = M at HM hTl hsw ⊢
  clear hMM
  go_loopw [5, 6, 7, 8, 9] (fun v5 v6 _ _ _ wr => ∃ (l : List Nat) (A : Option Addr) (c : Nat) (back : List Nat) (vb : Value), vb = v6 ∧ v5 = .slice A l.length c ∧ l.length ≤ c ∧ l.length ≤ 255 ∧ back.length ≤ 800 ∧
      Hid (l ≠ [] → ∃ o, A = some ⟨M, o, none⟩ ∧ MagAt wr M o l) ∧ Hid (∀ x ∈ l, x < 256) ∧ Hid (l.dropWhile (· == 0) = l) ∧ wr.ownsRow (M + 1) 5 1 vb back.length (u8s back) ∧
      Hid (ToldD (valF 0 (m.data.toList.map (·.toNat))) (valF 0 l) (back.map UInt8.ofNat)) ∧ Hid (Below w.heap.size w wr) ∧ Hid (M < wr.heap.size) ∧ wr.cell? ⟨T, 0, none⟩ = some (.bool b)) (fun _ v6 _ _ _ _ => 900 - sLen v6)
  case atStart =>
    obtain ⟨c0, hMg, hc0⟩ := HM.out
    refine ⟨m.data.toList.map (·.toNat), _, G, [], _, rfl, by simp, by simpa using hcw, by simpa using hm, by simp, Lib.hid (fun _ => ⟨0, rfl, hMg⟩), Lib.hid (by intro x hx; obtain ⟨y, _, rfl⟩ := List.mem_map.1 hx; exact y.toNat_lt), HZ, World.ownsRow_nil _ _ _ _, Lib.hid (ToldD.start HP0.out), HBw, Lib.hid (by omega), hTw⟩
  case round =>
    obtain ⟨l, A, c, back, vb, rfl, rfl, hlc, hl, hbk, HL, HU, HD, hown, HTo, HB, HMl, hT2⟩ := hrel
    by_cases hlt : 0 < l.length
    · obtain ⟨o, rfl, HMg⟩ := HL.out (by intro e; rw [e] at hlt; exact Nat.lt_irrefl _ hlt)
      clear HL
      have HMg := Lib.hid HMg
      go_wp2_with fail
      go_loopw [7, 8, 9] (fun v7 v8 _ wi => ∃ k : Nat, k ≤ l.length ∧ v8 = .int .i64 k ∧ v7 = .int .i64 (divR 0 (l.take k) : Nat) ∧ Hid (MagAt wi M o (divQ 0 (l.take k) ++ l.drop k)) ∧
          wi.ownsRow (M + 1) 5 1 vb back.length (u8s back) ∧ Hid (Below w.heap.size w wi) ∧ Hid (M < wi.heap.size) ∧ wi.cell? ⟨T, 0, none⟩ = some (.bool b)) (fun _ v8 _ _ => l.length - (intOf v8).toNat)
      case atStart => exact ⟨0, by omega, rfl, rfl, by simpa [divQ] using HMg, hown, HB, HMl, hT2⟩
      case round =>
        clear HB HMl hT2 hown HMg
        obtain ⟨k, hk, rfl, rfl, HMg, hown, HB, HMl, hT2⟩ := hrel
        by_cases hkl : k < l.length
        · obtain ⟨hk2, hge⟩ := div_get hkl
          have gc := HMg.out.cell hk2
          have gf := HMg.out.free hk2
          rw [hge] at gc
          have hr10 := divR_lt (l.take k) 0 (by omega)
          have hb256 := HU.out l[k] (List.getElem_mem hkl)
          clear hge
          have hlb : w.heap.size ≤ M := by rw [HT.out]; exact Nat.le_of_lt hTl
          have HX := Lib.hid (HMg.out.set hk2 ((256 * divR 0 (l.take k) + l[k]) / 10))
          rw [← div_step hkl] at HX
          have HE := Lib.hid (show ((256 * (divR 0 (l.take k) : Int) + (l[k] : Int)) / 10) = (((256 * divR 0 (l.take k) + l[k]) / 10 : Nat) : Int) by omega)
          have HE2 := Lib.hid (show ((256 * (divR 0 (l.take k) : Int) + (l[k] : Int)) % 10) = ((divR 0 (l.take (k + 1)) : Nat) : Int) by rw [take_snoc hkl, divR_snoc]; omega)
          go_wp2_with fail
          refine ⟨⟨k + 1, by omega, congrArg (Value.int .i64) (by omega), congrArg (Value.int .i64) HE2.out, ?_, ownsRow_setCell_below hown (by show M < M + 1; omega) _, Lib.hid (HB.out.setCell hlb _), Lib.hid ?_, ?_⟩, by simp [intOf]; omega⟩
          · rw [HE.out]; exact HX
          · rw [World.setCell, Array.size_modify]; exact HMl.out
          · rw [World.cell?_setCell_far _ _ _ _ (by show M ≠ T; omega)]; exact hT2
        · obtain rfl : k = l.length := by omega
          have hr10 := divR_lt l 0 (by omega)
          obtain ⟨i0, hi, hz0, hz1, hz2⟩ := info_parts u8_info
          rw [List.take_length, List.drop_length, List.append_nil] at HMg
          rw [List.take_length]
          have hcn := cells_new wr #[.int .u8 (48 + (divR 0 l : Int))] 5
          go_wp2_with (first
            | (at_builtin; refine wpList_append_own _ rfl _ _ 153 rfl (M + 1) 5 i0 (.int .u8 0) 1 1 Tryz.underlying153 hi hz0 hz1 hz2 rfl (by decide) _ _ _ rfl (hown.alloc _) _ _ _ [.int .u8 (48 + (divR 0 l : Int))] rfl (by simp) hcn (by simp [Value.oneCell']) (by unfold maxLen; omega) (by omega) (by have := HMl.out; simp; omega) ?_; intro v' w1 hown' hgrow _))
          have hlb : w.heap.size ≤ M := by rw [HT.out]; exact Nat.le_of_lt hTl
          have hrow : ∀ g, vb.ownBlock = some g → M + 1 ≤ g := fun g e => (hown.lt g e).1
          have hM1 : w1.heap[M]? = wr.heap[M]? := by
            rw [hgrow.5 M (by have := HMl.out; simp; omega) (by intro e; have := hrow M (by first | exact e | exact e.symm); omega), Below.heap_alloc _ _ _ HMl.out]
          have hT1 : w1.heap[T]? = wr.heap[T]? := by
            rw [hgrow.5 T (by have := HMl.out; simp; omega) (by intro e; have := hrow T (by first | exact e | exact e.symm); omega), Below.heap_alloc _ _ _ (by have := HMl.out; omega)]
          have HMs := Lib.hid (show M < w1.heap.size by
            obtain ⟨cur, hc, _⟩ := HMg.out.same hM1
            exact (Array.getElem?_eq_some_iff.1 hc).1)
          have HMg1 := Lib.hid (HMg.out.same hM1)
          have hT3 := (World.cell?_of_block (w := wr) (w' := w1) (a := ⟨T, 0, none⟩) hT1).trans hT2
          have HB1 := Lib.hid ((HB.out.alloc (by have := HMl.out; omega) (.cells #[.int .u8 (48 + (divR 0 l : Int))] 5)).grown hgrow (by have := HMl.out; simp; omega) (fun k e => by have := hrow k e; omega))
          have hs0 := own_sLen hown
          clear hT2 HB HMl HMg hown hcn hM1 hT1 hrow hgrow
          go_loopw [5] (fun v5 wi => ∃ (l' : List Nat) (A : Option Addr) (c : Nat), v5 = .slice A l'.length c ∧ l'.length ≤ c ∧ l'.length ≤ 255 ∧
              Hid (l' ≠ [] → ∃ o, A = some ⟨M, o, none⟩ ∧ MagAt wi M o l') ∧ Hid (∀ x ∈ l', x < 256) ∧ Hid (l'.dropWhile (· == 0) = (divQ 0 l).dropWhile (· == 0)) ∧ wi.ownsRow (M + 1) 5 1 v' (back.length + 1) (u8s back ++ [.int .u8 (48 + (divR 0 l : Int))]) ∧
              Hid (Below w.heap.size w wi) ∧ Hid (M < wi.heap.size) ∧ wi.cell? ⟨T, 0, none⟩ = some (.bool b)) (fun v5 _ => sLen v5)
          case atStart =>
            refine ⟨divQ 0 l, _, c, by rw [divQ_len], by rw [divQ_len]; exact hlc, by rw [divQ_len]; exact hl, Lib.hid (fun _ => ⟨o, rfl, HMg1.out⟩), Lib.hid (divQ_byte l 0 (by omega) HU.out), Lib.hid rfl, hown', HB1, HMs, hT3⟩
          case round =>
            clear HB1 HMs hT3 HMg1 hown'
            obtain ⟨l', A, c', rfl, hlc', hl', HL, HU', HD', hown', HB, HMs, hT3⟩ := hrel
            cases l' with
            | nil =>
              have HTn := Lib.hid (told_next hlt HD.out HD'.out HTo.out)
              have hbl := told_len HTn.out
              rw [List.length_map, List.length_append, List.length_singleton] at hbl
              have hdn := HDn.out
              have hs1 := own_sLen hown'
              go_wp2_with fail
              refine ⟨⟨[], A, c', ⟨rfl, rfl, rfl⟩, by simp, by simp, back ++ [48 + divR 0 l], by rw [List.length_append, List.length_singleton]; omega, Lib.hid (by simp), Lib.hid (by simp), Lib.hid rfl, by simpa [u8s] using hown', HTn⟩, by omega⟩
            | cons x l' =>
              obtain ⟨o, rfl, HMg⟩ := HL.out (by simp)
              have gc := HMg.cell (j := 0) (by simp)
              have HMg := Lib.hid HMg
              clear HL
              simp only [List.getElem_cons_zero, Nat.add_zero] at gc
              rw [List.length_cons] at hlc' hl' ⊢
              by_cases hx : x = 0
              · subst hx
                go_wp2_with fail
                refine ⟨⟨l', _, c' - 1, rfl, by omega, by omega, Lib.hid (fun hne => ?_), Lib.hid (fun y hy => HU'.out y (List.mem_cons_of_mem _ hy)), Lib.hid (by rw [← HD'.out]; rfl), hown', HB, HMs, hT3⟩, by simp [sLen]⟩
                have : l'.length ≠ 0 := fun e => hne (List.length_eq_zero_iff.1 e)
                rw [if_neg (by omega)]
                exact ⟨o + 1, rfl, HMg.out.tail⟩
              · have HTn := Lib.hid (told_next hlt HD.out HD'.out HTo.out)
                have hbl := told_len HTn.out
                rw [List.length_map, List.length_append, List.length_singleton] at hbl
                have hdn := HDn.out
                have hs1 := own_sLen hown'
                have HDx := Lib.hid (show (x :: l').dropWhile (· == 0) = x :: l' by rw [List.dropWhile_cons, if_neg (by simpa using hx)])
                go_wp2_with fail
                refine ⟨⟨x :: l', _, c', ⟨rfl, by simp, rfl⟩, by simpa using hlc', by simpa using hl', back ++ [48 + divR 0 l], by rw [List.length_append, List.length_singleton]; omega, Lib.hid (fun _ => ⟨o, rfl, HMg.out⟩), HU', HDx, by simpa [u8s] using hown', HTn⟩, by omega⟩
    · have h0 : l = [] := List.length_eq_zero_iff.1 (by omega)
      subst h0
      have HTe := Lib.hid HTo.out.end
      clear HTo HL HU HD
      have HRow := Lib.hid (RowAt.of_own hown)
      obtain ⟨Ab, cb, rfl⟩ := HRow.out.len
      rw [u8s_len] at HRow hown ⊢
      have hown := Lib.hid hown
      have hbk' : back.length ≤ 800 := hbk
      obtain ⟨i0, hi, hz0, hz1, hz2⟩ := info_parts u8_info
      have HFin := Lib.hid (numText_told (b := b) hp HTe.out)
      have hML := HMl.out
      obtain ⟨W0, hW0⟩ : ∃ W0 : World, W0 = wr := ⟨_, rfl⟩
      subst hW0
      go_upto_if 67 with fail
      go_cut [10] (fun s10 wx => wx.ownsRow W0.heap.size 5 1 s10 (sgnl b).length (u8s (sgnl b)) ∧ Hid (Below W0.heap.size W0 wx))
      case first =>
        cases b with
        | true =>
          have hcn := cells_new W0 #[.int .u8 45] 5
          have hn0 := World.ownsRow_nil W0 W0.heap.size 5 1
          go_wp2_with (first
            | (at_builtin; refine wpList_append_own _ rfl _ _ 153 rfl W0.heap.size 5 i0 (.int .u8 0) 1 1 Tryz.underlying153 hi hz0 hz1 hz2 rfl (by decide) _ _ _ rfl (hn0.alloc _) _ _ _ [.int .u8 45] rfl (by simp) hcn (by simp [Value.oneCell']) (by unfold maxLen; omega) (by omega) (by simp) ?_; intro v' w1 hown' hgrow _))
          go_meet
          exact ⟨hown', Lib.hid (((Below.refl W0.heap.size W0).alloc (Nat.le_refl _) _).grown hgrow (by simp) (fun k e => by cases e))⟩
        | false =>
          go_wp2_with fail
          go_meet
          exact ⟨World.ownsRow_nil W0 W0.heap.size 5 1, Lib.hid (Below.refl _ _)⟩
      case rest =>
        obtain ⟨hs, HBs⟩ := hcut
        have hsl := sgnl_len b
        go_wp2_with fail
        go_loopw [10, 11] (fun v10 v11 wl => ∃ (k : Nat) (vo : Value), vo = v10 ∧ k ≤ back.length ∧ v11 = .int .i64 ((k : Int) - 1) ∧ wl.ownsRow W0.heap.size 5 1 vo ((sgnl b).length + (back.length - k)) (u8s (sgnl b ++ (back.drop k).reverse)) ∧ Hid (Below W0.heap.size W0 wl)) (fun _ v11 _ => (intOf v11 + 1).toNat)
        case atStart => exact ⟨back.length, _, rfl, Nat.le_refl _, rfl, by simpa using hs, HBs⟩
        case round =>
          clear hs HBs
          obtain ⟨k, vo, rfl, hk, rfl, hout, HBl⟩ := hrel
          cases k with
          | zero =>
            have hcv2 := run_string_row (RowAt.of_own hout)
            have HEnd := Lib.hid (HB.out.trans (HBl.out.mono HB.out.size))
            clear hout
            go_wp2_with fail
            go_ret2
            rw [HFin.out]
            exact ⟨rfl, HEnd.out⟩
          | succ k =>
            obtain ⟨A9, c9, e9, _, hcl⟩ := HRow.out
            rw [u8s_len] at e9 hcl
            obtain ⟨g, o, hA9, hgl, hcs⟩ := hcl (by omega)
            injection e9 with e9 _ _
            rw [hA9] at e9
            subst e9
            have hk2 : k < back.length := by omega
            have g1 := (HBl.out.cell (p := ⟨g, o + k, none⟩) hgl).trans (hcs k (.int .u8 (back[k] : Nat)) (by simp [u8s, hk2]))
            clear hcs hcl hA9
            have HST := Lib.hid (rev_step (back := back) (k := k) (by omega) (sgnl b))
            have e1 : (((k + 1 : Nat) : Int) - 1) = (k : Int) := by omega
            rw [e1]
            clear e1
            have hcn := cells_new wr #[.int .u8 (back[k] : Nat)] 5
            have hzl := HBl.out.size
            go_wp2_with (first
              | (at_builtin; refine wpList_append_own _ rfl _ _ 153 rfl W0.heap.size 5 i0 (.int .u8 0) 1 1 Tryz.underlying153 hi hz0 hz1 hz2 rfl (by decide) _ _ _ rfl (hout.alloc _) _ _ _ [.int .u8 (back[k] : Nat)] rfl (by simp) hcn (by simp [Value.oneCell']) (by unfold maxLen; omega) (by omega) (by simp; omega) ?_; intro v' w1 hown' hgrow _))
            go_roundw
            case rel =>
              refine ⟨k, by omega, rfl, ?_, Lib.hid ((HBl.out.alloc hzl _).grown hgrow (by simp; omega) (fun k e => row_ge hout e))⟩
              rw [HST.out, show (sgnl b).length + (back.length - k) = (sgnl b).length + (back.length - (k + 1)) + 1 by omega]
              exact hown'
            case measure => simp [intOf]; omega
end Go.Proofs.YtcjllhdbepchnaaGreatDoor
