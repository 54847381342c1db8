/-
  Texts cut at a byte, points' texts, in plain words; strings.Split; strconv.ParseInt of a point.
-/
import Derived.Test.YtlkdjdcnbcegeaaGreatDoorKD
import Derived.Test.YtlkdjdcnbcegeaaGreatDoorKH
import Derived.Test.YtlkdjdcnbcegeaaGreatDoorKI
import Derived.Lib.Split
import Derived.Lib.CountLaws
import Derived.Lib.Join
import Derived.Laws.Strings3
import Derived.Laws.DeepStrings4
namespace Go.Proofs.YtlkdjdcnbcegeaaGreatDoor
open Go.RowKit Go.WideShapes Go.Lib
set_option linter.unusedVariables false
set_option linter.unusedSimpArgs false
theorem txt_cut (l : List UInt8) (i j : Nat) : (txt l).extract i j = txt ((l.drop i).take (j - i)) :=
  ByteArray.ext (Array.toList_inj.1 (by rw [Lib.extract_data, txt_list, txt_list]))
theorem hexW_toList (n : Nat) : (txt (hexW n)).data.toList = hexW n := by simp [txt]
theorem own_under {w w' : World} {base n size : Nat} {e : TypeId} {v : Value} {xs : List Value} (h : w.ownsRow base e size v n xs) (hb : Below w.heap.size w w') : w'.ownsRow base e size v n xs :=
  h.kept (row := none) ⟨hb.os, hb.tape, hb.output, hb.size, fun i hi _ => hb.block i hi⟩ (by cases v.ownBlock <;> simp)
theorem index_one (c : UInt8) : ∀ (A B : List UInt8), c ∉ A → Lib.index (A ++ c :: B) [c] = A.length
  | [], B, _ => by simp [Lib.index, List.isPrefixOf]
  | a :: A, B, h => by
    have h1 : ¬ c = a := fun e => h (by simp [e])
    have ih := index_one c A B (fun m => h (by simp [m]))
    rw [List.cons_append, Lib.index, ih]
    have h2 : ¬ ((A.length : Int) == -1) = true := by rw [beq_iff_eq]; omega
    simp [List.isPrefixOf, h1]
theorem index_none (c : UInt8) : ∀ (A : List UInt8), c ∉ A → Lib.index A [c] = -1
  | [], _ => rfl
  | a :: A, h => by
    have h1 : ¬ c = a := fun e => h (by simp [e])
    have ih := index_none c A (fun m => h (by simp [m]))
    rw [Lib.index, ih]
    simp [List.isPrefixOf, h1]
theorem cut_one (c : UInt8) (A B : List UInt8) (h : c ∉ A) : Lib.cut (A ++ c :: B) [c] = (A, B, true) := by
  rw [Lib.cut, index_one c A B h, if_pos (by omega)]
  simp
theorem join_more (c : UInt8) (x y : List UInt8) (r : List (List UInt8)) : Lib.join (x :: y :: r) [c] = x ++ c :: Lib.join (y :: r) [c] := by
  simp [Lib.join, List.intercalate, List.intersperse]
theorem txt_tail (A B : List UInt8) (c : UInt8) : (txt (A ++ c :: B)).extract (A.length + 1) (txt (A ++ c :: B)).size = txt B := by
  rw [txt_cut, txt_size]
  congr 1
  rw [List.drop_append, List.drop_eq_nil_of_le (by omega)]
  simp
  exact List.take_of_length_le (by omega)
theorem split_join (c : UInt8) : ∀ (r : List (List UInt8)) (x : List UInt8), (∀ y ∈ x :: r, c ∉ y) →
    Lib.countB (txt (Lib.join (x :: r) [c])) (txt [c]) = r.length ∧ Lib.splitB (txt [c]) 0 r.length (txt (Lib.join (x :: r) [c])) = (x :: r).map txt
  | [], x, h => by
    have h1 : Lib.indexB (txt (Lib.join [x] [c])) (txt [c]) = -1 := by
      show Lib.index (txt (Lib.join [x] [c])).data.toList (txt [c]).data.toList = -1
      rw [txt_list, txt_list, show Lib.join [x] [c] = x by simp [Lib.join, List.intercalate, List.intersperse]]
      exact index_none c x (h x (by simp))
    refine ⟨Lib.countB_miss _ _ h1, ?_⟩
    rw [Lib.splitB_miss _ _ _ _ h1]
    simp [Lib.join, List.intercalate, List.intersperse]
  | y :: r, x, h => by
    have ih := split_join c r y (fun z hz => h z (by simp at hz ⊢; exact Or.inr hz))
    have h1 : Lib.indexB (txt (Lib.join (x :: y :: r) [c])) (txt [c]) = x.length := by
      show Lib.index (txt (Lib.join (x :: y :: r) [c])).data.toList (txt [c]).data.toList = x.length
      rw [txt_list, txt_list, join_more]
      exact index_one c x _ (h x (by simp))
    have hs : (txt [c]).size = 1 := rfl
    have ht : (txt (Lib.join (x :: y :: r) [c])).extract (x.length + (txt [c]).size) (txt (Lib.join (x :: y :: r) [c])).size = txt (Lib.join (y :: r) [c]) := by
      rw [hs, join_more]; exact txt_tail _ _ _
    constructor
    · rw [Lib.countB_hit _ _ _ (by omega) h1, ht, ih.1, List.length_cons]; omega
    · rw [List.length_cons, Lib.splitB_hit _ _ _ _ _ h1, ht, ih.2]
      rw [List.map_cons]
      congr 1
      rw [join_more, txt_cut]
      simp
theorem hexW_no {c : UInt8} (hc : ∀ d, d < 16 → hexU d ≠ c) (n : Nat) : c ∉ hexW n := by
  have h : ∀ k n, c ∉ digs hexU k n := by
    intro k
    induction k with
    | zero => intro n; simp [digs]
    | succ k ih =>
      intro n h
      rw [digs, List.mem_cons] at h
      rcases h with h | h
      · exact hc _ (Nat.mod_lt _ (by omega)) h.symm
      · exact ih n h
  exact h _ _
theorem hexU_ne32 : ∀ d, d < 16 → hexU d ≠ 32 := by decide
theorem hexU_ne59 : ∀ d, d < 16 → hexU d ≠ 59 := by decide
theorem txt_head : ∀ (l : List UInt8) (h : 0 < (txt l).size), (txt l)[0]'h ∈ l
  | [], h => absurd h (by decide)
  | a :: r, h => List.mem_cons.2 (.inl rfl)
theorem point_ok {p : Int} (h : pointB p = true) (w : World) : Calls Tryz.prog 87 #[.string (txt (hexW p.toNat)), .int .i64 16, .int .i64 32] w (Ret (.tuple #[.int .i64 p, .nilIface]) w) := by
  simp only [pointB, decide_eq_true_eq] at h
  have hlen : (txt (hexW p.toNat)).size = (hexW p.toNat).length := txt_size _
  have h4 : 4 ≤ (hexW p.toNat).length := by rw [hexW_len]; omega
  have h6 := hexW_few (n := p.toNat) (by omega)
  have hb : ∀ c : UInt8, (∀ d, d < 16 → hexU d ≠ c) → ((txt (hexW p.toNat))[0]'(by omega)).toNat ≠ c.toNat := fun c hc e => by
    have h1 : (txt (hexW p.toNat))[0]'(by omega) ∈ hexW p.toNat := txt_head _ _
    rw [UInt8.toNat_inj.1 e] at h1
    exact hexW_no hc _ h1
  have h9 := pint32_ok (n := p.toNat) (txt (hexW p.toNat)) (by omega) (hb 43 (by decide)) (hb 45 (by decide)) (by omega) (by rw [hexW_toList]; exact parseX_hexW (by omega)) (by omega) w
  rwa [show ((p.toNat : Nat) : Int) = p by omega] at h9
/-- What is known of digits, from the world w on. -/
def UHere (w : World) : Prop := ∀ n : Nat, n ≤ 1114111 → ∀ W, Below w.heap.size w W → Calls Tryz.prog 109 #[.int .i64 n] W (Ret (.string (txt (hexW n))) W)
theorem UHere.on {w W : World} (h : UHere w) (hb : Below w.heap.size w W) : UHere W := fun n hn W' hb' => h n hn W' (hb.trans (hb'.mono hb.size))
/-- strings.Split at one byte. -/
theorem splitBy_ok (c : UInt8) (L : List (List UInt8)) (hL : L ≠ []) (h : ∀ y ∈ L, c ∉ y) (hs : (txt (Lib.join L [c])).size < 4294967281) (m : Int) (w : World) (hm : w.cell? ⟨lays146_ren.g 1, 0, none⟩ = some (.int .i64 m)) :
    Calls Tryz.prog 53 #[.string (txt (Lib.join L [c])), .string (txt [c])] w fun e w' => e = .returned (.slice (some ⟨w.heap.size, 0, none⟩) L.length L.length) ∧ w' = w.alloc (.cells (L.map fun y => Value.string (txt y)).toArray 9) := by
  obtain ⟨x, r, rfl⟩ : ∃ x r, L = x :: r := by
    cases L with
    | nil => exact absurd rfl hL
    | cons x r => exact ⟨x, r, rfl⟩
  have hj := split_join c r x h
  refine (Any.strings_Split lays146 (by kernel_rfl) (txt (Lib.join (x :: r) [c])) (txt [c]) m w hs hm (by show 1 ≤ (txt [c]).size; rw [txt_size]; exact Nat.le_refl _)).mono ?_
  rintro e w' ⟨rfl, rfl⟩
  rw [hj.1, hj.2]
  refine ⟨rfl, ?_⟩
  simp only [List.map_map]
  rfl
/-- A mark's text in three. -/
def mkCut (m : MK) : List (List UInt8) := [hexW m.pt.toNat, Lib.decDigits m.cls.toNat, ptsText m.parts]
theorem mk_cut (m : MK) : m.text = Lib.join (mkCut m) [59] := by
  simp [MK.text, MK.head, mkCut, Lib.join, List.intercalate, List.intersperse]
theorem pts_no59 : ∀ l : List Int, (59 : UInt8) ∉ ptsText l
  | [] => by simp [ptsText, Lib.join, List.intercalate]
  | [p] => by simpa [ptsText, Lib.join, List.intercalate, List.intersperse] using hexW_no hexU_ne59 p.toNat
  | p :: q :: r => by
    have ih := pts_no59 (q :: r)
    unfold ptsText at ih ⊢
    rw [List.map_cons, List.map_cons, join_more]
    simp only [List.mem_append, List.mem_cons, not_or]
    exact ⟨hexW_no hexU_ne59 _, by decide, by simpa using ih⟩
end Go.Proofs.YtlkdjdcnbcegeaaGreatDoor
