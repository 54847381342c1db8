/-
  Texts cut at a byte, in plain words.
-/
import Derived.Test.YtlkdjdcnbcegeaaGreatDoorKZ
import Derived.Lib.Split
import Derived.Lib.CountLaws
import Derived.Lib.Join
import Derived.Test.YtlkdjdcnbcegeaaGreatDoorProg
import Derived.Shelf.Strings.Cut
import Derived.KernelRfl
import Derived.Test.YtlkdjdcnbcegeaaGreatDoorKI
/-! Texts cut at a byte, in plain words. -/
namespace Go.Proofs.YtlkdjdcnbcegeaaGreatDoor
open Go.Lib
set_option linter.unusedVariables false
set_option linter.unusedSimpArgs false
theorem index_oneT (c : UInt8) : ∀ (A B : List UInt8), c ∉ A → Lib.index (A ++ c :: B) [c] = A.length
  | [], B, _ => by simp [Lib.index, List.isPrefixOf]
  | a :: A, B, h => by
    have h1 : ¬ c = a := fun e => h (by simp [e])
    have ih := index_oneT c A B (fun m => h (by simp [m]))
    rw [List.cons_append, Lib.index, ih]
    have h2 : ¬ ((A.length : Int) == -1) = true := by rw [beq_iff_eq]; omega
    simp [List.isPrefixOf, h1]
theorem index_noneT (c : UInt8) : ∀ (A : List UInt8), c ∉ A → Lib.index A [c] = -1
  | [], _ => rfl
  | a :: A, h => by
    have h1 : ¬ c = a := fun e => h (by simp [e])
    have ih := index_noneT c A (fun m => h (by simp [m]))
    rw [Lib.index, ih]
    simp [List.isPrefixOf, h1]
theorem cut_oneT (c : UInt8) (A B : List UInt8) (h : c ∉ A) : Lib.cut (A ++ c :: B) [c] = (A, B, true) := by
  rw [Lib.cut, index_oneT c A B h, if_pos (by omega)]
  simp
theorem join_moreT (c : UInt8) (x y : List UInt8) (r : List (List UInt8)) : Lib.join (x :: y :: r) [c] = x ++ c :: Lib.join (y :: r) [c] := by
  simp [Lib.join, List.intercalate, List.intersperse]
theorem txt_tailT (A B : List UInt8) (c : UInt8) : (txt (A ++ c :: B)).extract (A.length + 1) (txt (A ++ c :: B)).size = txt B := by
  rw [txt_cutT, txt_size]
  congr 1
  rw [List.drop_append, List.drop_eq_nil_of_le (by omega)]
  simp
  exact List.take_of_length_le (by omega)
theorem split_joinT (c : UInt8) : ∀ (r : List (List UInt8)) (x : List UInt8), (∀ y ∈ x :: r, c ∉ y) →
    Lib.countB (txt (Lib.join (x :: r) [c])) (txt [c]) = r.length ∧ Lib.splitB (txt [c]) 0 r.length (txt (Lib.join (x :: r) [c])) = (x :: r).map txt
  | [], x, h => by
    have h1 : Lib.indexB (txt (Lib.join [x] [c])) (txt [c]) = -1 := by
      show Lib.index (txt (Lib.join [x] [c])).data.toList (txt [c]).data.toList = -1
      rw [txt_list, txt_list, show Lib.join [x] [c] = x by simp [Lib.join, List.intercalate, List.intersperse]]
      exact index_noneT c x (h x (by simp))
    refine ⟨Lib.countB_miss _ _ h1, ?_⟩
    rw [Lib.splitB_miss _ _ _ _ h1]
    simp [Lib.join, List.intercalate, List.intersperse]
  | y :: r, x, h => by
    have ih := split_joinT c r y (fun z hz => h z (by simp at hz ⊢; exact Or.inr hz))
    have h1 : Lib.indexB (txt (Lib.join (x :: y :: r) [c])) (txt [c]) = x.length := by
      show Lib.index (txt (Lib.join (x :: y :: r) [c])).data.toList (txt [c]).data.toList = x.length
      rw [txt_list, txt_list, join_moreT]
      exact index_oneT c x _ (h x (by simp))
    have hs : (txt [c]).size = 1 := rfl
    have ht : (txt (Lib.join (x :: y :: r) [c])).extract (x.length + (txt [c]).size) (txt (Lib.join (x :: y :: r) [c])).size = txt (Lib.join (y :: r) [c]) := by
      rw [hs, join_moreT]; exact txt_tailT _ _ _
    constructor
    · rw [Lib.countB_hit _ _ _ (by omega) h1, ht, ih.1, List.length_cons]; omega
    · rw [List.length_cons, Lib.splitB_hit _ _ _ _ _ h1, ht, ih.2]
      rw [List.map_cons]
      congr 1
      rw [join_moreT, txt_cutT]
      simp
end Go.Proofs.YtlkdjdcnbcegeaaGreatDoor

/-! Where strings.Cut stands in the program. -/
namespace Go.Proofs.YtlkdjdcnbcegeaaGreatDoor
open Go.Shelf
def lays145_ren : Go.Shelf.Ren := ⟨fun | 145 => 86 | 220 => 114 | 219 => 128 | 217 => 145 | 225 => 146 | 224 => 147 | 267 => 148 | 266 => 163 | 314 => 164 | n => n, fun | 9 => 9 | 4 => 4 | 59 => 136 | 3 => 3 | 5 => 5 | 46 => 126 | 146 => 204 | 51 => 152 | n => n, fun | 1 => 0 | n => n⟩
theorem lays145 : Go.Proofs.Lays.n145 Tryz.prog lays145_ren := {
  mixed := by kernel_rfl
  f145 := Tryz.func86.trans (congrArg some (by kernel_rfl))
  f217 := Tryz.func145.trans (congrArg some (by kernel_rfl))
  f219 := Tryz.func128.trans (congrArg some (by kernel_rfl))
  f220 := Tryz.func114.trans (congrArg some (by kernel_rfl))
  f224 := Tryz.func147.trans (congrArg some (by kernel_rfl))
  f225 := Tryz.func146.trans (congrArg some (by kernel_rfl))
  f266 := Tryz.func163.trans (congrArg some (by kernel_rfl))
  f267 := Tryz.func148.trans (congrArg some (by kernel_rfl))
  f314 := Tryz.func164.trans (congrArg some (by kernel_rfl))
  t3 := Tryz.underlying3
  a3 := Tryz.isAgg3
  z3 := Tryz.sizeOf3
  v3 := Tryz.zeroValue3
  t4 := Tryz.underlying4
  a4 := Tryz.isAgg4
  z4 := Tryz.sizeOf4
  v4 := Tryz.zeroValue4
  t5 := Tryz.underlying5
  a5 := Tryz.isAgg5
  z5 := Tryz.sizeOf5
  v5 := Tryz.zeroValue5
  t9 := Tryz.underlying9
  a9 := Tryz.isAgg9
  z9 := Tryz.sizeOf9
  v9 := Tryz.zeroValue9
  t46 := Tryz.underlying126
  a46 := Tryz.isAgg126
  z46 := Tryz.sizeOf126
  v46 := Tryz.zeroValue126
  t51 := Tryz.underlying152
  a51 := Tryz.isAgg152
  z51 := Tryz.sizeOf152
  v51 := Tryz.zeroValue152
  t59 := Tryz.underlying136
  a59 := Tryz.isAgg136
  z59 := Tryz.sizeOf136
  v59 := Tryz.zeroValue136
  t146 := Tryz.underlying204
  a146 := Tryz.isAgg204
  z146 := Tryz.sizeOf204
  v146 := Tryz.zeroValue204
  g1 := by kernel_rfl }
end Go.Proofs.YtlkdjdcnbcegeaaGreatDoor

/-! table.isPoint; what table.entry comes by. -/
namespace Go.Proofs.YtlkdjdcnbcegeaaGreatDoor
open Go.RowKit Go.WideShapes Go.Lib
set_option linter.unusedVariables false
set_option linter.unusedSimpArgs false
theorem isPoint_ok {p : Int} (h : pointB p = true) (w : World) : Calls Tryz.prog 48 #[.int .i64 p] w (Ret (.bool true) w) := by
  simp only [pointB, decide_eq_true_eq] at h
  obtain ⟨h0, h1, h2⟩ := h
  have HB := Lib.hid (Below.refl w.heap.size w)
  rcases h2 with h2 | h2
  · have h3 : ¬ 57343 < p := by omega
    go_enter Tryz.func48, Tryz.ntmps48
    go_wp2_with fail
    go_returns
    exact ⟨rfl, HB.out⟩
  · have h3 : ¬ p < 55296 := by omega
    go_enter Tryz.func48, Tryz.ntmps48
    go_wp2_with fail
    go_returns
    exact ⟨rfl, HB.out⟩
theorem hexW_noT {c : UInt8} (hc : ∀ d, d < 16 → hexU d ≠ c) (n : Nat) : c ∉ hexW n := by
  have h : ∀ k n, c ∉ digs hexU k n := by
    intro k
    induction k with
    | zero => intro n; simp [digs]
    | succ k ih =>
      intro n h
      rw [digs, List.mem_cons] at h
      rcases h with h | h
      · exact hc _ (Nat.mod_lt _ (by omega)) h.symm
      · exact ih n h
  exact h _ _
theorem hexU_ne32T : ∀ d, d < 16 → hexU d ≠ 32 := by decide
theorem hexU_ne59T : ∀ d, d < 16 → hexU d ≠ 59 := by decide
theorem ptsText_no {l : List Int} : (59 : UInt8) ∉ Lib.join (l.map fun p => hexW p.toNat) [32] := by
  induction l with
  | nil => simp [Lib.join, List.intercalate]
  | cons p r ih =>
    cases r with
    | nil => simpa [Lib.join, List.intercalate, List.intersperse] using hexW_noT hexU_ne59T p.toNat
    | cons q r =>
      rw [List.map_cons, List.map_cons, join_moreT]
      simp only [List.mem_append, List.mem_cons, not_or]
      refine ⟨hexW_noT hexU_ne59T _, by decide, ?_⟩
      simpa using ih
/-- An entry's text at ';'. -/
theorem cut_entry (x : EN) : Lib.cut (txt x.text).data.toList (txt [59]).data.toList = (Lib.join (x.pts.map fun p => hexW p.toNat) [32], elsText x.els, true) := by
  rw [txt_list, txt_list, EN.text, List.append_assoc, List.singleton_append]
  exact cut_oneT 59 _ _ ptsText_no
theorem txt_headT : ∀ (l : List UInt8) (h : 0 < (txt l).size), (txt l)[0]'h ∈ l
  | [], h => absurd h (by decide)
  | a :: r, h => List.mem_cons.2 (.inl rfl)
/-- A point's text as a number. -/
theorem point_okT {p : Int} (h : pointB p = true) (w : World) : Calls Tryz.prog 87 #[.string (txt (hexW p.toNat)), .int .i64 16, .int .i64 32] w (Ret (.tuple #[.int .i64 p, .nilIface]) w) := by
  simp only [pointB, decide_eq_true_eq] at h
  have hlen : (txt (hexW p.toNat)).size = (hexW p.toNat).length := txt_size _
  have h4 : 4 ≤ (hexW p.toNat).length := by rw [hexW_len]; omega
  have h6 := hexW_few (n := p.toNat) (by omega)
  have hb : ∀ c : UInt8, (∀ d, d < 16 → hexU d ≠ c) → ((txt (hexW p.toNat))[0]'(by omega)).toNat ≠ c.toNat := fun c hc e => by
    have h1 : (txt (hexW p.toNat))[0]'(by omega) ∈ hexW p.toNat := txt_headT _ _
    rw [UInt8.toNat_inj.1 e] at h1
    exact hexW_noT hc _ h1
  have h9 := pint32_ok (n := p.toNat) (txt (hexW p.toNat)) (by omega) (hb 43 (by decide)) (hb 45 (by decide)) (by omega) (by rw [hexW_toListT]; exact parseX_hexW (by omega)) (by omega) w
  rwa [show ((p.toNat : Nat) : Int) = p by omega] at h9
end Go.Proofs.YtlkdjdcnbcegeaaGreatDoor
