/-
  table.isPoint; what table.entry comes by.
-/
import Derived.Test.YthcjcdchmdgnjaaGreatDoorKL
import Derived.Test.YthcjcdchmdgnjaaGreatDoorKM
import Derived.Test.YthcjcdchmdgnjaaGreatDoorKN
namespace Go.Proofs.YthcjcdchmdgnjaaGreatDoor
open Go.RowKit Go.WideShapes Go.Lib
set_option linter.unusedVariables false
set_option linter.unusedSimpArgs false
theorem isPoint_ok {p : Int} (h : pointB p = true) (w : World) : Calls Tryz.prog 11 #[.int .i64 p] w (Ret (.bool true) w) := by
  simp only [pointB, decide_eq_true_eq] at h
  obtain ⟨h0, h1, h2⟩ := h
  have HB := Lib.hid (Below.refl w.heap.size w)
  rcases h2 with h2 | h2
  · have h3 : ¬ 57343 < p := by omega
    go_enter Tryz.func11, Tryz.ntmps11
    go_wp2_with fail
    go_returns
    exact ⟨rfl, HB.out⟩
  · have h3 : ¬ p < 55296 := by omega
    go_enter Tryz.func11, Tryz.ntmps11
    go_wp2_with fail
    go_returns
    exact ⟨rfl, HB.out⟩
theorem hexW_no {c : UInt8} (hc : ∀ d, d < 16 → hexU d ≠ c) (n : Nat) : c ∉ hexW n := by
  have h : ∀ k n, c ∉ digs hexU k n := by
    intro k
    induction k with
    | zero => intro n; simp [digs]
    | succ k ih =>
      intro n h
      rw [digs, List.mem_cons] at h
      rcases h with h | h
      · exact hc _ (Nat.mod_lt _ (by omega)) h.symm
      · exact ih n h
  exact h _ _
theorem hexU_ne32 : ∀ d, d < 16 → hexU d ≠ 32 := by decide
theorem hexU_ne59 : ∀ d, d < 16 → hexU d ≠ 59 := by decide
theorem ptsText_no {l : List Int} : (59 : UInt8) ∉ Lib.join (l.map fun p => hexW p.toNat) [32] := by
  induction l with
  | nil => simp [Lib.join, List.intercalate]
  | cons p r ih =>
    cases r with
    | nil => simpa [Lib.join, List.intercalate, List.intersperse] using hexW_no hexU_ne59 p.toNat
    | cons q r =>
      rw [List.map_cons, List.map_cons, join_more]
      simp only [List.mem_append, List.mem_cons, not_or]
      refine ⟨hexW_no hexU_ne59 _, by decide, ?_⟩
      simpa using ih
/-- An entry's text at ';'. -/
theorem cut_entry (x : EN) : Lib.cut (txt x.text).data.toList (txt [59]).data.toList = (Lib.join (x.pts.map fun p => hexW p.toNat) [32], elsText x.els, true) := by
  rw [txt_list, txt_list, EN.text, List.append_assoc, List.singleton_append]
  exact cut_one 59 _ _ ptsText_no
theorem txt_head : ∀ (l : List UInt8) (h : 0 < (txt l).size), (txt l)[0]'h ∈ l
  | [], h => absurd h (by decide)
  | a :: r, h => List.mem_cons.2 (.inl rfl)
/-- A point's text as a number. -/
theorem point_ok {p : Int} (h : pointB p = true) (w : World) : Calls Tryz.prog 35 #[.string (txt (hexW p.toNat)), .int .i64 16, .int .i64 32] w (Ret (.tuple #[.int .i64 p, .nilIface]) w) := by
  simp only [pointB, decide_eq_true_eq] at h
  have hlen : (txt (hexW p.toNat)).size = (hexW p.toNat).length := txt_size _
  have h4 : 4 ≤ (hexW p.toNat).length := by rw [hexW_len]; omega
  have h6 := hexW_few (n := p.toNat) (by omega)
  have hb : ∀ c : UInt8, (∀ d, d < 16 → hexU d ≠ c) → ((txt (hexW p.toNat))[0]'(by omega)).toNat ≠ c.toNat := fun c hc e => by
    have h1 : (txt (hexW p.toNat))[0]'(by omega) ∈ hexW p.toNat := txt_head _ _
    rw [UInt8.toNat_inj.1 e] at h1
    exact hexW_no hc _ h1
  have h9 := pint32_ok (n := p.toNat) (txt (hexW p.toNat)) (by omega) (hb 43 (by decide)) (hb 45 (by decide)) (by omega) (by rw [hexW_toList]; exact parseX_hexW (by omega)) (by omega) w
  rwa [show ((p.toNat : Nat) : Int) = p by omega] at h9
end Go.Proofs.YthcjcdchmdgnjaaGreatDoor
