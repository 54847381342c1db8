/-
  strconv.Itoa's table, out of what the row lists; strconv.Itoa.
-/
import Derived.Test.YtccaaniepeohbaaGreatDoorKAO
import Derived.Test.YtccaaniepeohbaaGreatDoorKAM
import Derived.Test.YtccaaniepeohbaaGreatDoorKI
import Derived.Lib.LaidTab
import Derived.Lib.AppendIntMem
namespace Go.Proofs.YtccaaniepeohbaaGreatDoor
open Go.RowKit Go.WideShapes
set_option linter.unusedVariables false
theorem laidVars_mem {P : Program} {w : World} : ∀ {l : List (String × DataW Unit)} {ps : List MemPlace}, DataW.LaidVars P w l ps → ∀ x ∈ l, ∃ g t cs fuel p, P.globalNamed x.1 = some g ∧ (P.globals[g]?).map (·.type) = some t ∧ w.var? P x.1 = some cs ∧ DataW.trod (fun _ => ()) P w 0 (fun _ => true) false fuel t cs.toList = some (x.2, p)
  | [], _, _, x, hx => by cases hx
  | (n, d) :: r, ps, h, x, hx => by
    obtain ⟨g, t, cs, fuel, p, q, h1, h2, h3, h4, h5, rfl⟩ := h
    rcases List.mem_cons.1 hx with rfl | hx
    · exact ⟨g, t, cs, fuel, p, h1, h2, h3, h4⟩
    · exact laidVars_mem h5 x hx
theorem itoa_tab {w : World} (h : laidMetH Tryz.prog Rows.ucdPrintsRow.laid w) : Lib.TabIs Tryz.prog w "internal/strconv.uint64pow10" .u64 Lib.pow10Tab := by
  obtain ⟨ps, h1, _⟩ := Ev.laid_none h
  obtain ⟨g, t, cs, fuel, p, g1, g2, g3, g4⟩ := laidVars_mem h1 ("internal/strconv.uint64pow10", Rows.laid_internal_strconv_uint64pow10) (List.mem_filter.2 ⟨List.mem_of_getElem? (i := 2) rfl, rfl⟩)
  have hg : Tryz.prog.globalNamed "internal/strconv.uint64pow10" = some 1 := by kernel_rfl
  have hty : (Tryz.prog.globals[1]?).map (·.type) = some 128 := by kernel_rfl
  obtain rfl := Option.some.inj (hg.symm.trans g1)
  obtain rfl := Option.some.inj (hty.symm.trans g2)
  unfold Lib.TabIs
  rw [g3, ← Lib.cells_of_tab (zs := Lib.pow10Tab) (k := .u64) Tryz.underlying128 Tryz.underlying98 (by kernel_rfl) (by kernel_rfl) g4]
theorem tab_below {w w' : World} (h : Lib.TabIs Tryz.prog w "internal/strconv.uint64pow10" .u64 Lib.pow10Tab) (hb : Below w.heap.size w w') : Lib.TabIs Tryz.prog w' "internal/strconv.uint64pow10" .u64 Lib.pow10Tab := by
  unfold Lib.TabIs at *
  unfold World.var? at *
  have hg : Tryz.prog.globalNamed "internal/strconv.uint64pow10" = some 1 := by kernel_rfl
  rw [hg] at h ⊢
  simp only [Option.bind_some] at h ⊢
  have hlt : 1 < w.heap.size := by
    rcases Nat.lt_or_ge 1 w.heap.size with h' | h'
    · exact h'
    · rw [Array.getElem?_eq_none h'] at h; cases h
  rw [hb.block 1 hlt]
  exact h
theorem itoa_any (n : Nat) (hn : n ≤ 9223372036854775807) {w0 w : World} (h : laidMetH Tryz.prog Rows.ucdPrintsRow.laid w0) (hb : Below w0.heap.size w0 w) : Calls Tryz.prog 18 #[.int .i64 n] w (Ret (.string (txt (Lib.decDigits n))) w) := by
  refine (Any.strconv_Itoa lays171 n (by omega) (by omega) w (tab_below (itoa_tab h) hb)).mono ?_
  rintro e w' ⟨rfl, k, os, rfl⟩
  refine ⟨?_, ?_⟩
  · rw [Lib.itoa_nonneg]; rfl
  · exact Lib.below_grow _ _ (Nat.le_refl _) _ _
end Go.Proofs.YtccaaniepeohbaaGreatDoor
