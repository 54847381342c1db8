/-
  Where strconv.Itoa stands in the program.
-/
import Derived.Test.YtlkdjdcnbcegeaaGreatDoorProg
import Derived.Shelf.Strconv.Itoa3
import Derived.KernelRfl
import Derived.Test.YtlkdjdcnbcegeaaGreatDoorKAO
import Derived.Test.YtlkdjdcnbcegeaaGreatDoorKH
import Derived.Lib.LaidTab
import Derived.Lib.AppendIntMem
/-! Where strconv.Itoa stands in the program. -/
namespace Go.Proofs.YtlkdjdcnbcegeaaGreatDoor
open Go.Shelf
def lays171_ren : Go.Shelf.Ren := ⟨fun | 171 => 85 | 243 => 113 | 246 => 133 | 283 => 151 | 284 => 152 | 285 => 153 | 286 => 154 | 129 => 104 | 317 => 165 | 318 => 166 | 319 => 167 | 320 => 168 | 337 => 173 | 338 => 174 | n => n, fun | 3 => 3 | 9 => 9 | 2 => 2 | 4 => 4 | 171 => 190 | 0 => 0 | 53 => 154 | 37 => 160 | 5 => 5 | 173 => 192 | 212 => 210 | 51 => 152 | 20 => 20 | 213 => 211 | 46 => 126 | 232 => 222 | 233 => 223 | n => n, fun | 17 => 5 | 18 => 7 | 19 => 8 | n => n⟩
theorem lays171 : Go.Proofs.LaysM.n171 Tryz.prog lays171_ren := {
  mixed := by kernel_rfl
  f129 := Tryz.func104.trans (congrArg some (by kernel_rfl))
  f171 := Tryz.func85.trans (congrArg some (by kernel_rfl))
  f243 := Tryz.func113.trans (congrArg some (by kernel_rfl))
  f246 := Tryz.func133.trans (congrArg some (by kernel_rfl))
  f283 := Tryz.func151.trans (congrArg some (by kernel_rfl))
  f284 := Tryz.func152.trans (congrArg some (by kernel_rfl))
  f285 := Tryz.func153.trans (congrArg some (by kernel_rfl))
  f286 := Tryz.func154.trans (congrArg some (by kernel_rfl))
  f317 := Tryz.func165.trans (congrArg some (by kernel_rfl))
  f318 := Tryz.func166.trans (congrArg some (by kernel_rfl))
  f319 := Tryz.func167.trans (congrArg some (by kernel_rfl))
  f320 := Tryz.func168.trans (congrArg some (by kernel_rfl))
  f337 := Tryz.func173.trans (congrArg some (by kernel_rfl))
  f338 := Tryz.func174.trans (congrArg some (by kernel_rfl))
  t0 := Tryz.underlying0
  a0 := Tryz.isAgg0
  z0 := Tryz.sizeOf0
  v0 := Tryz.zeroValue0
  t2 := Tryz.underlying2
  a2 := Tryz.isAgg2
  z2 := Tryz.sizeOf2
  v2 := Tryz.zeroValue2
  t3 := Tryz.underlying3
  a3 := Tryz.isAgg3
  z3 := Tryz.sizeOf3
  v3 := Tryz.zeroValue3
  t4 := Tryz.underlying4
  a4 := Tryz.isAgg4
  z4 := Tryz.sizeOf4
  v4 := Tryz.zeroValue4
  t5 := Tryz.underlying5
  a5 := Tryz.isAgg5
  z5 := Tryz.sizeOf5
  v5 := Tryz.zeroValue5
  t9 := Tryz.underlying9
  a9 := Tryz.isAgg9
  z9 := Tryz.sizeOf9
  v9 := Tryz.zeroValue9
  t20 := Tryz.underlying20
  a20 := Tryz.isAgg20
  z20 := Tryz.sizeOf20
  v20 := Tryz.zeroValue20
  t37 := Tryz.underlying160
  a37 := Tryz.isAgg160
  z37 := Tryz.sizeOf160
  v37 := Tryz.zeroValue160
  t46 := Tryz.underlying126
  a46 := Tryz.isAgg126
  z46 := Tryz.sizeOf126
  v46 := Tryz.zeroValue126
  t51 := Tryz.underlying152
  a51 := Tryz.isAgg152
  z51 := Tryz.sizeOf152
  v51 := Tryz.zeroValue152
  t53 := Tryz.underlying154
  a53 := Tryz.isAgg154
  z53 := Tryz.sizeOf154
  v53 := Tryz.zeroValue154
  t171 := Tryz.underlying190
  a171 := Tryz.isAgg190
  z171 := Tryz.sizeOf190
  v171 := Tryz.zeroValue190
  t173 := Tryz.underlying192
  a173 := Tryz.isAgg192
  z173 := Tryz.sizeOf192
  v173 := Tryz.zeroValue192
  t212 := Tryz.underlying210
  a212 := Tryz.isAgg210
  z212 := Tryz.sizeOf210
  v212 := Tryz.zeroValue210
  t213 := Tryz.underlying211
  a213 := Tryz.isAgg211
  z213 := Tryz.sizeOf211
  t232 := Tryz.underlying222
  a232 := Tryz.isAgg222
  z232 := Tryz.sizeOf222
  v232 := Tryz.zeroValue222
  t233 := Tryz.underlying223
  a233 := Tryz.isAgg223
  z233 := Tryz.sizeOf223
  v233 := Tryz.zeroValue223
  g17 := by kernel_rfl
  g18 := by kernel_rfl
  g19 := by kernel_rfl
  i0 := by kernel_rfl
  i2 := by kernel_rfl
  i3 := by kernel_rfl
  i4 := by kernel_rfl
  i5 := by kernel_rfl
  i9 := by kernel_rfl
  i20 := by kernel_rfl
  i37 := by kernel_rfl
  i46 := by kernel_rfl
  i51 := by kernel_rfl
  i53 := by kernel_rfl
  i171 := by kernel_rfl
  i173 := by kernel_rfl
  i212 := by kernel_rfl
  i232 := by kernel_rfl
  i233 := by kernel_rfl
  m17 := by kernel_rfl
  m18 := by kernel_rfl
  m19 := by kernel_rfl }
end Go.Proofs.YtlkdjdcnbcegeaaGreatDoor

/-! strconv.Itoa's table, out of what the row lists; strconv.Itoa. -/
namespace Go.Proofs.YtlkdjdcnbcegeaaGreatDoor
open Go.RowKit Go.WideShapes
set_option linter.unusedVariables false
theorem laidVars_mem {P : Program} {w : World} : ∀ {l : List (String × DataW Unit)} {ps : List MemPlace}, DataW.LaidVars P w l ps → ∀ x ∈ l, ∃ g t cs fuel p, P.globalNamed x.1 = some g ∧ (P.globals[g]?).map (·.type) = some t ∧ w.var? P x.1 = some cs ∧ DataW.trod (fun _ => ()) P w 0 (fun _ => true) false fuel t cs.toList = some (x.2, p)
  | [], _, _, x, hx => by cases hx
  | (n, d) :: r, ps, h, x, hx => by
    obtain ⟨g, t, cs, fuel, p, q, h1, h2, h3, h4, h5, rfl⟩ := h
    rcases List.mem_cons.1 hx with rfl | hx
    · exact ⟨g, t, cs, fuel, p, h1, h2, h3, h4⟩
    · exact laidVars_mem h5 x hx
theorem itoa_tab {w : World} (h : laidMetH Tryz.prog Rows.matchNilRow.laid w) : Lib.TabIs Tryz.prog w "internal/strconv.uint64pow10" .u64 Lib.pow10Tab := by
  obtain ⟨ps, h1, _⟩ := Ev.laid_none h
  obtain ⟨g, t, cs, fuel, p, g1, g2, g3, g4⟩ := laidVars_mem h1 ("internal/strconv.uint64pow10", Rows.laid_internal_strconv_uint64pow10) (List.mem_filter.2 ⟨List.mem_of_getElem? (i := 2) rfl, rfl⟩)
  have hg : Tryz.prog.globalNamed "internal/strconv.uint64pow10" = some 5 := by kernel_rfl
  have hty : (Tryz.prog.globals[5]?).map (·.type) = some 210 := by kernel_rfl
  obtain rfl := Option.some.inj (hg.symm.trans g1)
  obtain rfl := Option.some.inj (hty.symm.trans g2)
  unfold Lib.TabIs
  rw [g3, ← Lib.cells_of_tab (zs := Lib.pow10Tab) (k := .u64) Tryz.underlying210 Tryz.underlying154 (by kernel_rfl) (by kernel_rfl) g4]
theorem tab_below {w w' : World} (h : Lib.TabIs Tryz.prog w "internal/strconv.uint64pow10" .u64 Lib.pow10Tab) (hb : Below w.heap.size w w') : Lib.TabIs Tryz.prog w' "internal/strconv.uint64pow10" .u64 Lib.pow10Tab := by
  unfold Lib.TabIs at *
  unfold World.var? at *
  have hg : Tryz.prog.globalNamed "internal/strconv.uint64pow10" = some 5 := by kernel_rfl
  rw [hg] at h ⊢
  simp only [Option.bind_some] at h ⊢
  have hlt : 5 < w.heap.size := by
    rcases Nat.lt_or_ge 5 w.heap.size with h' | h'
    · exact h'
    · rw [Array.getElem?_eq_none h'] at h; cases h
  rw [hb.block 5 hlt]
  exact h
theorem itoa_any (n : Nat) (hn : n ≤ 9223372036854775807) {w0 w : World} (h : laidMetH Tryz.prog Rows.matchNilRow.laid w0) (hb : Below w0.heap.size w0 w) : Calls Tryz.prog 85 #[.int .i64 n] w (Ret (.string (txt (Lib.decDigits n))) w) := by
  refine (Any.strconv_Itoa lays171 n (by omega) (by omega) w (tab_below (itoa_tab h) hb)).mono ?_
  rintro e w' ⟨rfl, k, os, rfl⟩
  refine ⟨?_, ?_⟩
  · rw [Lib.itoa_nonneg]; rfl
  · exact Lib.below_grow _ _ (Nat.le_refl _) _ _
end Go.Proofs.YtlkdjdcnbcegeaaGreatDoor
