/-
  The law UtfBack answers true for every text and every list of numbers, and changes nothing. No conditions.
-/
import Derived.Test.YtdidepaldppcjaaRows
import Derived.Test.YtdidepaldppcjaaUtfAwake
import Derived.Test.YtdidepaldppcjaaUtfPlain
import Derived.WalkKit
import Derived.ProofKit
import Derived.OpenShut
import Derived.ShutString
import Derived.ChangeOld
import Derived.Below
namespace Go.Proofs.Ytdidepaldppcjaa.utfBack
open Go.ChangeShapes Go.WideShapes Go.ChangeAt Go.RowKit
open Go.ChangeMaps (open_string shut_string)
set_option linter.unusedVariables false

theorem own : ownKnob Try.prog.godebug = none := by kernel_rfl
theorem laidOut : laidOutB Try.prog = true := by kernel_rfl

/-- WHAT THE WALK IS TOLD OF A SLICE OF INTEGERS THAT CAME IN: it is nil; or it leads to a row of 'cap' cells, the numbers 'zs' (the first 'len' are its elements, the rest its spare room), each fitting its kind. -/
def IsRow (k : IntKind) (w : World) (a : Option Addr) (len cap : Nat) (zs : List Int) : Prop :=
  (a = none ∧ len = 0 ∧ cap = 0 ∧ zs = []) ∨
  ∃ x, a = some x ∧ len ≤ cap ∧ cap ≤ maxLen ∧ zs.length = cap ∧ (∀ i, i < zs.length → w.cell? (x.add i) = some (.int k (zs.getD i 0))) ∧ ∀ n ∈ zs, (Lit.int k n).wf = true


theorem cell_lt {w : World} {p : Addr} {u : Value} (h : w.cell? p = some u) : p.block < w.heap.size := by
  unfold World.cell? at h
  split at h
  · rename_i hh; exact (Array.getElem?_eq_some_iff.1 hh).1
  · cases h
theorem isRow_len {w : World} {a : Option Addr} {len cap : Nat} {zs : List Int} (h : IsRow .i64 w a len cap zs) : (zs.take len).length = len := by
  rcases h with ⟨_, rfl, _, rfl⟩ | ⟨x, _, hl, _, hz, _⟩
  · rfl
  · rw [List.length_take]; omega
theorem isRow_cap {w : World} {a : Option Addr} {len cap : Nat} {zs : List Int} (h : IsRow .i64 w a len cap zs) : len ≤ cap := by
  rcases h with ⟨_, rfl, rfl, _⟩ | ⟨x, _, hl, _⟩
  · exact Nat.le_refl _
  · exact hl
theorem isRow_rowAt {w : World} {a : Option Addr} {len cap : Nat} {zs : List Int} (h : IsRow .i64 w a len cap zs) : RowAt w w.heap.size (.slice a len cap) (ints (zs.take len)) := by
  have hlen := isRow_len h
  have hcap := isRow_cap h
  refine ⟨a, cap, by rw [ints_len, hlen], by rw [ints_len, hlen]; exact hcap, fun hp => ?_⟩
  rw [ints_len, hlen] at hp
  rcases h with ⟨_, rfl, _, rfl⟩ | ⟨x, rfl, hl, _, hz, hc, _⟩
  · omega
  · have h0 := hc 0 (by omega)
    have hcell : ∀ i, i < zs.length → w.cell? ⟨x.block, x.off + i, none⟩ = some (.int .i64 (zs.getD i 0)) ∧ x.spot = none := by
      intro i hi
      have hx : x.spot = none := by
        have : w.cell? (x.add 0) = w.cell? x := by simp [Addr.add]
        rw [this] at h0
        cases hs : x.spot with
        | none => rfl
        | some q => unfold World.cell? at h0; rw [hs] at h0; split at h0 <;> simp at h0
      refine ⟨?_, hx⟩
      rw [← hc i hi]
      congr 1
      cases x with | mk b o sp => simp only at hx; subst hx; exact (add_plain b o i).symm
    refine ⟨x.block, x.off, ?_, ?_, fun i u hu => ?_⟩
    · have := (hcell 0 (by omega)).2
      cases x with | mk b o sp => simp only at this; subst this; rfl
    · have h1 := cell_lt (p := ⟨x.block, x.off + 0, none⟩) (hcell 0 (by omega)).1
      exact h1
    · have hi : i < (zs.take len).length := by have := (List.getElem?_eq_some_iff.1 hu).1; rwa [ints_len] at this
      have hi2 : i < zs.length := by rw [List.length_take] at hi; omega
      rw [(hcell i hi2).1, ← hu, ints_get hi]
      simp [List.getD_eq_getElem?_getD, List.getElem?_eq_getElem hi2]

/-! ### STEP 1: THE WALK: the Go text returns true, AND WRITES NOTHING THAT WAS THERE: 'Below w.heap.size w w'' (Derived/Below.lean: '.refl', '.alloc', '.drew', '.setCell' at a new block, '.trans'). Open each 'IsRow' by 'rcases' AHEAD of 'go_enter'; part every test ahead of the walk. -/
set_option maxRecDepth 100000 in
set_option maxHeartbeats 4000000 in
theorem walk (a0 : ByteArray) (a1 : Option Addr) (len1 cap1 : Nat) (z1 : List Int) (w : World) (w0 : a0.size ≤ maxLen) (w1 : IsRow .i64 w a1 len1 cap1 z1) :
    Calls Try.prog 5 #[.string a0, .slice a1 len1 cap1] w fun e w' => e = .returned (.bool true) ∧ Below w.heap.size w w' := by
  have hm : maxLen = 9223372036854775807 := rfl
  have hrow : RowAt w w.heap.size (.slice a1 len1 cap1) (ints (z1.take len1)) := isRow_rowAt w1
  have hll : (z1.take len1).length = len1 := isRow_len w1
  have hcap : len1 ≤ cap1 := isRow_cap w1
  clear w1
  by_cases hs : 536870911 < a0.size
  · go_enter Try.func5, Try.ntmps5
    go_wp2_with fail
    go_ret
    exact ⟨rfl, Below.refl _ _⟩
  by_cases hl : 536870911 < len1
  · have hs' : a0.size ≤ 536870911 := by omega
    go_enter Try.func5, Try.ntmps5
    go_wp2_with fail
    go_ret
    exact ⟨rfl, Below.refl _ _⟩
  have hs' : a0.size ≤ 536870911 := by omega
  have hl' : len1 ≤ 536870911 := by omega
  have HS1 := Lib.hid (show a0.size ≤ 1099511627776 by omega)
  have HS2 := Lib.hid (show a0.size < 9223372036854775800 by omega)
  obtain ⟨l, hle⟩ : ∃ l, z1.take len1 = l := ⟨_, rfl⟩
  rw [hle] at hrow hll
  have HLL := Lib.hid hll
  have HL1 := Lib.hid (show l.length ≤ 1099511627776 by omega)
  clear hle hll hs hl w0 hm
  cases hbad : badAt (chars a0) with
  | some b =>
    obtain ⟨hbs, l0, hl0, hb0⟩ := bad_whole hbad
    have HK := Lib.hid (show checkV a0 = (b : Nat) by rw [checkV, hbad])
    have HBAD := Lib.hid hbad
    clear hbad
    go_enter Try.func5, Try.ntmps5
    go_wp2_with fail
    refine (points_any a0 HS1.out _).mono ?_
    rintro e w1 hp
    obtain ⟨k, hk, rfl, hb1⟩ := hp.resolve_right (fun h => by rw [HBAD.out] at h; cases h.1)
    rw [HBAD.out] at hk
    obtain rfl : b = k := by injection hk
    clear hk hp
    go_wp2_with fail
    refine (check_any a0 HS2.out _).mono ?_
    rintro e w2 ⟨rfl, hb2⟩
    rw [HK.out]
    have hb2' := hb1.trans (hb2.mono hb1.size)
    go_wp2_with fail
    have HC0 := Lib.hid (show checkV (a0.extract 0 b) = -1 by
      have hb1 : bytesOf (a0.extract 0 b) = textB l0 := by rw [bytesOf_take, hb0]
      rw [checkV, (whole_good hl0 hb1).1])
    refine (check_any _ (by rw [ByteArray.size_extract]; omega) _).mono ?_
    rintro e w3 ⟨rfl, hb3⟩
    rw [HC0.out]
    have hb3' := hb2'.trans (hb3.mono hb2'.size)
    go_wp2_with fail
    have hz3 := hb3'.size
    refine (text_any _ l _ ((hrow.below hb3').more hz3) HL1.out).mono ?_
    rintro e w4 ⟨hb4, hq⟩
    have hb4' := hb3'.trans (hb4.mono hz3)
    rcases hq with ⟨k, hk, rfl⟩ | ⟨hk, rfl⟩
    · obtain ⟨hkl, hkp⟩ := badPt_some hk
      have hkl1 : k < len1 := by have := HLL.out; omega
      obtain ⟨A, c, hA, _, hcell⟩ := hrow.ints
      obtain ⟨g, o, rfl, hg, hcl⟩ := hcell (by omega)
      obtain rfl : a1 = some ⟨g, o, none⟩ := by injection hA
      have g1 : w4.cell? ⟨g, o + k, none⟩ = some (.int .i64 l[k]) := (hb4'.cell (p := ⟨g, o + k, none⟩) hg).trans (hcl k hkl)
      clear hcl hcell hA
      have hq : l[k] < 0 ∨ 1114111 < l[k] ∨ (55296 ≤ l[k] ∧ l[k] ≤ 57343) := badPt_cases hkp
      clear hkp hk
      go_wp2_with fail
      all_goals
        refine (awake_any _).mono ?_
        rintro e w7 ⟨rfl, hb7⟩
        have hb7' := hb4'.trans (hb7.mono hb4'.size)
        go_wp2_with fail
        go_ret
        refine ⟨?_, hb7'⟩
        first
          | rfl
          | (refine ret_bool ?_; simp; omega)
    · obtain ⟨h1, h2⟩ := text_whole (badPt_all hk)
      have HT := Lib.hid h1
      have HP := Lib.hid h2
      have HSZ := Lib.hid (show (strOf (textB l)).size ≤ 1099511627776 by
        rw [strOf_size]; have := textB_len l; have := HLL.out; omega)
      clear h1 h2 hk
      go_wp2_with fail
      refine (points_any _ HSZ.out _).mono ?_
      rintro e w5 hp
      obtain ⟨_, v2, rfl, hown2, _, hb5⟩ := hp.resolve_left (fun h => by obtain ⟨k, hk, _⟩ := h; rw [HT.out] at hk; cases hk)
      rw [HP.out] at hown2
      have hb5' := hb4'.trans (hb5.mono hb4'.size)
      have hz5 := hb5'.size
      go_wp2_with fail
      refine (same_any _ _ l l _ _ ((RowAt.of_own hown2)) ((hrow.below hb5').more hz5) (by have := HL1.out; unfold maxLen; omega)).mono ?_
      rintro e w6 ⟨rfl, n6, rfl⟩
      rw [show sameI l l = true from decide_eq_true rfl]
      have hb6 := below_drewN hb5' n6
      go_wp2_with fail
      refine (awake_any _).mono ?_
      rintro e w7 ⟨rfl, hb7⟩
      have hb7' := hb6.trans (hb7.mono hb6.size)
      go_wp2_with fail
      go_ret
      exact ⟨rfl, hb7'⟩
  | none =>
    have HW := Lib.hid (whole_text hbad)
    have HK := Lib.hid (show checkV a0 = -1 by rw [checkV, hbad])
    have HBAD := Lib.hid hbad
    have HCL := Lib.hid (show (ptsOf (chars a0)).length ≤ 1099511627776 by rw [ptsOf_len]; have := chars_len a0; omega)
    clear hbad
    go_enter Try.func5, Try.ntmps5
    go_wp2_with fail
    refine (points_any a0 HS1.out _).mono ?_
    rintro e w1 hp
    obtain ⟨_, v1, rfl, hown1, _, hb1⟩ := hp.resolve_left (fun h => by obtain ⟨k, hk, _⟩ := h; rw [HBAD.out] at hk; cases hk)
    clear hp
    go_wp2_with fail
    refine (check_any a0 HS2.out _).mono ?_
    rintro e w2 ⟨rfl, hb2⟩
    rw [HK.out]
    have hb2' := hb1.trans (hb2.mono hb1.size)
    go_wp2_with fail
    refine (text_any _ (ptsOf (chars a0)) _ (((RowAt.of_own hown1).below hb2).more hb2.size) HCL.out).mono ?_
    rintro e w3 ⟨hb3, hq⟩
    obtain ⟨_, rfl⟩ := hq.resolve_left (fun h => by
      obtain ⟨k, hk, _⟩ := h
      rw [badPt_none (fun j hj => (good_whole HBAD.out).1 _ (List.getElem_mem hj))] at hk; cases hk)
    rw [HW.out]
    have hb3' := hb2'.trans (hb3.mono hb2'.size)
    go_wp2_with fail
    have hz3 := hb3'.size
    refine (text_any _ l _ ((hrow.below hb3').more hz3) HL1.out).mono ?_
    rintro e w4 ⟨hb4, hq⟩
    have hb4' := hb3'.trans (hb4.mono hz3)
    rcases hq with ⟨k, hk, rfl⟩ | ⟨hk, rfl⟩
    · obtain ⟨hkl, hkp⟩ := badPt_some hk
      have hkl1 : k < len1 := by have := HLL.out; omega
      obtain ⟨A, c, hA, _, hcell⟩ := hrow.ints
      obtain ⟨g, o, rfl, hg, hcl⟩ := hcell (by omega)
      obtain rfl : a1 = some ⟨g, o, none⟩ := by injection hA
      have g1 : w4.cell? ⟨g, o + k, none⟩ = some (.int .i64 l[k]) := (hb4'.cell (p := ⟨g, o + k, none⟩) hg).trans (hcl k hkl)
      clear hcl hcell hA
      have hq : l[k] < 0 ∨ 1114111 < l[k] ∨ (55296 ≤ l[k] ∧ l[k] ≤ 57343) := badPt_cases hkp
      clear hkp hk
      go_wp2_with fail
      all_goals
        refine (awake_any _).mono ?_
        rintro e w7 ⟨rfl, hb7⟩
        have hb7' := hb4'.trans (hb7.mono hb4'.size)
        go_wp2_with fail
        go_ret
        refine ⟨?_, hb7'⟩
        first
          | rfl
          | (refine ret_bool ?_; simp; omega)
    · obtain ⟨h1, h2⟩ := text_whole (badPt_all hk)
      have HT := Lib.hid h1
      have HP := Lib.hid h2
      have HSZ := Lib.hid (show (strOf (textB l)).size ≤ 1099511627776 by
        rw [strOf_size]; have := textB_len l; have := HLL.out; omega)
      clear h1 h2 hk
      go_wp2_with fail
      refine (points_any _ HSZ.out _).mono ?_
      rintro e w5 hp
      obtain ⟨_, v2, rfl, hown2, _, hb5⟩ := hp.resolve_left (fun h => by obtain ⟨k, hk, _⟩ := h; rw [HT.out] at hk; cases hk)
      rw [HP.out] at hown2
      have hb5' := hb4'.trans (hb5.mono hb4'.size)
      have hz5 := hb5'.size
      go_wp2_with fail
      refine (same_any _ _ l l _ _ ((RowAt.of_own hown2)) ((hrow.below hb5').more hz5) (by have := HL1.out; unfold maxLen; omega)).mono ?_
      rintro e w6 ⟨rfl, n6, rfl⟩
      rw [show sameI l l = true from decide_eq_true rfl]
      have hb6 := below_drewN hb5' n6
      go_wp2_with fail
      refine (awake_any _).mono ?_
      rintro e w7 ⟨rfl, hb7⟩
      have hb7' := hb6.trans (hb7.mono hb6.size)
      go_wp2_with fail
      go_ret
      exact ⟨rfl, hb7'⟩

/-! ### THE ROW's STEP: WRITTEN OUT: LEAVE IT -/
set_option maxRecDepth 100000 in
theorem lifted (os : Os) (started : os.Started) (H : Type) (enc : TypeId × Value → H) :
    ReturnsInHanded {} Try.checked os 5 .any (Rows.utfBackSpec.pre6 enc Try.prog Try.f5 Rows.utfBackRow.domain false) (Rows.utfBackSpec.post enc Try.prog Try.f5 false true false false) := by
  refine returnsInHanded_of_change (C := Try.checked) own started (by kernel_rfl) Try.func5
    (ChangeSpec.witness6 (enc := enc) (C := Try.checked) false ⟨#[], #[.string ByteArray.empty, .slice none 0 0], []⟩ 8 (by kernel_rfl) (by kernel_rfl) (by kernel_rfl) (by kernel_rfl)) ?_
  intro W base args ds gs before hval0 hW hcnd _
  have hval : ∀ (j : Nat) t v, Try.f5.params[j]? = some t → args[j]? = some v → Value.okWide Try.prog W .any base t v := hval0
  have hW' := hW
  obtain ⟨p, q, hA0, hV, rfl, hfz, hnd⟩ := hW
  have hA : DataW.TrodAll enc Try.prog W 0 (fun _ => true) true Try.f5.params.toList args.toList ds p := hA0
  rw [Try.params5] at hA hval
  obtain ⟨v0, vs0, d0, ds0, p0, q0, hargs, rfl, rfl, h0, r0⟩ := trodAll_cons hA
  obtain ⟨v1, vs1, d1, ds1, p1, q1, rfl, rfl, rfl, h1, r1⟩ := trodAll_cons r0
  obtain ⟨rfl, rfl, rfl⟩ := trodAll_nil r1
  obtain rfl : args = #[v0, v1] := by cases args; simp_all
  obtain ⟨rfl, rfl⟩ := trodVars_none hV
  obtain ⟨a0, rfl, rfl, rfl, w0⟩ := open_string Try.underlying9 (hval 0 9 v0 rfl rfl) h0
  obtain ⟨a1, len1, cap1, rfl⟩ := okWide_slice Try.underlying25 (hval 1 25 v1 rfl rfl)
  have k1 := h1
  have lt1 : ∀ x ∈ p1, x.block < W.heap.size := by obtain ⟨m, hm⟩ := k1; exact DataW.trod_lt m _ _ _ hm
  obtain ⟨z1, w1⟩ : ∃ zs, IsRow .i64 W a1 len1 cap1 zs := by
    obtain ⟨fuel, hf⟩ := h1
    rcases open_ints Try.underlying25 Try.underlying3 (by kernel_rfl) hf with ⟨hcs, _⟩ | ⟨x, l, c, zs, hcs, _, hl, hm, hz, _, hcell, hwz⟩
    · simp [Value.cells] at hcs
      obtain ⟨rfl, rfl, rfl⟩ := hcs
      exact ⟨[], .inl ⟨rfl, rfl, rfl, rfl⟩⟩
    · simp [Value.cells] at hcs
      obtain ⟨rfl, rfl, rfl⟩ := hcs
      exact ⟨zs, .inr ⟨_, rfl, hl, hm, by simpa using hz, hcell, hwz⟩⟩
  clear hA0 hval0
  refine (walk a0 a1 len1 cap1 z1 W w0 w1).mono fun e W' ⟨he, bel⟩ => ?_
  subst he
  exact ⟨_, rfl, _, _, _, [], _, [], hW', trodAll_mk1 (shut_bool Try.underlying4 _), (trodAll_cons_mk (shut_string Try.underlying9 w0) (trodAll_cons_mk (Below.trod laidOut (by kernel_rfl) (of_decide_eq_true (by kernel_rfl)) k1 bel lt1) trodAll_mk0)), rfl, bel.frame _, fun h => by cases h⟩

theorem over : Rows.utfBackRow.holds Try.pinned (OpenSpec.ofChange Rows.utfBackSpec) :=
  OpenClaim.holds_of_wide 5 Try.f5 rfl rfl rfl rfl rfl rfl rfl ⟨rfl, rfl, rfl, rfl, rfl⟩ rfl rfl rfl rfl rfl (by kernel_rfl) Try.func5 (by kernel_rfl)
    (of_decide_eq_true (by kernel_rfl)) (by unfold Func.isWrapper; first | (rw [if_pos (by decide +kernel)]; kernel_rfl) | (rw [if_neg (by decide +kernel)]; exact ⟨rfl, rfl⟩))
    (fun os started H enc _ => lifted os started H enc)

/-- The statement. -/
theorem proved : Rows.UtfBackSaid := over
#print axioms proved
end Go.Proofs.Ytdidepaldppcjaa.utfBack
