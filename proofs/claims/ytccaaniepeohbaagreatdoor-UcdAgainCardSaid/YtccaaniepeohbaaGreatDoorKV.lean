/-
  A text of marks by lines; what ucd.Load holds while it reads them; how it ends by a fault.
-/
import Derived.Test.YtccaaniepeohbaaGreatDoorKR
import Derived.Test.YtccaaniepeohbaaGreatDoorKU
import Derived.Defers
import Derived.Recover
import Derived.Laws.Pointers
namespace Go.Proofs.YtccaaniepeohbaaGreatDoor
open Go.RowKit Go.WideShapes
set_option linter.unusedVariables false
set_option linter.unusedSimpArgs false
/-- The lines of a text of marks. -/
def mkLs (l : List MK) : List (Option MK) := if l = [] then [none] else l.map some
def mText : Option MK → List UInt8
  | none => []
  | some x => x.text
theorem mkLs_id (l : List MK) : (mkLs l).filterMap id = l := by
  unfold mkLs
  split
  · next h => subst h; rfl
  · rw [List.filterMap_map]; simp
theorem mkLs_text (l : List MK) : Lib.join ((mkLs l).map mText) [10] = ucdText l := by
  unfold mkLs ucdText
  split
  · next h => subst h; rfl
  · rw [List.map_map]; rfl
theorem mkLs_mem {l : List MK} {x : MK} (h : some x ∈ mkLs l) : x ∈ l := by
  unfold mkLs at h
  split at h
  · simp at h
  · simpa using h
theorem mkLs_ne (l : List MK) : mkLs l ≠ [] := by
  unfold mkLs
  split
  · simp
  · next h => simpa using h
theorem mkLs_at {l : List MK} {k : Nat} {x : MK} (hk : k < (mkLs l).length) (ho : (mkLs l)[k] = some x) : ((mkLs l).take k).filterMap id = l.take k ∧ k < l.length ∧ l[k]? = some x ∧ ((mkLs l).take (k + 1)).filterMap id = l.take (k + 1) := by
  have hne : l ≠ [] := by
    intro e
    subst e
    have h1 : (mkLs ([] : List MK)) = [none] := rfl
    simp only [h1] at hk ho
    have : k = 0 := by simpa using hk
    subst this
    simp at ho
  have hm : mkLs l = l.map some := by unfold mkLs; rw [if_neg hne]
  simp only [hm] at hk ho ⊢
  have hk2 : k < l.length := by simpa using hk
  have hx : l[k] = x := by simpa using ho
  refine ⟨?_, hk2, by rw [List.getElem?_eq_getElem hk2, hx], ?_⟩
  · rw [← List.map_take, List.filterMap_map]; simp
  · rw [← List.map_take, List.filterMap_map]; simp
theorem hexU_ne10 : ∀ d, d < 16 → hexU d ≠ 10 := by decide
theorem hexU_ne35 : ∀ d, d < 16 → hexU d ≠ 35 := by decide
theorem dec_no10 {n : Nat} (hn : n ≤ 254) : (10 : UInt8) ∉ Lib.decDigits n := by
  have h : (List.range 255).all (fun n => decide ((10 : UInt8) ∉ Lib.decDigits n)) = true := by kernel_rfl
  exact of_decide_eq_true (List.all_eq_true.1 h n (List.mem_range.2 (by omega)))
theorem pts_no10 : ∀ l : List Int, (10 : UInt8) ∉ ptsText l
  | [] => by simp [ptsText, Lib.join, List.intercalate]
  | [p] => by simpa [ptsText, Lib.join, List.intercalate, List.intersperse] using hexW_no hexU_ne10 p.toNat
  | p :: q :: r => by
    have ih := pts_no10 (q :: r)
    unfold ptsText at ih ⊢
    rw [List.map_cons, List.map_cons, join_more]
    simp only [List.mem_append, List.mem_cons, not_or]
    exact ⟨hexW_no hexU_ne10 _, by decide, by simpa using ih⟩
theorem mk_no10 {m : MK} (h : m.may = true) : (10 : UInt8) ∉ m.text := by
  obtain ⟨_, hc, _⟩ := may_of h
  unfold MK.text MK.head
  simp only [List.mem_append, List.mem_cons, List.not_mem_nil, or_false, not_or]
  exact ⟨⟨⟨⟨hexW_no hexU_ne10 _, by decide⟩, dec_no10 (by omega)⟩, by decide⟩, pts_no10 _⟩
theorem mk_head (m : MK) : ∃ c r, m.text = c :: r ∧ c ≠ 35 := by
  have h4 : 4 ≤ (hexW m.pt.toNat).length := by rw [hexW_len]; omega
  have hno : (35 : UInt8) ∉ hexW m.pt.toNat := hexW_no hexU_ne35 _
  match hw : hexW m.pt.toNat, h4 with
  | c :: r, _ =>
    refine ⟨c, r ++ [59] ++ Lib.decDigits m.cls.toNat ++ [59] ++ ptsText m.parts, ?_, ?_⟩
    · simp only [MK.text, MK.head, hw, List.cons_append, List.append_assoc]
    · rw [hw] at hno
      intro e
      exact hno (by simp [e])
/-- The lines at which points stand. -/
def LinesM (w : World) (b : Nat) (l : List MK) : Prop := ∃ lm : List (Value × Value), MapAt w b IntKey lm ∧ lm.length = l.length ∧ ∀ (i : Nat) x p, l[i]? = some x → lm[i]? = some p → p.1 = Value.int .i64 x.pt ∧ p.2 = Value.int .i64 ((i : Int) + 1)
theorem LinesM.keep {w w' : World} {b : Nat} {l : List MK} (h : LinesM w b l) (hb : w'.heap[b]? = w.heap[b]?) : LinesM w' b l := by
  obtain ⟨lm, h1, h2⟩ := h
  exact ⟨lm, h1.keep hb, h2⟩
theorem LinesM.lt {w : World} {b : Nat} {l : List MK} (h : LinesM w b l) : b < w.heap.size := by obtain ⟨lm, h1, _⟩ := h; exact h1.lt
theorem LinesM.look {w : World} {b : Nat} {l : List MK} (h : LinesM w b l) {p : Int} (hp : p ∈ l.map MK.pt) : ∃ n : Int, (Instr.lookup 53 (.map (some b)) (.int .i64 p) false).run Tryz.prog w = .ok (.int .i64 n) w ∧ 1 ≤ n ∧ n ≤ l.length := by
  obtain ⟨lm, h1, h2, h3⟩ := h
  rcases h1.run_look (P := Tryz.prog) (keyOk_int Tryz.underlying3) Tryz.underlying53 (Tryz.zeroValue3 w) (key := .int .i64 p) ⟨p, rfl⟩ false with ⟨hr, hno⟩ | ⟨u, hr, hu⟩
  · exfalso
    obtain ⟨x, hx, e⟩ := List.mem_map.1 hp
    obtain ⟨i, hi, rfl⟩ := List.getElem_of_mem hx
    have h9 := h3 i l[i] (lm[i]'(by omega)) (List.getElem?_eq_getElem hi) (List.getElem?_eq_getElem (by omega))
    refine hno (lm[i]'(by omega)).2 ?_
    have e1 : (lm[i]'(by omega)) = (Value.int .i64 p, (lm[i]'(by omega)).2) := by rw [← e, ← h9.1]
    rw [← e1]
    exact List.getElem_mem _
  · obtain ⟨i, hi, e⟩ := List.getElem_of_mem hu
    have hil : i < l.length := by omega
    have h9 := h3 i l[i] lm[i] (List.getElem?_eq_getElem hil) (List.getElem?_eq_getElem hi)
    rw [e] at h9
    have e2 : u = .int .i64 ((i : Int) + 1) := h9.2
    subst e2
    exact ⟨_, hr, by omega, by omega⟩
theorem LinesM.put {w : World} {b : Nat} {l : List MK} (h : LinesM w b l) (x : MK) (hx : x.pt ∉ l.map MK.pt) (n : Int) (hn : n = (l.length : Int) + 1) : ∃ w', (Instr.mapUpdate 53 (.map (some b)) (.int .i64 x.pt) (.int .i64 n)).run Tryz.prog w = .ok () w' ∧ LinesM w' b (l ++ [x]) ∧ (∃ K m m', MapAt w b K m ∧ MapAt w' b K m') ∧ w.grownBy w' (some b) ∧ w'.heap.size = w.heap.size := by
  obtain ⟨lm, h1, h2, h3⟩ := h
  obtain ⟨w', l', r1, r2, r3, r4, _, r6, _⟩ := h1.run_put (P := Tryz.prog) (keyOk_int Tryz.underlying3) Tryz.underlying53 (key := .int .i64 x.pt) (val := .int .i64 n) ⟨x.pt, rfl⟩
  have e := r6 (fun v hv => by
    obtain ⟨i, hi, e⟩ := List.getElem_of_mem hv
    have h9 := h3 i l[i] lm[i] (List.getElem?_eq_getElem (by omega)) (List.getElem?_eq_getElem hi)
    rw [e] at h9
    have : x.pt = l[i].pt := by simpa using h9.1
    exact hx (List.mem_map.2 ⟨l[i], List.getElem_mem _, this.symm⟩))
  subst e
  refine ⟨w', r1, ⟨_, r2, by simp [h2], fun i y p hy hp => ?_⟩, ⟨_, _, _, h1, r2⟩, r3, r4⟩
  by_cases hil : i < lm.length
  · rw [List.getElem?_append_left (by omega)] at hy
    rw [List.getElem?_append_left hil] at hp
    exact h3 i y p hy hp
  · have hi2 : i = lm.length := by
      have := (List.getElem?_eq_some_iff.1 hp).1
      simp at this
      omega
    subst hi2
    rw [List.getElem?_append_right (by omega)] at hy hp
    simp [h2] at hy hp
    subst hy hp
    exact ⟨rfl, by rw [hn, h2]⟩
theorem DataM.fresh {w : World} {Q : Nat → Prop} {D b : Nat} {l : List MK} (h : DataM w Q D b l) {p : Int} (hp : p ∉ l.map MK.pt) : ∃ m : List (Value × Value), MapAt w b IntKey m ∧ m.length = l.length ∧ (∀ (i : Nat) x p, l[i]? = some x → m[i]? = some p → MarkM w Q x p) ∧ ∀ v, (Value.int .i64 p, v) ∉ m := by
  obtain ⟨m, a1, a2, a3⟩ := h.m
  refine ⟨m, a1, a2, a3, fun v hv => ?_⟩
  obtain ⟨i, hi, e⟩ := List.getElem_of_mem hv
  have h9 := a3 i l[i] m[i] (List.getElem?_eq_getElem (by omega)) (List.getElem?_eq_getElem hi)
  rw [e] at h9
  have : p = l[i].pt := by simpa using h9.1
  exact hp (List.mem_map.2 ⟨l[i], List.getElem_mem _, this.symm⟩)
end Go.Proofs.YtccaaniepeohbaaGreatDoor
