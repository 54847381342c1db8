/-
  Our machine's rows that are made, copies, lengths, boxes, and that they stand for the model's.
-/
import Derived.Laws.OwnMore
import Derived.Laws.BytesString
import Derived.Test.YtkecgbcfkbafpaaDoorEvI
namespace Go.Proofs.YtkecgbcfkbafpaaDoor.Ev
set_option linter.unusedSectionVars false
variable [Sig]
open Go.RowKit
set_option linter.unusedSimpArgs false

variable {P : Program} {w0 w : World} {E : Env} {m : Mem}

/-- A new row of ours. -/
def exRowNew (m : Mem) (elem : TypeId) (l : List Value) : Option Mem :=
  match exNew m.H m.next elem l with
  | some H' => some { m with H := H', next := m.next + 1 }
  | none => none
theorem exRowNew_run (h : HR P w0 E m.H m.next w) (hlo : m.lo ≤ m.next) {elem : TypeId} {l l' : List Value} (hl : VRL E l l') {m' : Mem} (he : exRowNew m elem l = some m') :
    ∃ E', (newRow elem l'.toArray).run P w = .ok ⟨w.heap.size, 0, none⟩ (w.alloc (.cells l'.toArray elem)) ∧ E.le E' ∧ HR P w0 E' m'.H m'.next (w.alloc (.cells l'.toArray elem)) ∧ E'.blk m.next = some w.heap.size ∧ E'.cap m.next = none ∧
      (∀ i, i < m.lo → m'.H.get i = m.H.get i) ∧ m'.lo = m.lo ∧ m.next ≤ m'.next := by
  unfold exRowNew at he
  cases hq : exNew m.H m.next elem l with
  | none => rw [hq] at he; cases he
  | some H' =>
    rw [hq] at he
    simp only [Option.some.injEq] at he
    subst he
    obtain ⟨E', h1, h2, h3, h4, h5, h6⟩ := exNew_run h hl hq
    exact ⟨E', h1, h2, h3, h4, h5, fun i hi => h6 i (by omega), rfl, by simp⟩

/-! ### boxes -/
def exBox (m : Mem) (elem : TypeId) (v : Value) : Option (Value × Mem) :=
  match exRowNew m elem v.cells.toList with
  | some m' => some (.pointer (some ⟨m.next, 0, none⟩), m')
  | none => none
theorem exBox_run (h : HR P w0 E m.H m.next w) (hlo : m.lo ≤ m.next) {elem : TypeId} {v v' u : Value} (hv : VR E v v') {m' : Mem} (he : exBox m elem v = some (u, m')) : Good P w0 E m w (Instr.box elem v') u m' := by
  unfold exBox at he
  cases hq : exRowNew m elem v.cells.toList with
  | none => rw [hq] at he; cases he
  | some m1 =>
    rw [hq] at he
    simp only [Option.some.injEq, Prod.mk.injEq] at he
    obtain ⟨rfl, rfl⟩ := he
    obtain ⟨E', h1, h2, h3, h4, h5, h6, h7, h8⟩ := exRowNew_run h hlo hv.cells hq
    refine ⟨E', .pointer (some ⟨w.heap.size, 0, none⟩), _, ?_, h2, h3, .ptr 0 h4, h6, h7, h8⟩
    simp only [Instr.box, newVar, Sem.run_bind]
    have : v'.cells.toList.toArray = v'.cells := by simp
    rw [this] at h1 ⊢
    rw [h1]; rfl
def exAlloc (P : Program) (m : Mem) (elem : TypeId) : Option (Value × Mem) :=
  match P.info? elem with
  | some info => match info.zero with
    | some z => if clean z then exBox m elem z else none
    | none => none
  | none => none
theorem exAlloc_run (h : HR P w0 E m.H m.next w) (hlo : m.lo ≤ m.next) {elem : TypeId} {u : Value} {m' : Mem} (he : exAlloc P m elem = some (u, m')) (o : Value) : Good P w0 E m w (Instr.alloc elem true o) u m' := by
  unfold exAlloc at he
  cases hi : P.info? elem with
  | none => rw [hi] at he; cases he
  | some info =>
    rw [hi] at he
    simp only at he
    cases hz : info.zero with
    | none => rw [hz] at he; cases he
    | some z =>
      rw [hz] at he
      simp only at he
      split at he
      · rename_i hc
        obtain ⟨E', v', w', h1, h2⟩ := exBox_run h hlo (VR.of_clean E z hc) he
        refine ⟨E', v', w', ?_, h2⟩
        rw [← h1]
        simp [Instr.alloc, Instr.box, zeroValue, run_typeInfo w hi, hz]
      · cases he

/-! ### rows that are made -/
def exMade (z : Value) (n : Nat) : List Value := (madeCells z.cells n).toList
def exMakeSlice (P : Program) (m : Mem) (t : TypeId) (l c : Value) : Option (Value × Mem) :=
  match P.underlying t, l, c with
  | some (.slice elem), .int _ l, .int _ c =>
    match P.info? elem with
    | some info => match info.zero with
      | some z => if 0 ≤ l ∧ l ≤ c ∧ c.toNat * info.size ≤ 16777216 ∧ (info.bytes : Int) * c ≤ 281474976710656 ∧ c ≤ 9223372036854775807 ∧ cleanL (exMade z (c.toNat * info.size)) = true then
          (match exRowNew m elem (exMade z (c.toNat * info.size)) with
          | some m' => some (.slice (some ⟨m.next, 0, none⟩) l.toNat c.toNat, m')
          | none => none) else none
      | none => none
    | none => none
  | _, _, _ => none
theorem exMakeSlice_run (h : HR P w0 E m.H m.next w) (hlo : m.lo ≤ m.next) {t : TypeId} {l c u : Value} {m' : Mem} (he : exMakeSlice P m t l c = some (u, m')) : Good P w0 E m w (Instr.makeSlice t l c) u m' := by
  unfold exMakeSlice at he
  cases hu : P.underlying t with
  | none => rw [hu] at he; simp at he
  | some d =>
    rw [hu] at he
    cases d <;> try (simp at he; done)
    rename_i elem
    cases l <;> try (simp at he; done)
    rename_i kl l
    cases c <;> try (simp at he; done)
    rename_i kc c
    simp only at he
    cases hi : P.info? elem with
    | none => rw [hi] at he; cases he
    | some info =>
      rw [hi] at he
      simp only at he
      cases hz : info.zero with
      | none => rw [hz] at he; cases he
      | some z =>
        rw [hz] at he
        simp only at he
        split at he
        · rename_i hc
          obtain ⟨c1, c2, c3, c4, c5, c6⟩ := hc
          cases hq : exRowNew m elem (exMade z (c.toNat * info.size)) with
          | none => rw [hq] at he; cases he
          | some m1 =>
            rw [hq] at he
            simp only [Option.some.injEq, Prod.mk.injEq] at he
            obtain ⟨rfl, rfl⟩ := he
            obtain ⟨E', h1, h2, h3, h4, h5, h6, h7, h8⟩ := exRowNew_run h hlo (VRL.of_clean E _ c6) hq
            have hm := run_makeSlice (P := P) (w := w) t elem info z hu hi hz kl kc l c c1 c2 c3 c4 c5
            have e : (exMade z (c.toNat * info.size)).toArray = madeCells z.cells (c.toNat * info.size) := by simp [exMade]
            rw [e] at h3
            exact ⟨E', _, _, hm, h2, h3, .slice 0 _ h4 (by simp [capOf, h5]), h6, h7, h8⟩
        · cases he

/-! ### lengths -/
def exLen (P : Program) (t : TypeId) (x : Value) : Option Value :=
  match P.underlying t, x with
  | some .string, .string s => some (goInt s.size)
  | some (.array n _), _ => some (goInt n)
  | some (.slice _), .slice _ n _ => some (goInt n)
  | some (.map _ _), .map none => some (goInt 0)
  | _, _ => none
theorem exLen_run {t ty : TypeId} {x x' v : Value} (hx : VR E x x') (he : exLen P t x = some v) : (Builtin.len_ #[t] ty #[x']).run P w = .ok v w ∧ VR E v v := by
  unfold exLen at he
  cases hu : P.underlying t with
  | none => rw [hu] at he; simp at he
  | some d =>
    rw [hu] at he
    cases d <;> try (simp at he; done)
    all_goals (cases hx <;> first | (simp at he; done) | (simp only [Option.some.injEq] at he; subst he; exact ⟨by simp [Builtin.len_, run_underlying hu, Sem.run_pure], .int _ _⟩))
def exCap (P : Program) (H : T AObj) (t : TypeId) (x : Value) : Option Value :=
  match P.underlying t, x with
  | some (.slice _), .slice none _ c => some (goInt c)
  | some (.slice _), .slice (some ⟨i, _, none⟩) _ c => match H.get i with
    | some (.cells _ _ _ false) => some (goInt c)
    | some (.cells _ _ _ true) => some (.float .f64 c)
    | _ => none
  | _, _ => none
theorem exCap_run (h : HR P w0 E m.H m.next w) {t ty : TypeId} {x x' v : Value} (hx : VR E x x') (he : exCap P m.H t x = some v) : ∃ v', (Builtin.cap_ #[t] ty #[x']).run P w = .ok v' w ∧ VR E v v' := by
  unfold exCap at he
  cases hu : P.underlying t with
  | none => rw [hu] at he; simp at he
  | some d =>
    rw [hu] at he
    cases d <;> try (simp at he; done)
    cases hx <;> try (simp at he; done)
    · simp only [Option.some.injEq] at he; subst he; exact ⟨goInt _, by simp [Builtin.cap_, run_underlying hu, Sem.run_pure], .int _ _⟩
    · rename_i i b o n c c' hb hc
      simp only at he
      cases hg : m.H.get i with
      | none => rw [hg] at he; cases he
      | some ob =>
        cases ob <;> try (rw [hg] at he; simp at he; done)
        rename_i cs nb e g
        rw [hg] at he
        cases g
        · simp only [Option.some.injEq] at he
          subst he
          have := (h.capF hb hg).1 rfl
          obtain rfl : c' = c := by simpa [capOf, this] using hc
          exact ⟨goInt _, by simp [Builtin.cap_, run_underlying hu, Sem.run_pure], .int _ _⟩
        · simp only [Option.some.injEq] at he
          subst he
          have hcc : c ≤ c' := by
            unfold capOf at hc; split at hc <;> omega
          exact ⟨goInt c', by simp [Builtin.cap_, run_underlying hu, Sem.run_pure], .low c hcc⟩
end Go.Proofs.YtkecgbcfkbafpaaDoor.Ev
