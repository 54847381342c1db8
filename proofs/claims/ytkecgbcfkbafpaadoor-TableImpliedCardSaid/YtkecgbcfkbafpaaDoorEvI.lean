/-
  Our machine's cuts, rows that are made, copies, lengths, boxes, and that they stand for the model's.
-/
import Derived.Test.YtkecgbcfkbafpaaDoorEvH
namespace Go.Proofs.YtkecgbcfkbafpaaDoor.Ev
set_option linter.unusedSectionVars false
variable [Sig]
open Go.RowKit
set_option linter.unusedSimpArgs false

variable {P : Program} {w0 w : World} {E : Env} {m : Mem}

/-! ### cuts -/
def bnd (y : Nat) : Value → Option Nat
  | .int _ i => if 0 ≤ i ∧ i ≤ (y : Int) then some i.toNat else none
  | _ => none
theorem bnd_run {y y' l : Nat} {v : Value} (h : bnd y v = some l) (hy : y ≤ y') (c : BoundsCode) : (Instr.sliceBound v y' c).run P w = .ok l w := by
  cases v <;> simp only [bnd] at h <;> try cases h
  rename_i k i
  split at h
  · rename_i hc
    injection h with h
    subst h
    simp [Instr.sliceBound, asIntOf, Sem.run_pure, hc.1, show i ≤ (y' : Int) by omega]
  · cases h
def bndO (y d : Nat) : Option Value → Option Nat
  | some v => bnd y v
  | none => some d
/-- Low, high: of a row of so many, with room for so many. -/
def exBounds (len cap : Nat) (low high : Option Value) : Option (Nat × Nat) :=
  match bndO cap len high with
  | none => none
  | some h => match bndO h 0 low with
    | none => none
    | some l => some (l, h)
theorem exBounds_run {len cap cap' l h : Nat} {low high : Option Value} (he : exBounds len cap low high = some (l, h)) (hc : cap ≤ cap') (b : Bool) : (Instr.sliceBounds b len cap' low high none).run P w = .ok (l, h, cap') w := by
  unfold exBounds at he
  cases hh : bndO cap len high with
  | none => rw [hh] at he; cases he
  | some h1 =>
    rw [hh] at he
    simp only at he
    cases hl : bndO h1 0 low with
    | none => rw [hl] at he; cases he
    | some l1 =>
      rw [hl] at he
      simp only [Option.some.injEq, Prod.mk.injEq] at he
      obtain ⟨rfl, rfl⟩ := he
      have e1 : ∀ c, (match high with | some v => Instr.sliceBound v cap' c | none => pure len : Sem Nat).run P w = .ok h1 w := by
        intro c
        cases high with
        | none => simp only [bndO, Option.some.injEq] at hh; subst hh; rfl
        | some v => exact bnd_run hh hc _
      have e2 : ∀ c, (match low with | some v => Instr.sliceBound v h1 c | none => pure 0 : Sem Nat).run P w = .ok l1 w := by
        intro c
        cases low with
        | none => simp only [bndO, Option.some.injEq] at hl; subst hl; rfl
        | some v => exact bnd_run hl (Nat.le_refl _) _
      unfold Instr.sliceBounds
      cases high with
      | none =>
        simp only [bndO, Option.some.injEq] at hh
        subst hh
        cases low with
        | none => simp only [bndO, Option.some.injEq] at hl; subst hl; simp [Sem.run_pure]
        | some v => simp [Sem.run_pure, bnd_run (P := P) (w := w) hl (Nat.le_refl _)]
      | some u =>
        cases low with
        | none => simp only [bndO, Option.some.injEq] at hl; subst hl; simp [Sem.run_pure, bnd_run (P := P) (w := w) hh hc]
        | some v => simp [Sem.run_pure, bnd_run (P := P) (w := w) hl (Nat.le_refl _), bnd_run (P := P) (w := w) hh hc]

/-- A cut of a row, of an array behind an address. -/
def exSlice (P : Program) (H : T AObj) (t : TypeId) (x : Value) (low high : Option Value) : Option Value :=
  match P.underlying t, x with
  | some (.array n elem), .pointer (some ⟨i, o, none⟩) =>
    match H.get i, P.info? elem, exBounds n n low high with
    | some (.cells _ _ _ false), some info, some (l, h) => some (.slice (some ⟨i, if n = l then o else o + l * info.size, none⟩) (h - l) (n - l))
    | _, _, _ => none
  | some (.slice elem), .slice (some ⟨i, o, none⟩) n c =>
    match H.get i, P.info? elem, exBounds n c low high with
    | some (.cells _ _ _ false), some info, some (l, h) => some (.slice (some ⟨i, if c = l then o else o + l * info.size, none⟩) (h - l) (c - l))
    | some (.cells _ _ eb true), some info, some (l, h) => if eb = elem ∧ (l < c ∨ l = 0) then some (.slice (some ⟨i, o + l * info.size, none⟩) (h - l) (c - l)) else if h = l then some (.slice (some ⟨i, 0, some 0⟩) 0 0) else none
    | _, _, _ => none
  | _, _ => none
theorem HR.capF {H : T AObj} {next : Nat} (h : HR P w0 E H next w) {i n b0 : Nat} (hb : E.blk i = some b0) {cs : T Value} {e : TypeId} {g : Bool} (hg : H.get i = some (.cells cs n e g)) : (g = false → E.cap i = none) ∧ (g = true → ∃ C s, E.cap i = some (C, s) ∧ 0 < s ∧ P.cellsOf e = s) := by
  obtain ⟨b, r, h1, h2, arr, ⟨fz, elem', hz, hel, rfl⟩, hs, hc⟩ := h.obj hb hg
  cases hcp : E.cap i with
  | none => simp only [sizeOk, hcp] at hs; exact ⟨fun _ => rfl, fun e => by rw [hs.2] at e; cases e⟩
  | some q => simp only [sizeOk, hcp] at hs; exact ⟨fun e => (by rw [hs.2.2.2.1] at e; cases e), fun _ => ⟨q.1, q.2, rfl, hs.2.2.1, hs.2.2.2.2⟩⟩
theorem exSlice_run (h : HR P w0 E m.H m.next w) {t : TypeId} {x x' v : Value} {low high : Option Value} (hx : VR E x x') (he : exSlice P m.H t x low high = some v) : ∃ v', (Instr.sliceAt t x' low high none).run P w = .ok v' w ∧ VR E v v' := by
  unfold exSlice at he
  cases hu : P.underlying t with
  | none => rw [hu] at he; simp at he
  | some d =>
    rw [hu] at he
    cases d <;> try (simp at he; done)
    · rename_i elem
      cases hx <;> try (simp at he; done)
      rename_i i b o n c c' hb hcap
      simp only at he
      cases hg : m.H.get i with
      | none => rw [hg] at he; simp at he
      | some ob =>
        cases ob <;> try (rw [hg] at he; simp at he; done)
        rename_i cs nb eb g
        have hcp := h.capF hb hg
        cases hi : P.info? elem with
        | none => rw [hg, hi] at he; cases g <;> simp at he
        | some info =>
          cases hbd : exBounds n c low high with
          | none => rw [hg, hi, hbd] at he; cases g <;> simp at he
          | some q =>
            obtain ⟨l, hh⟩ := q
            rw [hg, hi, hbd] at he
            cases g with
            | false =>
              simp only [Option.some.injEq] at he
              subst he
              have hc0 := hcp.1 rfl
              obtain rfl : c' = c := by simpa [capOf, hc0] using hcap
              have hrb := exBounds_run (P := P) (w := w) hbd (Nat.le_refl _) true
              refine ⟨.slice (some ⟨b, if c' = l then o else o + l * info.size, none⟩) (hh - l) (c' - l), ?_, .slice _ _ hb (by simp [capOf, hc0])⟩
              simp [Instr.sliceAt, run_underlying hu, Instr.slice, hrb, run_sizeOf w hi, Program.cellsOf, hi, Sem.run_pure]
              split <;> simp [add_is]
            | true =>
              obtain ⟨C, s, hc1, hs0, hcs⟩ := hcp.2 rfl
              simp only at he
              split at he
              · rename_i hcond
                obtain ⟨rfl, hl⟩ := hcond
                simp only [Option.some.injEq] at he
                subst he
                have hsz : info.size = s := by rw [← hcs]; simp [Program.cellsOf, hi]
                obtain ⟨q1, q2⟩ : c ≤ c' ∧ c' = C - o / s := by simpa [capOf, hc1] using hcap
                have hrb := exBounds_run (P := P) (w := w) hbd q1 true
                refine ⟨.slice (some ⟨b, o + l * info.size, none⟩) (hh - l) (c' - l), ?_, .slice _ _ hb ?_⟩
                · simp [Instr.sliceAt, run_underlying hu, Instr.slice, hrb, run_sizeOf w hi, Program.cellsOf, hi, Sem.run_pure]
                  split
                  · rename_i e; rcases hl with hl | hl
                    · omega
                    · subst hl; simp
                  · simp [add_is]
                · have : (o + l * s) / s = o / s + l := by rw [Nat.add_mul_div_right _ _ hs0]
                  simp only [capOf, hc1, hsz, this]
                  omega
              · split at he
                · rename_i hhl
                  subst hhl
                  simp only [Option.some.injEq] at he
                  subst he
                  obtain ⟨q1, q2⟩ : c ≤ c' ∧ c' = C - o / s := by simpa [capOf, hc1] using hcap
                  have hrb := exBounds_run (P := P) (w := w) hbd q1 true
                  refine ⟨.slice (some (if c' = hh then ⟨b, o, none⟩ else (⟨b, o, none⟩ : Addr).add (hh * info.size))) 0 (c' - hh), ?_, .slicex _ _ _⟩
                  simp [Instr.sliceAt, run_underlying hu, Instr.slice, hrb, run_sizeOf w hi, Program.cellsOf, hi, Sem.run_pure]
                  split <;> rfl
                · cases he
    · rename_i n elem
      cases hx <;> try (simp at he; done)
      rename_i i b o hb
      simp only at he
      cases hg : m.H.get i with
      | none => rw [hg] at he; simp at he
      | some ob =>
        cases ob <;> try (rw [hg] at he; simp at he; done)
        rename_i cs nb eb g
        have hcp := h.capF hb hg
        cases hi : P.info? elem with
        | none => rw [hg, hi] at he; cases g <;> simp at he
        | some info =>
          cases hbd : exBounds n n low high with
          | none => rw [hg, hi, hbd] at he; cases g <;> simp at he
          | some q =>
            obtain ⟨l, hh⟩ := q
            rw [hg, hi, hbd] at he
            cases g with
            | true => simp at he
            | false =>
              simp only [Option.some.injEq] at he
              subst he
              have hc0 := hcp.1 rfl
              have hrb := exBounds_run (P := P) (w := w) hbd (Nat.le_refl _) false
              refine ⟨.slice (some ⟨b, if n = l then o else o + l * info.size, none⟩) (hh - l) (n - l), ?_, .slice _ _ hb (by simp [capOf, hc0])⟩
              simp [Instr.sliceAt, run_underlying hu, Instr.sureAddr, hrb, run_sizeOf w hi, Program.cellsOf, hi, Sem.run_pure]
              split <;> simp [add_is]
end Go.Proofs.YtkecgbcfkbafpaaDoor.Ev
