/-
  Our machine's slices: cuts, rows that are made, appends and copies, and that they stand for the model's.
-/
import Derived.Laws.Append
import Derived.Laws.CopyRow
import Derived.Test.YtkecgbcfkbafpaaDoorEvD
namespace Go.Proofs.YtkecgbcfkbafpaaDoor.Ev
set_option linter.unusedSectionVars false
variable [Sig]
open Go.RowKit

variable {P : Program} {w0 w : World} {E : Env} {H : T AObj} {next : Nat}

/-- A row of elements of so many cells: how many, and their cells. -/
def exRow (H : T AObj) (size : Nat) : Value → Option (Nat × List Value)
  | .slice none n _ => if n = 0 then some (0, []) else none
  | .slice (some ⟨i, o, none⟩) n _ =>
    match H.get i with
    | some (.cells cs nb _ _) => if o + n * size ≤ nb then (cs.take o (n * size)).map fun l => (n, l) else none
    | _ => none
  | .string s => if size = 1 then some (s.size, s.data.toList.map fun b => .int .u8 b.toNat) else none
  | _ => none
theorem exRow_run (h : HR P w0 E H next w) {size : Nat} {v v' : Value} {n : Nat} {l : List Value} (hv : VR E v v') (he : exRow H size v = some (n, l)) :
    (∀ W, (Builtin.lenOf v').run P W = .ok n W) ∧ l.length = n * size ∧ ∃ l' : List Value, VRL E l l' ∧ ∀ W : World, (∀ i o b, H.get i = some o → E.blk i = some b → W.heap[b]? = w.heap[b]?) → (Builtin.firstCells size n v').run P W = .ok l'.toArray W := by
  cases hv <;> try (simp [exRow] at he; done)
  · rename_i s
    simp only [exRow] at he
    split at he
    · rename_i hs
      simp only [Option.some.injEq, Prod.mk.injEq] at he
      obtain ⟨rfl, rfl⟩ := he
      refine ⟨fun W => rfl, by subst hs; simp, _, VRL.of_clean E _ ?_, fun W _ => ?_⟩
      · induction s.data.toList with
        | nil => rfl
        | cons a l ih => simp [cleanL, clean, ih]
      · have : s.extract 0 s.size = s := by
          cases s with | mk d => simp [ByteArray.extract, ByteArray.size, ByteArray.copySlice]
        simp [Builtin.firstCells, this, Sem.run_pure]
        apply Array.toList_inj.1; simp
    · cases he
  · rename_i n' c
    simp only [exRow] at he
    split at he
    · rename_i hn
      simp only [Option.some.injEq, Prod.mk.injEq] at he
      obtain ⟨rfl, rfl⟩ := he
      subst hn
      exact ⟨fun W => rfl, by simp, [], .nil, fun W _ => rfl⟩
    · cases he
  · rename_i i b o n' c c' hb hc
    simp only [exRow] at he
    cases hg : H.get i with
    | none => rw [hg] at he; simp at he
    | some ob =>
      cases ob with
      | map _ _ => rw [hg] at he; simp at he
      | iter _ _ => rw [hg] at he; simp at he
      | miter _ _ _ _ => rw [hg] at he; simp at he
      | loop _ _ _ _ _ _ _ _ => rw [hg] at he; simp at he
      | dfr => rw [hg] at he; simp at he
      | cells cs nb elem g =>
        rw [hg] at he
        simp only at he
        split at he
        · rename_i hn
          cases ht : cs.take o (n' * size) with
          | none => rw [ht] at he; cases he
          | some l0 =>
            rw [ht] at he
            simp only [Option.map_some, Option.some.injEq, Prod.mk.injEq] at he
            obtain ⟨rfl, rfl⟩ := he
            obtain ⟨hlen, hget⟩ := T.take_spec _ _ _ _ ht
            obtain ⟨l', h1, h2⟩ := h.loadL (P := P) hb hg hn ht
            refine ⟨fun W => rfl, hlen, l', h2, fun W hW => ?_⟩
            -- the same cells in W
            have hll := h2.len
            have hcell : ∀ j v, l'[j]? = some v → W.cell? ((⟨b, o, none⟩ : Addr).add j) = some v := by
              intro j v hj
              have hjl : j < l0.length := by have := (List.getElem?_eq_some_iff.1 hj).1; omega
              have h0 : l0[j]? = some l0[j] := List.getElem?_eq_getElem hjl
              obtain ⟨v', e1, _, _⟩ := h.cell hb hg (o := o + j) (by omega) (hget j _ h0)
              rw [add_is]
              have hWb := hW i _ b hg hb
              have : W.cell? ⟨b, o + j, none⟩ = w.cell? ⟨b, o + j, none⟩ := by simp [World.cell?, hWb]
              rw [this]
              -- from the load
              have hrun := run_loadCells_list (P := P) (w := w) ⟨b, o, none⟩ ((List.range (n' * size)).map fun j => (w.cell? ⟨b, o + j, none⟩).getD Go.undef) (fun j v hv => by
                rw [add_is]
                have hj' : j < n' * size := by have := (List.getElem?_eq_some_iff.1 hv).1; simpa using this
                have h0' : l0[j]? = some l0[j] := List.getElem?_eq_getElem (by omega)
                obtain ⟨u', k1, _, _⟩ := h.cell hb hg (o := o + j) (by omega) (hget j _ h0')
                simp [hj', k1] at hv
                rw [k1, ← hv])
              rw [List.length_map, List.length_range, h1] at hrun
              injection hrun with hrun _
              have hl' := congrArg Array.toList hrun
              simp only [] at hl'
              rw [hl'] at hj
              simp [show j < n' * size by omega, e1] at hj
              rw [e1, ← hj]
            have := run_loadCells_list (P := P) (w := W) ⟨b, o, none⟩ l' hcell
            simp only [Builtin.firstCells]
            rw [show n' * size = l'.length by omega]
            exact this
        · cases he

/-! ### append -/
section
variable {t tx ty e : TypeId} {info : TypeInfo} {dx : TypeDesc} {x' : Value} {m : Nat} {news : List Value}
theorem run_app_fits (ht : P.underlying t = some (.slice e)) (hi : P.info? e = some info) (hx : P.underlying tx = some dx) (hnz : ∀ k, dx ≠ .int k)
    (hl : ∀ W, (Builtin.lenOf x').run P W = .ok m W) (hf : (Builtin.firstCells info.size m x').run P w = .ok news.toArray w) {b o n c : Nat} (hc : n + m ≤ c) {w1 : World}
    (hst : (storeCells ⟨b, o + n * info.size, none⟩ news).run P w = .ok () w1) :
    (Builtin.append_ #[t, tx] ty #[.slice (some ⟨b, o, none⟩) n c, x']).run P w = .ok (.slice (some ⟨b, o, none⟩) (n + m) c) w1 := by
  simp [Builtin.append_, run_underlying ht, run_underlying hx, sizeOf, typeInfo, hi, hl, hc, hf, add_is, hst]
theorem run_app_grows {z : Value} (ht : P.underlying t = some (.slice e)) (hi : P.info? e = some info) (hzz : info.zero = some z) (hx : P.underlying tx = some dx) (hnz : ∀ k, dx ≠ .int k)
    (hl : ∀ W, (Builtin.lenOf x').run P W = .ok m W) {A : Option Addr} {n c : Nat} {olds : List Value} (hfo : (Builtin.firstCells info.size n (.slice A n c)).run P w.drew = .ok olds.toArray w.drew) (hf : (Builtin.firstCells info.size m x').run P w.drew = .ok news.toArray w.drew) (hc : c < n + m)
    (h1 : n + m ≤ 1048576) (h2 : info.bytes ≤ 1048576) :
    ∃ C, n + m ≤ C ∧ (Builtin.append_ #[t, tx] ty #[.slice A n c, x']).run P w = .ok (.slice (some ⟨w.heap.size, 0, none⟩) (n + m) C) (w.drew.alloc (.cells (olds.toArray ++ news.toArray ++ Builtin.zeroCells z.cells (C - (n + m))) e)) := by
  have hn : ¬ (n + m ≤ c) := by omega
  have h63 : ¬ (9223372036854775807 < ((n : Int) + (m : Int))) := by omega
  have hle := nextslicecap_le hc
  have h48 : ¬ (281474976710656 < Builtin.nextslicecap (n + m) c * info.bytes) := by
    have := Nat.mul_le_mul hle h2
    have : 2 * (n + m) * 1048576 ≤ 2 * 1048576 * 1048576 := Nat.mul_le_mul (Nat.mul_le_mul (Nat.le_refl 2) h1) (Nat.le_refl _)
    omega
  refine ⟨(Question.appendCap (n + m) c e).cut (w.tape w.drawn (.appendCap (n + m) c e)), by simp [Question.cut], ?_⟩
  simp [Builtin.append_, run_underlying ht, run_underlying hx, sizeOf, typeInfo, zeroValue, hi, hzz, hl, hn, h63, h48, Question.forced, hf, hfo, newRow]
  congr 2
  apply Array.ext'
  simp [List.append_assoc]
end
end Go.Proofs.YtkecgbcfkbafpaaDoor.Ev
