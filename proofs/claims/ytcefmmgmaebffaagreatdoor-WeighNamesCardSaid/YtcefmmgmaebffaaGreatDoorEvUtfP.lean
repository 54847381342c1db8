/-
  utf.Points, as our machine takes it: a summary that is so.
-/
import Derived.Test.YtcefmmgmaebffaaGreatDoorUtfPts
import Derived.Test.YtcefmmgmaebffaaGreatDoorEvZE
namespace Go.Proofs.YtcefmmgmaebffaaGreatDoor.Ev
open Go.RowKit
set_option linter.unusedSimpArgs false

section
variable {P : Program} {w0 w w' : World} {E : Env} {H : T AObj} {next : Nat}
/-- A new block, wherever it lies behind the old ones. -/
theorem HR.newAt (h : HR P w0 E H next w) (hn : next < 1073741824) {c : Option (Nat × Nat)} {o : AObj} {r : Obj} {b : Nat} (hge : w.heap.size ≤ b) (ho : OR P (E.more next b c) next o r) (hb : Below w.heap.size w w') (hnew : w'.heap[b]? = some r) :
    HR P w0 (E.more next b c) (H.set next o) (next + 1) w' := by
  have hle := Env.le_more h b c
  have hbk : ∀ i b', (E.more next b c).blk i = some b' → (i = next ∧ b' = b) ∨ (i ≠ next ∧ E.blk i = some b') := by
    intro i b' e
    simp only [Env.more] at e
    split at e
    · injection e with e; exact .inl ⟨‹_›, e.symm⟩
    · exact .inr ⟨‹_›, e⟩
  have hold : ∀ j o', H.get j = some o' → ∀ b', E.blk j = some b' → b' < w.heap.size := fun j o' hj b' e => by
    obtain ⟨b2, r', k1, k2, _⟩ := h.obj j o' hj
    rw [e] at k1
    injection k1 with k1
    subst k1
    exact (Array.getElem?_eq_some_iff.1 k2).1
  have hlt : b < w'.heap.size := (Array.getElem?_eq_some_iff.1 hnew).1
  refine ⟨h.below.trans ⟨hb.os, hb.tape, hb.output, hb.size, fun k hk => hb.block k (Nat.lt_of_lt_of_le hk h.below.size)⟩, ?_, fun g hg => (hle g g (h.glob g hg)).1, ?_, ?_⟩
  · intro i b' e
    rcases hbk i b' e with ⟨rfl, rfl⟩ | ⟨_, e⟩
    · exact ⟨by omega, fun _ => ⟨Nat.le_trans h.below.size hge, hlt⟩⟩
    · have := h.dom i b' e; have := hb.size; omega
  · intro i j o1 o2 b' h1 h2 e1 e2
    rw [T.get_set _ _ _ hn] at h1 h2
    rcases hbk i b' e1 with ⟨rfl, rfl⟩ | ⟨hi, e1'⟩ <;> rcases hbk j _ e2 with ⟨rfl, hb2⟩ | ⟨hj, e2'⟩
    · rfl
    · rw [if_neg hj] at h2; have := hold j o2 h2 _ e2'; omega
    · rw [if_neg hi] at h1; subst hb2; have := hold i o1 h1 _ e1'; omega
    · rw [if_neg hi] at h1; rw [if_neg hj] at h2
      exact h.inj i j o1 o2 b' h1 h2 e1' e2'
  · intro i o1 h1
    rw [T.get_set _ _ _ hn] at h1
    split at h1
    · injection h1 with h1; subst h1
      rename_i hi; subst hi
      exact ⟨b, r, by simp [Env.more], hnew, ho⟩
    · obtain ⟨b', r1, g1, g2, g3⟩ := h.obj i o1 h1
      exact ⟨b', r1, (hle i b' g1).1, by rw [hb.block b' (Array.getElem?_eq_some_iff.1 g2).1]; exact g2, g3.mono hle g1⟩
theorem HR.later (h : HR P w0 E H next w) (hb : Below w.heap.size w w') : HR P w0 E H next w' :=
  h.keep ⟨hb.os, hb.tape, hb.output, hb.size, fun k hk => hb.block k (Nat.lt_of_lt_of_le hk h.below.size)⟩ fun i o b hi he => by
    obtain ⟨b', r, k1, k2, _⟩ := h.obj i o hi
    rw [he] at k1
    injection k1 with k1
    subst k1
    exact hb.block b (Array.getElem?_eq_some_iff.1 k2).1
end

/-- What utf.Points comes to. -/
def utfSum (fp it : Nat) : Sums := fun f l m =>
  if Nat.beq f fp then match l with
    | [.string s] => if s.size ≤ 1099511627776 then
        match badAt (chars s) with
        | some k => some (.ret (.tuple ⟨[.slice none 0 0, .int .i64 30, .int .i64 (k : Nat)]⟩), m)
        | none => match ptsOf (chars s) with
          | [] => some (.ret (.tuple ⟨[.slice none 0 0, .int .i64 0, .int .i64 0]⟩), m)
          | p :: r => if m.next < 1073741824 ∧ (p :: r).length ≤ 1073741824 then
              some (.ret (.tuple ⟨[.slice (some ⟨m.next, 0, none⟩) (p :: r).length (p :: r).length, .int .i64 0, .int .i64 0]⟩), rowMem m it (T.leaf.fill 0 ((p :: r).map (Value.int .i64))) (p :: r).length) else none
      else none
    | _ => none
  else none
theorem int_cells : Tryz.prog.cellsOf 3 = 1 := by kernel_rfl
theorem points_body : (Tryz.prog.funcs[33]?).map (·.body.isSome) = some true := by kernel_rfl
theorem utfSum_ok {w0 : World} : SumOK Tryz.prog w0 (utfSum 33 3) := by
  intro f l m out m' he
  unfold utfSum at he
  split at he
  · rename_i hf
    have hf := Nat.eq_of_beq_eq_true hf
    subst hf
    refine ⟨?_, fun E w args h hlo hl => ?_⟩
    · have := points_body
      cases hfn : Tryz.prog.funcs[33]? with
      | none => rw [hfn] at this; cases this
      | some fn => rw [hfn] at this; exact ⟨fn, rfl, by simpa using this⟩
    · split at he
      · rename_i s
        split at he
        · rename_i hs
          obtain ⟨al⟩ := args
          simp only at hl
          cases hl with
          | cons hv hl =>
            cases hl; cases hv
            refine (points_any s hs w).mono fun e W' hp => ?_
            rcases hp with ⟨k, hk, rfl, hb⟩ | ⟨hk, v, rfl, hrow, hv, hb⟩
            · rw [hk] at he
              simp only [Option.some.injEq, Prod.mk.injEq] at he
              obtain ⟨rfl, rfl⟩ := he
              exact ⟨E, E.le_refl, h.later hb, rfl, Nat.le_refl _, .tuple (.cons (.slice0 0 0) (.cons (.int _ _) (.cons (.int _ _) .nil)))⟩
            · rw [hk] at he
              simp only at he
              cases hpt : ptsOf (chars s) with
              | nil =>
                rw [hpt] at he
                simp only [Option.some.injEq, Prod.mk.injEq] at he
                obtain ⟨rfl, rfl⟩ := he
                have hc : chars s = [] := by
                  have := ptsOf_len (chars s)
                  rw [hpt] at this
                  exact List.length_eq_zero_iff.1 this.symm
                rw [hv.2 hc]
                exact ⟨E, E.le_refl, h.later hb, rfl, Nat.le_refl _, .tuple (.cons (.slice0 0 0) (.cons (.int _ _) (.cons (.int _ _) .nil)))⟩
              | cons p r =>
                rw [hpt] at he hrow
                simp only at he
                split at he
                · rename_i hc
                  simp only [Option.some.injEq, Prod.mk.injEq] at he
                  obtain ⟨rfl, rfl⟩ := he
                  rcases hrow.2 with ⟨_, h0⟩ | ⟨g, cap, cur, rfl, hg, hcur, hn, hm, hsz, htake⟩
                  · simp at h0
                  · have hcs : cur.size = cap := by omega
                    have hnew := h.newAt hc.1 (c := some (cap, 1)) (o := .cells (T.leaf.fill 0 ((p :: r).map (Value.int .i64))) (p :: r).length 3 true) (r := .cells cur 3 (0, 0)) hg
                      ⟨cur, ⟨_, _, .inl rfl, fun _ => rfl, rfl⟩, by simp [sizeOk, Env.more, hcs, int_cells]; simpa using hn, fun j u hj hu => by
                        rw [T.get_fill _ _ _ _ (by simpa using hc.2), if_pos (by simpa using hj)] at hu
                        simp only [Nat.sub_zero] at hu
                        have hu' := hu
                        rw [← htake, Nat.mul_one, List.getElem?_take_of_lt hj, Array.getElem?_toList] at hu
                        rw [List.getElem?_map] at hu'
                        cases hq : (p :: r)[j]? with
                        | none => rw [hq] at hu'; cases hu'
                        | some z => rw [hq] at hu'; simp only [Option.map_some, Option.some.injEq] at hu'; subst hu'; exact ⟨_, hu, .int _ _⟩⟩ hb hcur
                    refine ⟨_, Env.le_more h g _, hnew, rfl, Nat.le_succ _, ?_⟩
                    exact .tuple (.cons (.slice 0 _ (by simp [Env.more]) (by simp [capOf, Env.more]; simpa using hn)) (.cons (.int _ _) (.cons (.int _ _) .nil)))
                · cases he
        · cases he
      · cases he
  · cases he
end Go.Proofs.YtcefmmgmaebffaaGreatDoor.Ev
