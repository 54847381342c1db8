/-
  One operation of our machine stands for the model's.
-/
import Derived.Test.YtlkdjdcnbcegeaaGreatDoorKAJ
namespace Go.Proofs.YtlkdjdcnbcegeaaGreatDoor.Ev
open Go.RowKit
set_option linter.unusedSimpArgs false
set_option linter.unusedVariables false

variable {P : Program} {w0 w : World} {E : Env} {m : Mem}

theorem exNil_op {ρ : Operand → Value} {dst : Option Tmp} {type : TypeId} {pos : String} {after : Array Edge} {guard : Option (Nat × Bool)} {x : Operand} {v u : Value} (hv : VR E v (ρ x)) (he : exNil v = some u) :
    ∃ x', execOp ρ ⟨dst, .nilCheck x, type, pos, after, guard⟩ = pure (.value x') ∧ VR E u x' := by
  simp only [execOp]
  generalize ρ x = v' at hv
  cases hv <;> first | (simp [exNil] at he; done) | (simp only [exNil, Option.some.injEq] at he; subst he; refine ⟨_, rfl, ?_⟩; constructor <;> assumption)
set_option maxHeartbeats 4000000 in
theorem exOp_run (h : HR P w0 E m.H m.next w) (hlo : m.lo ≤ m.next) {tm : T Value} {nt : Nat} {a : Act} (ha : AR E tm nt a) {o : Oper} {v : Value} {m' : Mem} (he : exOp P m tm o = some (v, m')) :
    OpGood P w0 E m w (execOp a.eval o) v m' := by
  obtain ⟨dst, op, type, pos, after, guard⟩ := o
  have hmv : ∀ x, same m (ev tm x) = some (v, m') → OpGood P w0 E m w (pure (.value (a.eval x))) v m' := by
    intro x e
    cases hx : ev tm x with
    | none => rw [hx] at e; cases e
    | some u =>
      rw [hx] at e
      simp only [same, Option.some.injEq, Prod.mk.injEq] at e
      obtain ⟨rfl, rfl⟩ := e
      exact ⟨E, _, w, .inl rfl, E.le_refl, h, ev_VR ha hx, fun _ _ => rfl, rfl, Nat.le_refl _⟩
  by_cases hnc : ∃ x, op = .nilCheck x
  · obtain ⟨x, rfl⟩ := hnc
    simp only [exOp] at he
    split at he
    · rename_i u hx
      cases hq : exNil u with
      | none => rw [hq] at he; cases he
      | some q =>
        rw [hq] at he
        simp only [same, Option.some.injEq, Prod.mk.injEq] at he
        obtain ⟨rfl, rfl⟩ := he
        obtain ⟨x', e, hr⟩ := exNil_op (dst := dst) (type := type) (pos := pos) (after := after) (guard := guard) (ev_VR ha hx) hq
        exact ⟨E, x', w, .inl (by rw [e]; rfl), E.le_refl, h, hr, fun _ _ => rfl, rfl, Nat.le_refl _⟩
    · cases he
  unfold exOp at he
  cases op <;> first | exact absurd ⟨_, rfl⟩ hnc | skip
  all_goals clear hnc
  all_goals try (cases he; done)
  all_goals simp only [execOp] at he ⊢
  case move x => exact hmv x he
  case assign x => exact hmv x he
  case pick c x y =>
    split at he
    · rename_i hc
      have hb := ev_VR ha hc
      generalize hce : a.eval c = vc at hb
      cases hb
      have := hmv x he
      simpa [asBool, Sem.run_bind, OpGood, Sem.run_pure, Result.andThen, hce] using this
    · rename_i hc
      have hb := ev_VR ha hc
      generalize hce : a.eval c = vc at hb
      cases hb
      have := hmv y he
      simpa [asBool, Sem.run_bind, OpGood, Sem.run_pure, Result.andThen, hce] using this
    · cases he
  case alloc t => exact .of (exAlloc_run h hlo he _)
  case box t x =>
    split at he
    · rename_i hx; exact .of (exBox_run h hlo (ev_VR ha hx) he)
    · cases he
  case build t parts =>
    split at he
    · rename_i ps info hp hi
      split at he
      · rename_i z out hz hb
        split at he
        · rename_i hc
          simp only [Option.some.injEq, Prod.mk.injEq] at he
          obtain ⟨rfl, rfl⟩ := he
          have hpr := evps_PR ha _ _ hp
          obtain ⟨out', h1, h2⟩ := run_buildE (P := P) (w := w) (t := t) (ps := ps.toArray) (ps' := parts.map fun (i, x) => (i, a.eval x)) (by simpa using hpr) hi hz hc hb
          exact .of (.same h h1 (by have := VR.agg h2; simpa using this))
        · cases he
      · cases he
    · cases he
  case buildSlice t len parts =>
    split at he
    · rename_i ps hp
      have hpr := evps_PR ha _ _ hp
      exact .of (exBuildSlice_run h hlo (ps := ps.toArray) (ps' := parts.map fun (i, x) => (i, a.eval x)) (by simpa using hpr) (by simpa using he))
    · cases he
  case load t x =>
    split at he
    · rename_i u hx; exact .same h he fun e => exLoad_run h (ev_VR ha hx) e
    · cases he
  case store t x y =>
    split at he
    · rename_i u1 u2 hx hy
      split at he
      · rename_i H' hs
        simp only [Option.some.injEq, Prod.mk.injEq] at he
        obtain ⟨rfl, rfl⟩ := he
        obtain ⟨w', h1, h2, h3⟩ := exStore_run h (ev_VR ha hx) (ev_VR ha hy) hs
        exact ⟨E, Go.undef, w', .inr ⟨by rw [Sem.run_bind, h1]; rfl, rfl⟩, E.le_refl, h2, VR.undef E, h3, rfl, Nat.le_refl _⟩
      · cases he
    · cases he
  case binOp op t x y yt =>
    split at he
    · rename_i u1 u2 hx hy
      exact .same h he fun e => ⟨v, exBin_run (ev_VR ha hx) (ev_VR ha hy) e⟩
    · cases he
  case unOp op t x =>
    split at he
    · rename_i u hx
      split at he
      · rename_i hc
        rw [(ev_VR ha hx).eq_of_clean hc]
        exact .same h he fun e => ⟨v, cleanQ_run e⟩
      · cases he
    · cases he
  case convert src dst x =>
    split at he
    · rename_i u hx
      split at he
      · rename_i r hbytes
        injection he with he
        subst he
        exact .of (exBytes_run h hlo (ev_VR ha hx) hbytes)
      split at he
      · rename_i hc
        rw [(ev_VR ha hx).eq_of_clean hc]
        exact .same h he fun e => ⟨v, cleanQ_run e⟩
      · split at he
        · rename_i e1 hs hd
          split at he
          · rename_i hel
            refine .same h he fun e => ?_
            obtain ⟨u', h1, h2⟩ := exToString_run h (ev_VR ha hx) e
            refine ⟨u', ?_, h2⟩
            rw [← h1]
            have hv := ev_VR ha hx
            generalize a.eval x = vx at hv
            unfold exToString at e
            cases hv <;> first | (simp at e; done) | (simp [convert, run_underlying hs, run_underlying hd, run_underlying hel])
          · cases he
        · exact .same h he fun e => exUPtr_run h (ev_VR ha hx) e
    · cases he
  case makeInterface t x =>
    split at he
    · rename_i u hx; exact .same h he fun e => exIface_run (ev_VR ha hx) e
    · cases he
  case makeFunc fn first captured =>
    cases fn <;> try (simp at he; done)
    rename_i f
    simp only at he
    split at he
    · rename_i g l hg hl
      simp only [Option.some.injEq, Prod.mk.injEq] at he
      obtain ⟨rfl, rfl⟩ := he
      have hv := VR.func f (evs_VR ha _ _ hg) (evs_VR ha _ _ hl)
      refine .of (.same h (v' := .func (.func f) (first.map a.eval) (captured.map a.eval)) (by simp [Instr.makeFunc, Sem.run_pure]) ?_)
      have e1 : (captured.toList.map a.eval).toArray = captured.map a.eval := by apply Array.toList_inj.1; simp
      have e2 : (first.toList.map a.eval).toArray = first.map a.eval := by apply Array.toList_inj.1; simp
      rw [e1, e2] at hv
      exact hv
    · cases he
  case makeMap t r =>
    split at he
    · rename_i hh hr
      rw [evO_eq ha hr]
      exact .of (exMakeMap_run h hlo he)
    · cases he
  case makeSlice t l c =>
    split at he
    · rename_i l1 c1 hl hc
      have e1 : a.eval l = l1 := by simpa using evO_eq ha hl
      have e2 : a.eval c = c1 := by simpa using evO_eq ha hc
      rw [e1, e2]
      exact .of (exMakeSlice_run h hlo he)
    · cases he
  case slice t x lo hi mx =>
    cases mx <;> try (simp at he; done)
    simp only at he
    split at he
    · rename_i u l1 h1 hx hl hh
      rw [evO_eq ha hl, evO_eq ha hh]
      split at he
      · rename_i hc
        rw [(ev_VR ha hx).eq_of_clean hc]
        exact .same h he fun e => ⟨v, cleanQ_run e⟩
      · exact .same h he fun e => exSlice_run h (ev_VR ha hx) e
    · cases he
  case fieldAddr s x f =>
    split at he
    · rename_i u hx; exact .same h he fun e => exFieldAddr_run (ev_VR ha hx) e
    · cases he
  case field t x f =>
    split at he
    · rename_i u hx; exact .same h he fun e => exField_run (ev_VR ha hx) e
    · cases he
  case indexAddr t x i =>
    split at he
    · rename_i u1 u2 hx hi; exact .same h he fun e => exIndexAddr_run (ev_VR ha hx) (ev_VR ha hi) e
    · cases he
  case index t x i =>
    split at he
    · rename_i u1 u2 hx hi; exact .same h he fun e => exIndex_run (ev_VR ha hx) (ev_VR ha hi) e
    · cases he
  case lookup t x k ok =>
    split at he
    · rename_i u1 u2 hx hk
      have e1 : a.eval k = u2 := by simpa using evO_eq ha hk
      rw [e1]
      exact .same h he fun e => exLookup_run h (ev_VR ha hx) e
    · cases he
  case mapUpdate t x k y =>
    split at he
    · rename_i u1 u2 u3 hx hk hy
      split at he
      · rename_i m1 hu
        simp only [Option.some.injEq, Prod.mk.injEq] at he
        obtain ⟨rfl, rfl⟩ := he
        have e1 : a.eval k = u2 := by simpa using evO_eq ha hk
        obtain ⟨w', h1, h2, h3, h4, h5⟩ := exUpdate_run h (ev_VR ha hx) (ev_VR ha hy) hu
        exact ⟨E, Go.undef, w', .inr ⟨by rw [Sem.run_bind, e1, h1]; rfl, rfl⟩, E.le_refl, h2, VR.undef E, h3, h4, Nat.le_of_eq h5⟩
      · cases he
    · cases he
  case insert t x k y =>
    split at he
    · rename_i u1 u2 u3 hx hk hy
      split at he
      · rename_i m1 hu
        simp only [Option.some.injEq, Prod.mk.injEq] at he
        obtain ⟨rfl, rfl⟩ := he
        have e1 : a.eval k = u2 := by simpa using evO_eq ha hk
        obtain ⟨w', h1, h2, h3, h4, h5⟩ := exUpdate_run h (ev_VR ha hx) (ev_VR ha hy) hu
        exact ⟨E, Go.undef, w', .inr ⟨by rw [Sem.run_bind, e1, h1]; rfl, rfl⟩, E.le_refl, h2, VR.undef E, h3, h4, Nat.le_of_eq h5⟩
      · cases he
    · cases he
  case range t x =>
    split at he
    · rename_i u hx; exact .of (exRange_run h hlo (ev_VR ha hx) he)
    · cases he
  case next it str =>
    split at he
    · rename_i u hx; exact .of (exNext_run h (ev_VR ha hx) he _)
    · cases he
  case entry it =>
    split at he
    · rename_i u hx; exact .same h he fun e => exEntry_run h (ev_VR ha hx) e
    · cases he
  case typeAssert x xt t ok =>
    split at he
    · rename_i u hx; exact .same h he fun e => exAssert_run (ev_VR ha hx) e
    · cases he
  case extract x i =>
    split at he
    · rename_i u hx; exact .same h he fun e => exExtract_run (ev_VR ha hx) e
    · cases he
  case call c =>
    obtain ⟨callee, args, argTypes⟩ := c
    cases callee <;> try (simp at he; done)
    rename_i b
    simp only at he
    split at he
    · rename_i l hl
      have hv := evs_VR ha _ _ hl
      have this := fun cs => exBuiltin_run (cs := cs) h hlo hv he
      simp only [Array.toArray_toList, List.map_toArray] at this
      have e1 : (args.toList.map a.eval).toArray = args.map a.eval := by apply Array.toList_inj.1; simp
      rw [e1] at this
      exact this _
    · cases he
end Go.Proofs.YtlkdjdcnbcegeaaGreatDoor.Ev
