/-
  Our machine's operations on memory, and that they stand for the model's.
-/
import Derived.Laws.Cells
import Derived.ChangeKeysEq
import Derived.Laws.Entries
import Derived.Test.YtkecgbcfkbafpaaDoorEvB
namespace Go.Proofs.YtkecgbcfkbafpaaDoor.Ev
set_option linter.unusedSectionVars false
variable [Sig]
open Go.RowKit

/-- What a computation that asks no memory comes to. -/
def valQ (P : Program) {α : Type} : Sem α → Option α
  | .pure a => some a
  | .program k => valQ P (k P)
  | .mark _ k => valQ P k
  | _ => none
theorem valQ_run {P : Program} {α : Type} (w : World) : ∀ (s : Sem α) (a : α), valQ P s = some a → s.run P w = .ok a w := by
  intro s
  induction s with
  | pure b => intro a h; simp [valQ] at h; subst h; rfl
  | program k ih => intro a h; simp only [valQ] at h; exact ih P a h
  | mark m k ih => intro a h; simp only [valQ] at h; exact ih a h
  | _ => intro a h; simp [valQ] at h

variable {P : Program} {w0 w : World} {E : Env} {H : T AObj} {next : Nat}

theorem HR.congr {H' : T AObj} (h : HR P w0 E H next w) (e : ∀ i, H'.get i = H.get i) : HR P w0 E H' next w :=
  ⟨h.below, h.dom, h.glob, fun i j o o' b h1 h2 => h.inj i j o o' b ((e i).symm.trans h1) ((e j).symm.trans h2), h.ph, fun i o h1 hp => h.born i o ((e i).symm.trans h1) hp⟩

def cell1 : Value → Bool
  | .agg _ | .tuple _ => false
  | _ => true
theorem VR.cell1 {v v' : Value} (h : VR E v v') (hc : cell1 v = true) : Ev.cell1 v' = true := by
  cases h <;> first | (simp_all [Ev.cell1]; done) | (rename_i k h; cases v' <;> first | rfl | (simp [opqOK] at h))
theorem VR.cells {v v' : Value} (h : VR E v v') : VRL E v.cells.toList v'.cells.toList := by
  cases h with
  | agg h => exact h
  | opq k h => cases v' <;> first | exact .cons (.opq k h) .nil | (simp [opqOK] at h)
  | bool b => exact .cons (.bool b) .nil
  | int k n => exact .cons (.int k n) .nil
  | string s => exact .cons (.string s) .nil
  | ptr0 => exact .cons .ptr0 .nil
  | ptr o h => exact .cons (.ptr o h) .nil
  | slice0 n c => exact .cons (.slice0 n c) .nil
  | slice o n h hc => exact .cons (.slice o n h hc) .nil
  | slicex i a c => exact .cons (.slicex i a c) .nil
  | map0 => exact .cons .map0 .nil
  | map h => exact .cons (.map h) .nil
  | func f g h => exact .cons (.func f g h) .nil
  | yield h => exact .cons (.yield h) .nil
  | sym j => exact .cons (.sym j) .nil
  | low c h => exact .cons (.low c h) .nil
  | nilFunc => exact .cons .nilFunc .nil
  | iface t h => exact .cons (.iface t h) .nil
  | nilIface => exact .cons .nilIface .nil
  | tuple h => exact .cons (.tuple h) .nil

theorem add_is (b o i : Nat) : (⟨b, o, none⟩ : Addr).add i = ⟨b, o + i, none⟩ := by
  unfold Addr.add; split
  · subst_vars; rfl
  · rfl

/-- Rows of cells are loaded. -/
theorem HR.loadL (h : HR P w0 E H next w) {i b o k n : Nat} {cs : T Value} {elem : TypeId} {g : Bool} {l : List Value} (hb : E.blk i = some b) (hg : H.get i = some (.cells cs n elem g)) (hn : o + k ≤ n) (hl : cs.take o k = some l) :
    ∃ l' : List Value, (loadCells ⟨b, o, none⟩ k).run P w = .ok l'.toArray w ∧ VRL E l l' := by
  obtain ⟨h1, h2⟩ := T.take_spec k cs o l hl
  have hex : ∀ j, j < k → ∃ v', w.cell? ⟨b, o + j, none⟩ = some v' ∧ VR E (l.getD j undef) v' := by
    intro j hj
    have hj' : l[j]? = some l[j] := List.getElem?_eq_getElem (by omega)
    obtain ⟨v', e1, _, e2⟩ := h.cell hb hg (o := o + j) (by omega) (h2 j _ hj')
    exact ⟨v', e1, by simpa [List.getD, hj'] using e2⟩
  let f : Nat → Value := fun j => (w.cell? ⟨b, o + j, none⟩).getD undef
  refine ⟨(List.range k).map f, run_loadCells w ⟨b, o, none⟩ k f (fun j hj => ?_), VRL.of_get (by simp [h1]) fun j v hv => ?_⟩
  · obtain ⟨v', e1, _⟩ := hex j hj
    rw [add_is]; simp [f, e1]
  · have hj : j < k := by have := (List.getElem?_eq_some_iff.1 hv).1; omega
    obtain ⟨v', e1, e2⟩ := hex j hj
    refine ⟨v', by simp [hj, f, e1], ?_⟩
    simpa [List.getD, hv] using e2

/-- Rows of cells are stored. -/
theorem HR.storeL : ∀ (x x' : List Value) (i : Nat) {w : World} {H : T AObj} (_ : HR P w0 E H next w) {id b o n : Nat} {cs : T Value} {elem : TypeId} {g : Bool} (_ : E.blk id = some b) (_ : H.get id = some (.cells cs n elem g))
    (_ : 64 ≤ id) (_ : id < 1073741824) (_ : n ≤ 1073741824) (_ : o + i + x.length ≤ n) (_ : VRL E x x') (_ : x.all cell1 = true),
    ∃ w1, (storeCells ⟨b, o, none⟩ x' i).run P w = .ok () w1 ∧ HR P w0 E (H.set id (.cells (cs.fill (o + i) x) n elem g)) next w1 := by
  intro x
  induction x with
  | nil =>
    intro x' i w H h id b o n cs elem g hb hg h64 hid hn hl hx hc
    cases hx
    refine ⟨w, rfl, h.congr fun j => ?_⟩
    rw [T.get_set _ _ _ hid]
    split
    · rename_i e; subst e; simp [T.fill, hg]
    · rfl
  | cons v x ih =>
    intro x' i w H h id b o n cs elem g hb hg h64 hid hn hl hx hc
    cases hx with
    | cons hv hx =>
      rename_i v' y'
      simp only [List.all_cons, Bool.and_eq_true] at hc
      simp only [List.length_cons] at hl
      obtain ⟨b', r, h1, h2, arr, ⟨fz, elem', hz, hel, rfl⟩, hs, hcell⟩ := h.obj hb hg
      obtain rfl : b = b' := by rw [hb] at h1; injection h1
      have hsz : n ≤ arr.size := sizeOk_n hs
      have hcl : w.cell? ⟨b, o + i, none⟩ = some arr[o + i] := by simp [World.cell?, h2, show o + i < arr.size by omega]
      have hfz : w.frozen? ⟨b, o + i, none⟩ = false := frozen_free h2 hz (by omega)
      have h' := h.setCell h64 hid (o := o + i) (by omega) hb hg (by omega) hv
      obtain ⟨w1, hr, hh⟩ := ih y' (i + 1) h' (o := o) hb (by rw [T.get_set _ _ _ hid, if_pos rfl]) h64 hid hn (by omega) hx hc.2
      refine ⟨w1, ?_, hh.congr fun j => ?_⟩
      · rw [storeCells, Sem.run_bind]
        have hst : (store ((⟨b, o, none⟩ : Addr).add i) v').run P w = .ok () (w.setCell ⟨b, o + i, none⟩ v') := by
          rw [add_is]
          have hc1 := hv.cell1 hc.1
          unfold store
          cases v' <;> first | (simp [Ev.cell1] at hc1; done) | (simp [Sem.run, hcl, hfz])
        rw [hst]
        exact hr
      · rw [T.get_set _ _ _ hid, T.get_set _ _ _ hid]
        split
        · rfl
        · rename_i e; rw [T.get_set _ _ _ hid, if_neg e]

def isAggB (P : Program) (t : TypeId) : Option Bool :=
  match P.underlying t with
  | some (.struct _) => some true
  | some (.array _ _) => some true
  | some _ => some false
  | none => none
theorem run_isAgg {t : TypeId} {b : Bool} (h : isAggB P t = some b) (w : World) : (isAgg t).run P w = .ok b w := by
  unfold isAggB at h
  cases hu : P.underlying t with
  | none => rw [hu] at h; cases h
  | some d =>
    rw [hu] at h
    rw [isAgg, Sem.run_bind, run_underlying hu]
    cases d <;> simp_all [Result.andThen, Sem.run_pure]

/-- A load. -/
def exLoad (P : Program) (H : T AObj) (t : TypeId) : Value → Option Value
  | .pointer (some ⟨i, o, none⟩) =>
    match H.get i, isAggB P t, P.info? t with
    | some (.cells cs n _ _), some true, some info => if o + info.size ≤ n then (cs.take o info.size).map fun l => .agg l.toArray else none
    | some (.cells cs n _ _), some false, some _ => if o < n then cs.get o else none
    | _, _, _ => none
  | _ => none
theorem exLoad_run (h : HR P w0 E H next w) {t : TypeId} {v v' u : Value} (hv : VR E v v') (he : exLoad P H t v = some u) : ∃ u', (Instr.loadAt t v').run P w = .ok u' w ∧ VR E u u' := by
  cases hv <;> simp only [exLoad] at he <;> try cases he
  rename_i i b o hb
  cases hg : H.get i with
  | none => rw [hg] at he; cases he
  | some ob =>
    cases ob with
    | map _ _ => rw [hg] at he; simp at he
    | iter _ _ => rw [hg] at he; simp at he
    | miter _ _ _ _ => rw [hg] at he; simp at he
    | loop _ _ _ _ _ _ _ _ => rw [hg] at he; simp at he
    | dfr => rw [hg] at he; simp at he
    | cells cs n elem g =>
      cases ha : isAggB P t with
      | none => rw [hg, ha] at he; simp at he
      | some ag =>
        cases hi : P.info? t with
        | none => rw [hg, ha, hi] at he; cases ag <;> simp at he
        | some info =>
          rw [hg, ha, hi] at he
          have hsa : ∀ w, (Instr.sureAddr (.pointer (some ⟨b, o, none⟩))).run P w = .ok ⟨b, o, none⟩ w := fun w => rfl
          cases ag with
          | true =>
            simp only at he
            split at he
            · rename_i hn
              cases ht : cs.take o info.size with
              | none => rw [ht] at he; cases he
              | some l =>
                rw [ht] at he
                injection he with he
                subst he
                obtain ⟨l', h1, h2⟩ := h.loadL (P := P) hb hg hn ht
                refine ⟨.agg l'.toArray, ?_, .agg h2⟩
                rw [Instr.loadAt, Sem.run_bind, hsa]
                simp only [Result.andThen]
                rw [loadVar, Sem.run_bind, run_isAgg ha]
                simp only [Result.andThen, if_true]
                rw [Sem.run_bind, run_sizeOf w hi]
                simp only [Result.andThen, Program.cellsOf, hi]
                rw [Sem.run_bind]
                simp only [Option.map_some, Option.getD_some]
                rw [h1]; rfl
            · cases he
          | false =>
            simp only at he
            split at he
            · rename_i hn
              obtain ⟨u', h1, _, h2⟩ := h.cell hb hg hn he
              refine ⟨u', ?_, h2⟩
              rw [Instr.loadAt, Sem.run_bind, hsa]
              simp only [Result.andThen]
              rw [loadVar, Sem.run_bind, run_isAgg ha]
              simp [Result.andThen, load, Sem.run, h1]
            · cases he
/-- A store. -/
def exStore (P : Program) (H : T AObj) (lo : Nat) (t : TypeId) (u : Value) : Value → Option (T AObj)
  | .pointer (some ⟨i, o, none⟩) =>
    match H.get i, P.info? t with
    | some (.cells cs n elem g), some info =>
      if u.cells.toList.length = info.size ∧ u.cells.toList.all cell1 = true ∧ o + info.size ≤ n ∧ n ≤ 1073741824 ∧ i < 1073741824 ∧ lo + 64 ≤ i then
        some (H.set i (.cells (cs.fill o u.cells.toList) n elem g)) else none
    | _, _ => none
  | _ => none
theorem exStore_run (h : HR P w0 E H next w) {lo : Nat} {t : TypeId} {v v' u u' : Value} (hv : VR E v v') (hu : VR E u u') {H' : T AObj} (he : exStore P H lo t u v = some H') :
    ∃ w', (Instr.storeAt t v' u').run P w = .ok () w' ∧ HR P w0 E H' next w' ∧ ∀ i, i < lo → H'.get i = H.get i := by
  cases hv <;> simp only [exStore] at he <;> try cases he
  rename_i i b o hb
  cases hg : H.get i with
  | none => rw [hg] at he; cases he
  | some ob =>
    cases ob with
    | map _ _ => rw [hg] at he; simp at he
    | iter _ _ => rw [hg] at he; simp at he
    | miter _ _ _ _ => rw [hg] at he; simp at he
    | loop _ _ _ _ _ _ _ _ => rw [hg] at he; simp at he
    | dfr => rw [hg] at he; simp at he
    | cells cs n elem g =>
      cases hi : P.info? t with
      | none => rw [hg, hi] at he; simp at he
      | some info =>
        rw [hg, hi] at he
        simp only at he
        split at he
        · rename_i hc
          obtain ⟨c1, c2, c3, c4, c5, c6⟩ := hc
          injection he with he
          subst he
          have hcl := hu.cells
          obtain ⟨w1, h1, h2⟩ := HR.storeL (P := P) u.cells.toList u'.cells.toList 0 h (o := o) hb hg (by omega) c5 c4 (by omega) hcl c2
          refine ⟨w1, ?_, h2, fun j hj => by rw [T.get_set _ _ _ c5, if_neg (by omega)]⟩
          rw [Instr.storeAt, Sem.run_bind]
          have hsa : (Instr.sureAddr (.pointer (some ⟨b, o, none⟩))).run P w = .ok ⟨b, o, none⟩ w := rfl
          rw [hsa]
          simp only [Result.andThen]
          rw [storeVar, Sem.run_bind, run_sizeOf w hi]
          have hsz : u'.cells.size = info.size := by have := hcl.len; simp only [Array.length_toList] at this c1; omega
          simp only [Result.andThen, Program.cellsOf, hi, Option.map_some, Option.getD_some, hsz, ne_eq, not_true, if_false]
          exact h1
        · cases he
/-- A new row. -/
def exNew (H : T AObj) (next : Nat) (elem : TypeId) (l : List Value) : Option (T AObj) :=
  if next < 1073741824 ∧ l.length ≤ 1073741824 then some (H.set next (.cells (T.leaf.fill 0 l) l.length elem false)) else none
theorem exNew_run (h : HR P w0 E H next w) {elem : TypeId} {l l' : List Value} (hl : VRL E l l') {H' : T AObj} (he : exNew H next elem l = some H') :
    ∃ E', (newRow elem l'.toArray).run P w = .ok ⟨w.heap.size, 0, none⟩ (w.alloc (.cells l'.toArray elem)) ∧ E.le E' ∧ HR P w0 E' H' (next + 1) (w.alloc (.cells l'.toArray elem)) ∧ E'.blk next = some w.heap.size ∧ E'.cap next = none ∧
      ∀ i, i < next → H'.get i = H.get i := by
  unfold exNew at he
  split at he
  · rename_i hc
    injection he with he
    subst he
    refine ⟨E.more next w.heap.size none, rfl, Env.le_more h _ _, ?_, by simp [Env.more], by simp [Env.more], fun i hi => by rw [T.get_set _ _ _ hc.1, if_neg (by omega)]⟩
    refine h.new hc.1 ⟨l'.toArray, ⟨_, _, .inl rfl, fun _ => rfl, rfl⟩, ?_, fun j v hj hv => ?_⟩
    · simp [sizeOk, Env.more, hl.len]
    · rw [T.get_fill _ _ _ _ (by omega)] at hv
      rw [if_pos (by omega)] at hv
      obtain ⟨v', h1, h2⟩ := hl.get hv
      exact ⟨v', by simpa using h1, h2.mono (Env.le_more h _ _)⟩
  · cases he
end Go.Proofs.YtkecgbcfkbafpaaDoor.Ev
