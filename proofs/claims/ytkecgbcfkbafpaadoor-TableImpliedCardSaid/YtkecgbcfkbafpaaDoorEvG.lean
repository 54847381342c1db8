/-
  Our machine's append, cuts, copies and rows that are made.
-/
import Derived.Test.YtkecgbcfkbafpaaDoorEvF
namespace Go.Proofs.YtkecgbcfkbafpaaDoor.Ev
set_option linter.unusedSectionVars false
variable [Sig]
open Go.RowKit

structure Mem where
  H : T AObj
  next : Nat
  lo : Nat
variable {P : Program} {w0 w : World} {E : Env} {m : Mem}

/-- A computation of the model's comes to what ours comes to. -/
def Good (P : Program) (w0 : World) (E : Env) (m : Mem) (w : World) (s : Sem Value) (v : Value) (m' : Mem) : Prop :=
  ∃ E' v' w', s.run P w = .ok v' w' ∧ E.le E' ∧ HR P w0 E' m'.H m'.next w' ∧ VR E' v v' ∧ (∀ i, i < m.lo → m'.H.get i = m.H.get i) ∧ m'.lo = m.lo ∧ m.next ≤ m'.next
theorem Good.same (h : HR P w0 E m.H m.next w) {s : Sem Value} {v v' : Value} (hr : s.run P w = .ok v' w) (hv : VR E v v') : Good P w0 E m w s v m :=
  ⟨E, v', w, hr, E.le_refl, h, hv, fun _ _ => rfl, rfl, Nat.le_refl _⟩

def intDesc : TypeDesc → Bool
  | .int _ => true
  | _ => false
theorem intDesc_no {d : TypeDesc} (h : intDesc d = false) : ∀ k, d ≠ .int k := by intro k e; subst e; cases h

/-- What an append is given: the element's type, its size, the new cells. -/
def exNews (P : Program) (m : Mem) (t tx : TypeId) (x : Value) : Option (TypeId × TypeInfo × Nat × List Value) :=
  match P.underlying t, P.underlying tx with
  | some (.slice elem), some dx =>
    match P.info? elem with
    | some info => match exRow m.H info.size x with
      | some (k, news) => if intDesc dx = false ∧ news.all cell1 = true ∧ 0 < info.size ∧ info.bytes ≤ 1048576 then some (elem, info, k, news) else none
      | none => none
    | none => none
  | _, _ => none
/-- A row that grows. -/
def exGrow (m : Mem) (elem : TypeId) (info : TypeInfo) (n k : Nat) (olds news : List Value) : Option (Value × Mem) :=
  match info.zero with
  | some z => if z.cells.size = info.size ∧ m.next < 1073741824 ∧ n + k ≤ 1048576 ∧ (n + k) * info.size ≤ 1073741824 then
      some (.slice (some ⟨m.next, 0, none⟩) (n + k) (n + k), { m with H := m.H.set m.next (.cells (T.leaf.fill 0 (olds ++ news)) ((n + k) * info.size) elem true), next := m.next + 1 }) else none
  | none => none
def exAppend (P : Program) (m : Mem) (t tx : TypeId) (s x : Value) : Option (Value × Mem) :=
  match exNews P m t tx x with
  | some (elem, info, k, news) =>
    match s with
    | .slice none n c => if n = 0 ∧ c = 0 then (if k = 0 then some (s, m) else exGrow m elem info 0 k [] news) else none
    | .slice (some ⟨i, o, none⟩) n c =>
      match m.H.get i with
      | some (.cells cs nb eb g) =>
        if n + k ≤ c then
          (if o + (n + k) * info.size ≤ nb ∧ nb ≤ 1073741824 ∧ i < 1073741824 ∧ m.lo + 64 ≤ i then
            some (.slice (some ⟨i, o, none⟩) (n + k) c, { m with H := m.H.set i (.cells (cs.fill (o + n * info.size) news) nb eb g) }) else none)
        else if g = false then
          (match exRow m.H info.size s with
          | some (_, olds) => exGrow m elem info n k olds news
          | none => none)
        else if o = 0 ∧ n * info.size = nb ∧ eb = elem ∧ m.lo + 64 ≤ i ∧ i < 1073741824 ∧ m.next < 1073741824 ∧ n + k ≤ 1048576 ∧ (n + k) * info.size ≤ 1073741824 then
          (match cs.take 0 (n * info.size), info.zero with
          | some _, some z => if z.cells.size = info.size then
              some (.slice (some ⟨m.next, 0, none⟩) (n + k) (n + k), { m with H := (m.H.del i).set m.next (.cells (cs.fill nb news) ((n + k) * info.size) elem true), next := m.next + 1 }) else none
          | _, _ => none)
        else none
      | _ => none
    | _ => none
  | none => none
theorem cell1_one {v : Value} (h : cell1 v = true) : v.oneCell' = true := by cases v <;> simp_all [cell1, Value.oneCell']
theorem VRL.all1 {E : Env} {x x' : List Value} (h : VRL E x x') (hc : x.all cell1 = true) : x'.all cell1 = true := by
  induction x generalizing x' with
  | nil => cases h; rfl
  | cons v x ih => cases h with | cons hv hl => simp only [List.all_cons, Bool.and_eq_true] at hc ⊢; exact ⟨hv.cell1 hc.1, ih hl hc.2⟩
theorem exGrow_run (h : HR P w0 E m.H m.next w) {t tx ty elem : TypeId} {info : TypeInfo} {dx : TypeDesc} {x' : Value} {k n c : Nat} {A : Option Addr} {olds olds' news news' : List Value}
    (ht : P.underlying t = some (.slice elem)) (hi : P.info? elem = some info) (hx : P.underlying tx = some dx) (hnz : intDesc dx = false) (hs : 0 < info.size) (hby : info.bytes ≤ 1048576)
    (hl : ∀ W, (Builtin.lenOf x').run P W = .ok k W) (hf : (Builtin.firstCells info.size k x').run P w.drew = .ok news'.toArray w.drew) (hfo : (Builtin.firstCells info.size n (.slice A n c)).run P w.drew = .ok olds'.toArray w.drew)
    (ho : VRL E olds olds') (hn : VRL E news news') (hlo : olds.length = n * info.size) (hln : news.length = k * info.size) (hc : c < n + k) {v : Value} {m' : Mem} (he : exGrow m elem info n k olds news = some (v, m')) (hlo2 : m.lo ≤ m.next) :
    Good P w0 E m w (Builtin.append_ #[t, tx] ty #[.slice A n c, x']) v m' := by
  unfold exGrow at he
  cases hz : info.zero with
  | none => rw [hz] at he; cases he
  | some z =>
    rw [hz] at he
    simp only at he
    split at he
    · rename_i hcond
      obtain ⟨c1, c2, c3, c4⟩ := hcond
      simp only [Option.some.injEq, Prod.mk.injEq] at he
      obtain ⟨rfl, rfl⟩ := he
      obtain ⟨C, hC, hrun⟩ := run_app_grows (ty := ty) ht hi hz hx (intDesc_no hnz) hl hfo hf hc c3 hby
      have hsum : olds.length + news.length = (n + k) * info.size := by rw [hlo, hln, Nat.add_mul]
      refine ⟨_, _, _, hrun, Env.le_more h _ _, HR.grew h c2 ho hn (size := info.size) (k := n + k) (C := C) (tr := T.leaf.fill 0 (olds ++ news)) (fun j u hj hu => ?_) hsum hC c1 hs (by simp [Program.cellsOf, hi]), ?_, fun i hi => ?_, rfl, by simp⟩
      · rw [T.get_fill _ _ _ _ (by simp; omega)] at hu
        rw [if_pos (by simp; omega)] at hu
        simpa using hu
      · exact .slice 0 _ (by simp [Env.more]) (by simp [capOf, Env.more, hC])
      · show (m.H.set m.next _).get i = _
        rw [T.get_set _ _ _ c2, if_neg (by omega)]
    · cases he
end Go.Proofs.YtkecgbcfkbafpaaDoor.Ev
