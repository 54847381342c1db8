/-
  Our machine's operations on values, and that they stand for the model's.
-/
import Derived.Laws.Tables
import Derived.Test.YtkecgbcfkbafpaaDoorEvC
namespace Go.Proofs.YtkecgbcfkbafpaaDoor.Ev
set_option linter.unusedSectionVars false
variable [Sig]
open Go.RowKit

variable {P : Program} {w0 w : World} {E : Env} {H : T AObj} {next : Nat}

theorem VRL.drop {x x' : List Value} (h : VRL E x x') (n : Nat) : VRL E (x.drop n) (x'.drop n) := by
  induction n generalizing x x' with
  | zero => exact h
  | succ n ih => cases h with
    | nil => exact .nil
    | cons hv hl => exact ih hl
theorem VRL.take {x x' : List Value} (h : VRL E x x') (n : Nat) : VRL E (x.take n) (x'.take n) := by
  induction n generalizing x x' with
  | zero => exact .nil
  | succ n ih => cases h with
    | nil => exact .nil
    | cons hv hl => exact .cons hv (ih hl)
theorem VRL.set {x x' : List Value} (h : VRL E x x') (n : Nat) {v v' : Value} (hv : VR E v v') : VRL E (x.set n v) (x'.set n v') := by
  induction n generalizing x x' with
  | zero => cases h with
    | nil => exact .nil
    | cons _ hl => exact .cons hv hl
  | succ n ih => cases h with
    | nil => exact .nil
    | cons hu hl => exact .cons hu (ih hl)

/-! ### a part of a struct or an array -/
def exPart (P : Program) (t : TypeId) (cs : List Value) (off : Nat) : Option Value :=
  match isAggB P t, P.info? t with
  | some true, some i => some (.agg ((cs.drop off).take i.size).toArray)
  | some false, _ => cs[off]?
  | _, _ => none
theorem exPart_run {t : TypeId} {x x' : List Value} (h : VRL E x x') {off : Nat} {u : Value} (he : exPart P t x off = some u) : ∃ u', (part t x'.toArray off).run P w = .ok u' w ∧ VR E u u' := by
  unfold exPart at he
  cases ha : isAggB P t with
  | none => rw [ha] at he; simp at he
  | some ag =>
    rw [ha] at he
    cases ag with
    | true =>
      cases hi : P.info? t with
      | none => rw [hi] at he; simp at he
      | some i =>
        rw [hi] at he
        simp only at he
        injection he with he
        subst he
        refine ⟨.agg ((x'.drop off).take i.size).toArray, ?_, .agg ((h.drop off).take i.size)⟩
        rw [part, Sem.run_bind, run_isAgg ha]
        simp only [Result.andThen, if_true]
        rw [Sem.run_bind, run_sizeOf w hi]
        simp only [Result.andThen, Program.cellsOf, hi, Option.map_some, Option.getD_some]
        have : x'.toArray.extract off (off + i.size) = ((x'.drop off).take i.size).toArray := by
          apply Array.toList_inj.1
          simp [List.take_drop]
        rw [this]; rfl
    | false =>
      simp only at he
      obtain ⟨u', h1, h2⟩ := h.get he
      refine ⟨u', ?_, h2⟩
      rw [part, Sem.run_bind, run_isAgg ha]
      simp [Result.andThen, h1, Sem.run_pure]
def exField (P : Program) (t : TypeId) (v : Value) (f : Nat) : Option Value :=
  match P.underlying t, v with
  | some (.struct fields), .agg ⟨x⟩ => match fields[f]? with
    | some fd => exPart P fd.type x fd.offset
    | none => none
  | _, _ => none
theorem exField_run {t : TypeId} {v v' u : Value} {f : Nat} (hv : VR E v v') (he : exField P t v f = some u) : ∃ u', (Instr.field t v' f).run P w = .ok u' w ∧ VR E u u' := by
  unfold exField at he
  cases hu : P.underlying t with
  | none => rw [hu] at he; simp at he
  | some d =>
    rw [hu] at he
    cases d <;> try (simp at he; done)
    rename_i fields
    cases hv <;> try (simp at he; done)
    rename_i x x' hx
    simp only at he
    cases hf : fields[f]? with
    | none => rw [hf] at he; simp at he
    | some fd =>
      rw [hf] at he
      simp only at he
      obtain ⟨u', h1, h2⟩ := exPart_run (w := w) hx he
      refine ⟨u', ?_, h2⟩
      rw [Instr.field, Sem.run_bind, run_underlying hu]
      simp [Result.andThen, hf, asAgg, h1]
def exIndex (P : Program) (t : TypeId) (v ix : Value) : Option Value :=
  match P.underlying t, v, ix with
  | some (.array len elem), .agg ⟨x⟩, .int _ i =>
    match P.info? elem with
    | some info => if 0 ≤ i ∧ i < len then exPart P elem x (i.toNat * info.size) else none
    | none => none
  | some .string, .string s, .int _ i =>
    if 0 ≤ i then (match s[i.toNat]? with | some b => some (.int .u8 b.toNat) | none => none) else none
  | _, _, _ => none
theorem exIndex_run {t : TypeId} {v v' ix ix' u : Value} (hv : VR E v v') (hi : VR E ix ix') (he : exIndex P t v ix = some u) : ∃ u', (Instr.index t v' ix').run P w = .ok u' w ∧ VR E u u' := by
  unfold exIndex at he
  cases hu : P.underlying t with
  | none => rw [hu] at he; simp at he
  | some d =>
    rw [hu] at he
    cases d <;> try (simp at he; done)
    · cases hv <;> try (simp at he; done)
      rename_i s
      cases hi <;> try (simp at he; done)
      rename_i k i
      simp only at he
      split at he
      · rename_i h0
        cases hs : s[i.toNat]? with
        | none => rw [hs] at he; simp at he
        | some b =>
          rw [hs] at he
          simp only at he
          injection he with he
          subst he
          refine ⟨_, ?_, .int _ _⟩
          rw [Instr.index, Sem.run_bind]
          simp [asIntOf, Result.andThen, Sem.run_pure, run_underlying hu, h0, hs]
      · cases he
    · rename_i len elem
      cases hv <;> try (simp at he; done)
      rename_i x x' hx
      cases hi <;> try (simp at he; done)
      rename_i k i
      simp only at he
      cases hin : P.info? elem with
      | none => rw [hin] at he; simp at he
      | some info =>
        rw [hin] at he
        simp only at he
        split at he
        · rename_i h0
          obtain ⟨u', h1, h2⟩ := exPart_run (w := w) hx he
          refine ⟨u', ?_, h2⟩
          rw [Instr.index, Sem.run_bind]
          simp [asIntOf, Result.andThen, Sem.run_pure, run_underlying hu, h0, run_sizeOf w hin, Program.cellsOf, hin, h1]
        · cases he
def exExtract (v : Value) (i : Nat) : Option Value :=
  match v with
  | .tuple ⟨x⟩ => x[i]?
  | _ => none
theorem exExtract_run {v v' u : Value} {i : Nat} (hv : VR E v v') (he : exExtract v i = some u) : ∃ u', (Instr.extract v' i).run P w = .ok u' w ∧ VR E u u' := by
  cases hv <;> try (simp [exExtract] at he; done)
  rename_i x x' hx
  simp only [exExtract] at he
  obtain ⟨u', h1, h2⟩ := hx.get he
  exact ⟨u', by simp [Instr.extract, h1, Sem.run_pure], h2⟩
def exIface (P : Program) (t : TypeId) (v : Value) : Option Value :=
  match P.underlying t with
  | some (.interface _) => none
  | some _ => some (.iface t v)
  | none => none
theorem exIface_run {t : TypeId} {v v' u : Value} (hv : VR E v v') (he : exIface P t v = some u) : ∃ u', (Instr.makeInterface t v').run P w = .ok u' w ∧ VR E u u' := by
  unfold exIface at he
  cases hu : P.underlying t with
  | none => rw [hu] at he; simp at he
  | some d =>
    rw [hu] at he
    refine ⟨.iface t v', ?_, ?_⟩
    · rw [Instr.makeInterface, Sem.run_bind, run_underlying hu]
      cases d <;> first | (simp at he; done) | rfl
    · cases d <;> first | (simp at he; done) | (simp only [Option.some.injEq] at he; subst he; exact .iface t hv)
def exFieldAddr (P : Program) (s : TypeId) (v : Value) (f : Nat) : Option Value :=
  match P.underlying s, v with
  | some (.struct fields), .pointer (some ⟨i, o, none⟩) => match fields[f]? with
    | some fd => match P.info? fd.type with
      | some info => if info.size = 0 then none else some (.pointer (some ⟨i, o + fd.offset, none⟩))
      | none => none
    | none => none
  | _, _ => none
theorem exFieldAddr_run {s : TypeId} {v v' u : Value} {f : Nat} (hv : VR E v v') (he : exFieldAddr P s v f = some u) : ∃ u', (Instr.fieldAt s v' f).run P w = .ok u' w ∧ VR E u u' := by
  unfold exFieldAddr at he
  cases hu : P.underlying s with
  | none => rw [hu] at he; simp at he
  | some d =>
    rw [hu] at he
    cases d <;> try (simp at he; done)
    rename_i fields
    cases hv <;> try (simp at he; done)
    rename_i i b o hb
    simp only at he
    cases hf : fields[f]? with
    | none => rw [hf] at he; simp at he
    | some fd =>
      rw [hf] at he
      simp only at he
      cases hi : P.info? fd.type with
      | none => rw [hi] at he; simp at he
      | some info =>
        rw [hi] at he
        simp only at he
        split at he
        · cases he
        · rename_i h0
          injection he with he
          subst he
          refine ⟨_, ?_, .ptr _ hb⟩
          rw [Instr.fieldAt, Sem.run_bind, run_underlying hu]
          simp [Result.andThen, hf, Instr.sureAddr, fieldPlace, run_sizeOf w hi, Program.cellsOf, hi, h0, add_is]
def exIndexAddr (P : Program) (t : TypeId) (v ix : Value) : Option Value :=
  match P.underlying t, v, ix with
  | some (.array len elem), .pointer (some ⟨i, o, none⟩), .int _ k =>
    match P.info? elem with
    | some info => if 0 ≤ k ∧ k < len then some (.pointer (some ⟨i, o + k.toNat * info.size, none⟩)) else none
    | none => none
  | some (.slice elem), .slice (some ⟨i, o, none⟩) n _, .int _ k =>
    match P.info? elem with
    | some info => if 0 ≤ k ∧ k < n then some (.pointer (some ⟨i, o + k.toNat * info.size, none⟩)) else none
    | none => none
  | _, _, _ => none
theorem exIndexAddr_run {t : TypeId} {v v' ix ix' u : Value} (hv : VR E v v') (hi : VR E ix ix') (he : exIndexAddr P t v ix = some u) : ∃ u', (Instr.indexAt t v' ix').run P w = .ok u' w ∧ VR E u u' := by
  unfold exIndexAddr at he
  cases hu : P.underlying t with
  | none => rw [hu] at he; simp at he
  | some d =>
    rw [hu] at he
    cases d <;> try (simp at he; done)
    · rename_i elem
      cases hv <;> try (simp at he; done)
      rename_i i b o n c c' hb hcap
      cases hi <;> try (simp at he; done)
      rename_i k q
      simp only at he
      cases hin : P.info? elem with
      | none => rw [hin] at he; simp at he
      | some info =>
        rw [hin] at he
        simp only at he
        split at he
        · rename_i h0
          injection he with he
          subst he
          refine ⟨_, ?_, .ptr _ hb⟩
          rw [Instr.indexAt, Sem.run_bind]
          simp [asIntOf, Result.andThen, Sem.run_pure, run_underlying hu, h0, run_sizeOf w hin, Program.cellsOf, hin, add_is]
        · cases he
    · rename_i len elem
      cases hv <;> try (simp at he; done)
      rename_i i b o hb
      cases hi <;> try (simp at he; done)
      rename_i k q
      simp only at he
      cases hin : P.info? elem with
      | none => rw [hin] at he; simp at he
      | some info =>
        rw [hin] at he
        simp only at he
        split at he
        · rename_i h0
          injection he with he
          subst he
          refine ⟨_, ?_, .ptr _ hb⟩
          rw [Instr.indexAt, Sem.run_bind]
          simp [asIntOf, Result.andThen, Sem.run_pure, run_underlying hu, h0, run_sizeOf w hin, Program.cellsOf, hin, add_is, Instr.sureAddr]
        · cases he
/-- The second answer of what does not hold. -/
def exNot (P : Program) (t : TypeId) : Option Value :=
  match P.info? t with
  | some it => match it.zero with
    | some z => if clean z then some (.tuple ⟨[z, .bool false]⟩) else none
    | none => none
  | none => none
theorem exNot_run {t : TypeId} {u : Value} (he : exNot P t = some u) : ∃ z : Value, (zeroValue t).run P w = .ok z w ∧ u = .tuple #[z, .bool false] ∧ VR E u u := by
  unfold exNot at he
  cases hi : P.info? t with
  | none => rw [hi] at he; cases he
  | some it =>
    rw [hi] at he
    simp only at he
    cases hz : it.zero with
    | none => rw [hz] at he; cases he
    | some z =>
      rw [hz] at he
      simp only at he
      split at he
      · rename_i hc
        injection he with he
        subst he
        exact ⟨z, by simp [zeroValue, run_typeInfo w hi, hz], rfl, .tuple (.cons (VR.of_clean E z hc) (.cons (.bool false) .nil))⟩
      · cases he
def exHold (ok : Bool) (v : Value) : Value := if ok then .tuple ⟨[v, .bool true]⟩ else v
theorem exHold_VR {ok : Bool} {v v' : Value} (h : VR E v v') : VR E (exHold ok v) (if ok then .tuple #[v', .bool true] else v') := by
  cases ok
  · exact h
  · exact .tuple (.cons h (.cons (.bool true) .nil))
/-- Does a type lack one of an interface's methods? -/
def missed (want : Array (String × TypeId)) (got : Array Method) : Bool := want.toList.any fun p => !(got.toList.any fun m => m.name == p.1 && m.sig == p.2)
theorem missed_list (want : Array (String × TypeId)) (got : Array Method) : missed want got = !((want.toList.filter fun (name, sig) => !got.any fun m => m.name == name && m.sig == sig).map (·.1)).isEmpty := by
  unfold missed
  cases want with
  | mk l =>
    induction l with
    | nil => rfl
    | cons p r ih =>
      simp only [List.any_cons, List.filter_cons, ← Array.any_toList] at ih ⊢
      cases hc : (!got.toList.any fun m => m.name == p.1 && m.sig == p.2) with
      | true => simp
      | false => simpa using ih
theorem least_cons (s : String) (r : List String) : ∃ x, Instr.least (s :: r) = some x := ⟨_, rfl⟩
theorem missed_false {want : Array (String × TypeId)} {got : Array Method} (h : missed want got = false) : Instr.missingMethod want got = none := by
  rw [missed_list] at h
  unfold Instr.missingMethod
  generalize ((want.toList.filter fun (name, sig) => !got.any fun m => m.name == name && m.sig == sig).map (·.1)) = l at h ⊢
  cases l with
  | nil => rfl
  | cons a r => simp at h
theorem missed_true {want : Array (String × TypeId)} {got : Array Method} (h : missed want got = true) : ∃ s, Instr.missingMethod want got = some s := by
  rw [missed_list] at h
  unfold Instr.missingMethod
  generalize ((want.toList.filter fun (name, sig) => !got.any fun m => m.name == name && m.sig == sig).map (·.1)) = l at h ⊢
  cases l with
  | nil => simp at h
  | cons a r =>
    simp only [List.partition_eq_filter_filter]
    cases hx : List.filter (not ∘ fun x : String => x.contains '.') (a :: r) with
    | cons b q => obtain ⟨x, e⟩ := least_cons b q; exact ⟨x, by simp [e]⟩
    | nil =>
      cases hy : List.filter (fun x : String => x.contains '.') (a :: r) with
      | cons b q => obtain ⟨x, e⟩ := least_cons ((b.splitOn ".").getLastD b) (q.map fun id => (id.splitOn ".").getLastD id); exact ⟨x, by simp only [List.map_cons]; rw [e]; rfl⟩
      | nil =>
        have h1 := List.filter_eq_nil_iff.1 hx a (List.mem_cons_self ..)
        have h2 := List.filter_eq_nil_iff.1 hy a (List.mem_cons_self ..)
        simp at h1 h2
        exact absurd h1 (by simp [h2])
/-- A type assertion that holds, or one with a second answer that does not. -/
def exAssert (P : Program) (v : Value) (t : TypeId) (ok : Bool) : Option Value :=
  match P.underlying t, v with
  | some (.interface _), .nilIface => if ok then exNot P t else none
  | some (.interface want), .iface d _ =>
    match P.info? d with
    | some info => match missed want info.methods with
      | false => some (exHold ok v)
      | true => if ok then exNot P t else none
    | none => none
  | some (.interface _), _ => none
  | some _, .nilIface => if ok then exNot P t else none
  | some _, .iface d u => if d = t then some (exHold ok u) else if ok then exNot P t else none
  | _, _ => none
theorem exAssert_run {v v' u : Value} {xt t : TypeId} {ok : Bool} (hv : VR E v v') (he : exAssert P v t ok = some u) : ∃ u', (Instr.typeAssert v' xt t ok).run P w = .ok u' w ∧ VR E u u' := by
  have hnot : ∀ (s d : Option TypeId) (m : String), (if ok then exNot P t else none) = some u → ∃ u', ((if ok then (do pure (.tuple #[← zeroValue t, .bool false])) else runtimePanic (.typeAssertion s d t m)) : Sem Value).run P w = .ok u' w ∧ VR E u u' := by
    intro s d m h
    cases ok with
    | false => cases h
    | true =>
      simp only [if_true] at h
      obtain ⟨z, h1, h2, h3⟩ := exNot_run (w := w) (E := E) h
      exact ⟨u, by simp [h1, h2], h3⟩
  unfold exAssert at he
  cases hu : P.underlying t with
  | none => rw [hu] at he; simp at he
  | some d =>
    rw [hu] at he
    by_cases hif : ∃ ms, d = .interface ms
    · obtain ⟨ms, rfl⟩ := hif
      cases hv <;> try (simp at he; done)
      · rename_i dt x x' hx
        simp only at he
        cases hi : P.info? dt with
        | none => rw [hi] at he; simp at he
        | some info =>
          rw [hi] at he
          simp only at he
          cases hms : missed ms info.methods with
          | false =>
            have hm := missed_false hms
            rw [hms] at he
            simp only [Option.some.injEq] at he
            subst he
            refine ⟨_, ?_, exHold_VR (.iface dt hx)⟩
            rw [Instr.typeAssert, Sem.run_bind, run_underlying hu]
            simp [Result.andThen, run_typeInfo w hi, hm, Sem.run_pure]
          | true =>
            obtain ⟨m, hm⟩ := missed_true hms
            rw [hms] at he
            simp only at he
            obtain ⟨u', h1, h2⟩ := hnot none (some dt) m he
            refine ⟨u', ?_, h2⟩
            rw [Instr.typeAssert, Sem.run_bind, run_underlying hu]
            simp only [Result.andThen, Sem.run_bind, run_typeInfo w hi, hm]
            exact h1
      · simp only at he
        obtain ⟨u', h1, h2⟩ := hnot none none "" he
        refine ⟨u', ?_, h2⟩
        rw [Instr.typeAssert, Sem.run_bind, run_underlying hu]
        simp only [Result.andThen]
        exact h1
    · cases hv
      case iface dt x x' hx =>
        have he' : (if dt = t then some (exHold ok x) else if ok then exNot P t else none) = some u := by
          cases d <;> first | exact he | exact absurd ⟨_, rfl⟩ hif
        by_cases hd : dt = t
        · rw [if_pos hd] at he'
          injection he' with he'
          subst he'
          refine ⟨_, ?_, exHold_VR hx⟩
          rw [Instr.typeAssert, Sem.run_bind, run_underlying hu]
          simp only [Result.andThen]
          cases d <;> first | exact absurd ⟨_, rfl⟩ hif | (simp [hd, Sem.run_pure])
        · rw [if_neg hd] at he'
          obtain ⟨u', h1, h2⟩ := hnot (some xt) (some dt) "" he'
          refine ⟨u', ?_, h2⟩
          rw [Instr.typeAssert, Sem.run_bind, run_underlying hu]
          simp only [Result.andThen]
          cases d <;> first | exact absurd ⟨_, rfl⟩ hif | (simp only [hd, if_false]; exact h1)
      case nilIface =>
        have he' : (if ok then exNot P t else none) = some u := by
          cases d <;> first | exact he | exact absurd ⟨_, rfl⟩ hif
        obtain ⟨u', h1, h2⟩ := hnot (some xt) none "" he'
        refine ⟨u', ?_, h2⟩
        rw [Instr.typeAssert, Sem.run_bind, run_underlying hu]
        simp only [Result.andThen]
        cases d <;> first | exact absurd ⟨_, rfl⟩ hif | exact h1
      all_goals (exfalso; cases d <;> first | exact absurd ⟨_, rfl⟩ hif | (simp at he; done))

/-! ### structs and arrays that are built -/
theorem fill_one (off : Nat) : ∀ (x x' : List Value) (k : Nat) (a a' : Array Value), VRL E x x' → VRL E a.toList a'.toList →
    VRL E ((x.zipIdx k).foldl (fun cs (p : Value × Nat) => cs.setIfInBounds (off + p.2) p.1) a).toList ((x'.zipIdx k).foldl (fun cs (p : Value × Nat) => cs.setIfInBounds (off + p.2) p.1) a').toList := by
  intro x
  induction x with
  | nil => intro x' k a a' hx ha; cases hx; exact ha
  | cons v x ih =>
    intro x' k a a' hx ha
    cases hx with
    | cons hv hx =>
      simp only [List.zipIdx_cons, List.foldl_cons]
      exact ih _ (k + 1) _ _ hx (by simp only [Array.toList_setIfInBounds]; exact ha.set _ hv)
inductive PR (E : Env) : List (Nat × Value) → List (Nat × Value) → Prop where
  | nil : PR E [] []
  | cons (i : Nat) {v v' : Value} {x x' : List (Nat × Value)} (hv : VR E v v') (h : PR E x x') : PR E ((i, v) :: x) ((i, v') :: x')
theorem fill_VR (place : Nat → Option (Nat × Nat)) : ∀ (ps ps' : List (Nat × Value)) (a a' out : Array Value), PR E ps ps' → VRL E a.toList a'.toList → Instr.fill place a ps = some out →
    ∃ out', Instr.fill place a' ps' = some out' ∧ VRL E out.toList out'.toList := by
  intro ps
  induction ps with
  | nil => intro ps' a a' out h ha hf; cases h; simp only [Instr.fill, Option.some.injEq] at hf; subst hf; exact ⟨a', rfl, ha⟩
  | cons p ps ih =>
    intro ps' a a' out h ha hf
    cases h with
    | cons i hv h =>
      rename_i v v' x'
      simp only [Instr.fill] at hf ⊢
      cases hp : place i with
      | none => rw [hp] at hf; cases hf
      | some q =>
        obtain ⟨off, size⟩ := q
        rw [hp] at hf
        have hc := hv.cells
        have hs : v'.cells.size = v.cells.size := by have := hc.len; simpa using this
        have hs2 : a'.size = a.size := by have := ha.len; simpa using this
        simp only [hs, hs2] at hf ⊢
        split at hf
        · cases hf
        · rename_i hcond
          rw [if_neg hcond]
          refine ih _ _ _ out h ?_ hf
          have := fill_one off v.cells.toList v'.cells.toList 0 a a' hc ha
          have e : ∀ (y : Array Value) (b : Array Value), y.zipIdx.foldl (fun cs (p : Value × Nat) => cs.setIfInBounds (off + p.2) p.1) b = (y.toList.zipIdx 0).foldl (fun cs (p : Value × Nat) => cs.setIfInBounds (off + p.2) p.1) b := by
            intro y b; rw [← Array.foldl_toList, Array.toList_zipIdx]
          rw [← e, ← e] at this
          exact this
theorem run_buildE {t : TypeId} {ps ps' : Array (Nat × Value)} (h : PR E ps.toList ps'.toList) {z : Value} {info : TypeInfo} (hi : P.info? t = some info) (hz : info.zero = some z) (hc : cleanL z.cells.toList = true) {out : Array Value} (hb : P.built t ps.toList = some out) :
    ∃ out', (Instr.build t ps').run P w = .ok (.agg out') w ∧ VRL E out.toList out'.toList := by
  have hzz := VRL.of_clean E _ hc
  have key : ∃ out', P.built t ps'.toList = some out' ∧ VRL E out.toList out'.toList := by
    unfold Program.built at hb ⊢
    rw [hi] at hb ⊢
    cases hu : P.underlying t with
    | none => rw [hu] at hb; simp at hb
    | some d =>
      rw [hu] at hb
      cases d <;> try (simp at hb; done)
      · rename_i n e
        simp only [hz] at hb ⊢
        cases he : P.info? e with
        | none => rw [he] at hb; simp at hb
        | some ie => rw [he] at hb; simp only at hb ⊢; exact fill_VR _ _ _ _ _ _ h hzz hb
      · rename_i fields
        simp only [hz] at hb ⊢
        cases hp : fields.toList.mapM (fun f => (P.info? f.type).map fun i => (f.offset, i.size)) with
        | none => rw [hp] at hb; simp at hb
        | some places => rw [hp] at hb; simp only at hb ⊢; exact fill_VR _ _ _ _ _ _ h hzz hb
  obtain ⟨out', h1, h2⟩ := key
  exact ⟨out', run_build w t ps' out' h1, h2⟩
end Go.Proofs.YtkecgbcfkbafpaaDoor.Ev
