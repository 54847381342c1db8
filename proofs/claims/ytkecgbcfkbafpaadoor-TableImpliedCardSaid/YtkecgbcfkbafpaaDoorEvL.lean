/-
  Our machine's maps and walks through strings, and that they stand for the model's.
-/
import Derived.MapKept
import Derived.Test.YtkecgbcfkbafpaaDoorEvK
namespace Go.Proofs.YtkecgbcfkbafpaaDoor.Ev
set_option linter.unusedSectionVars false
variable [Sig]
open Go.RowKit
set_option linter.unusedSimpArgs false

variable {P : Program} {w0 w : World} {E : Env} {m : Mem}

theorem ER.keys {es es' : List MapEntry} (h : ER E es es') (hc : es.all (fun e => clean e.key) = true) : es'.map (·.key) = es.map (·.key) := by
  induction h with
  | nil => rfl
  | cons born hk hv _ ih =>
    simp only [List.all_cons, Bool.and_eq_true] at hc
    simp [ih hc.2, hk.eq_of_clean hc.1]
theorem ER.len {es es' : List MapEntry} (h : ER E es es') : es'.length = es.length := by
  induction h with
  | nil => rfl
  | cons _ _ _ _ ih => simp [ih]

/-- Two finds that stand for one another. -/
def FR (E : Env) : Option (Nat × Value) → Option (Nat × Value) → Prop
  | none, none => True
  | some (i, v), some (j, u) => i = j ∧ VR E v u
  | _, _ => False
theorem findNow_ER {es es' : List MapEntry} (h : ER E es es') (hc : es.all (fun e => clean e.key) = true) (kind : TypeDesc) (k : Value) : ∀ i,
    (Instr.findNow kind k es i = none → Instr.findNow kind k es' i = none) ∧ ∀ r, Instr.findNow kind k es i = some r → ∃ r', Instr.findNow kind k es' i = some r' ∧ FR E r r' := by
  induction h with
  | nil => intro i; exact ⟨fun h => by simp [Instr.findNow] at h, fun r h => by simp [Instr.findNow] at h; subst h; exact ⟨none, rfl, trivial⟩⟩
  | cons born hk hv _ ih =>
    intro i
    simp only [List.all_cons, Bool.and_eq_true] at hc
    have hke := hk.eq_of_clean hc.1
    subst hke
    simp only [Instr.findNow]
    rename_i k' _ _ _ _
    cases hs : Instr.sameNow kind k k' with
    | none => exact ⟨fun _ => rfl, fun r h => by cases h⟩
    | some b =>
      cases b with
      | true => exact ⟨fun h => (by cases h), fun r h => by simp at h; subst h; exact ⟨_, rfl, rfl, hv⟩⟩
      | false => exact ih hc.2 (i + 1)
def exFindA (P : Program) (kt : TypeId) (k : Value) : List MapEntry → Nat → Option (Option (Nat × Value))
  | [], _ => some none
  | e :: es, i => match valQ P (Op.equal kt k e.key) with
    | some true => some (some (i, e.val))
    | some false => exFindA P kt k es (i + 1)
    | none => none
theorem exFindA_run {kt : TypeId} {k : Value} {es es' : List MapEntry} (h : ER E es es') (hc : es.all (fun e => clean e.key) = true) : ∀ i r, exFindA P kt k es i = some r → ∃ r', (Instr.findAsking kt k es' i).run P w = .ok r' w ∧ FR E r r' := by
  induction h with
  | nil => intro i r h; simp [exFindA] at h; subst h; exact ⟨none, rfl, trivial⟩
  | cons born hk hv _ ih =>
    intro i r h
    simp only [List.all_cons, Bool.and_eq_true] at hc
    have hke := hk.eq_of_clean hc.1
    subst hke
    simp only [exFindA] at h
    split at h
    · rename_i hq
      simp only [Option.some.injEq] at h
      subst h
      exact ⟨some (i, _), by rw [Instr.findAsking, Sem.run_bind, valQ_run w _ _ hq]; rfl, rfl, hv⟩
    · rename_i hq
      obtain ⟨r', h1, h2⟩ := ih hc.2 (i + 1) r h
      exact ⟨r', by rw [Instr.findAsking, Sem.run_bind, valQ_run w _ _ hq]; simpa [Result.andThen] using h1, h2⟩
    · cases h
def exFind (P : Program) (kt : TypeId) (k : Value) (es : List MapEntry) : Option (Option (Nat × Value)) :=
  if es.all (fun e => clean e.key) = true then
    match P.underlying kt with
    | some kind => match Instr.findNow kind k es 0 with
      | some r => some r
      | none => exFindA P kt k es 0
    | none => none
  else none
theorem exFind_run {kt : TypeId} {k : Value} {es es' : List MapEntry} (h : ER E es es') {r : Option (Nat × Value)} (he : exFind P kt k es = some r) : ∃ r', (Instr.findKey kt k es').run P w = .ok r' w ∧ FR E r r' := by
  unfold exFind at he
  split at he
  · rename_i hc
    cases hu : P.underlying kt with
    | none => rw [hu] at he; cases he
    | some kind =>
      rw [hu] at he
      simp only at he
      have hF := findNow_ER h hc kind k 0
      cases hn : Instr.findNow kind k es 0 with
      | none =>
        rw [hn] at he
        have := hF.1 hn
        obtain ⟨r', h1, h2⟩ := exFindA_run (P := P) (w := w) h hc 0 r he
        exact ⟨r', by rw [Instr.findKey, Sem.run_bind, run_underlying hu]; simpa [Result.andThen, this] using h1, h2⟩
      | some q =>
        rw [hn] at he
        injection he with he
        subst he
        obtain ⟨r', h1, h2⟩ := hF.2 _ hn
        exact ⟨r', by rw [Instr.findKey, Sem.run_bind, run_underlying hu]; simp [Result.andThen, h1, Sem.run_pure], h2⟩
  · cases he

/-! ### lookups -/
def exEntries (H : T AObj) : Value → Option (List MapEntry)
  | .map none => some []
  | .map (some i) => match H.get i with
    | some (.map es _) => some es
    | _ => none
  | _ => none
def exLookup (P : Program) (H : T AObj) (t : TypeId) (x k : Value) (ok : Bool) : Option Value :=
  match P.underlying t, exEntries H x with
  | some (.map key elem), some es =>
    match valQ P (Instr.checkKey es.isEmpty 10000 key k), exFind P key k es with
    | some _, some (some (_, v)) => some (if ok then .tuple ⟨[v, .bool true]⟩ else v)
    | some _, some none => match P.info? elem with
      | some info => match info.zero with
        | some z => if clean z then some (if ok then .tuple ⟨[z, .bool false]⟩ else z) else none
        | none => none
      | none => none
    | _, _ => none
  | _, _ => none
theorem getObj_map {b : Nat} {es : Array MapEntry} {clock : Nat} (hb : w.heap[b]? = some (.map es clock)) : (getObj b).run P w = .ok (.map es clock) w := by simp [getObj, Sem.run, hb]
def MapIs (w : World) (x : Value) (es : Array MapEntry) : Prop := (x = .map none ∧ es = #[]) ∨ ∃ b clock, x = .map (some b) ∧ w.heap[b]? = some (.map es clock)
theorem lookup_some {t key elem : TypeId} {x k v : Value} {es : Array MapEntry} {ok : Bool} {i : Nat} (hx : MapIs w x es) (hu : P.underlying t = some (.map key elem)) (hck : (Instr.checkKey es.isEmpty 10000 key k).run P w = .ok () w)
    (hr : (Instr.findKey key k es.toList).run P w = .ok (some (i, v)) w) : (Instr.lookup t x k ok).run P w = .ok (if ok then .tuple #[v, .bool true] else v) w := by
  rcases hx with ⟨rfl, rfl⟩ | ⟨b, clock, rfl, hb⟩
  · rw [Instr.lookup, Sem.run_bind, run_underlying hu]
    simp only [Array.isEmpty_empty] at hck
    simp [Result.andThen, hck, hr, Sem.run_pure]
  · rw [Instr.lookup, Sem.run_bind, run_underlying hu]
    simp [Result.andThen, getObj_map hb, hck, hr, Sem.run_pure]
theorem lookup_none {t key elem : TypeId} {x k z : Value} {es : Array MapEntry} {ok : Bool} {info : TypeInfo} (hx : MapIs w x es) (hu : P.underlying t = some (.map key elem)) (hck : (Instr.checkKey es.isEmpty 10000 key k).run P w = .ok () w)
    (hr : (Instr.findKey key k es.toList).run P w = .ok none w) (hi : P.info? elem = some info) (hz : info.zero = some z) : (Instr.lookup t x k ok).run P w = .ok (if ok then .tuple #[z, .bool false] else z) w := by
  rcases hx with ⟨rfl, rfl⟩ | ⟨b, clock, rfl, hb⟩
  · rw [Instr.lookup, Sem.run_bind, run_underlying hu]
    simp only [Array.isEmpty_empty] at hck
    simp [Result.andThen, hck, hr, zeroValue, run_typeInfo w hi, hz, Sem.run_pure]
  · rw [Instr.lookup, Sem.run_bind, run_underlying hu]
    simp [Result.andThen, getObj_map hb, hck, hr, zeroValue, run_typeInfo w hi, hz, Sem.run_pure]
theorem exEntries_run (h : HR P w0 E m.H m.next w) {x x' : Value} {es : List MapEntry} (hx : VR E x x') (he : exEntries m.H x = some es) : ∃ es' : Array MapEntry, ER E es es'.toList ∧ MapIs w x' es' := by
  cases hx <;> try (simp [exEntries] at he; done)
  · simp only [exEntries, Option.some.injEq] at he
    subst he
    exact ⟨#[], .nil, .inl ⟨rfl, rfl⟩⟩
  · rename_i i b hb
    simp only [exEntries] at he
    cases hg : m.H.get i with
    | none => rw [hg] at he; cases he
    | some ob =>
      rw [hg] at he
      cases ob <;> try (simp at he; done)
      rename_i es0 clock
      simp only [Option.some.injEq] at he
      subst he
      obtain ⟨b', r, h1, h2, arr, rfl, h3⟩ := h.obj hb hg
      obtain rfl : b = b' := by rw [hb] at h1; injection h1
      exact ⟨arr, h3, .inr ⟨b, clock, rfl, h2⟩⟩
theorem exLookup_run (h : HR P w0 E m.H m.next w) {t : TypeId} {x x' k u : Value} {ok : Bool} (hx : VR E x x') (he : exLookup P m.H t x k ok = some u) : ∃ u', (Instr.lookup t x' k ok).run P w = .ok u' w ∧ VR E u u' := by
  unfold exLookup at he
  cases hu : P.underlying t with
  | none => rw [hu] at he; simp at he
  | some d =>
    rw [hu] at he
    cases d <;> try (simp at he; done)
    rename_i key elem
    cases hes : exEntries m.H x with
    | none => rw [hes] at he; simp at he
    | some es =>
      rw [hes] at he
      simp only at he
      obtain ⟨es', hER, hM⟩ := exEntries_run h hx hes
      have hemp : es.isEmpty = es'.isEmpty := by
        have := hER.len
        cases es <;> simp_all [Array.isEmpty]
      cases hck : valQ P (Instr.checkKey es.isEmpty 10000 key k) with
      | none => rw [hck] at he; simp at he
      | some q =>
        rw [hck] at he
        have hck' := valQ_run w _ _ hck
        rw [hemp] at hck'
        cases hf : exFind P key k es with
        | none => rw [hf] at he; simp at he
        | some r =>
          rw [hf] at he
          obtain ⟨r', hr1, hr2⟩ := exFind_run (P := P) (w := w) hER hf
          cases r with
          | none =>
            cases r' with
            | some _ => exact absurd hr2 (by simp [FR])
            | none =>
              simp only at he
              cases hi : P.info? elem with
              | none => rw [hi] at he; cases he
              | some info =>
                rw [hi] at he
                simp only at he
                cases hz : info.zero with
                | none => rw [hz] at he; cases he
                | some z =>
                  rw [hz] at he
                  simp only at he
                  split at he
                  · rename_i hcl
                    simp only [Option.some.injEq] at he
                    subst he
                    refine ⟨_, lookup_none (ok := ok) hM hu hck' hr1 hi hz, ?_⟩
                    cases ok
                    · exact VR.of_clean E z hcl
                    · exact .tuple (.cons (VR.of_clean E z hcl) (.cons (.bool false) .nil))
                  · cases he
          | some iv =>
            obtain ⟨i, v⟩ := iv
            cases r' with
            | none => exact absurd hr2 (by simp [FR])
            | some iv' =>
              obtain ⟨j, v'⟩ := iv'
              obtain ⟨rfl, hvv⟩ : i = j ∧ VR E v v' := hr2
              simp only [Option.some.injEq] at he
              subst he
              refine ⟨_, lookup_some (ok := ok) hM hu hck' hr1, ?_⟩
              cases ok
              · exact hvv
              · exact .tuple (.cons hvv (.cons (.bool true) .nil))

/-! ### entries -/
theorem HR.put {H : T AObj} {next : Nat} (h : HR P w0 E H next w) {i b : Nat} (h64 : 64 ≤ i) (hi : i < 1073741824) {o o' : AObj} {r' : Obj} (hg : H.get i = some o) (hb : E.blk i = some b) (ho : OR P E i o' r') :
    HR P w0 E (H.set i o') next { w with heap := w.heap.setIfInBounds b r' } := by
  have hd := h.dom i b hb
  refine h.turn hi hg hb ho ⟨rfl, rfl, rfl, by simp, fun k hk => ?_⟩ ?_ fun k hk => ?_
  · rw [Array.getElem?_setIfInBounds_ne (by have := (hd.2 h64).1; omega)]
  · simp [(hd.2 h64).2]
  · rw [Array.getElem?_setIfInBounds_ne (by omega)]
theorem ER.push {es es' : List MapEntry} (h : ER E es es') {k k' v v' : Value} (hk : VR E k k') (hv : VR E v v') (born : Nat) : ER E (es ++ [⟨k, v, born⟩]) (es' ++ [⟨k', v', born⟩]) := by
  induction h with
  | nil => exact .cons born hk hv .nil
  | cons b hk2 hv2 _ ih => exact .cons b hk2 hv2 ih
theorem ER.modify {es es' : List MapEntry} (h : ER E es es') {k k' v v' : Value} (hk : VR E k k') (hv : VR E v v') : ∀ i, ER E (es.modify i fun e => { e with key := k, val := v }) (es'.modify i fun e => { e with key := k', val := v' }) := by
  induction h with
  | nil => intro i; cases i <;> exact .nil
  | cons b hk2 hv2 hr ih =>
    intro i
    cases i with
    | zero => exact .cons b hk hv hr
    | succ i => exact .cons b hk2 hv2 (ih i)
theorem ER.key {es es' : List MapEntry} (h : ER E es es') (hc : es.all (fun e => clean e.key) = true) (i : Nat) : es'[i]?.map (·.key) = es[i]?.map (·.key) := by
  have := congrArg (fun l => l[i]?) (h.keys hc)
  simpa using this
/-- An entry is set (the key without any address). -/
def exUpdate (P : Program) (m : Mem) (t : TypeId) (x k v : Value) : Option Mem :=
  match P.underlying t, x with
  | some (.map key _), .map (some i) =>
    match m.H.get i with
    | some (.map es clock) =>
      if i < 1073741824 ∧ m.lo + 64 ≤ i ∧ clean k = true ∧ es.all (fun e => clean e.key) = true then
        match valQ P (Instr.checkKey false 10000 key k), exFind P key k es with
        | some _, some (some (j, _)) => if Instr.sameBits 10000 ((es[j]?.map (·.key)).getD k) k = true then some { m with H := m.H.set i (.map (es.modify j fun e => { e with key := k, val := v }) clock) } else none
        | some _, some none => some { m with H := m.H.set i (.map (es ++ [⟨k, v, clock⟩]) (clock + 1)) }
        | _, _ => none
      else none
    | _ => none
  | _, _ => none
theorem exUpdate_run (h : HR P w0 E m.H m.next w) {t : TypeId} {x x' k v v' : Value} (hx : VR E x x') (hv : VR E v v') {m' : Mem} (he : exUpdate P m t x k v = some m') :
    ∃ w', (Instr.mapUpdate t x' k v').run P w = .ok () w' ∧ HR P w0 E m'.H m'.next w' ∧ (∀ i, i < m.lo → m'.H.get i = m.H.get i) ∧ m'.lo = m.lo ∧ m.next = m'.next := by
  unfold exUpdate at he
  cases hu : P.underlying t with
  | none => rw [hu] at he; simp at he
  | some d =>
    rw [hu] at he
    cases d <;> try (simp at he; done)
    rename_i key elem
    cases hx <;> try (simp at he; done)
    rename_i i b hb
    simp only at he
    cases hg : m.H.get i with
    | none => rw [hg] at he; cases he
    | some ob =>
      rw [hg] at he
      cases ob <;> try (simp at he; done)
      rename_i es clock
      simp only at he
      split at he
      · rename_i hc
        obtain ⟨c1, c2, c3, c4⟩ := hc
        obtain ⟨b', r, h1, h2, arr, rfl, hER⟩ := h.obj hb hg
        obtain rfl : b = b' := by rw [hb] at h1; injection h1
        have hgo := getObj_map (P := P) h2
        have hso : ∀ o, (setObj b o).run P w = .ok () { w with heap := w.heap.setIfInBounds b o } := fun o => by simp [setObj, Sem.run, h2]
        cases hck : valQ P (Instr.checkKey false 10000 key k) with
        | none => rw [hck] at he; simp at he
        | some q =>
          have hck' := valQ_run w _ _ hck
          rw [hck] at he
          cases hf : exFind P key k es with
          | none => rw [hf] at he; simp at he
          | some r =>
            rw [hf] at he
            obtain ⟨r', hr1, hr2⟩ := exFind_run (P := P) (w := w) hER hf
            cases r with
            | none =>
              cases r' with
              | some _ => exact absurd hr2 (by simp [FR])
              | none =>
                simp only [Option.some.injEq] at he
                subst he
                refine ⟨_, ?_, h.put (by omega) c1 hg hb (o' := .map (es ++ [⟨k, v, clock⟩]) (clock + 1)) (r' := .map (arr.push ⟨k, v', clock⟩) (clock + 1)) ⟨_, rfl, by simpa using hER.push (VR.of_clean E k c3) hv clock⟩,
                  fun j hj => by show (m.H.set i _).get j = _; rw [T.get_set _ _ _ c1, if_neg (by omega)], rfl, rfl⟩
                rw [Instr.mapUpdate, Sem.run_bind, run_underlying hu]
                simp [Result.andThen, hgo, hck', hr1, hso]
            | some jv =>
              obtain ⟨j, u⟩ := jv
              cases r' with
              | none => exact absurd hr2 (by simp [FR])
              | some jv' =>
                obtain ⟨j', u'⟩ := jv'
                obtain ⟨rfl, _⟩ : j = j' ∧ VR E u u' := hr2
                simp only at he
                split at he
                · rename_i hsb
                  simp only [Option.some.injEq] at he
                  subst he
                  refine ⟨_, ?_, h.put (by omega) c1 hg hb (o' := .map (es.modify j fun e => { e with key := k, val := v }) clock) (r' := .map (arr.modify j fun e => { e with key := k, val := v' }) clock) ⟨_, rfl, by simpa using hER.modify (VR.of_clean E k c3) hv j⟩,
                    fun q hq => by show (m.H.set i _).get q = _; rw [T.get_set _ _ _ c1, if_neg (by omega)], rfl, rfl⟩
                  have hkey : ((arr[j]?).map (·.key)).getD k = ((es[j]?).map (·.key)).getD k := by
                    have := hER.key c4 j
                    simp only [Array.getElem?_toList] at this
                    rw [this]
                  rw [Instr.mapUpdate, Sem.run_bind, run_underlying hu]
                  simp only [Result.andThen, Sem.run_bind, hgo, hck', hr1, Instr.keyThatStays, hkey, hsb, if_true, Sem.run_pure, hso]
                · cases he
      · cases he

/-! ### maps that are made, walks through strings -/
def exObjNew (m : Mem) (o : AObj) : Option Mem := if m.next < 1073741824 then some { m with H := m.H.set m.next o, next := m.next + 1 } else none
theorem exObjNew_run (h : HR P w0 E m.H m.next w) (hlo : m.lo ≤ m.next) {o : AObj} {r : Obj} (ho : OR P (E.more m.next w.heap.size none) m.next o r) {m' : Mem} (he : exObjNew m o = some m') :
    E.le (E.more m.next w.heap.size none) ∧ HR P w0 (E.more m.next w.heap.size none) m'.H m'.next (w.alloc r) ∧ (∀ i, i < m.lo → m'.H.get i = m.H.get i) ∧ m'.lo = m.lo ∧ m.next ≤ m'.next := by
  unfold exObjNew at he
  split at he
  · rename_i hn
    simp only [Option.some.injEq] at he
    subst he
    exact ⟨Env.le_more h _ _, h.new hn ho, fun i hi => by show (m.H.set _ _).get i = _; rw [T.get_set _ _ _ hn, if_neg (by omega)], rfl, by simp⟩
  · cases he
def exMakeMap (P : Program) (m : Mem) (t : TypeId) (hint : Option Value) : Option (Value × Mem) :=
  match P.underlying t, (match hint with | none => true | some (.int _ _) => true | _ => false) with
  | some (.map _ _), true => match exObjNew m (.map [] 0) with
    | some m' => some (.map (some m.next), m')
    | none => none
  | _, _ => none
theorem exMakeMap_run (h : HR P w0 E m.H m.next w) (hlo : m.lo ≤ m.next) {t : TypeId} {hint : Option Value} {u : Value} {m' : Mem} (he : exMakeMap P m t hint = some (u, m')) : Good P w0 E m w (Instr.makeMap t hint) u m' := by
  unfold exMakeMap at he
  cases hu : P.underlying t with
  | none => rw [hu] at he; simp at he
  | some d =>
    rw [hu] at he
    cases d <;> try (simp at he; done)
    split at he
    · rename_i hh
      cases hq : exObjNew m (.map [] 0) with
      | none => rw [hq] at he; cases he
      | some m1 =>
        rw [hq] at he
        simp only [Option.some.injEq, Prod.mk.injEq] at he
        obtain ⟨rfl, rfl⟩ := he
        obtain ⟨h1, h2, h3, h4, h5⟩ := exObjNew_run (w := w) h hlo (o := .map [] 0) (r := .map #[] 0) ⟨#[], rfl, .nil⟩ hq
        refine ⟨_, .map (some w.heap.size), _, ?_, h1, h2, .map (by simp [Env.more]), h3, h4, h5⟩
        cases hint with
        | none => simp [Instr.makeMap, Sem.run_pure]
        | some v => cases v <;> first | (simp at hh; done) | simp [Instr.makeMap, run_underlying hu, asInt, asIntOf, Sem.run_pure]
    · cases he
def exRange (P : Program) (m : Mem) (t : TypeId) (x : Value) : Option (Value × Mem) :=
  match P.underlying t, x with
  | some .string, .string s => match exObjNew m (.iter s 0) with
    | some m' => some (.pointer (some ⟨m.next, 0, none⟩), m')
    | none => none
  | some (.map _ _), .map none => match exObjNew m (.miter none 0 0 []) with
    | some m' => some (.pointer (some ⟨m.next, 0, none⟩), m')
    | none => none
  | some (.map _ _), .map (some j) => match m.H.get j with
    | some (.map _ clock) => match exObjNew m (.miter (some j) clock clock []) with
      | some m' => some (.pointer (some ⟨m.next, 0, none⟩), m')
      | none => none
    | _ => none
  | _, _ => none
theorem exRange_run (h : HR P w0 E m.H m.next w) (hlo : m.lo ≤ m.next) {t : TypeId} {x x' u : Value} (hx : VR E x x') {m' : Mem} (he : exRange P m t x = some (u, m')) : Good P w0 E m w (Instr.range t x') u m' := by
  unfold exRange at he
  cases hu : P.underlying t with
  | none => rw [hu] at he; simp at he
  | some d =>
    rw [hu] at he
    cases d <;> try (simp at he; done)
    case string =>
      cases hx <;> try (simp at he; done)
      rename_i s
      simp only at he
      cases hq : exObjNew m (.iter s 0) with
      | none => rw [hq] at he; cases he
      | some m1 =>
        rw [hq] at he
        simp only [Option.some.injEq, Prod.mk.injEq] at he
        obtain ⟨rfl, rfl⟩ := he
        obtain ⟨h1, h2, h3, h4, h5⟩ := exObjNew_run (w := w) h hlo (o := .iter s 0) (r := .stringIter s 0) rfl hq
        refine ⟨_, .pointer (some ⟨w.heap.size, 0, none⟩), _, ?_, h1, h2, .ptr 0 (by simp [Env.more]), h3, h4, h5⟩
        simp [Instr.range, run_underlying hu, Sem.run_pure]
    case map =>
      cases hx <;> try (simp at he; done)
      · simp only at he
        cases hq : exObjNew m (.miter none 0 0 []) with
        | none => rw [hq] at he; cases he
        | some m1 =>
          rw [hq] at he
          simp only [Option.some.injEq, Prod.mk.injEq] at he
          obtain ⟨rfl, rfl⟩ := he
          obtain ⟨h1, h2, h3, h4, h5⟩ := exObjNew_run (w := w) h hlo (o := .miter none 0 0 []) (r := .mapIter none 0 #[] 0) rfl hq
          refine ⟨_, .pointer (some ⟨w.heap.size, 0, none⟩), _, ?_, h1, h2, .ptr 0 (by simp [Env.more]), h3, h4, h5⟩
          simp [Instr.range, run_underlying hu, Sem.run_pure]
      · rename_i j b hb
        simp only at he
        cases hg : m.H.get j with
        | none => rw [hg] at he; simp at he
        | some ob =>
          rw [hg] at he
          cases ob <;> try (simp at he; done)
          rename_i es clock
          simp only at he
          cases hq : exObjNew m (.miter (some j) clock clock []) with
          | none => rw [hq] at he; cases he
          | some m1 =>
            rw [hq] at he
            simp only [Option.some.injEq, Prod.mk.injEq] at he
            obtain ⟨rfl, rfl⟩ := he
            obtain ⟨b', r, g1, g2, arr, rfl, _⟩ := h.obj hb hg
            obtain rfl : b = b' := by rw [hb] at g1; injection g1
            obtain ⟨h1, h2, h3, h4, h5⟩ := exObjNew_run (w := w) h hlo (o := .miter (some j) clock clock []) (r := .mapIter (some b) clock #[] clock) ⟨b, ((Env.le_more h w.heap.size none).to j b hb).1, rfl⟩ hq
            refine ⟨_, .pointer (some ⟨w.heap.size, 0, none⟩), _, ?_, h1, h2, .ptr 0 (by simp [Env.more]), h3, h4, h5⟩
            simp [Instr.range, run_underlying hu, getObj_map g2, Sem.run_pure]
/-- Which entries may come next in a walk over a map. -/
def nextCands (es : List MapEntry) (since last : Nat) (seen : List Nat) : Option (List (Option MapEntry)) :=
  if !seen.isEmpty && !es.isEmpty && es.all (fun e => decide (e.born ≥ last)) then none
  else some ((if ((es.filter fun e => !seen.contains e.born).filter fun e => decide (e.born < since)).isEmpty then [none] else []) ++
    (((es.filter fun e => !seen.contains e.born).filter fun e => decide (e.born < since)) ++ ((es.filter fun e => !seen.contains e.born).filter fun e => decide (e.born ≥ since))).map some)
theorem ER.filter {es es' : List MapEntry} (h : ER E es es') {p : Nat → Bool} : ER E (es.filter fun e => p e.born) (es'.filter fun e => p e.born) := by
  induction h with
  | nil => exact .nil
  | cons b hk hv _ ih =>
    simp only [List.filter_cons]
    cases hp : p b with
    | true => simp only [if_true]; exact .cons b hk hv ih
    | false => simpa using ih
theorem ER.append {x x' y y' : List MapEntry} (h : ER E x x') (k : ER E y y') : ER E (x ++ y) (x' ++ y') := by
  induction h with
  | nil => exact k
  | cons b hk hv _ ih => exact .cons b hk hv ih
theorem ER.all {es es' : List MapEntry} (h : ER E es es') {p : Nat → Bool} : (es'.all fun e => p e.born) = (es.all fun e => p e.born) := by
  induction h with
  | nil => rfl
  | cons b hk hv _ ih => simp only [List.all_cons, ih]
theorem ER.nth {es es' : List MapEntry} (h : ER E es es') : ∀ {i : Nat} {e' : MapEntry}, es'[i]? = some e' → ∃ e, es[i]? = some e ∧ VR E e.key e'.key ∧ VR E e.val e'.val ∧ e.born = e'.born := by
  induction h with
  | nil => intro i e' he; simp at he
  | cons b hk hv _ ih =>
    intro i e' he
    cases i with
    | zero => simp at he; subst he; exact ⟨_, rfl, hk, hv, rfl⟩
    | succ i => simp at he; simpa using ih he
/-- What may come of a walk's next step. -/
def candOut (m : Mem) (i j since clock : Nat) (seen : List Nat) : Option MapEntry → Value × Mem
  | none => (.tuple ⟨[.bool false]⟩, m)
  | some e => (.tuple ⟨[.bool true, e.key, e.val]⟩, { m with H := m.H.set i (.miter (some j) since clock (seen ++ [e.born])) })
def CandR (E : Env) : Option MapEntry → Option MapEntry → Prop
  | none, none => True
  | some e, some e' => VR E e.key e'.key ∧ VR E e.val e'.val ∧ e.born = e'.born
  | _, _ => False
def exNextN (m : Mem) (x : Value) : Option (List (Value × Mem)) :=
  match x with
  | .pointer (some ⟨i, 0, none⟩) => match m.H.get i with
    | some (.miter (some j) since last seen) => match m.H.get j with
      | some (.map es clock) => if i < 1073741824 ∧ m.lo + 64 ≤ i then
          match nextCands es since last seen with
          | some cs => some (cs.map (candOut m i j since clock seen))
          | none => none
        else none
      | _ => none
    | _ => none
  | _ => none
theorem exNextN_run (h : HR P w0 E m.H m.next w) {x x' : Value} (hx : VR E x x') {L : List (Value × Mem)} (he : exNextN m x = some L) (t : TypeId) : ∃ r ∈ L, Good P w0 E m w (Instr.next x' false t) r.1 r.2 := by
  unfold exNextN at he
  split at he
  · rename_i i
    cases hx with
    | @ptr _ b _ hb =>
    split at he
    · rename_i j since last seen hg
      split at he
      · rename_i es clock hgj
        split at he
        · rename_i hc
          obtain ⟨c1, c2⟩ := hc
          split at he
          · rename_i cs hcs
            injection he with he
            subst he
            obtain ⟨b', r, h1, h2, bj, e1, rfl⟩ := h.obj hb hg
            obtain rfl : b = b' := by rw [hb] at h1; injection h1
            obtain ⟨bj', rj, g1, g2, arr, rfl, hER⟩ := h.obj e1 hgj
            obtain rfl : bj = bj' := by rw [e1] at g1; injection g1
            have hgo : (getObj b).run P w = .ok (.mapIter (some bj) since seen.toArray last) w := by simp [getObj, Sem.run, h2]
            have hgm : ∀ W : World, W.heap = w.heap → (getObj bj).run P W = .ok (.map arr clock) W := fun W hW => by simp [getObj, Sem.run, hW, g2]
            unfold nextCands at hcs
            split at hcs
            · cases hcs
            · rename_i hno
              injection hcs with hcs
              -- the model's own candidates
              obtain ⟨cand', hcand'⟩ : ∃ cand' : Array (Option MapEntry), cand' = (if ((arr.filter fun e => !seen.toArray.contains e.born).filter (·.born < since)).isEmpty then #[none] else #[]) ++
                (((arr.filter fun e => !seen.toArray.contains e.born).filter (·.born < since)) ++ ((arr.filter fun e => !seen.toArray.contains e.born).filter (·.born ≥ since))).map some := ⟨_, rfl⟩
              have hleft : ER E (es.filter fun e => !seen.contains e.born) (arr.filter fun e => !seen.toArray.contains e.born).toList := by
                have := hER.filter (p := fun b => !seen.contains b)
                simpa using this
              have hold : ER E ((es.filter fun e => !seen.contains e.born).filter fun e => decide (e.born < since)) ((arr.filter fun e => !seen.toArray.contains e.born).filter (·.born < since)).toList := by
                have := hleft.filter (p := fun b => decide (b < since))
                simpa using this
              have hnew : ER E ((es.filter fun e => !seen.contains e.born).filter fun e => decide (e.born ≥ since)) ((arr.filter fun e => !seen.toArray.contains e.born).filter (·.born ≥ since)).toList := by
                have := hleft.filter (p := fun b => decide (b ≥ since))
                simpa using this
              have hemp : ((arr.filter fun e => !seen.toArray.contains e.born).filter (·.born < since)).isEmpty = ((es.filter fun e => !seen.contains e.born).filter fun e => decide (e.born < since)).isEmpty := by
                have := hold.len
                rw [Bool.eq_iff_iff, Array.isEmpty_iff_size_eq_zero, List.isEmpty_iff_length_eq_zero, ← Array.length_toList, this]
              have hguard : (!seen.toArray.isEmpty && !arr.isEmpty && arr.all (·.born ≥ last)) = false := by
                have h0 : (!seen.isEmpty && !es.isEmpty && es.all (fun e => decide (e.born ≥ last))) = false := by simpa using hno
                have ha := hER.all (p := fun b => decide (b ≥ last))
                have hl := hER.len
                have e2 : arr.isEmpty = es.isEmpty := by rw [Bool.eq_iff_iff, Array.isEmpty_iff_size_eq_zero, List.isEmpty_iff_length_eq_zero, ← Array.length_toList, hl]
                have e3 : seen.toArray.isEmpty = seen.isEmpty := by simp
                have e4 : arr.all (fun e => decide (e.born ≥ last)) = es.all (fun e => decide (e.born ≥ last)) := by rw [← Array.all_toList]; exact ha
                rw [e2, e3, e4]; exact h0
              have hcands : ∀ (k : Nat) (c' : Option MapEntry), cand'[k]? = some c' → ∃ c, cs[k]? = some c ∧ CandR E c c' := by
                intro k c' hk
                rw [hcand', hemp] at hk
                rw [← hcs]
                have hon := hold.append hnew
                have step : ∀ (k : Nat) (c' : MapEntry), (((arr.filter fun e => !seen.toArray.contains e.born).filter (·.born < since)) ++ ((arr.filter fun e => !seen.toArray.contains e.born).filter (·.born ≥ since)))[k]? = some c' →
                    ∃ e : MapEntry, (((es.filter fun e => !seen.contains e.born).filter fun e => decide (e.born < since)) ++ ((es.filter fun e => !seen.contains e.born).filter fun e => decide (e.born ≥ since)))[k]? = some e ∧ VR E e.key c'.key ∧ VR E e.val c'.val ∧ e.born = c'.born := fun k c' hk => by
                  refine hon.nth (i := k) (e' := c') ?_
                  rw [← Array.toList_append, Array.getElem?_toList]
                  exact hk
                split at hk
                · rename_i hem
                  rw [if_pos hem]
                  cases k with
                  | zero =>
                    rw [Array.getElem?_append_left (by simp)] at hk
                    simp at hk
                    subst hk
                    exact ⟨none, by simp, trivial⟩
                  | succ k =>
                    rw [Array.getElem?_append_right (by simp)] at hk
                    simp only [List.size_toArray, List.length_cons, List.length_nil, Nat.zero_add, Nat.add_sub_cancel, Array.getElem?_map] at hk
                    cases hq : (((arr.filter fun e => !seen.toArray.contains e.born).filter (·.born < since)) ++ ((arr.filter fun e => !seen.toArray.contains e.born).filter (·.born ≥ since)))[k]? with
                    | none => rw [hq] at hk; simp at hk
                    | some e' =>
                      rw [hq] at hk
                      simp only [Option.map_some, Option.some.injEq] at hk
                      subst hk
                      obtain ⟨e, q1, q2⟩ := step k e' hq
                      exact ⟨some e, by simp only [List.singleton_append, List.getElem?_cons_succ, List.getElem?_map, q1, Option.map_some], q2⟩
                · rename_i hem
                  rw [if_neg hem]
                  simp only [Array.empty_append, List.nil_append, Array.getElem?_map, List.getElem?_map] at hk ⊢
                  cases hq : (((arr.filter fun e => !seen.toArray.contains e.born).filter (·.born < since)) ++ ((arr.filter fun e => !seen.toArray.contains e.born).filter (·.born ≥ since)))[k]? with
                  | none => rw [hq] at hk; simp at hk
                  | some e' =>
                    rw [hq] at hk
                    simp only [Option.map_some, Option.some.injEq] at hk
                    subst hk
                    obtain ⟨e, q1, q2⟩ := step k e' hq
                    exact ⟨some e, by rw [q1]; rfl, q2⟩
              have hpos : 0 < cand'.size := by
                rw [hcand', hemp]
                split
                · rw [Array.size_append]
                  exact Nat.lt_of_lt_of_le (show 0 < (#[none] : Array (Option MapEntry)).size by simp) (Nat.le_add_right _ _)
                · rename_i hem
                  have : ((arr.filter fun e => !seen.toArray.contains e.born).filter (·.born < since)).size ≠ 0 := fun e0 => hem (by rw [← hemp, Array.isEmpty_iff_size_eq_zero]; exact e0)
                  simp only [Array.empty_append, Array.size_map, Array.size_append]
                  omega
              -- whichever it is
              have fin : ∀ (k : Nat) (W : World), k < cand'.size → HR P w0 E m.H m.next W → W.heap = w.heap →
                  (∀ (s : Sem Value), s = (match cand'[k]? with
                    | some (some e) => do setObj b (.mapIter (some bj) since (seen.toArray.push e.born) clock); pure (.tuple #[.bool true, e.key, e.val])
                    | some none => pure (.tuple #[.bool false])
                    | none => stuck "Next: no such candidate") → (Instr.next (.pointer (some ⟨b, 0, none⟩)) false t).run P w = s.run P W) →
                  ∃ r ∈ cs.map (candOut m i j since clock seen), Good P w0 E m w (Instr.next (.pointer (some ⟨b, 0, none⟩)) false t) r.1 r.2 := by
                intro k W hk hW hWh hrun
                have hck : cand'[k]? = some cand'[k] := by simp [hk]
                obtain ⟨c, hc1, hc2⟩ := hcands k _ hck
                refine ⟨candOut m i j since clock seen c, List.mem_map.2 ⟨c, List.mem_of_getElem? hc1, rfl⟩, ?_⟩
                rw [hck] at hrun
                cases hcc : cand'[k] with
                | none =>
                  rw [hcc] at hc2 hrun
                  cases c with
                  | some _ => exact hc2.elim
                  | none =>
                    have := hrun _ rfl
                    exact ⟨E, .tuple #[.bool false], W, this, E.le_refl, hW, .tuple (.cons (.bool false) .nil), fun _ _ => rfl, rfl, Nat.le_refl _⟩
                | some e' =>
                  rw [hcc] at hc2 hrun
                  cases c with
                  | none => exact hc2.elim
                  | some e =>
                    obtain ⟨q1, q2, q3⟩ := hc2
                    have h2W : W.heap[b]? = some (.mapIter (some bj) since seen.toArray last) := by rw [hWh]; exact h2
                    have hso : ∀ o, (setObj b o).run P W = .ok () { W with heap := W.heap.setIfInBounds b o } := fun o => by simp [setObj, Sem.run, h2W]
                    have := hrun _ rfl
                    refine ⟨E, .tuple #[.bool true, e'.key, e'.val], { W with heap := W.heap.setIfInBounds b (.mapIter (some bj) since (seen.toArray.push e'.born) clock) }, ?_, E.le_refl,
                      hW.put (by omega) c1 hg hb (o' := .miter (some j) since clock (seen ++ [e.born])) ⟨bj, e1, by rw [q3]; simp⟩, .tuple (.cons (.bool true) (.cons q1 (.cons q2 .nil))), fun q hq => by show (m.H.set i _).get q = _; rw [T.get_set _ _ _ c1, if_neg (by omega)], rfl, Nat.le_refl _⟩
                    rw [this]
                    simp [hso, Sem.run_pure]
              have hnext : (Instr.next (.pointer (some ⟨b, 0, none⟩)) false t).run P w = Result.andThen ((choose (.mapNext cand'.size)).run P w) fun k W => (match cand'[k]? with
                  | some (some e) => do setObj b (.mapIter (some bj) since (seen.toArray.push e.born) clock); pure (.tuple #[.bool true, e.key, e.val])
                  | some none => pure (.tuple #[.bool false])
                  | none => stuck "Next: no such candidate" : Sem Value).run P W := by
                rw [hcand']
                unfold Instr.next
                simp only [Sem.run_bind, hgo, Result.andThen, hgm w rfl, hguard, Bool.false_eq_true, if_false]
                rfl
              by_cases hone : cand'.size ≤ 1
              · refine fin 0 w hpos h rfl fun s hs => ?_
                subst hs
                rw [hnext]
                simp only [choose, Sem.run, Question.forced, hone, decide_true, if_true, Result.andThen]
              · refine fin ((Question.mapNext cand'.size).cut (w.tape w.drawn (.mapNext cand'.size))) { w with drawn := w.drawn + 1 } (Nat.mod_lt _ hpos) h.drawn rfl fun s hs => ?_
                subst hs
                rw [hnext]
                simp only [choose, Sem.run, Question.forced, hone, decide_false, Bool.false_eq_true, if_false, Result.andThen]
          · cases he
        · cases he
      · cases he
    · cases he
  · cases he
def exNext (m : Mem) (x : Value) (str : Bool) : Option (Value × Mem) :=
  match x with
  | .pointer (some ⟨i, 0, none⟩) => match m.H.get i with
    | some (.iter s pos) => if str = true ∧ i < 1073741824 ∧ m.lo + 64 ≤ i then
        (if pos < s.size then some (.tuple ⟨[.bool true, goInt pos, .int .i32 (Utf8.decode s pos).1]⟩, { m with H := m.H.set i (.iter s (pos + (Utf8.decode s pos).2)) })
        else some (.tuple ⟨[.bool false]⟩, m)) else none
    | some (.miter none _ _ _) => if str = false then some (.tuple ⟨[.bool false]⟩, m) else none
    | some (.miter (some _) _ _ _) => if str = false then match exNextN m x with
        | some [r] => some r
        | _ => none else none
    | _ => none
  | _ => none
theorem exNext_run (h : HR P w0 E m.H m.next w) {x x' u : Value} {str : Bool} (hx : VR E x x') {m' : Mem} (he : exNext m x str = some (u, m')) (t : TypeId) : Good P w0 E m w (Instr.next x' str t) u m' := by
  cases hx <;> try (simp [exNext] at he; done)
  rename_i i b o hb
  cases o with
  | succ o => simp [exNext] at he
  | zero =>
    simp only [exNext] at he
    cases hg : m.H.get i with
    | none => rw [hg] at he; cases he
    | some ob =>
      rw [hg] at he
      cases ob <;> try (simp at he; done)
      case miter mi since last seen =>
        obtain ⟨b', r, h1, h2, hr⟩ := h.obj hb hg
        obtain rfl : b = b' := by rw [hb] at h1; injection h1
        cases mi with
        | none =>
          simp only at he
          split at he
          · rename_i hc
            subst hc
            simp only [Option.some.injEq, Prod.mk.injEq] at he
            obtain ⟨rfl, rfl⟩ := he
            obtain rfl : r = .mapIter none 0 #[] 0 := hr
            refine Good.same h (v' := .tuple #[.bool false]) ?_ (.tuple (.cons (.bool false) .nil))
            have hgo : (getObj b).run P w = .ok (.mapIter none 0 #[] 0) w := by simp [getObj, Sem.run, h2]
            simp [Instr.next, hgo, Sem.run_pure]
          · cases he
        | some j =>
          simp only at he
          split at he
          · rename_i hs
            subst hs
            split at he
            · rename_i r hr
              injection he with he
              subst he
              obtain ⟨r', hr1, hr2⟩ := exNextN_run h (.ptr 0 hb) hr t
              rw [List.mem_singleton.1 hr1] at hr2
              exact hr2
            · cases he
          · cases he
      rename_i s pos
      simp only at he
      split at he
      · rename_i hc
        obtain ⟨rfl, c2, c3⟩ := hc
        obtain ⟨b', r, h1, h2, hr⟩ := h.obj hb hg
        obtain rfl : b = b' := by rw [hb] at h1; injection h1
        obtain rfl : r = .stringIter s pos := hr
        have hgo : (getObj b).run P w = .ok (.stringIter s pos) w := by simp [getObj, Sem.run, h2]
        have hso : ∀ o, (setObj b o).run P w = .ok () { w with heap := w.heap.setIfInBounds b o } := fun o => by simp [setObj, Sem.run, h2]
        split at he
        · rename_i hp
          simp only [Option.some.injEq, Prod.mk.injEq] at he
          obtain ⟨rfl, rfl⟩ := he
          refine ⟨E, _, _, ?_, E.le_refl, h.put (by omega) c2 hg hb (o' := .iter s (pos + (Utf8.decode s pos).2)) (r' := .stringIter s (pos + (Utf8.decode s pos).2)) rfl, .tuple (.cons (.bool true) (.cons (.int _ _) (.cons (.int _ _) .nil))),
            fun q hq => by show (m.H.set i _).get q = _; rw [T.get_set _ _ _ c2, if_neg (by omega)], rfl, Nat.le_refl _⟩
          simp [Instr.next, hgo, hp, hso, Sem.run_pure, goInt]
        · rename_i hp
          simp only [Option.some.injEq, Prod.mk.injEq] at he
          obtain ⟨rfl, rfl⟩ := he
          refine Good.same h (v' := .tuple #[.bool false]) ?_ (.tuple (.cons (.bool false) .nil))
          simp [Instr.next, hgo, hp, Sem.run_pure]
      · cases he
/-- The entry at which a walk over a map stands. -/
def exEntry (H : T AObj) : Value → Option Value
  | .pointer (some ⟨i, 0, none⟩) => match H.get i with
    | some (.miter (some j) _ last seen) => match H.get j with
      | some (.map es clock) => if clock = last then match seen.getLast? with
          | some stamp => match es.find? fun e => e.born == stamp with
            | some e => some (.tuple ⟨[e.key, e.val]⟩)
            | none => none
          | none => none else none
      | _ => none
    | _ => none
  | _ => none
theorem ER.find {es es' : List MapEntry} (h : ER E es es') {b : Nat} {e : MapEntry} (hf : es.find? (fun e => e.born == b) = some e) : ∃ e', es'.find? (fun e => e.born == b) = some e' ∧ VR E e.key e'.key ∧ VR E e.val e'.val := by
  induction h with
  | nil => simp at hf
  | @cons k v k' v' born x x' hk hv _ ih =>
    simp only [List.find?_cons] at hf ⊢
    cases hb : (born == b) with
    | true => rw [hb] at hf; simp only [Option.some.injEq] at hf; subst hf; exact ⟨_, rfl, hk, hv⟩
    | false => rw [hb] at hf; exact ih hf
theorem exEntry_run (h : HR P w0 E m.H m.next w) {x x' u : Value} (hx : VR E x x') (he : exEntry m.H x = some u) : ∃ u', (Instr.entry x').run P w = .ok u' w ∧ VR E u u' := by
  unfold exEntry at he
  split at he
  · rename_i i
    cases hx with
    | @ptr _ b _ hb =>
    split at he
    · rename_i j since last seen hg
      split at he
      · rename_i es clock hgj
        split at he
        · rename_i hcl
          split at he
          · rename_i stamp hst
            split at he
            · rename_i e hf
              injection he with he
              subst he hcl
              obtain ⟨b', r, h1, h2, bj, e1, rfl⟩ := h.obj hb hg
              obtain rfl : b = b' := by rw [hb] at h1; injection h1
              obtain ⟨bj', rj, g1, g2, arr, rfl, hER⟩ := h.obj e1 hgj
              obtain rfl : bj = bj' := by rw [e1] at g1; injection g1
              obtain ⟨e', q1, q2, q3⟩ := hER.find hf
              have q1' : arr.find? (fun e => e.born == stamp) = some e' := by rw [← Array.find?_toList]; exact q1
              have hback : seen.toArray.back? = some stamp := by rw [List.back?_toArray]; exact hst
              have hgo : (getObj b).run P w = .ok (.mapIter (some bj) since seen.toArray clock) w := by simp [getObj, Sem.run, h2]
              have hgm : (getObj bj).run P w = .ok (.map arr clock) w := by simp [getObj, Sem.run, g2]
              refine ⟨.tuple #[e'.key, e'.val], ?_, .tuple (.cons q2 (.cons q3 .nil))⟩
              unfold Instr.entry
              simp only [Sem.run_bind, hgo, Result.andThen, hback, hgm, bne_self_eq_false, Bool.false_eq_true, if_false, q1']
              rfl
            · cases he
          · cases he
        · cases he
      · cases he
    · cases he
  · cases he
end Go.Proofs.YtkecgbcfkbafpaaDoor.Ev
