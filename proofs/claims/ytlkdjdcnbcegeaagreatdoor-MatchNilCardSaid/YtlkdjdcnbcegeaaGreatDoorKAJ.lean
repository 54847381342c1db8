/-
  Our machine's maps and walks through strings, and that they stand for the model's.
-/
import Derived.MapKept
import Derived.Test.YtlkdjdcnbcegeaaGreatDoorKAI
import Derived.Lib.ConvBytes
import Derived.Lib.MakeNoZero
import Derived.Lib.UnsafeStr
import Derived.Lib.Builder
/-! Our machine's maps and walks through strings, and that they stand for the model's. -/
namespace Go.Proofs.YtlkdjdcnbcegeaaGreatDoor.Ev
open Go.RowKit
set_option linter.unusedSimpArgs false

variable {P : Program} {w0 w : World} {E : Env} {m : Mem}

theorem ER.keys {es es' : List MapEntry} (h : ER E es es') (hc : es.all (fun e => clean e.key) = true) : es'.map (·.key) = es.map (·.key) := by
  induction h with
  | nil => rfl
  | cons born hk hv _ ih =>
    simp only [List.all_cons, Bool.and_eq_true] at hc
    simp [ih hc.2, hk.eq_of_clean hc.1]
theorem ER.len {es es' : List MapEntry} (h : ER E es es') : es'.length = es.length := by
  induction h with
  | nil => rfl
  | cons _ _ _ _ ih => simp [ih]

/-- Two finds that stand for one another. -/
def FR (E : Env) : Option (Nat × Value) → Option (Nat × Value) → Prop
  | none, none => True
  | some (i, v), some (j, u) => i = j ∧ VR E v u
  | _, _ => False
theorem findNow_ER {es es' : List MapEntry} (h : ER E es es') (hc : es.all (fun e => clean e.key) = true) (kind : TypeDesc) (k : Value) : ∀ i,
    (Instr.findNow kind k es i = none → Instr.findNow kind k es' i = none) ∧ ∀ r, Instr.findNow kind k es i = some r → ∃ r', Instr.findNow kind k es' i = some r' ∧ FR E r r' := by
  induction h with
  | nil => intro i; exact ⟨fun h => by simp [Instr.findNow] at h, fun r h => by simp [Instr.findNow] at h; subst h; exact ⟨none, rfl, trivial⟩⟩
  | cons born hk hv _ ih =>
    intro i
    simp only [List.all_cons, Bool.and_eq_true] at hc
    have hke := hk.eq_of_clean hc.1
    subst hke
    simp only [Instr.findNow]
    rename_i k' _ _ _ _
    cases hs : Instr.sameNow kind k k' with
    | none => exact ⟨fun _ => rfl, fun r h => by cases h⟩
    | some b =>
      cases b with
      | true => exact ⟨fun h => (by cases h), fun r h => by simp at h; subst h; exact ⟨_, rfl, rfl, hv⟩⟩
      | false => exact ih hc.2 (i + 1)
def exFindA (P : Program) (kt : TypeId) (k : Value) : List MapEntry → Nat → Option (Option (Nat × Value))
  | [], _ => some none
  | e :: es, i => match valQ P (Op.equal kt k e.key) with
    | some true => some (some (i, e.val))
    | some false => exFindA P kt k es (i + 1)
    | none => none
theorem exFindA_run {kt : TypeId} {k : Value} {es es' : List MapEntry} (h : ER E es es') (hc : es.all (fun e => clean e.key) = true) : ∀ i r, exFindA P kt k es i = some r → ∃ r', (Instr.findAsking kt k es' i).run P w = .ok r' w ∧ FR E r r' := by
  induction h with
  | nil => intro i r h; simp [exFindA] at h; subst h; exact ⟨none, rfl, trivial⟩
  | cons born hk hv _ ih =>
    intro i r h
    simp only [List.all_cons, Bool.and_eq_true] at hc
    have hke := hk.eq_of_clean hc.1
    subst hke
    simp only [exFindA] at h
    split at h
    · rename_i hq
      simp only [Option.some.injEq] at h
      subst h
      exact ⟨some (i, _), by rw [Instr.findAsking, Sem.run_bind, valQ_run w _ _ hq]; rfl, rfl, hv⟩
    · rename_i hq
      obtain ⟨r', h1, h2⟩ := ih hc.2 (i + 1) r h
      exact ⟨r', by rw [Instr.findAsking, Sem.run_bind, valQ_run w _ _ hq]; simpa [Result.andThen] using h1, h2⟩
    · cases h
def exFind (P : Program) (kt : TypeId) (k : Value) (es : List MapEntry) : Option (Option (Nat × Value)) :=
  if es.all (fun e => clean e.key) = true then
    match P.underlying kt with
    | some kind => match Instr.findNow kind k es 0 with
      | some r => some r
      | none => exFindA P kt k es 0
    | none => none
  else none
theorem exFind_run {kt : TypeId} {k : Value} {es es' : List MapEntry} (h : ER E es es') {r : Option (Nat × Value)} (he : exFind P kt k es = some r) : ∃ r', (Instr.findKey kt k es').run P w = .ok r' w ∧ FR E r r' := by
  unfold exFind at he
  split at he
  · rename_i hc
    cases hu : P.underlying kt with
    | none => rw [hu] at he; cases he
    | some kind =>
      rw [hu] at he
      simp only at he
      have hF := findNow_ER h hc kind k 0
      cases hn : Instr.findNow kind k es 0 with
      | none =>
        rw [hn] at he
        have := hF.1 hn
        obtain ⟨r', h1, h2⟩ := exFindA_run (P := P) (w := w) h hc 0 r he
        exact ⟨r', by rw [Instr.findKey, Sem.run_bind, run_underlying hu]; simpa [Result.andThen, this] using h1, h2⟩
      | some q =>
        rw [hn] at he
        injection he with he
        subst he
        obtain ⟨r', h1, h2⟩ := hF.2 _ hn
        exact ⟨r', by rw [Instr.findKey, Sem.run_bind, run_underlying hu]; simp [Result.andThen, h1, Sem.run_pure], h2⟩
  · cases he

/-! ### lookups -/
def exEntries (H : T AObj) : Value → Option (List MapEntry)
  | .map none => some []
  | .map (some i) => match H.get i with
    | some (.map es _) => some es
    | _ => none
  | _ => none
def exLookup (P : Program) (H : T AObj) (t : TypeId) (x k : Value) (ok : Bool) : Option Value :=
  match P.underlying t, exEntries H x with
  | some (.map key elem), some es =>
    match valQ P (Instr.checkKey es.isEmpty 10000 key k), exFind P key k es with
    | some _, some (some (_, v)) => some (if ok then .tuple ⟨[v, .bool true]⟩ else v)
    | some _, some none => match P.info? elem with
      | some info => match info.zero with
        | some z => if clean z then some (if ok then .tuple ⟨[z, .bool false]⟩ else z) else none
        | none => none
      | none => none
    | _, _ => none
  | _, _ => none
theorem getObj_map {b : Nat} {es : Array MapEntry} {clock : Nat} (hb : w.heap[b]? = some (.map es clock)) : (getObj b).run P w = .ok (.map es clock) w := by simp [getObj, Sem.run, hb]
def MapIs (w : World) (x : Value) (es : Array MapEntry) : Prop := (x = .map none ∧ es = #[]) ∨ ∃ b clock, x = .map (some b) ∧ w.heap[b]? = some (.map es clock)
theorem lookup_some {t key elem : TypeId} {x k v : Value} {es : Array MapEntry} {ok : Bool} {i : Nat} (hx : MapIs w x es) (hu : P.underlying t = some (.map key elem)) (hck : (Instr.checkKey es.isEmpty 10000 key k).run P w = .ok () w)
    (hr : (Instr.findKey key k es.toList).run P w = .ok (some (i, v)) w) : (Instr.lookup t x k ok).run P w = .ok (if ok then .tuple #[v, .bool true] else v) w := by
  rcases hx with ⟨rfl, rfl⟩ | ⟨b, clock, rfl, hb⟩
  · rw [Instr.lookup, Sem.run_bind, run_underlying hu]
    simp only [Array.isEmpty_empty] at hck
    simp [Result.andThen, hck, hr, Sem.run_pure]
  · rw [Instr.lookup, Sem.run_bind, run_underlying hu]
    simp [Result.andThen, getObj_map hb, hck, hr, Sem.run_pure]
theorem lookup_none {t key elem : TypeId} {x k z : Value} {es : Array MapEntry} {ok : Bool} {info : TypeInfo} (hx : MapIs w x es) (hu : P.underlying t = some (.map key elem)) (hck : (Instr.checkKey es.isEmpty 10000 key k).run P w = .ok () w)
    (hr : (Instr.findKey key k es.toList).run P w = .ok none w) (hi : P.info? elem = some info) (hz : info.zero = some z) : (Instr.lookup t x k ok).run P w = .ok (if ok then .tuple #[z, .bool false] else z) w := by
  rcases hx with ⟨rfl, rfl⟩ | ⟨b, clock, rfl, hb⟩
  · rw [Instr.lookup, Sem.run_bind, run_underlying hu]
    simp only [Array.isEmpty_empty] at hck
    simp [Result.andThen, hck, hr, zeroValue, run_typeInfo w hi, hz, Sem.run_pure]
  · rw [Instr.lookup, Sem.run_bind, run_underlying hu]
    simp [Result.andThen, getObj_map hb, hck, hr, zeroValue, run_typeInfo w hi, hz, Sem.run_pure]
theorem exEntries_run (h : HR P w0 E m.H m.next w) {x x' : Value} {es : List MapEntry} (hx : VR E x x') (he : exEntries m.H x = some es) : ∃ es' : Array MapEntry, ER E es es'.toList ∧ MapIs w x' es' := by
  cases hx <;> try (simp [exEntries] at he; done)
  · simp only [exEntries, Option.some.injEq] at he
    subst he
    exact ⟨#[], .nil, .inl ⟨rfl, rfl⟩⟩
  · rename_i i b hb
    simp only [exEntries] at he
    cases hg : m.H.get i with
    | none => rw [hg] at he; cases he
    | some ob =>
      rw [hg] at he
      cases ob <;> try (simp at he; done)
      rename_i es0 clock
      simp only [Option.some.injEq] at he
      subst he
      obtain ⟨b', r, h1, h2, arr, rfl, h3⟩ := h.obj hb hg
      obtain rfl : b = b' := by rw [hb] at h1; injection h1
      exact ⟨arr, h3, .inr ⟨b, clock, rfl, h2⟩⟩
theorem exLookup_run (h : HR P w0 E m.H m.next w) {t : TypeId} {x x' k u : Value} {ok : Bool} (hx : VR E x x') (he : exLookup P m.H t x k ok = some u) : ∃ u', (Instr.lookup t x' k ok).run P w = .ok u' w ∧ VR E u u' := by
  unfold exLookup at he
  cases hu : P.underlying t with
  | none => rw [hu] at he; simp at he
  | some d =>
    rw [hu] at he
    cases d <;> try (simp at he; done)
    rename_i key elem
    cases hes : exEntries m.H x with
    | none => rw [hes] at he; simp at he
    | some es =>
      rw [hes] at he
      simp only at he
      obtain ⟨es', hER, hM⟩ := exEntries_run h hx hes
      have hemp : es.isEmpty = es'.isEmpty := by
        have := hER.len
        cases es <;> simp_all [Array.isEmpty]
      cases hck : valQ P (Instr.checkKey es.isEmpty 10000 key k) with
      | none => rw [hck] at he; simp at he
      | some q =>
        rw [hck] at he
        have hck' := valQ_run w _ _ hck
        rw [hemp] at hck'
        cases hf : exFind P key k es with
        | none => rw [hf] at he; simp at he
        | some r =>
          rw [hf] at he
          obtain ⟨r', hr1, hr2⟩ := exFind_run (P := P) (w := w) hER hf
          cases r with
          | none =>
            cases r' with
            | some _ => exact absurd hr2 (by simp [FR])
            | none =>
              simp only at he
              cases hi : P.info? elem with
              | none => rw [hi] at he; cases he
              | some info =>
                rw [hi] at he
                simp only at he
                cases hz : info.zero with
                | none => rw [hz] at he; cases he
                | some z =>
                  rw [hz] at he
                  simp only at he
                  split at he
                  · rename_i hcl
                    simp only [Option.some.injEq] at he
                    subst he
                    refine ⟨_, lookup_none (ok := ok) hM hu hck' hr1 hi hz, ?_⟩
                    cases ok
                    · exact VR.of_clean E z hcl
                    · exact .tuple (.cons (VR.of_clean E z hcl) (.cons (.bool false) .nil))
                  · cases he
          | some iv =>
            obtain ⟨i, v⟩ := iv
            cases r' with
            | none => exact absurd hr2 (by simp [FR])
            | some iv' =>
              obtain ⟨j, v'⟩ := iv'
              obtain ⟨rfl, hvv⟩ : i = j ∧ VR E v v' := hr2
              simp only [Option.some.injEq] at he
              subst he
              refine ⟨_, lookup_some (ok := ok) hM hu hck' hr1, ?_⟩
              cases ok
              · exact hvv
              · exact .tuple (.cons hvv (.cons (.bool true) .nil))

/-! ### entries -/
theorem HR.put {H : T AObj} {next : Nat} (h : HR P w0 E H next w) {i b : Nat} (h64 : 64 ≤ i) (hi : i < 1073741824) {o o' : AObj} {r' : Obj} (hg : H.get i = some o) (hb : E.blk i = some b) (ho : OR P E i o' r') :
    HR P w0 E (H.set i o') next { w with heap := w.heap.setIfInBounds b r' } := by
  have hd := h.dom i b hb
  refine h.turn hi hg hb ho ⟨rfl, rfl, rfl, by simp, fun k hk => ?_⟩ ?_ fun k hk => ?_
  · rw [Array.getElem?_setIfInBounds_ne (by have := (hd.2 h64).1; omega)]
  · simp [(hd.2 h64).2]
  · rw [Array.getElem?_setIfInBounds_ne (by omega)]
theorem ER.push {es es' : List MapEntry} (h : ER E es es') {k k' v v' : Value} (hk : VR E k k') (hv : VR E v v') (born : Nat) : ER E (es ++ [⟨k, v, born⟩]) (es' ++ [⟨k', v', born⟩]) := by
  induction h with
  | nil => exact .cons born hk hv .nil
  | cons b hk2 hv2 _ ih => exact .cons b hk2 hv2 ih
theorem ER.modify {es es' : List MapEntry} (h : ER E es es') {k k' v v' : Value} (hk : VR E k k') (hv : VR E v v') : ∀ i, ER E (es.modify i fun e => { e with key := k, val := v }) (es'.modify i fun e => { e with key := k', val := v' }) := by
  induction h with
  | nil => intro i; cases i <;> exact .nil
  | cons b hk2 hv2 hr ih =>
    intro i
    cases i with
    | zero => exact .cons b hk hv hr
    | succ i => exact .cons b hk2 hv2 (ih i)
theorem ER.key {es es' : List MapEntry} (h : ER E es es') (hc : es.all (fun e => clean e.key) = true) (i : Nat) : es'[i]?.map (·.key) = es[i]?.map (·.key) := by
  have := congrArg (fun l => l[i]?) (h.keys hc)
  simpa using this
/-- An entry is set (the key without any address). -/
def exUpdate (P : Program) (m : Mem) (t : TypeId) (x k v : Value) : Option Mem :=
  match P.underlying t, x with
  | some (.map key _), .map (some i) =>
    match m.H.get i with
    | some (.map es clock) =>
      if i < 1073741824 ∧ m.lo + 64 ≤ i ∧ clean k = true ∧ es.all (fun e => clean e.key) = true then
        match valQ P (Instr.checkKey false 10000 key k), exFind P key k es with
        | some _, some (some (j, _)) => if Instr.sameBits 10000 ((es[j]?.map (·.key)).getD k) k = true then some { m with H := m.H.set i (.map (es.modify j fun e => { e with key := k, val := v }) clock) } else none
        | some _, some none => some { m with H := m.H.set i (.map (es ++ [⟨k, v, clock⟩]) (clock + 1)) }
        | _, _ => none
      else none
    | _ => none
  | _, _ => none
theorem exUpdate_run (h : HR P w0 E m.H m.next w) {t : TypeId} {x x' k v v' : Value} (hx : VR E x x') (hv : VR E v v') {m' : Mem} (he : exUpdate P m t x k v = some m') :
    ∃ w', (Instr.mapUpdate t x' k v').run P w = .ok () w' ∧ HR P w0 E m'.H m'.next w' ∧ (∀ i, i < m.lo → m'.H.get i = m.H.get i) ∧ m'.lo = m.lo ∧ m.next = m'.next := by
  unfold exUpdate at he
  cases hu : P.underlying t with
  | none => rw [hu] at he; simp at he
  | some d =>
    rw [hu] at he
    cases d <;> try (simp at he; done)
    rename_i key elem
    cases hx <;> try (simp at he; done)
    rename_i i b hb
    simp only at he
    cases hg : m.H.get i with
    | none => rw [hg] at he; cases he
    | some ob =>
      rw [hg] at he
      cases ob <;> try (simp at he; done)
      rename_i es clock
      simp only at he
      split at he
      · rename_i hc
        obtain ⟨c1, c2, c3, c4⟩ := hc
        obtain ⟨b', r, h1, h2, arr, rfl, hER⟩ := h.obj hb hg
        obtain rfl : b = b' := by rw [hb] at h1; injection h1
        have hgo := getObj_map (P := P) h2
        have hso : ∀ o, (setObj b o).run P w = .ok () { w with heap := w.heap.setIfInBounds b o } := fun o => by simp [setObj, Sem.run, h2]
        cases hck : valQ P (Instr.checkKey false 10000 key k) with
        | none => rw [hck] at he; simp at he
        | some q =>
          have hck' := valQ_run w _ _ hck
          rw [hck] at he
          cases hf : exFind P key k es with
          | none => rw [hf] at he; simp at he
          | some r =>
            rw [hf] at he
            obtain ⟨r', hr1, hr2⟩ := exFind_run (P := P) (w := w) hER hf
            cases r with
            | none =>
              cases r' with
              | some _ => exact absurd hr2 (by simp [FR])
              | none =>
                simp only [Option.some.injEq] at he
                subst he
                refine ⟨_, ?_, h.put (by omega) c1 hg hb (o' := .map (es ++ [⟨k, v, clock⟩]) (clock + 1)) (r' := .map (arr.push ⟨k, v', clock⟩) (clock + 1)) ⟨_, rfl, by simpa using hER.push (VR.of_clean E k c3) hv clock⟩,
                  fun j hj => by show (m.H.set i _).get j = _; rw [T.get_set _ _ _ c1, if_neg (by omega)], rfl, rfl⟩
                rw [Instr.mapUpdate, Sem.run_bind, run_underlying hu]
                simp [Result.andThen, hgo, hck', hr1, hso]
            | some jv =>
              obtain ⟨j, u⟩ := jv
              cases r' with
              | none => exact absurd hr2 (by simp [FR])
              | some jv' =>
                obtain ⟨j', u'⟩ := jv'
                obtain ⟨rfl, _⟩ : j = j' ∧ VR E u u' := hr2
                simp only at he
                split at he
                · rename_i hsb
                  simp only [Option.some.injEq] at he
                  subst he
                  refine ⟨_, ?_, h.put (by omega) c1 hg hb (o' := .map (es.modify j fun e => { e with key := k, val := v }) clock) (r' := .map (arr.modify j fun e => { e with key := k, val := v' }) clock) ⟨_, rfl, by simpa using hER.modify (VR.of_clean E k c3) hv j⟩,
                    fun q hq => by show (m.H.set i _).get q = _; rw [T.get_set _ _ _ c1, if_neg (by omega)], rfl, rfl⟩
                  have hkey : ((arr[j]?).map (·.key)).getD k = ((es[j]?).map (·.key)).getD k := by
                    have := hER.key c4 j
                    simp only [Array.getElem?_toList] at this
                    rw [this]
                  rw [Instr.mapUpdate, Sem.run_bind, run_underlying hu]
                  simp only [Result.andThen, Sem.run_bind, hgo, hck', hr1, Instr.keyThatStays, hkey, hsb, if_true, Sem.run_pure, hso]
                · cases he
      · cases he

/-! ### maps that are made, walks through strings -/
def exObjNew (m : Mem) (o : AObj) : Option Mem := if m.next < 1073741824 then some { m with H := m.H.set m.next o, next := m.next + 1 } else none
theorem exObjNew_run (h : HR P w0 E m.H m.next w) (hlo : m.lo ≤ m.next) {o : AObj} {r : Obj} (ho : OR P (E.more m.next w.heap.size none) m.next o r) {m' : Mem} (he : exObjNew m o = some m') :
    E.le (E.more m.next w.heap.size none) ∧ HR P w0 (E.more m.next w.heap.size none) m'.H m'.next (w.alloc r) ∧ (∀ i, i < m.lo → m'.H.get i = m.H.get i) ∧ m'.lo = m.lo ∧ m.next ≤ m'.next := by
  unfold exObjNew at he
  split at he
  · rename_i hn
    simp only [Option.some.injEq] at he
    subst he
    exact ⟨Env.le_more h _ _, h.new hn ho, fun i hi => by show (m.H.set _ _).get i = _; rw [T.get_set _ _ _ hn, if_neg (by omega)], rfl, by simp⟩
  · cases he
def exMakeMap (P : Program) (m : Mem) (t : TypeId) (hint : Option Value) : Option (Value × Mem) :=
  match P.underlying t, (match hint with | none => true | some (.int _ _) => true | _ => false) with
  | some (.map _ _), true => match exObjNew m (.map [] 0) with
    | some m' => some (.map (some m.next), m')
    | none => none
  | _, _ => none
theorem exMakeMap_run (h : HR P w0 E m.H m.next w) (hlo : m.lo ≤ m.next) {t : TypeId} {hint : Option Value} {u : Value} {m' : Mem} (he : exMakeMap P m t hint = some (u, m')) : Good P w0 E m w (Instr.makeMap t hint) u m' := by
  unfold exMakeMap at he
  cases hu : P.underlying t with
  | none => rw [hu] at he; simp at he
  | some d =>
    rw [hu] at he
    cases d <;> try (simp at he; done)
    split at he
    · rename_i hh
      cases hq : exObjNew m (.map [] 0) with
      | none => rw [hq] at he; cases he
      | some m1 =>
        rw [hq] at he
        simp only [Option.some.injEq, Prod.mk.injEq] at he
        obtain ⟨rfl, rfl⟩ := he
        obtain ⟨h1, h2, h3, h4, h5⟩ := exObjNew_run (w := w) h hlo (o := .map [] 0) (r := .map #[] 0) ⟨#[], rfl, .nil⟩ hq
        refine ⟨_, .map (some w.heap.size), _, ?_, h1, h2, .map (by simp [Env.more]), h3, h4, h5⟩
        cases hint with
        | none => simp [Instr.makeMap, Sem.run_pure]
        | some v => cases v <;> first | (simp at hh; done) | simp [Instr.makeMap, run_underlying hu, asInt, asIntOf, Sem.run_pure]
    · cases he
def exRange (P : Program) (m : Mem) (t : TypeId) (x : Value) : Option (Value × Mem) :=
  match P.underlying t, x with
  | some .string, .string s => match exObjNew m (.iter s 0) with
    | some m' => some (.pointer (some ⟨m.next, 0, none⟩), m')
    | none => none
  | some (.map _ _), .map none => match exObjNew m (.miter none 0 0 []) with
    | some m' => some (.pointer (some ⟨m.next, 0, none⟩), m')
    | none => none
  | some (.map _ _), .map (some j) => match m.H.get j with
    | some (.map _ clock) => match exObjNew m (.miter (some j) clock clock []) with
      | some m' => some (.pointer (some ⟨m.next, 0, none⟩), m')
      | none => none
    | _ => none
  | _, _ => none
theorem exRange_run (h : HR P w0 E m.H m.next w) (hlo : m.lo ≤ m.next) {t : TypeId} {x x' u : Value} (hx : VR E x x') {m' : Mem} (he : exRange P m t x = some (u, m')) : Good P w0 E m w (Instr.range t x') u m' := by
  unfold exRange at he
  cases hu : P.underlying t with
  | none => rw [hu] at he; simp at he
  | some d =>
    rw [hu] at he
    cases d <;> try (simp at he; done)
    case string =>
      cases hx <;> try (simp at he; done)
      rename_i s
      simp only at he
      cases hq : exObjNew m (.iter s 0) with
      | none => rw [hq] at he; cases he
      | some m1 =>
        rw [hq] at he
        simp only [Option.some.injEq, Prod.mk.injEq] at he
        obtain ⟨rfl, rfl⟩ := he
        obtain ⟨h1, h2, h3, h4, h5⟩ := exObjNew_run (w := w) h hlo (o := .iter s 0) (r := .stringIter s 0) rfl hq
        refine ⟨_, .pointer (some ⟨w.heap.size, 0, none⟩), _, ?_, h1, h2, .ptr 0 (by simp [Env.more]), h3, h4, h5⟩
        simp [Instr.range, run_underlying hu, Sem.run_pure]
    case map =>
      cases hx <;> try (simp at he; done)
      · simp only at he
        cases hq : exObjNew m (.miter none 0 0 []) with
        | none => rw [hq] at he; cases he
        | some m1 =>
          rw [hq] at he
          simp only [Option.some.injEq, Prod.mk.injEq] at he
          obtain ⟨rfl, rfl⟩ := he
          obtain ⟨h1, h2, h3, h4, h5⟩ := exObjNew_run (w := w) h hlo (o := .miter none 0 0 []) (r := .mapIter none 0 #[] 0) rfl hq
          refine ⟨_, .pointer (some ⟨w.heap.size, 0, none⟩), _, ?_, h1, h2, .ptr 0 (by simp [Env.more]), h3, h4, h5⟩
          simp [Instr.range, run_underlying hu, Sem.run_pure]
      · rename_i j b hb
        simp only at he
        cases hg : m.H.get j with
        | none => rw [hg] at he; simp at he
        | some ob =>
          rw [hg] at he
          cases ob <;> try (simp at he; done)
          rename_i es clock
          simp only at he
          cases hq : exObjNew m (.miter (some j) clock clock []) with
          | none => rw [hq] at he; cases he
          | some m1 =>
            rw [hq] at he
            simp only [Option.some.injEq, Prod.mk.injEq] at he
            obtain ⟨rfl, rfl⟩ := he
            obtain ⟨b', r, g1, g2, arr, rfl, _⟩ := h.obj hb hg
            obtain rfl : b = b' := by rw [hb] at g1; injection g1
            obtain ⟨h1, h2, h3, h4, h5⟩ := exObjNew_run (w := w) h hlo (o := .miter (some j) clock clock []) (r := .mapIter (some b) clock #[] clock) ⟨b, ((Env.le_more h w.heap.size none).to j b hb).1, rfl⟩ hq
            refine ⟨_, .pointer (some ⟨w.heap.size, 0, none⟩), _, ?_, h1, h2, .ptr 0 (by simp [Env.more]), h3, h4, h5⟩
            simp [Instr.range, run_underlying hu, getObj_map g2, Sem.run_pure]
/-- Which entries may come next in a walk over a map. -/
def nextCands (es : List MapEntry) (since last : Nat) (seen : List Nat) : Option (List (Option MapEntry)) :=
  if !seen.isEmpty && !es.isEmpty && es.all (fun e => decide (e.born ≥ last)) then none
  else some ((if ((es.filter fun e => !seen.contains e.born).filter fun e => decide (e.born < since)).isEmpty then [none] else []) ++
    (((es.filter fun e => !seen.contains e.born).filter fun e => decide (e.born < since)) ++ ((es.filter fun e => !seen.contains e.born).filter fun e => decide (e.born ≥ since))).map some)
theorem ER.filter {es es' : List MapEntry} (h : ER E es es') {p : Nat → Bool} : ER E (es.filter fun e => p e.born) (es'.filter fun e => p e.born) := by
  induction h with
  | nil => exact .nil
  | cons b hk hv _ ih =>
    simp only [List.filter_cons]
    cases hp : p b with
    | true => simp only [if_true]; exact .cons b hk hv ih
    | false => simpa using ih
theorem ER.append {x x' y y' : List MapEntry} (h : ER E x x') (k : ER E y y') : ER E (x ++ y) (x' ++ y') := by
  induction h with
  | nil => exact k
  | cons b hk hv _ ih => exact .cons b hk hv ih
theorem ER.all {es es' : List MapEntry} (h : ER E es es') {p : Nat → Bool} : (es'.all fun e => p e.born) = (es.all fun e => p e.born) := by
  induction h with
  | nil => rfl
  | cons b hk hv _ ih => simp only [List.all_cons, ih]
theorem ER.nth {es es' : List MapEntry} (h : ER E es es') : ∀ {i : Nat} {e' : MapEntry}, es'[i]? = some e' → ∃ e, es[i]? = some e ∧ VR E e.key e'.key ∧ VR E e.val e'.val ∧ e.born = e'.born := by
  induction h with
  | nil => intro i e' he; simp at he
  | cons b hk hv _ ih =>
    intro i e' he
    cases i with
    | zero => simp at he; subst he; exact ⟨_, rfl, hk, hv, rfl⟩
    | succ i => simp at he; simpa using ih he
/-- What may come of a walk's next step. -/
def candOut (m : Mem) (i j since clock : Nat) (seen : List Nat) : Option MapEntry → Value × Mem
  | none => (.tuple ⟨[.bool false]⟩, m)
  | some e => (.tuple ⟨[.bool true, e.key, e.val]⟩, { m with H := m.H.set i (.miter (some j) since clock (seen ++ [e.born])) })
def CandR (E : Env) : Option MapEntry → Option MapEntry → Prop
  | none, none => True
  | some e, some e' => VR E e.key e'.key ∧ VR E e.val e'.val ∧ e.born = e'.born
  | _, _ => False
def exNextN (m : Mem) (x : Value) : Option (List (Value × Mem)) :=
  match x with
  | .pointer (some ⟨i, 0, none⟩) => match m.H.get i with
    | some (.miter (some j) since last seen) => match m.H.get j with
      | some (.map es clock) => if i < 1073741824 ∧ m.lo + 64 ≤ i then
          match nextCands es since last seen with
          | some cs => some (cs.map (candOut m i j since clock seen))
          | none => none
        else none
      | _ => none
    | _ => none
  | _ => none
theorem exNextN_run (h : HR P w0 E m.H m.next w) {x x' : Value} (hx : VR E x x') {L : List (Value × Mem)} (he : exNextN m x = some L) (t : TypeId) : ∃ r ∈ L, Good P w0 E m w (Instr.next x' false t) r.1 r.2 := by
  unfold exNextN at he
  split at he
  · rename_i i
    cases hx with
    | @ptr _ b _ hb =>
    split at he
    · rename_i j since last seen hg
      split at he
      · rename_i es clock hgj
        split at he
        · rename_i hc
          obtain ⟨c1, c2⟩ := hc
          split at he
          · rename_i cs hcs
            injection he with he
            subst he
            obtain ⟨b', r, h1, h2, bj, e1, rfl⟩ := h.obj hb hg
            obtain rfl : b = b' := by rw [hb] at h1; injection h1
            obtain ⟨bj', rj, g1, g2, arr, rfl, hER⟩ := h.obj e1 hgj
            obtain rfl : bj = bj' := by rw [e1] at g1; injection g1
            have hgo : (getObj b).run P w = .ok (.mapIter (some bj) since seen.toArray last) w := by simp [getObj, Sem.run, h2]
            have hgm : ∀ W : World, W.heap = w.heap → (getObj bj).run P W = .ok (.map arr clock) W := fun W hW => by simp [getObj, Sem.run, hW, g2]
            unfold nextCands at hcs
            split at hcs
            · cases hcs
            · rename_i hno
              injection hcs with hcs
              -- the model's own candidates
              obtain ⟨cand', hcand'⟩ : ∃ cand' : Array (Option MapEntry), cand' = (if ((arr.filter fun e => !seen.toArray.contains e.born).filter (·.born < since)).isEmpty then #[none] else #[]) ++
                (((arr.filter fun e => !seen.toArray.contains e.born).filter (·.born < since)) ++ ((arr.filter fun e => !seen.toArray.contains e.born).filter (·.born ≥ since))).map some := ⟨_, rfl⟩
              have hleft : ER E (es.filter fun e => !seen.contains e.born) (arr.filter fun e => !seen.toArray.contains e.born).toList := by
                have := hER.filter (p := fun b => !seen.contains b)
                simpa using this
              have hold : ER E ((es.filter fun e => !seen.contains e.born).filter fun e => decide (e.born < since)) ((arr.filter fun e => !seen.toArray.contains e.born).filter (·.born < since)).toList := by
                have := hleft.filter (p := fun b => decide (b < since))
                simpa using this
              have hnew : ER E ((es.filter fun e => !seen.contains e.born).filter fun e => decide (e.born ≥ since)) ((arr.filter fun e => !seen.toArray.contains e.born).filter (·.born ≥ since)).toList := by
                have := hleft.filter (p := fun b => decide (b ≥ since))
                simpa using this
              have hemp : ((arr.filter fun e => !seen.toArray.contains e.born).filter (·.born < since)).isEmpty = ((es.filter fun e => !seen.contains e.born).filter fun e => decide (e.born < since)).isEmpty := by
                have := hold.len
                rw [Bool.eq_iff_iff, Array.isEmpty_iff_size_eq_zero, List.isEmpty_iff_length_eq_zero, ← Array.length_toList, this]
              have hguard : (!seen.toArray.isEmpty && !arr.isEmpty && arr.all (·.born ≥ last)) = false := by
                have h0 : (!seen.isEmpty && !es.isEmpty && es.all (fun e => decide (e.born ≥ last))) = false := by simpa using hno
                have ha := hER.all (p := fun b => decide (b ≥ last))
                have hl := hER.len
                have e2 : arr.isEmpty = es.isEmpty := by rw [Bool.eq_iff_iff, Array.isEmpty_iff_size_eq_zero, List.isEmpty_iff_length_eq_zero, ← Array.length_toList, hl]
                have e3 : seen.toArray.isEmpty = seen.isEmpty := by simp
                have e4 : arr.all (fun e => decide (e.born ≥ last)) = es.all (fun e => decide (e.born ≥ last)) := by rw [← Array.all_toList]; exact ha
                rw [e2, e3, e4]; exact h0
              have hcands : ∀ (k : Nat) (c' : Option MapEntry), cand'[k]? = some c' → ∃ c, cs[k]? = some c ∧ CandR E c c' := by
                intro k c' hk
                rw [hcand', hemp] at hk
                rw [← hcs]
                have hon := hold.append hnew
                have step : ∀ (k : Nat) (c' : MapEntry), (((arr.filter fun e => !seen.toArray.contains e.born).filter (·.born < since)) ++ ((arr.filter fun e => !seen.toArray.contains e.born).filter (·.born ≥ since)))[k]? = some c' →
                    ∃ e : MapEntry, (((es.filter fun e => !seen.contains e.born).filter fun e => decide (e.born < since)) ++ ((es.filter fun e => !seen.contains e.born).filter fun e => decide (e.born ≥ since)))[k]? = some e ∧ VR E e.key c'.key ∧ VR E e.val c'.val ∧ e.born = c'.born := fun k c' hk => by
                  refine hon.nth (i := k) (e' := c') ?_
                  rw [← Array.toList_append, Array.getElem?_toList]
                  exact hk
                split at hk
                · rename_i hem
                  rw [if_pos hem]
                  cases k with
                  | zero =>
                    rw [Array.getElem?_append_left (by simp)] at hk
                    simp at hk
                    subst hk
                    exact ⟨none, by simp, trivial⟩
                  | succ k =>
                    rw [Array.getElem?_append_right (by simp)] at hk
                    simp only [List.size_toArray, List.length_cons, List.length_nil, Nat.zero_add, Nat.add_sub_cancel, Array.getElem?_map] at hk
                    cases hq : (((arr.filter fun e => !seen.toArray.contains e.born).filter (·.born < since)) ++ ((arr.filter fun e => !seen.toArray.contains e.born).filter (·.born ≥ since)))[k]? with
                    | none => rw [hq] at hk; simp at hk
                    | some e' =>
                      rw [hq] at hk
                      simp only [Option.map_some, Option.some.injEq] at hk
                      subst hk
                      obtain ⟨e, q1, q2⟩ := step k e' hq
                      exact ⟨some e, by simp only [List.singleton_append, List.getElem?_cons_succ, List.getElem?_map, q1, Option.map_some], q2⟩
                · rename_i hem
                  rw [if_neg hem]
                  simp only [Array.empty_append, List.nil_append, Array.getElem?_map, List.getElem?_map] at hk ⊢
                  cases hq : (((arr.filter fun e => !seen.toArray.contains e.born).filter (·.born < since)) ++ ((arr.filter fun e => !seen.toArray.contains e.born).filter (·.born ≥ since)))[k]? with
                  | none => rw [hq] at hk; simp at hk
                  | some e' =>
                    rw [hq] at hk
                    simp only [Option.map_some, Option.some.injEq] at hk
                    subst hk
                    obtain ⟨e, q1, q2⟩ := step k e' hq
                    exact ⟨some e, by rw [q1]; rfl, q2⟩
              have hpos : 0 < cand'.size := by
                rw [hcand', hemp]
                split
                · rw [Array.size_append]
                  exact Nat.lt_of_lt_of_le (show 0 < (#[none] : Array (Option MapEntry)).size by simp) (Nat.le_add_right _ _)
                · rename_i hem
                  have : ((arr.filter fun e => !seen.toArray.contains e.born).filter (·.born < since)).size ≠ 0 := fun e0 => hem (by rw [← hemp, Array.isEmpty_iff_size_eq_zero]; exact e0)
                  simp only [Array.empty_append, Array.size_map, Array.size_append]
                  omega
              -- whichever it is
              have fin : ∀ (k : Nat) (W : World), k < cand'.size → HR P w0 E m.H m.next W → W.heap = w.heap →
                  (∀ (s : Sem Value), s = (match cand'[k]? with
                    | some (some e) => do setObj b (.mapIter (some bj) since (seen.toArray.push e.born) clock); pure (.tuple #[.bool true, e.key, e.val])
                    | some none => pure (.tuple #[.bool false])
                    | none => stuck "Next: no such candidate") → (Instr.next (.pointer (some ⟨b, 0, none⟩)) false t).run P w = s.run P W) →
                  ∃ r ∈ cs.map (candOut m i j since clock seen), Good P w0 E m w (Instr.next (.pointer (some ⟨b, 0, none⟩)) false t) r.1 r.2 := by
                intro k W hk hW hWh hrun
                have hck : cand'[k]? = some cand'[k] := by simp [hk]
                obtain ⟨c, hc1, hc2⟩ := hcands k _ hck
                refine ⟨candOut m i j since clock seen c, List.mem_map.2 ⟨c, List.mem_of_getElem? hc1, rfl⟩, ?_⟩
                rw [hck] at hrun
                cases hcc : cand'[k] with
                | none =>
                  rw [hcc] at hc2 hrun
                  cases c with
                  | some _ => exact hc2.elim
                  | none =>
                    have := hrun _ rfl
                    exact ⟨E, .tuple #[.bool false], W, this, E.le_refl, hW, .tuple (.cons (.bool false) .nil), fun _ _ => rfl, rfl, Nat.le_refl _⟩
                | some e' =>
                  rw [hcc] at hc2 hrun
                  cases c with
                  | none => exact hc2.elim
                  | some e =>
                    obtain ⟨q1, q2, q3⟩ := hc2
                    have h2W : W.heap[b]? = some (.mapIter (some bj) since seen.toArray last) := by rw [hWh]; exact h2
                    have hso : ∀ o, (setObj b o).run P W = .ok () { W with heap := W.heap.setIfInBounds b o } := fun o => by simp [setObj, Sem.run, h2W]
                    have := hrun _ rfl
                    refine ⟨E, .tuple #[.bool true, e'.key, e'.val], { W with heap := W.heap.setIfInBounds b (.mapIter (some bj) since (seen.toArray.push e'.born) clock) }, ?_, E.le_refl,
                      hW.put (by omega) c1 hg hb (o' := .miter (some j) since clock (seen ++ [e.born])) ⟨bj, e1, by rw [q3]; simp⟩, .tuple (.cons (.bool true) (.cons q1 (.cons q2 .nil))), fun q hq => by show (m.H.set i _).get q = _; rw [T.get_set _ _ _ c1, if_neg (by omega)], rfl, Nat.le_refl _⟩
                    rw [this]
                    simp [hso, Sem.run_pure]
              have hnext : (Instr.next (.pointer (some ⟨b, 0, none⟩)) false t).run P w = Result.andThen ((choose (.mapNext cand'.size)).run P w) fun k W => (match cand'[k]? with
                  | some (some e) => do setObj b (.mapIter (some bj) since (seen.toArray.push e.born) clock); pure (.tuple #[.bool true, e.key, e.val])
                  | some none => pure (.tuple #[.bool false])
                  | none => stuck "Next: no such candidate" : Sem Value).run P W := by
                rw [hcand']
                unfold Instr.next
                simp only [Sem.run_bind, hgo, Result.andThen, hgm w rfl, hguard, Bool.false_eq_true, if_false]
                rfl
              by_cases hone : cand'.size ≤ 1
              · refine fin 0 w hpos h rfl fun s hs => ?_
                subst hs
                rw [hnext]
                simp only [choose, Sem.run, Question.forced, hone, decide_true, if_true, Result.andThen]
              · refine fin ((Question.mapNext cand'.size).cut (w.tape w.drawn (.mapNext cand'.size))) { w with drawn := w.drawn + 1 } (Nat.mod_lt _ hpos) h.drawn rfl fun s hs => ?_
                subst hs
                rw [hnext]
                simp only [choose, Sem.run, Question.forced, hone, decide_false, Bool.false_eq_true, if_false, Result.andThen]
          · cases he
        · cases he
      · cases he
    · cases he
  · cases he
def exNext (m : Mem) (x : Value) (str : Bool) : Option (Value × Mem) :=
  match x with
  | .pointer (some ⟨i, 0, none⟩) => match m.H.get i with
    | some (.iter s pos) => if str = true ∧ i < 1073741824 ∧ m.lo + 64 ≤ i then
        (if pos < s.size then some (.tuple ⟨[.bool true, goInt pos, .int .i32 (Utf8.decode s pos).1]⟩, { m with H := m.H.set i (.iter s (pos + (Utf8.decode s pos).2)) })
        else some (.tuple ⟨[.bool false]⟩, m)) else none
    | some (.miter none _ _ _) => if str = false then some (.tuple ⟨[.bool false]⟩, m) else none
    | some (.miter (some _) _ _ _) => if str = false then match exNextN m x with
        | some [r] => some r
        | _ => none else none
    | _ => none
  | _ => none
theorem exNext_run (h : HR P w0 E m.H m.next w) {x x' u : Value} {str : Bool} (hx : VR E x x') {m' : Mem} (he : exNext m x str = some (u, m')) (t : TypeId) : Good P w0 E m w (Instr.next x' str t) u m' := by
  cases hx <;> try (simp [exNext] at he; done)
  rename_i i b o hb
  cases o with
  | succ o => simp [exNext] at he
  | zero =>
    simp only [exNext] at he
    cases hg : m.H.get i with
    | none => rw [hg] at he; cases he
    | some ob =>
      rw [hg] at he
      cases ob <;> try (simp at he; done)
      case miter mi since last seen =>
        obtain ⟨b', r, h1, h2, hr⟩ := h.obj hb hg
        obtain rfl : b = b' := by rw [hb] at h1; injection h1
        cases mi with
        | none =>
          simp only at he
          split at he
          · rename_i hc
            subst hc
            simp only [Option.some.injEq, Prod.mk.injEq] at he
            obtain ⟨rfl, rfl⟩ := he
            obtain rfl : r = .mapIter none 0 #[] 0 := hr
            refine Good.same h (v' := .tuple #[.bool false]) ?_ (.tuple (.cons (.bool false) .nil))
            have hgo : (getObj b).run P w = .ok (.mapIter none 0 #[] 0) w := by simp [getObj, Sem.run, h2]
            simp [Instr.next, hgo, Sem.run_pure]
          · cases he
        | some j =>
          simp only at he
          split at he
          · rename_i hs
            subst hs
            split at he
            · rename_i r hr
              injection he with he
              subst he
              obtain ⟨r', hr1, hr2⟩ := exNextN_run h (.ptr 0 hb) hr t
              rw [List.mem_singleton.1 hr1] at hr2
              exact hr2
            · cases he
          · cases he
      rename_i s pos
      simp only at he
      split at he
      · rename_i hc
        obtain ⟨rfl, c2, c3⟩ := hc
        obtain ⟨b', r, h1, h2, hr⟩ := h.obj hb hg
        obtain rfl : b = b' := by rw [hb] at h1; injection h1
        obtain rfl : r = .stringIter s pos := hr
        have hgo : (getObj b).run P w = .ok (.stringIter s pos) w := by simp [getObj, Sem.run, h2]
        have hso : ∀ o, (setObj b o).run P w = .ok () { w with heap := w.heap.setIfInBounds b o } := fun o => by simp [setObj, Sem.run, h2]
        split at he
        · rename_i hp
          simp only [Option.some.injEq, Prod.mk.injEq] at he
          obtain ⟨rfl, rfl⟩ := he
          refine ⟨E, _, _, ?_, E.le_refl, h.put (by omega) c2 hg hb (o' := .iter s (pos + (Utf8.decode s pos).2)) (r' := .stringIter s (pos + (Utf8.decode s pos).2)) rfl, .tuple (.cons (.bool true) (.cons (.int _ _) (.cons (.int _ _) .nil))),
            fun q hq => by show (m.H.set i _).get q = _; rw [T.get_set _ _ _ c2, if_neg (by omega)], rfl, Nat.le_refl _⟩
          simp [Instr.next, hgo, hp, hso, Sem.run_pure, goInt]
        · rename_i hp
          simp only [Option.some.injEq, Prod.mk.injEq] at he
          obtain ⟨rfl, rfl⟩ := he
          refine Good.same h (v' := .tuple #[.bool false]) ?_ (.tuple (.cons (.bool false) .nil))
          simp [Instr.next, hgo, hp, Sem.run_pure]
      · cases he
/-- The entry at which a walk over a map stands. -/
def exEntry (H : T AObj) : Value → Option Value
  | .pointer (some ⟨i, 0, none⟩) => match H.get i with
    | some (.miter (some j) _ last seen) => match H.get j with
      | some (.map es clock) => if clock = last then match seen.getLast? with
          | some stamp => match es.find? fun e => e.born == stamp with
            | some e => some (.tuple ⟨[e.key, e.val]⟩)
            | none => none
          | none => none else none
      | _ => none
    | _ => none
  | _ => none
theorem ER.find {es es' : List MapEntry} (h : ER E es es') {b : Nat} {e : MapEntry} (hf : es.find? (fun e => e.born == b) = some e) : ∃ e', es'.find? (fun e => e.born == b) = some e' ∧ VR E e.key e'.key ∧ VR E e.val e'.val := by
  induction h with
  | nil => simp at hf
  | @cons k v k' v' born x x' hk hv _ ih =>
    simp only [List.find?_cons] at hf ⊢
    cases hb : (born == b) with
    | true => rw [hb] at hf; simp only [Option.some.injEq] at hf; subst hf; exact ⟨_, rfl, hk, hv⟩
    | false => rw [hb] at hf; exact ih hf
theorem exEntry_run (h : HR P w0 E m.H m.next w) {x x' u : Value} (hx : VR E x x') (he : exEntry m.H x = some u) : ∃ u', (Instr.entry x').run P w = .ok u' w ∧ VR E u u' := by
  unfold exEntry at he
  split at he
  · rename_i i
    cases hx with
    | @ptr _ b _ hb =>
    split at he
    · rename_i j since last seen hg
      split at he
      · rename_i es clock hgj
        split at he
        · rename_i hcl
          split at he
          · rename_i stamp hst
            split at he
            · rename_i e hf
              injection he with he
              subst he hcl
              obtain ⟨b', r, h1, h2, bj, e1, rfl⟩ := h.obj hb hg
              obtain rfl : b = b' := by rw [hb] at h1; injection h1
              obtain ⟨bj', rj, g1, g2, arr, rfl, hER⟩ := h.obj e1 hgj
              obtain rfl : bj = bj' := by rw [e1] at g1; injection g1
              obtain ⟨e', q1, q2, q3⟩ := hER.find hf
              have q1' : arr.find? (fun e => e.born == stamp) = some e' := by rw [← Array.find?_toList]; exact q1
              have hback : seen.toArray.back? = some stamp := by rw [List.back?_toArray]; exact hst
              have hgo : (getObj b).run P w = .ok (.mapIter (some bj) since seen.toArray clock) w := by simp [getObj, Sem.run, h2]
              have hgm : (getObj bj).run P w = .ok (.map arr clock) w := by simp [getObj, Sem.run, g2]
              refine ⟨.tuple #[e'.key, e'.val], ?_, .tuple (.cons q2 (.cons q3 .nil))⟩
              unfold Instr.entry
              simp only [Sem.run_bind, hgo, Result.andThen, hback, hgm, bne_self_eq_false, Bool.false_eq_true, if_false, q1']
              rfl
            · cases he
          · cases he
        · cases he
      · cases he
    · cases he
  · cases he
end Go.Proofs.YtlkdjdcnbcegeaaGreatDoor.Ev

/-! Strings as bytes, lengths of maps, addresses without a type: our machine's stand for the model's. -/
namespace Go.Proofs.YtlkdjdcnbcegeaaGreatDoor.Ev
open Go.RowKit
set_option linter.unusedSimpArgs false

variable {P : Program} {w0 w : World} {E : Env} {m : Mem}

/-- A new row of bytes or the like, its capacity not known. -/
def rowMem (m : Mem) (e : TypeId) (cs : T Value) (n : Nat) : Mem := { m with H := m.H.set m.next (.cells cs n e true), next := m.next + 1 }
theorem rowMem_good (h : HR P w0 E m.H m.next w) (hlo : m.lo ≤ m.next) (hn : m.next < 1073741824) {e : TypeId} {cs : T Value} {n : Nat} {arr : Array Value} {fz : Nat × Nat} {w' : World} {s : Sem Value} (hce : P.cellsOf e = 1) (hfz : fzOK (P.cellsOf e) fz arr.size) (hna : n ≤ arr.size)
    (hcs : ∀ j v, j < n → cs.get j = some v → ∃ v', arr[j]? = some v' ∧ VR (E.more m.next w.heap.size (some (arr.size, 1))) v v')
    (hb : Below w.heap.size w w') (hnew : w'.heap[w.heap.size]? = some (.cells arr e fz)) (hrun : s.run P w = .ok (.slice (some ⟨w.heap.size, 0, none⟩) n arr.size) w') :
    Good P w0 E m w s (.slice (some ⟨m.next, 0, none⟩) n n) (rowMem m e cs n) := by
  have hnw := h.new hn (c := some (arr.size, 1)) (o := .cells cs n e true) (r := .cells arr e fz) ⟨arr, ⟨fz, e, fun _ => hfz, fun _ => rfl, rfl⟩, by simp [sizeOk, Env.more, hna, hce], hcs⟩
  have hsz : w.heap.size < w'.heap.size := (Array.getElem?_eq_some_iff.1 hnew).1
  refine ⟨E.more m.next w.heap.size (some (arr.size, 1)), .slice (some ⟨w.heap.size, 0, none⟩) n arr.size, w', hrun, Env.le_more h _ _, ?_, .slice 0 n (by simp [Env.more]) (by simp [capOf, Env.more, hna]), fun i hi => by show (m.H.set m.next _).get i = _; rw [T.get_set _ _ _ hn, if_neg (by omega)], rfl, Nat.le_succ _⟩
  have hall : ∀ k o b, (m.H.set m.next (.cells cs n e true)).get k = some o → (E.more m.next w.heap.size (some (arr.size, 1))).blk k = some b → w'.heap[b]? = (w.alloc (.cells arr e fz)).heap[b]? := by
    intro k o b hk hbk
    by_cases e1 : b = w.heap.size
    · subst e1; rw [hnew, World.alloc_heap_new]
    · obtain ⟨b', r, k1, k2, _⟩ := hnw.obj hbk hk
      rw [hbk] at k1
      injection k1 with k1
      subst k1
      have hlt : b < w.heap.size := by
        have := (Array.getElem?_eq_some_iff.1 k2).1
        simp at this
        omega
      rw [hb.block b hlt, Below.heap_alloc w _ b hlt]
  exact ⟨h.below.trans ⟨hb.os, hb.tape, hb.output, hb.size, fun k hk => hb.block k (Nat.lt_of_lt_of_le hk h.below.size)⟩, fun i b hib => by
    have := hnw.dom i b hib
    simp at this
    exact ⟨this.1, fun k => ⟨(this.2 k).1, by have := (this.2 k).2; omega⟩⟩, hnw.glob, hnw.inj, hnw.ph, fun i o hi hp => by
    obtain ⟨b, r, k1, k2, k3⟩ := hnw.born i o hi hp
    exact ⟨b, r, k1, (hall i o b hi k1).trans k2, k3⟩⟩

/-- A string as a new row of bytes. -/
def exBytes (P : Program) (m : Mem) (src dst : TypeId) : Value → Option (Value × Mem)
  | .string s => match P.underlying src, P.underlying dst with
    | some .string, some (.slice e) => match P.underlying e with
      | some (.int .u8) => if m.next < 1073741824 ∧ s.size ≤ 1073741824 ∧ P.cellsOf e = 1 then
          some (.slice (some ⟨m.next, 0, none⟩) s.size s.size, rowMem m e (T.leaf.fill 0 (s.data.toList.map fun b => .int .u8 b.toNat)) s.size) else none
      | _ => none
    | _, _ => none
  | .slice (some ⟨i, o, none⟩) n c => match P.underlying src with
    | some (.slice e) => match P.underlying e, m.H.get i with
      | some (.int .u8), some (.cells _ _ el _) => if src = dst ∧ m.lo + 64 ≤ i ∧ i < 1073741824 ∧ P.cellsOf el = 1 then some (.slice (some ⟨i, o, none⟩) n c, m) else none
      | _, _ => none
    | _ => none
  | _ => none
theorem exBytes_run (h : HR P w0 E m.H m.next w) (hlo : m.lo ≤ m.next) {src dst : TypeId} {v v' u : Value} {m' : Mem} (hv : VR E v v') (he : exBytes P m src dst v = some (u, m')) : Good P w0 E m w (convert src dst v') u m' := by
  cases hv <;> try (simp [exBytes] at he; done)
  case slice i b o n c c' hb hc =>
    simp only [exBytes] at he
    split at he
    · rename_i e hs
      split at he
      · rename_i cs nb el g hu hg
        split at he
        · rename_i hcond
          obtain ⟨rfl, h64, hi, hone⟩ := hcond
          simp only [Option.some.injEq, Prod.mk.injEq] at he
          obtain ⟨rfl, rfl⟩ := he
          obtain ⟨b', r, h1, h2, arr, ⟨fz, elem', hz, hel, rfl⟩, hsz, hcell⟩ := h.obj hb hg
          obtain rfl : b = b' := by rw [hb] at h1; injection h1
          have hd := (h.dom i b hb).2 (by omega)
          have hsh : w.shape? b = some (elem', arr.size) := by simp [World.shape?, h2]
          have hfr : (w.freeze ⟨b, arr.size, none⟩ 1).heap[b]? = some (.cells arr elem' (arr.size, arr.size + 1)) := by
            simp only [World.freeze, if_neg (show ¬ (1 : Nat) = 0 by omega), Array.getElem?_modify, h2]
            rcases hz (by omega) with rfl | ⟨rfl, _⟩ <;> simp
          have hother : ∀ k, k ≠ b → (w.freeze ⟨b, arr.size, none⟩ 1).heap[k]? = w.heap[k]? := fun k hk => by
            simp only [World.freeze, if_neg (show ¬ (1 : Nat) = 0 by omega), Array.getElem?_modify]
            rw [if_neg (fun e0 => hk e0.symm)]
          have hrun : (convert src src (.slice (some ⟨b, o, none⟩) n c')).run P w = .ok (.slice (some ⟨b, o, none⟩) n c') (w.freeze ⟨b, arr.size, none⟩ 1) := by
            simp [convert, run_underlying hs, run_underlying hu, markStringish, hsh, Sem.run_pure]
          have hn := h.turn hi hg hb (o' := .cells cs nb el g) (r' := .cells arr elem' (arr.size, arr.size + 1)) ⟨arr, ⟨_, elem', fun _ => .inr ⟨rfl, by rw [hel (by omega)]; exact hone⟩, hel, rfl⟩, hsz, hcell⟩ (Lib.below_freeze (Below.refl _ w) hd.1 1) hfr hother
          exact ⟨E, _, _, hrun, E.le_refl, hn.congr fun j => by
            rw [T.get_set _ _ _ hi]
            split
            · rename_i e0; subst e0; exact hg
            · rfl, .slice o n hb hc, fun _ _ => rfl, rfl, Nat.le_refl _⟩
        · cases he
      · cases he
    · cases he
  rename_i s
  simp only [exBytes] at he
  split at he
  · rename_i e hs hd
    split at he
    · rename_i hu
      split at he
      · rename_i hc
        simp only [Option.some.injEq, Prod.mk.injEq] at he
        obtain ⟨rfl, rfl⟩ := he
        have hge := grownCap_ge w s.size 0 e
        have hsz : (Lib.bytesCells w e s).size = grownCap w s.size 0 e := by
          simp only [Lib.bytesCells, Array.size_append, Array.size_map, Array.size_replicate]
          have : s.data.size = s.size := rfl
          omega
        have hrun := Lib.run_convert_string_bytes (P := P) w src dst e s hs hd hu
        rw [← hsz] at hrun
        refine rowMem_good h hlo hc.1 hc.2.2 (.inr ⟨rfl, hc.2.2⟩) (by rw [hsz]; exact hge) (fun j v hj hv => ?_) ?_ (Lib.bytesWorld_at_new w e s) hrun
        · have hl : (s.data.toList.map fun b => Value.int .u8 b.toNat).length = s.size := by rw [List.length_map, Array.length_toList]; rfl
          rw [T.get_fill _ _ _ _ (by rw [hl]; omega), if_pos ⟨Nat.zero_le _, by rw [hl]; omega⟩] at hv
          simp only [Nat.sub_zero, List.getElem?_map] at hv
          cases hb : s.data.toList[j]? with
          | none => rw [hb] at hv; cases hv
          | some b =>
            rw [hb] at hv
            simp only [Option.map_some, Option.some.injEq] at hv
            subst hv
            refine ⟨_, ?_, .int _ _⟩
            rw [Lib.bytesCells, Array.getElem?_append_left (by rw [Array.size_map]; exact hj), Array.getElem?_map]
            rw [Array.getElem?_toList] at hb
            rw [hb]; rfl
        · exact ⟨rfl, rfl, rfl, by rw [Lib.bytesWorld_size]; omega, fun k hk => Lib.bytesWorld_at_old w e s k hk⟩
      · cases he
    · cases he
  · cases he

/-- How many entries a map has. -/
def exLenM (P : Program) (m : Mem) (t : TypeId) : Value → Option Value
  | .map none => match P.underlying t with
    | some (.map _ _) => some (goInt 0)
    | _ => none
  | .map (some i) => match P.underlying t, m.H.get i with
    | some (.map _ _), some (.map es _) => some (goInt es.length)
    | _, _ => none
  | _ => none
theorem exLenM_run (h : HR P w0 E m.H m.next w) {t ty : TypeId} {v v' u : Value} (hv : VR E v v') (he : exLenM P m t v = some u) : ∃ u', (Builtin.len_ #[t] ty #[v']).run P w = .ok u' w ∧ VR E u u' := by
  cases hv <;> try (simp [exLenM] at he; done)
  · simp only [exLenM] at he
    split at he
    · rename_i hu
      injection he with he
      subst he
      refine ⟨goInt 0, ?_, .int _ _⟩
      change ((underlying t >>= fun d => _) : Sem Value).run P w = _
      rw [Sem.run_bind, run_underlying hu]; rfl
    · cases he
  · rename_i i b hb
    simp only [exLenM] at he
    split at he
    · rename_i es clock hu hg
      injection he with he
      subst he
      obtain ⟨b', r, h1, h2, arr, rfl, hER⟩ := h.obj hb hg
      obtain rfl : b = b' := by rw [hb] at h1; injection h1
      refine ⟨goInt es.length, ?_, .int _ _⟩
      change ((underlying t >>= fun d => _) : Sem Value).run P w = _
      rw [Sem.run_bind, run_underlying hu]
      change ((getObj b >>= fun d => _) : Sem Value).run P w = _
      rw [Sem.run_bind, getObj_map h2]
      simp only [Result.andThen, Sem.run_pure]
      rw [← Array.length_toList, hER.len]
    · cases he

/-- The address of a slice's first element. -/
def exSData : Value → Option Value
  | .slice none _ _ => some (.pointer none)
  | .slice (some a) _ c => if c = 0 then none else some (.pointer (some a))
  | _ => none
theorem capOf_pos {i o c c' : Nat} (hc : capOf E i o c c') (h0 : c ≠ 0) : c' ≠ 0 := by
  unfold capOf at hc
  split at hc <;> omega
theorem exSData_run {ts : Array TypeId} {ty : TypeId} {v v' u : Value} (hv : VR E v v') (he : exSData v = some u) : ∃ u', (Builtin.unsafeSliceData_ ts ty #[v']).run P w = .ok u' w ∧ VR E u u' := by
  cases hv <;> try (simp [exSData] at he; done)
  · simp only [exSData, Option.some.injEq] at he
    subst he
    exact ⟨.pointer none, Lib.run_unsafeSliceData_nil w ts ty _ _, .ptr0⟩
  · rename_i i b o n c c' hb hc
    simp only [exSData] at he
    split at he
    · cases he
    · rename_i h0
      injection he with he
      subst he
      exact ⟨_, Lib.run_unsafeSliceData_row w ts ty _ n c' (capOf_pos hc h0), .ptr o hb⟩

/-- The bytes of values that are bytes. -/
def u8s : List Value → Option (List UInt8)
  | [] => some []
  | .int .u8 (.ofNat n) :: r => match u8s r with
    | some l => if n < 256 then some (UInt8.ofNat n :: l) else none
    | none => none
  | _ => none
theorem u8s_eq : ∀ (l l' : List Value) (bs : List UInt8), VRL E l l' → u8s l = some bs → l' = bs.map fun b => Value.int .u8 b.toNat := by
  intro l
  induction l with
  | nil => intro l' bs h e; cases h; simp [u8s] at e; subst e; rfl
  | cons v l ih =>
    intro l' bs h e
    cases h with
    | cons hv h =>
      cases hv <;> try (simp [u8s] at e; done)
      rename_i k n
      cases k <;> try (simp [u8s] at e; done)
      cases n <;> try (simp [u8s] at e; done)
      rename_i n
      simp only [u8s] at e
      cases hb : u8s l with
      | none => rw [hb] at e; cases e
      | some r =>
        rw [hb] at e
        simp only at e
        split at e
        · rename_i hn
          injection e with e
          subst e
          rw [List.map_cons, ih _ _ h hb]
          congr 1
          have : (UInt8.ofNat n).toNat = n := by simp [Nat.mod_eq_of_lt hn]
          rw [this]; rfl
        · cases e
/-- unsafe.String over a whole row's head; the row is forgotten. -/
def exUString (P : Program) (m : Mem) (pt : TypeId) : List Value → Option (Value × Mem)
  | [.pointer none, .int .i64 0] => some (.string .empty, m)
  | [.pointer (some ⟨i, 0, none⟩), .int .i64 (.ofNat n)] => match P.underlying pt, m.H.get i with
    | some (.pointer e), some (.cells cs nb e' _) => if e' = e ∧ P.cellsOf e = 1 ∧ n ≠ 0 ∧ n ≤ nb ∧ nb ≤ 1073741824 ∧ m.lo + 64 ≤ i ∧ i < 1073741824 then
        match cs.take 0 n with
        | some l => match u8s l with
          | some bs => some (.string ⟨bs.toArray⟩, { m with H := m.H.del i })
          | none => none
        | none => none
      else none
    | _, _ => none
  | _ => none
theorem freeze_other (w : World) (b n k : Nat) (hk : k ≠ b) : (w.freeze ⟨b, 0, none⟩ n).heap[k]? = w.heap[k]? := by
  unfold World.freeze
  split
  · rfl
  · simp only [Array.getElem?_modify]
    rw [if_neg (fun e => hk e.symm)]
theorem exUString_run (h : HR P w0 E m.H m.next w) {pt it ty : TypeId} {l l' : List Value} {u : Value} {m' : Mem} (hl : VRL E l l') (he : exUString P m pt l = some (u, m')) : Good P w0 E m w (Builtin.unsafeString_ #[pt, it] ty l'.toArray) u m' := by
  unfold exUString at he
  split at he
  · cases hl with
    | cons a hl =>
      cases hl with
      | cons b hl =>
        cases hl; cases a; cases b
        simp only [Option.some.injEq, Prod.mk.injEq] at he
        obtain ⟨rfl, rfl⟩ := he
        exact Good.same h (Lib.run_unsafeString_none w pt it ty none) (.string _)
  · rename_i i n
    cases hl with
    | cons a hl =>
      cases hl with
      | cons b hl =>
        cases hl; cases b
        cases a with
        | @ptr _ b _ hb =>
          split at he
          · rename_i e cs nb e' g hu hg
            split at he
            · rename_i hc
              obtain ⟨rfl, c1, c2, c3, c4, c5, c6⟩ := hc
              split at he
              · rename_i lc ht
                split at he
                · rename_i bs hbs
                  simp only [Option.some.injEq, Prod.mk.injEq] at he
                  obtain ⟨rfl, rfl⟩ := he
                  obtain ⟨t1, t2⟩ := T.take_spec _ _ _ _ ht
                  obtain ⟨b', r, h1, h2, arr, ⟨fz, elem', hz, hel, rfl⟩, hs, hcell⟩ := h.obj hb hg
                  obtain rfl := hel (by omega)
                  obtain rfl : b = b' := by rw [hb] at h1; injection h1
                  have hna := sizeOk_n hs
                  have hvl : ∀ (j : Nat) (v : Value), lc[j]? = some v → ∃ v', arr[j]? = some v' ∧ VR E v v' := fun j v hj => by
                    have hjn : j < n := by have := (List.getElem?_eq_some_iff.1 hj).1; omega
                    have := t2 j v hj
                    rw [Nat.zero_add] at this
                    exact hcell j v (by omega) this
                  have hVRL : VRL E lc (arr.toList.take n) := VRL.of_get (by simp; omega) fun j v hj => by
                    obtain ⟨v', k1, k2⟩ := hvl j v hj
                    have hjn : j < n := by have := (List.getElem?_eq_some_iff.1 hj).1; omega
                    exact ⟨v', by rw [List.getElem?_take_of_lt hjn, Array.getElem?_toList]; exact k1, k2⟩
                  have hbl := u8s_eq _ _ _ hVRL hbs
                  have hlen : bs.length = n := by
                    have := congrArg List.length hbl
                    simp at this
                    omega
                  have hsh : w.shape? b = some (elem', arr.size) := by simp [World.shape?, h2]
                  have hrun := Lib.run_unsafeString_row (P := P) w pt it ty elem' hu c1 b arr.size hsh bs (by intro e0; subst e0; simp at hlen; omega) (by omega) (by omega) fun j x hj => by
                    have h1 : (arr.toList.take n)[j]? = some (.int .u8 x.toNat) := by rw [hbl, List.getElem?_map, hj]; rfl
                    have hjn : j < n := by have := (List.getElem?_eq_some_iff.1 hj).1; omega
                    rw [List.getElem?_take_of_lt hjn, Array.getElem?_toList] at h1
                    rw [add_is]
                    simp [World.cell?, h2, h1]
                  rw [hlen] at hrun
                  have hd := (h.dom i b hb).2 (by omega)
                  refine ⟨E, _, _, hrun, E.le_refl, (h.forget c6).keep (Lib.below_freeze (Below.refl _ _) hd.1 n) fun j o c hj hcb => ?_, .string _, fun j hj => by show (m.H.del i).get j = _; rw [T.get_del _ _ c6, if_neg (by omega)], rfl, Nat.le_refl _⟩
                  rw [T.get_del _ _ c6] at hj
                  split at hj
                  · cases hj
                  · rename_i hji
                    exact freeze_other w b n c fun e0 => hji (h.inj j i o _ c hj hg hcb (e0 ▸ hb))
                · cases he
              · cases he
            · cases he
          · cases he
  · cases he

/-- A pointer turned into one without a type, and back. -/
def exUPtr (P : Program) (m : Mem) (src dst : TypeId) : Value → Option Value
  | .pointer (some ⟨i, o, none⟩) => match P.underlying src, P.underlying dst, m.H.get i with
    | some (.pointer t), some .unsafePointer, some (.cells _ nb _ _) => match P.info? t with
      | some j => if j.size ≠ 0 ∧ o < nb then some (.pointer (some ⟨i, o, none⟩)) else none
      | none => none
    | some .unsafePointer, some (.pointer t), some (.cells _ nb e false) => match P.info? t with
      | some _ => if 64 ≤ i ∧ liesAt P P.depth e (nb / P.cellsOf e) o t 1 = true then some (.pointer (some ⟨i, o, none⟩)) else none
      | none => none
    | _, _, _ => none
  | _ => none
theorem exUPtr_run (h : HR P w0 E m.H m.next w) {src dst : TypeId} {v v' u : Value} (hv : VR E v v') (he : exUPtr P m src dst v = some u) : ∃ u', (convert src dst v').run P w = .ok u' w ∧ VR E u u' := by
  cases hv <;> try (simp [exUPtr] at he; done)
  rename_i i b o hb
  simp only [exUPtr] at he
  split at he
  · rename_i t cs nb e g hs hd hg
    obtain ⟨b', r, h1, h2, arr, ⟨fz, elem', hz, hel, rfl⟩, hsz, hcell⟩ := h.obj hb hg
    obtain rfl : b = b' := by rw [hb] at h1; injection h1
    have hna := sizeOk_n hsz
    split at he
    · rename_i j hj
      split at he
      · rename_i hc
        injection he with he
        subst he
        exact ⟨_, Lib.run_to_unsafe w ⟨b, o, none⟩ hs hd hj hc.1 (e := elem') (cells := arr.size) (by simp [World.shape?, h2]) (by simp only; omega), .ptr o hb⟩
      · cases he
    · cases he
  · rename_i t cs nb e hs hd hg
    obtain ⟨b', r, h1, h2, arr, ⟨fz, elem', hz, hel, rfl⟩, hsz, hcell⟩ := h.obj hb hg
    obtain rfl : b = b' := by rw [hb] at h1; injection h1
    have hna : arr.size = nb := by
      unfold sizeOk at hsz
      split at hsz
      · exact hsz.1
      · simp at hsz
    split at he
    · rename_i j hj
      split at he
      · rename_i hc
        injection he with he
        subst he
        obtain rfl := hel hc.1
        exact ⟨_, Lib.run_from_unsafe w ⟨b, o, none⟩ hs hd hj (e := elem') (cells := nb) (by simp [World.shape?, h2, hna]) hc.2, .ptr o hb⟩
      · cases he
    · cases he
  · cases he
/-- One address, held against itself. -/
def exPtrNe (P : Program) (t : TypeId) : Value → Value → Option Bool
  | .pointer (some ⟨i, o, none⟩), .pointer (some ⟨j, q, none⟩) => match P.underlying t with
    | some (.pointer te) => match P.info? te with
      | some _ => if i = j ∧ o = q then some false else none
      | none => none
    | _ => none
  | _, _ => none
theorem exPtrNe_run {t : TypeId} {x x' y y' : Value} {b : Bool} (hx : VR E x x') (hy : VR E y y') (he : exPtrNe P t x y = some b) : (binOp .neq t x' y').run P w = .ok (.bool b) w ∧ ∀ xo yo, (eqGuard .neq t xo yo x' y').run P w = .ok () w := by
  cases hx <;> try (simp [exPtrNe] at he; done)
  rename_i i b1 o hb1
  cases hy <;> try (simp [exPtrNe] at he; done)
  rename_i j b2 q hb2
  simp only [exPtrNe] at he
  split at he
  · rename_i te hu
    split at he
    · rename_i info hi
      split at he
      · rename_i hc
        obtain ⟨rfl, rfl⟩ := hc
        injection he with he
        subst he
        obtain rfl : b1 = b2 := by rw [hb1] at hb2; injection hb2
        exact ⟨Lib.run_neq_ptr_same w _ hu hi, fun xo yo => by simp [eqGuard, Sem.run_pure]⟩
      · cases he
    · cases he
  · cases he
end Go.Proofs.YtlkdjdcnbcegeaaGreatDoor.Ev

/-! One operation of our machine (but for calls of functions), and that it stands for the model's. -/
namespace Go.Proofs.YtlkdjdcnbcegeaaGreatDoor.Ev
open Go.RowKit
set_option linter.unusedSimpArgs false

variable {P : Program} {w0 w : World} {E : Env} {m : Mem}

/-! ### operands -/
def ev (tm : T Value) : Operand → Option Value
  | .tmp t => some ((tm.get t).getD Go.undef)
  | .const v => if clean v then some v else none
  | .global g => if g < 48 then some (.pointer (some ⟨g, 0, none⟩)) else none
  | .func f => some (.func (.func f) #[] #[])
theorem ev_VR {tm : T Value} {nt : Nat} {a : Act} (h : AR E tm nt a) {x : Operand} {v : Value} (he : ev tm x = some v) : VR E v (a.eval x) := by
  cases x with
  | tmp t => simp only [ev, Option.some.injEq] at he; subst he; exact h.get t
  | const u =>
    simp only [ev] at he
    split at he
    · injection he with he; subst he; exact VR.of_clean E _ (by assumption)
    · cases he
  | global g =>
    simp only [ev] at he
    split at he
    · rename_i hg
      injection he with he; subst he
      exact .ptr 0 (h.glob g hg)
    · cases he
  | func f => simp only [ev, Option.some.injEq] at he; subst he; exact .func f (y := []) (y' := []) (x := []) (x' := []) .nil .nil
def evs (tm : T Value) : List Operand → Option (List Value)
  | [] => some []
  | x :: r => match ev tm x, evs tm r with
    | some v, some l => some (v :: l)
    | _, _ => none
theorem evs_VR {tm : T Value} {nt : Nat} {a : Act} (h : AR E tm nt a) : ∀ (xs : List Operand) (l : List Value), evs tm xs = some l → VRL E l (xs.map a.eval) := by
  intro xs
  induction xs with
  | nil => intro l e; simp only [evs, Option.some.injEq] at e; subst e; exact .nil
  | cons x r ih =>
    intro l e
    simp only [evs] at e
    split at e
    · rename_i v l' h1 h2
      injection e with e; subst e
      exact .cons (ev_VR h h1) (ih _ h2)
    · cases e
def evps (tm : T Value) : List (Nat × Operand) → Option (List (Nat × Value))
  | [] => some []
  | (i, x) :: r => match ev tm x, evps tm r with
    | some v, some l => some ((i, v) :: l)
    | _, _ => none
theorem evps_PR {tm : T Value} {nt : Nat} {a : Act} (h : AR E tm nt a) : ∀ (xs : List (Nat × Operand)) (l : List (Nat × Value)), evps tm xs = some l → PR E l (xs.map fun p => (p.1, a.eval p.2)) := by
  intro xs
  induction xs with
  | nil => intro l e; simp only [evps, Option.some.injEq] at e; subst e; exact .nil
  | cons p r ih =>
    intro l e
    obtain ⟨i, x⟩ := p
    simp only [evps] at e
    split at e
    · rename_i v l' h1 h2
      injection e with e; subst e
      exact .cons i (ev_VR h h1) (ih _ h2)
    · cases e
/-- An operand that may lack, its value without any address. -/
def evO (tm : T Value) : Option Operand → Option (Option Value)
  | none => some none
  | some x => match ev tm x with
    | some v => if clean v then some (some v) else none
    | none => none
theorem evO_eq {tm : T Value} {nt : Nat} {a : Act} (h : AR E tm nt a) {x : Option Operand} {v : Option Value} (he : evO tm x = some v) : x.map a.eval = v := by
  cases x with
  | none => simp only [evO, Option.some.injEq] at he; subst he; rfl
  | some x =>
    simp only [evO] at he
    cases hx : ev tm x with
    | none => rw [hx] at he; cases he
    | some u =>
      rw [hx] at he
      simp only at he
      split at he
      · rename_i hc
        injection he with he
        subst he
        simp [(ev_VR h hx).eq_of_clean hc]
      · cases he
/-- A value that a computation without memory hands back, itself without any address. -/
def cleanQ (P : Program) (s : Sem Value) : Option Value :=
  match valQ P s with
  | some v => if clean v then some v else none
  | none => none
theorem cleanQ_run {s : Sem Value} {v : Value} (he : cleanQ P s = some v) : s.run P w = .ok v w ∧ VR E v v := by
  unfold cleanQ at he
  cases hq : valQ P s with
  | none => rw [hq] at he; cases he
  | some u =>
    rw [hq] at he
    simp only at he
    split at he
    · injection he with he; subst he; exact ⟨valQ_run w _ _ hq, VR.of_clean E _ (by assumption)⟩
    · cases he

/-! ### operators -/
/-- A number beside one of which is known that it is not less than another. -/
def lowBin (op : BinOp) (x y : Value) : Option Bool :=
  match op, x, y with
  | .gtr, .int .i64 a, .float .f64 c => if a ≤ (c : Int) then some false else none
  | _, _, _ => none
theorem lowBin_run {op : BinOp} {t : TypeId} {xo yo : Operand} {x x' y y' : Value} {b : Bool} (hx : VR E x x') (hy : VR E y y') (he : lowBin op x y = some b) :
    ((do eqGuard op t xo yo x' y'; binOp op t x' y') : Sem Value).run P w = .ok (.bool b) w := by
  unfold lowBin at he
  split at he
  · rename_i a c
    split at he
    · rename_i hc
      injection he with he
      subst he
      cases hx with
      | int _ _ =>
        cases hy with
        | low _ h =>
          rename_i n
          have : ¬ (a > (n : Int)) := by omega
          simp [eqGuard, binOp, Op.intCmp, Sem.run_pure]
          omega
    · cases he
  · cases he
def exBin (P : Program) (op : BinOp) (t : TypeId) (xo yo : Operand) (x y : Value) : Option Value :=
  match lowBin op x y with
  | some b => some (.bool b)
  | none =>
  if clean x && clean y then cleanQ P (do eqGuard op t xo yo x y; binOp op t x y)
  else match exEq P t x y with
    | some b => match op with
      | .eql => some (.bool b)
      | .neq => some (.bool (!b))
      | _ => none
    | none => match op, exPtrNe P t x y with
      | .neq, some b => some (.bool b)
      | _, _ => none
theorem eqGuard_nil {t : TypeId} {xo yo : Operand} {x x' y y' : Value} {b : Bool} (hx : VR E x x') (hy : VR E y y') (he : exEq P t x y = some b) (op : BinOp) : (eqGuard op t xo yo x' y').run P w = .ok () w := by
  unfold exEq at he
  cases hu : P.underlying t with
  | none => rw [hu] at he; simp at he
  | some d =>
    rw [hu] at he
    cases d <;> try (simp at he; done)
    all_goals (cases hx <;> try (simp at he; done))
    all_goals (cases hy <;> try (simp at he; done))
    all_goals (cases op <;> simp [eqGuard, Sem.run_pure])
theorem binOp_nil {t : TypeId} {x x' y y' : Value} {b : Bool} (hx : VR E x x') (hy : VR E y y') (he : exEq P t x y = some b) :
    binOp .eql t x' y' = (do pure (.bool (← Op.equal t x' y'))) ∧ binOp .neq t x' y' = (do pure (.bool (!(← Op.equal t x' y')))) := by
  unfold exEq at he
  cases hu : P.underlying t with
  | none => rw [hu] at he; simp at he
  | some d =>
    rw [hu] at he
    cases d <;> try (simp at he; done)
    all_goals (cases hx <;> try (simp at he; done))
    all_goals (cases hy <;> try (simp at he; done))
    all_goals exact ⟨rfl, rfl⟩
theorem exBin_run {op : BinOp} {t : TypeId} {xo yo : Operand} {x x' y y' v : Value} (hx : VR E x x') (hy : VR E y y') (he : exBin P op t xo yo x y = some v) :
    ((do eqGuard op t xo yo x' y'; binOp op t x' y') : Sem Value).run P w = .ok v w ∧ VR E v v := by
  unfold exBin at he
  cases hlb : lowBin op x y with
  | some b =>
    rw [hlb] at he
    simp only [Option.some.injEq] at he
    subst he
    exact ⟨lowBin_run hx hy hlb, .bool b⟩
  | none =>
  rw [hlb] at he
  simp only at he
  split at he
  · rename_i hc
    simp only [Bool.and_eq_true] at hc
    rw [hx.eq_of_clean hc.1, hy.eq_of_clean hc.2]
    exact cleanQ_run he
  · cases hq : exEq P t x y with
    | none =>
      rw [hq] at he
      cases op <;> try (simp at he; done)
      cases hq2 : exPtrNe P t x y with
      | none => rw [hq2] at he; simp at he
      | some b =>
        rw [hq2] at he
        simp only [Option.some.injEq] at he
        subst he
        obtain ⟨r1, r2⟩ := exPtrNe_run (w := w) hx hy hq2
        rw [Sem.run_bind, r2]
        exact ⟨r1, .bool b⟩
    | some b =>
      rw [hq] at he
      have h1 := exEq_run (w := w) hx hy hq
      have h2 := binOp_nil hx hy hq
      have h3 := eqGuard_nil (w := w) (xo := xo) (yo := yo) hx hy hq op
      cases op <;> try (simp at he; done)
      all_goals
        simp only [Option.some.injEq] at he
        subst he
        refine ⟨?_, .bool _⟩
        rw [Sem.run_bind, h3]
        simp [Result.andThen, h2, h1, Sem.run_pure]
end Go.Proofs.YtlkdjdcnbcegeaaGreatDoor.Ev

/-! One operation of our machine (but for calls of functions), and that it stands for the model's. -/
namespace Go.Proofs.YtlkdjdcnbcegeaaGreatDoor.Ev
open Go.RowKit
set_option linter.unusedSimpArgs false

variable {P : Program} {w0 w : World} {E : Env} {m : Mem}

def same (m : Mem) : Option Value → Option (Value × Mem)
  | some v => some (v, m)
  | none => none
/-- A builtin that is called. -/
def exBuiltin (P : Program) (m : Mem) (b : Builtin) (ts : List TypeId) (ty : TypeId) (args : List Value) : Option (Value × Mem) :=
  match b, ts, args with
  | .append, [t, tx], [s, x] => match exAppend P m t tx s x with
    | some r => some r
    | none => exAppendZ P m t tx s x
  | .copy, [t, _], [d, x] => exCopy P m t d x
  | .len, [t], [x] => match exLen P t x with
    | some v => some (v, m)
    | none => same m (exLenM P m t x)
  | .unsafeSliceData, _, [x] => same m (exSData x)
  | .unsafeString, [pt, _], l => exUString P m pt l
  | .cap, [t], [x] => same m (exCap P m.H t x)
  | .max, ts, args => if cleanL args then same m (cleanQ P (Builtin.max_ ts.toArray ty args.toArray)) else none
  | .min, ts, args => if cleanL args then same m (cleanQ P (Builtin.min_ ts.toArray ty args.toArray)) else none
  | _, _, _ => none
def exNil (v : Value) : Option Value :=
  match v with
  | .pointer none | .nilIface | .nilFunc => none
  | .func (.func _) _ _ => some v
  | .func _ _ _ => none
  | .chan _ => none
  | v => some v
/-- One operation; calls of functions apart. -/
def exOp (P : Program) (m : Mem) (tm : T Value) (o : Oper) : Option (Value × Mem) :=
  match o.op with
  | .move x | .assign x => same m (ev tm x)
  | .pick c a b => match ev tm c with
    | some (.bool true) => same m (ev tm a)
    | some (.bool false) => same m (ev tm b)
    | _ => none
  | .alloc elem => exAlloc P m elem
  | .box elem x => match ev tm x with
    | some v => exBox m elem v
    | none => none
  | .build t parts => match evps tm parts.toList, P.info? t with
    | some ps, some info => match info.zero, P.built t ps with
      | some z, some out => if cleanL z.cells.toList then some (.agg out.toList.toArray, m) else none
      | _, _ => none
    | _, _ => none
  | .buildSlice t len parts => match evps tm parts.toList with
    | some ps => exBuildSlice P m t len ps
    | none => none
  | .load t a => match ev tm a with
    | some v => same m (exLoad P m.H t v)
    | none => none
  | .store t a x => match ev tm a, ev tm x with
    | some v, some u => match exStore P m.H m.lo t u v with
      | some H' => some (Go.undef, { m with H := H' })
      | none => none
    | _, _ => none
  | .nilCheck x => match ev tm x with
    | some v => same m (exNil v)
    | none => none
  | .binOp op t x y _ => match ev tm x, ev tm y with
    | some u, some v => same m (exBin P op t x y u v)
    | _, _ => none
  | .unOp op _ x => match ev tm x with
    | some v => if clean v then same m (cleanQ P (Op.unary op v)) else none
    | none => none
  | .convert src dst x => match ev tm x with
    | some v => match exBytes P m src dst v with
      | some r => some r
      | none => if clean v then same m (cleanQ P (convert src dst v)) else
        match P.underlying src, P.underlying dst with
        | some (.slice e), some .string => match P.underlying e with
          | some (.int .u8) => same m (exToString m v)
          | _ => none
        | _, _ => same m (exUPtr P m src dst v)
    | none => none
  | .makeInterface t x => match ev tm x with
    | some v => same m (exIface P t v)
    | none => none
  | .makeFunc (.func f) first captured => match evs tm first.toList, evs tm captured.toList with
    | some g, some l => some (.func (.func f) g.toArray l.toArray, m)
    | _, _ => none
  | .makeMap t r => match evO tm r with
    | some h => exMakeMap P m t h
    | none => none
  | .makeSlice t l c => match evO tm (some l), evO tm (some c) with
    | some (some l), some (some c) => exMakeSlice P m t l c
    | _, _ => none
  | .slice t x lo hi none => match ev tm x, evO tm lo, evO tm hi with
    | some v, some l, some h => if clean v then same m (cleanQ P (Instr.sliceAt t v l h none)) else same m (exSlice P m.H t v l h)
    | _, _, _ => none
  | .fieldAddr s x f => match ev tm x with
    | some v => same m (exFieldAddr P s v f)
    | none => none
  | .field t x f => match ev tm x with
    | some v => same m (exField P t v f)
    | none => none
  | .indexAddr t x i => match ev tm x, ev tm i with
    | some v, some u => same m (exIndexAddr P t v u)
    | _, _ => none
  | .index t x i => match ev tm x, ev tm i with
    | some v, some u => same m (exIndex P t v u)
    | _, _ => none
  | .lookup t x k ok => match ev tm x, evO tm (some k) with
    | some v, some (some u) => same m (exLookup P m.H t v u ok)
    | _, _ => none
  | .mapUpdate t x k v | .insert t x k v => match ev tm x, evO tm (some k), ev tm v with
    | some x, some (some k), some v => match exUpdate P m t x k v with
      | some m' => some (Go.undef, m')
      | none => none
    | _, _, _ => none
  | .range t x => match ev tm x with
    | some v => exRange P m t v
    | none => none
  | .next it str => match ev tm it with
    | some v => exNext m v str
    | none => none
  | .entry it => match ev tm it with
    | some v => same m (exEntry m.H v)
    | none => none
  | .typeAssert x _ t ok => match ev tm x with
    | some v => same m (exAssert P v t ok)
    | none => none
  | .extract t i => match ev tm t with
    | some v => same m (exExtract v i)
    | none => none
  | .call { callee := .builtin b, args, argTypes } => match evs tm args.toList with
    | some l => exBuiltin P m b argTypes.toList o.type l
    | none => none
  | _ => none

/-- An operation of the model's comes to what ours comes to. -/
def OpGood (P : Program) (w0 : World) (E : Env) (m : Mem) (w : World) (s : Sem Next) (v : Value) (m' : Mem) : Prop :=
  ∃ E' v' w', (s.run P w = .ok (.value v') w' ∨ (s.run P w = .ok .skip w' ∧ v' = Go.undef)) ∧ E.le E' ∧ HR P w0 E' m'.H m'.next w' ∧ VR E' v v' ∧ (∀ i, i < m.lo → m'.H.get i = m.H.get i) ∧ m'.lo = m.lo ∧ m.next ≤ m'.next
theorem OpGood.of {s : Sem Value} {v : Value} {m' : Mem} (h : Good P w0 E m w s v m') : OpGood P w0 E m w (do pure (.value (← s))) v m' := by
  obtain ⟨E', v', w', h1, h2⟩ := h
  exact ⟨E', v', w', .inl (by rw [Sem.run_bind, h1]; rfl), h2⟩
theorem OpGood.same (h : HR P w0 E m.H m.next w) {s : Sem Value} {v : Value} {r : Option Value} {m' : Mem} (he : Ev.same m r = some (v, m')) (hr : r = some v → ∃ v', s.run P w = .ok v' w ∧ VR E v v') : OpGood P w0 E m w (do pure (.value (← s))) v m' := by
  cases r with
  | none => cases he
  | some u =>
    simp only [Ev.same, Option.some.injEq, Prod.mk.injEq] at he
    obtain ⟨rfl, rfl⟩ := he
    obtain ⟨v', h1, h2⟩ := hr rfl
    exact .of (.same h h1 h2)

theorem opt2 {α β : Type} {x : Option α} {y : Option β} : (∃ a b, x = some a ∧ y = some b) ∨ x = none ∨ y = none := by cases x <;> cases y <;> simp
theorem exNil_run {v v' u : Value} (hv : VR E v v') (he : exNil v = some u) : (∃ x, (match v' with
    | .pointer none | .nilIface | .nilFunc => runtimePanic .nilDeref
    | .func (.method name) first captured =>
      match (first[0]? : Option Value) with
      | some .nilIface => runtimePanic .nilDeref
      | some (.iface t w) => do
        if (← nilAhead ((← program).types.size + Made.depth) t w name) != some false then
          unsupported (.noEntry "op/nilCheck.the method's receiver behind this interface value is a nil pointer, or cannot be seen to be none, and the arguments act or may panic (ledger 612)")
        pure (.value (.func (.method name) first captured))
      | _ => pure (.value (.func (.method name) first captured))
    | x => pure (.value x) : Sem Next) = pure (.value x) ∧ VR E u x) := by
  cases hv <;> first | (simp [exNil] at he; done) | (simp only [exNil, Option.some.injEq] at he; subst he; refine ⟨_, rfl, ?_⟩; constructor <;> assumption)
theorem exBuiltin_run (h : HR P w0 E m.H m.next w) (hlo : m.lo ≤ m.next) {b : Builtin} {ts : List TypeId} {ty : TypeId} {cs : Array Bool} {l l' : List Value} (hl : VRL E l l') {v : Value} {m' : Mem} (he : exBuiltin P m b ts ty l = some (v, m')) :
    OpGood P w0 E m w (builtin b ts.toArray ty cs l'.toArray) v m' := by
  unfold exBuiltin at he
  split at he
  · rcases hl with _ | ⟨hs, hl⟩
    rcases hl with _ | ⟨hx, hl⟩
    cases hl
    split at he
    · rename_i r hr
      injection he with he
      subst he
      exact .of (exAppend_run h hlo hs hx hr)
    · exact .of (exAppendZ_run h hlo hs hx he)
  · rcases hl with _ | ⟨hs, hl⟩
    rcases hl with _ | ⟨hx, hl⟩
    cases hl
    exact .of (exCopy_run h hs hx he)
  · rcases hl with _ | ⟨hs, hl⟩
    cases hl
    split at he
    · rename_i u hu
      simp only [Option.some.injEq, Prod.mk.injEq] at he
      obtain ⟨rfl, rfl⟩ := he
      exact .of (.same h (exLen_run hs hu).1 (exLen_run (w := w) (ty := 0) hs hu).2)
    · exact .same h he fun e => exLenM_run h hs e
  · rcases hl with _ | ⟨hs, hl⟩
    cases hl
    exact .same h he fun e => exSData_run hs e
  · exact .of (exUString_run h hl he)
  · rcases hl with _ | ⟨hs, hl⟩
    cases hl
    exact .same h he fun e => exCap_run h hs e
  · split at he
    · rename_i hc
      obtain rfl := hl.eq_of_clean hc
      exact .same h he fun e => ⟨v, cleanQ_run e⟩
    · cases he
  · split at he
    · rename_i hc
      obtain rfl := hl.eq_of_clean hc
      exact .same h he fun e => ⟨v, cleanQ_run e⟩
    · cases he
  · cases he
end Go.Proofs.YtlkdjdcnbcegeaaGreatDoor.Ev
