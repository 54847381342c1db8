/-
  Our machine's literal rows, copies, strings of bytes, functions, comparisons with nil, and that they stand for the model's.
-/
import Derived.Test.YtkecgbcfkbafpaaDoorEvJ
namespace Go.Proofs.YtkecgbcfkbafpaaDoor.Ev
set_option linter.unusedSectionVars false
variable [Sig]
open Go.RowKit
set_option linter.unusedSimpArgs false

variable {P : Program} {w0 w : World} {E : Env} {m : Mem}

/-! ### rows that are written out -/
def exBuildSlice (P : Program) (m : Mem) (t : TypeId) (len : Nat) (parts : List (Nat × Value)) : Option (Value × Mem) :=
  match P.underlying t with
  | some (.slice elem) =>
    match P.info? elem with
    | some info => match info.zero with
      | some z => if len * info.size ≤ 16777216 ∧ (len * info.size = 0 ∨ cleanL (exMade z (len * info.size)) = true) then
          match Instr.fill (fun i => some (i * info.size, info.size)) (if len * info.size = 0 then #[] else (exMade z (len * info.size)).toArray) parts with
          | some out => match exRowNew m elem out.toList with
            | some m' => some (.slice (some ⟨m.next, 0, none⟩) len len, m')
            | none => none
          | none => none
          else none
      | none => none
    | none => none
  | _ => none
theorem exBuildSlice_run (h : HR P w0 E m.H m.next w) (hlo : m.lo ≤ m.next) {t : TypeId} {len : Nat} {ps ps' : Array (Nat × Value)} (hp : PR E ps.toList ps'.toList) {u : Value} {m' : Mem} (he : exBuildSlice P m t len ps.toList = some (u, m')) :
    Good P w0 E m w (Instr.buildSlice t len ps') u m' := by
  unfold exBuildSlice at he
  cases hu : P.underlying t with
  | none => rw [hu] at he; simp at he
  | some d =>
    rw [hu] at he
    cases d <;> try (simp at he; done)
    rename_i elem
    simp only at he
    cases hi : P.info? elem with
    | none => rw [hi] at he; cases he
    | some info =>
      rw [hi] at he
      simp only at he
      cases hz : info.zero with
      | none => rw [hz] at he; cases he
      | some z =>
        rw [hz] at he
        simp only at he
        split at he
        · rename_i hc
          obtain ⟨c1, c2⟩ := hc
          split at he
          · rename_i out hf
            cases hq : exRowNew m elem out.toList with
            | none => rw [hq] at he; cases he
            | some m1 =>
              rw [hq] at he
              simp only [Option.some.injEq, Prod.mk.injEq] at he
              obtain ⟨rfl, rfl⟩ := he
              have hbase : VRL E (if len * info.size = 0 then #[] else (exMade z (len * info.size)).toArray : Array Value).toList (if len * info.size = 0 then #[] else (exMade z (len * info.size)).toArray : Array Value).toList := by
                split
                · exact .nil
                · rename_i h0
                  exact VRL.of_clean E _ (by rcases c2 with c2 | c2; exact absurd c2 h0; simpa using c2)
              obtain ⟨out', hf', hout⟩ := fill_VR _ _ _ _ _ _ hp hbase hf
              obtain ⟨E', h1, h2, h3, h4, h5, h6, h7, h8⟩ := exRowNew_run h hlo hout hq
              refine ⟨E', .slice (some ⟨w.heap.size, 0, none⟩) len len, _, ?_, h2, h3, .slice 0 _ h4 (by simp [capOf, h5]), h6, h7, h8⟩
              have e1 : out'.toList.toArray = out' := by simp
              rw [e1] at h1 ⊢
              have e2 : (exMade z (len * info.size)).toArray = (Array.range (len * info.size)).map (z.cells[· % z.cells.size]!) := by
                apply Array.toList_inj.1; simp [exMade, madeCells]
              rw [e2] at hf'
              have hbig : ¬ (16777216 < len * info.size) := by omega
              by_cases h0 : len * info.size = 0
              · rw [if_pos h0] at hf'
                rw [Instr.buildSlice, Sem.run_bind, run_underlying hu]
                simp only [Result.andThen, Sem.run_bind, run_sizeOf w hi, Program.cellsOf, hi, Option.map_some, Option.getD_some]
                simp [h0, Sem.run_pure, show (Array.range 0) = #[] from rfl, hf', h1]
              · rw [if_neg h0] at hf'
                rw [Instr.buildSlice, Sem.run_bind, run_underlying hu]
                simp only [Result.andThen, Sem.run_bind, run_sizeOf w hi, Program.cellsOf, hi, Option.map_some, Option.getD_some]
                simp [h0, hbig, zeroValue, run_typeInfo w hi, hz, Sem.run_pure, hf', h1]
          · cases he
        · cases he

/-! ### copies -/
/-- The first elements of a row. -/
def exFirst (H : T AObj) (size k : Nat) : Value → Option (List Value)
  | .slice none _ _ => some []
  | .slice (some ⟨i, o, none⟩) _ _ =>
    match H.get i with
    | some (.cells cs nb _ _) => if o + k * size ≤ nb then cs.take o (k * size) else none
    | _ => none
  | .string s => some ((s.data.toList.take k).map fun b => .int .u8 b.toNat)
  | _ => none
def lenV : Value → Option Nat
  | .slice _ n _ => some n
  | .string s => some s.size
  | _ => none
theorem lenV_run {v v' : Value} {n : Nat} (hv : VR E v v') (he : lenV v = some n) : (Builtin.lenOf v').run P w = .ok n w := by
  cases hv <;> simp only [lenV] at he <;> first | (cases he; done) | (injection he with he; subst he; rfl)
theorem exFirst_run (h : HR P w0 E m.H m.next w) {size k : Nat} {v v' : Value} {l : List Value} (hv : VR E v v') (he : exFirst m.H size k v = some l) : ∃ l' : List Value, (Builtin.firstCells size k v').run P w = .ok l'.toArray w ∧ VRL E l l' := by
  cases hv <;> try (simp [exFirst] at he; done)
  · rename_i s
    simp only [exFirst, Option.some.injEq] at he
    subst he
    refine ⟨_, ?_, VRL.of_clean E _ ?_⟩
    · have : (s.extract 0 k).data = s.data.extract 0 k := by simp
      simp only [Builtin.firstCells, Sem.run_pure]
      congr 1
      apply Array.toList_inj.1
      simp [List.take_drop]
    · induction s.data.toList.take k with
      | nil => rfl
      | cons a l ih => simp [cleanL, clean, ih]
  · simp only [exFirst, Option.some.injEq] at he
    subst he
    exact ⟨[], rfl, .nil⟩
  · rename_i i b o n c c' hb hc
    simp only [exFirst] at he
    cases hg : m.H.get i with
    | none => rw [hg] at he; cases he
    | some ob =>
      cases ob <;> try (rw [hg] at he; simp at he; done)
      rename_i cs nb eb g
      rw [hg] at he
      simp only at he
      split at he
      · rename_i hn
        exact h.loadL (P := P) hb hg hn he
      · cases he
def exCopy (P : Program) (m : Mem) (t : TypeId) (d x : Value) : Option (Value × Mem) :=
  match P.underlying t, d, lenV x with
  | some (.slice elem), .slice none n _, some _ => if n = 0 then
      match P.info? elem with
      | some info => match exFirst m.H info.size 0 x with
        | some _ => some (goInt 0, m)
        | none => none
      | none => none
      else none
  | some (.slice elem), .slice (some ⟨i, o, none⟩) n _, some k =>
    match P.info? elem, m.H.get i with
    | some info, some (.cells cs nb eb g) =>
      match exFirst m.H info.size (Nat.min k n) x with
      | some l => if o + l.length ≤ nb ∧ nb ≤ 1073741824 ∧ i < 1073741824 ∧ m.lo + 64 ≤ i ∧ l.all cell1 = true then
          some (goInt (Nat.min k n), { m with H := m.H.set i (.cells (cs.fill o l) nb eb g) }) else none
      | none => none
    | _, _ => none
  | _, _, _ => none
theorem exCopy_run (h : HR P w0 E m.H m.next w) {t tx ty : TypeId} {d d' x x' u : Value} {m' : Mem} (hd : VR E d d') (hx : VR E x x') (he : exCopy P m t d x = some (u, m')) : Good P w0 E m w (Builtin.copy_ #[t, tx] ty #[d', x']) u m' := by
  unfold exCopy at he
  cases hu : P.underlying t with
  | none => rw [hu] at he; simp at he
  | some dd =>
    rw [hu] at he
    cases dd <;> try (simp at he; done)
    rename_i elem
    cases hl : lenV x with
    | none => rw [hl] at he; cases hd <;> simp at he
    | some k =>
      rw [hl] at he
      have hlen := lenV_run (P := P) (w := w) hx hl
      cases hd <;> try (simp at he; done)
      · rename_i n c
        simp only at he
        split at he
        · rename_i h0
          subst h0
          cases hi : P.info? elem with
          | none => rw [hi] at he; cases he
          | some info =>
            rw [hi] at he
            simp only at he
            cases hf : exFirst m.H info.size 0 x with
            | none => rw [hf] at he; cases he
            | some l =>
              rw [hf] at he
              simp only [Option.some.injEq, Prod.mk.injEq] at he
              obtain ⟨rfl, rfl⟩ := he
              obtain ⟨l', h1, h2⟩ := exFirst_run h hx hf
              refine Good.same h (v' := goInt 0) ?_ (.int _ _)
              simp [Builtin.copy_, run_underlying hu, hlen, run_sizeOf w hi, Program.cellsOf, hi, h1, Sem.run_pure]
        · cases he
      · rename_i i b o n c c' hb hc
        simp only at he
        cases hi : P.info? elem with
        | none => rw [hi] at he; simp at he
        | some info =>
          cases hg : m.H.get i with
          | none => rw [hi, hg] at he; simp at he
          | some ob =>
            cases ob <;> try (rw [hi, hg] at he; simp at he; done)
            rename_i cs nb eb g
            rw [hi, hg] at he
            simp only at he
            cases hf : exFirst m.H info.size (Nat.min k n) x with
            | none => rw [hf] at he; cases he
            | some l =>
              rw [hf] at he
              simp only at he
              split at he
              · rename_i hcnd
                obtain ⟨c1, c2, c3, c4, c5⟩ := hcnd
                simp only [Option.some.injEq, Prod.mk.injEq] at he
                obtain ⟨rfl, rfl⟩ := he
                obtain ⟨l', h1, h2⟩ := exFirst_run h hx hf
                obtain ⟨w1, hst, hh⟩ := HR.storeL (P := P) l l' 0 h (o := o) hb hg (by omega) c3 c2 (by omega) h2 c5
                refine ⟨E, goInt (Nat.min k n), w1, ?_, E.le_refl, hh, .int _ _, fun j hj => by show (m.H.set i _).get j = _; rw [T.get_set _ _ _ c3, if_neg (by omega)], rfl, Nat.le_refl _⟩
                simp [Builtin.copy_, run_underlying hu, hlen, run_sizeOf w hi, Program.cellsOf, hi, h1, hst, Sem.run_pure]
              · cases he

/-! ### strings of bytes -/
def bytesOf : List Value → Option (List Int)
  | [] => some []
  | .int .u8 n :: r => match bytesOf r with
    | some l => some (n :: l)
    | none => none
  | _ => none
theorem bytesOf_eq : ∀ (l l' : List Value) (ns : List Int), VRL E l l' → bytesOf l = some ns → l' = ns.map (Value.int .u8) := by
  intro l
  induction l with
  | nil => intro l' ns h e; cases h; simp [bytesOf] at e; subst e; rfl
  | cons v l ih =>
    intro l' ns h e
    cases h with
    | cons hv h =>
      cases hv <;> try (simp [bytesOf] at e; done)
      rename_i k n
      cases k <;> try (simp [bytesOf] at e; done)
      simp only [bytesOf] at e
      cases hb : bytesOf l with
      | none => rw [hb] at e; cases e
      | some r =>
        rw [hb] at e
        injection e with e
        subst e
        simp [ih _ _ h hb]
def exToString (m : Mem) : Value → Option Value
  | .slice none _ _ => some (.string .empty)
  | .slice (some ⟨i, o, none⟩) n _ =>
    match m.H.get i with
    | some (.cells cs nb _ _) => if o + n ≤ nb then
        match cs.take o n with
        | some l => match bytesOf l with
          | some ns => some (.string (ns.foldl (fun r n => r.push (UInt8.ofNat n.toNat)) ByteArray.empty))
          | none => none
        | none => none
        else none
    | _ => none
  | _ => none
theorem exToString_run (h : HR P w0 E m.H m.next w) {v v' u : Value} (hv : VR E v v') (he : exToString m v = some u) : ∃ u', (Conv.bytesToString v').run P w = .ok u' w ∧ VR E u u' := by
  cases hv <;> try (simp [exToString] at he; done)
  · simp only [exToString, Option.some.injEq] at he
    subst he
    exact ⟨_, rfl, .string _⟩
  · rename_i i b o n c c' hb hc
    simp only [exToString] at he
    cases hg : m.H.get i with
    | none => rw [hg] at he; cases he
    | some ob =>
      cases ob <;> try (rw [hg] at he; simp at he; done)
      rename_i cs nb eb g
      rw [hg] at he
      simp only at he
      split at he
      · rename_i hn
        cases ht : cs.take o n with
        | none => rw [ht] at he; cases he
        | some l =>
          rw [ht] at he
          simp only at he
          cases hbs : bytesOf l with
          | none => rw [hbs] at he; cases he
          | some ns =>
            rw [hbs] at he
            simp only [Option.some.injEq] at he
            subst he
            obtain ⟨l', h1, h2⟩ := h.loadL (P := P) hb hg hn ht
            rw [bytesOf_eq _ _ _ h2 hbs] at h1
            exact ⟨_, run_bytesToString w _ n c' ns h1, .string _⟩
      · cases he

/-! ### comparisons with nil -/
def exEq (P : Program) (t : TypeId) (x y : Value) : Option Bool :=
  match P.underlying t, x, y with
  | some (.pointer _), .pointer none, .pointer (some _) | some (.pointer _), .pointer (some _), .pointer none => some false
  | some (.interface _), .nilIface, .iface _ _ | some (.interface _), .iface _ _, .nilIface => some false
  | some (.interface _), .iface a _, .iface b _ => if a ≠ b then some false else none
  | some (.slice _), .slice none _ _, .slice (some _) _ _ | some (.slice _), .slice (some _) _ _, .slice none _ _ => some false
  | some (.map _ _), .map none, .map (some _) | some (.map _ _), .map (some _), .map none => some false
  | some (.func _ _ _), .nilFunc, .func _ _ _ | some (.func _ _ _), .func _ _ _, .nilFunc => some false
  | _, _, _ => none
theorem equal_one (t : TypeId) (x y : Value) : Op.equal t x y = Op.equalIn (9999 + 1) t x y := rfl
theorem exEq_run {t : TypeId} {x x' y y' : Value} {b : Bool} (hx : VR E x x') (hy : VR E y y') (he : exEq P t x y = some b) : (Op.equal t x' y').run P w = .ok b w := by
  unfold exEq at he
  cases hu : P.underlying t with
  | none => rw [hu] at he; simp at he
  | some d =>
    rw [hu] at he
    cases d <;> try (simp at he; done)
    all_goals (cases hx <;> try (simp at he; done))
    all_goals (cases hy <;> try (simp at he; done))
    all_goals first
      | (simp only [Option.some.injEq] at he; subst he; rw [equal_one, Op.equalIn, Sem.run_bind, run_underlying hu]; simp [Result.andThen, Sem.run_pure]; done)
      | (simp only at he; split at he <;> first | (cases he; done) | (rename_i hne; simp only [Option.some.injEq] at he; subst he; rw [equal_one, Op.equalIn, Sem.run_bind, run_underlying hu]; simp [Result.andThen, Sem.run_pure, hne]; done))
end Go.Proofs.YtkecgbcfkbafpaaDoor.Ev
