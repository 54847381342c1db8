/-
  Rows of nine numbers as keys of a map.
-/
import Derived.Test.YtlkdjdcnbcegeaaGreatDoorKX
import Derived.Test.YtlkdjdcnbcegeaaGreatDoorKAB
namespace Go.Proofs.YtlkdjdcnbcegeaaGreatDoor
open Go.RowKit Go.WideShapes
set_option linter.unusedVariables false
set_option linter.unusedSimpArgs false
/-- A row's value: nine numbers. -/
def RowKey (v : Value) : Prop := ∃ xs : List Int, xs.length = 9 ∧ v = .agg (xs.map (Value.int .i64)).toArray
theorem rowKey_of {l : List Int} (h : l.length ≤ 8) : RowKey (rowVal l) :=
  ⟨(l.length : Int) :: (l ++ List.replicate (8 - l.length) 0), by simp; omega, by simp [rowVal, rowCells, intCells]⟩
theorem rowVal_inj {a b : List Int} (ha : a.length ≤ 8) (hb : b.length ≤ 8) (h : rowVal a = rowVal b) : a = b := by
  simp only [rowVal, Value.agg.injEq] at h
  have h2 := congrArg Array.toList h
  exact rowCells_inj ha hb (by simpa using h2)
theorem intCheck (em : Bool) (n : Nat) (a : Int) (w : World) : (Instr.checkKey em (n + 1) 3 (.int .i64 a)).run Tryz.prog w = .ok () w :=
  MapKept.run_checkKey Tryz.underlying3 (by simp [MapKept.IsKey]) em n
theorem part_int (xs : Array Value) (i : Nat) (v : Value) (h : xs[i]? = some v) (w : World) : (part 3 xs i).run Tryz.prog w = .ok v w := by
  unfold part
  simp [Sem.run_bind, Tryz.isAgg3, h, Result.andThen]
theorem forIn_ok (f : Nat → Sem (ForInStep PUnit)) (w : World) (P : Program) : ∀ (l : List Nat), (∀ i ∈ l, (f i).run P w = .ok (ForInStep.yield PUnit.unit) w) →
    (forIn l PUnit.unit (fun i _ => f i) : Sem PUnit).run P w = .ok PUnit.unit w
  | [], _ => by simp
  | i :: l, h => by
    simp only [List.forIn_cons, Sem.run_bind, h i (by simp), Result.andThen, Sem.run_pure]
    exact forIn_ok f w P l (fun j hj => h j (by simp [hj]))
theorem row_check {v : Value} (w : World) (em : Bool) (h : RowKey v) : (Instr.checkKey em 10000 95 v).run Tryz.prog w = .ok () w := by
  obtain ⟨xs, hx, rfl⟩ := h
  rw [show (10000 : Nat) = 9999 + 1 from rfl]
  unfold Instr.checkKey
  simp only [Sem.run_bind, run_underlying Tryz.underlying95, Result.andThen]
  have hf : ∀ i : Nat, i < 9 → ((do let s ← sizeOf 3; let p ← part 3 (List.map (Value.int IntKind.i64) xs).toArray (i * s); Instr.checkKey em 9999 3 p; pure (ForInStep.yield PUnit.unit)) : Sem (ForInStep PUnit)).run Tryz.prog w = .ok (ForInStep.yield PUnit.unit) w := by
    intro i hi
    have hp := part_int (List.map (Value.int IntKind.i64) xs).toArray (i * 1) (.int .i64 xs[i]) (by simp) w
    simp only [Sem.run_bind, Tryz.sizeOf3, Result.andThen, hp, intCheck em 9998 xs[i] w, Sem.run_pure]
  simp only [Std.Legacy.Range.forIn_eq_forIn_range', Std.Legacy.Range.size, Nat.sub_zero, Nat.add_one_sub_one, Nat.div_one]
  rw [forIn_ok _ w Tryz.prog _ (fun i hi => hf i (by rw [List.mem_range'_1] at hi; omega))]
  rfl
theorem eq_items (d : Nat) (w : World) (xs ys : List Int) (hl : xs.length = ys.length) : ∀ (k : Nat), k ≤ xs.length → ∃ r : Bool, (Op.eqItems (d + 1) 3 1 (xs.map (Value.int .i64)).toArray (ys.map (Value.int .i64)).toArray (List.range' (xs.length - k) k)).run Tryz.prog w = .ok r w ∧ (r = true ↔ xs.drop (xs.length - k) = ys.drop (xs.length - k))
  | 0, _ => ⟨true, by simp [Op.eqItems], by simp [hl]⟩
  | k + 1, hk => by
    obtain ⟨r, hr, hiff⟩ := eq_items d w xs ys hl k (by omega)
    have h1 : xs.length - (k + 1) < xs.length := by omega
    have h2 : xs.length - (k + 1) < ys.length := by omega
    have e1 : xs.length - (k + 1) + 1 = xs.length - k := by omega
    have hpx := part_int (xs.map (Value.int .i64)).toArray ((xs.length - (k + 1)) * 1) (.int .i64 xs[xs.length - (k + 1)]) (by simp) w
    have hpy := part_int (ys.map (Value.int .i64)).toArray ((xs.length - (k + 1)) * 1) (.int .i64 ys[xs.length - (k + 1)]) (by simp [h2]) w
    have he := run_equalIn_int (P := Tryz.prog) w d 3 .i64 .i64 xs[xs.length - (k + 1)] ys[xs.length - (k + 1)] Tryz.underlying3
    rw [List.range'_succ, e1]
    simp only [Op.eqItems, Sem.run_bind, hpx, hpy, he, Result.andThen]
    rw [List.drop_eq_getElem_cons h1, List.drop_eq_getElem_cons h2, e1]
    cases hc : (xs[xs.length - (k + 1)] == ys[xs.length - (k + 1)])
    · refine ⟨false, by simp, ?_⟩
      simp only [beq_eq_false_iff_ne] at hc
      simp [hc]
    · refine ⟨r, by simp [hr], ?_⟩
      simp only [beq_iff_eq] at hc
      rw [hiff]
      simp [hc]
theorem row_equal {a b : Value} (w : World) (ha : RowKey a) (hb : RowKey b) : ∃ r : Bool, (Op.equal 95 a b).run Tryz.prog w = .ok r w ∧ (r = true ↔ a = b) := by
  obtain ⟨xs, hx, rfl⟩ := ha
  obtain ⟨ys, hy, rfl⟩ := hb
  obtain ⟨i, hi, _⟩ := info_parts intInfo
  obtain ⟨r, hr, hiff⟩ := eq_items 9998 w xs ys (by omega) 9 (by omega)
  refine ⟨r, ?_, ?_⟩
  · unfold Op.equal
    rw [show Op.maxDepth = 9999 + 1 from rfl, run_equalIn_array w 9999 _ _ Tryz.underlying95 hi]
    rw [show xs.length - 9 = 0 by omega] at hr
    rw [show Tryz.prog.cellsOf 3 = 1 by kernel_rfl, List.range_eq_range']
    exact hr
  · rw [hiff, show xs.length - 9 = 0 by omega]
    simp only [List.drop_zero, Value.agg.injEq]
    constructor
    · rintro rfl; rfl
    · intro h
      have h2 := congrArg Array.toList h
      have hg := congrArg (List.map (fun v => match v with | Value.int _ n => n | _ => 0)) h2
      simpa [Function.comp_def] using hg
theorem row_find {v : Value} (w : World) (hv : RowKey v) : ∀ (l : List MapEntry) (i : Nat), (∀ x ∈ l, RowKey x.key) →
    ((Instr.findAsking 95 v l i).run Tryz.prog w = .ok none w ∧ ∀ x ∈ l, x.key ≠ v) ∨ ∃ j e, (Instr.findAsking 95 v l i).run Tryz.prog w = .ok (some (i + j, e.val)) w ∧ l[j]? = some e ∧ e.key = v
  | [], _, _ => Or.inl ⟨by simp [Instr.findAsking], by simp⟩
  | e :: es, i, h => by
    obtain ⟨r, hr, hiff⟩ := row_equal w hv (h e (by simp))
    cases r
    · have hne : e.key ≠ v := fun q => by have := hiff.2 q.symm; cases this
      rcases row_find w hv es (i + 1) (fun x hx => h x (by simp [hx])) with ⟨h1, h2⟩ | ⟨j, e', h1, h2, h3⟩
      · refine Or.inl ⟨by simp [Instr.findAsking, hr, h1], fun x hx => ?_⟩
        rcases List.mem_cons.1 hx with rfl | hx
        · exact hne
        · exact h2 x hx
      · exact Or.inr ⟨j + 1, e', by simp [Instr.findAsking, hr, h1, Nat.add_assoc, Nat.add_comm 1 j], by simpa using h2, h3⟩
    · exact Or.inr ⟨0, e, by simp [Instr.findAsking, hr], rfl, (hiff.1 rfl).symm⟩
theorem findNow_array (v : Value) (n e : Nat) : ∀ (l : List MapEntry) (i : Nat), Instr.findNow (.array n e) v l i = (match l with | [] => some none | _ => none)
  | [], i => rfl
  | x :: l, i => by simp [Instr.findNow, Instr.sameNow]
theorem row_keyOk : KeyOk Tryz.prog 95 RowKey where
  check w em h := row_check w em h
  find := by
    intro v w l hv hl
    have e : (Instr.findKey 95 v l).run Tryz.prog w = (Instr.findAsking 95 v l 0).run Tryz.prog w := by
      unfold Instr.findKey
      simp only [Sem.run_bind, run_underlying Tryz.underlying95, Result.andThen, findNow_array]
      cases l with
      | nil => simp [Instr.findAsking]
      | cons x l => rfl
    rw [e]
    have h := row_find w hv l 0 hl
    simpa using h
  stay := by
    rintro v w ⟨xs, hx, rfl⟩
    have hb : ∀ (l : List Int), ((List.map (Value.int .i64) l).zip (List.map (Value.int .i64) l)).all (fun (x, y) => Instr.sameBits 9999 x y) = true := by
      intro l
      induction l with
      | nil => rfl
      | cons a l ih => simp only [List.map_cons, List.zip_cons_cons, List.all_cons, ih, Bool.and_true]; simp [Instr.sameBits]
    have hs : Instr.sameBits 10000 (.agg (xs.map (Value.int .i64)).toArray) (.agg (xs.map (Value.int .i64)).toArray) = true := by
      rw [show (10000 : Nat) = 9999 + 1 from rfl]
      unfold Instr.sameBits
      simp only [beq_self_eq_true, Bool.true_and]
      exact hb xs
    unfold Instr.keyThatStays
    simp [hs]
end Go.Proofs.YtlkdjdcnbcegeaaGreatDoor
