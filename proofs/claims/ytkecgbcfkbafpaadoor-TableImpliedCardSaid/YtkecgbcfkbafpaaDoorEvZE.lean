/-
  Package variables that hold known integers: our machine's first memory.
-/
import Derived.LaidLaws
import Derived.Test.YtkecgbcfkbafpaaDoorEvZD
namespace Go.Proofs.YtkecgbcfkbafpaaDoor.Ev
set_option linter.unusedSectionVars false
variable [Sig]
open Go.RowKit
set_option linter.unusedSimpArgs false

variable {P : Program} {w : World}

def litInts : List (DataW Unit) → Option (List Value)
  | [] => some []
  | .lit (.int k n) :: r => match litInts r with
    | some l => some (.int k n :: l)
    | none => none
  | _ => none
def intsOf : DataW Unit → Option (List Value)
  | .agg l => litInts l
  | _ => none
/-- A variable's cells, where they are integers. -/
def laidRow (P : Program) (n : String) (d : DataW Unit) : Option (Nat × List Value) :=
  match P.globalNamed n with
  | some g => match (P.globals[g]?).map (·.type) with
    | some t => match P.underlying t with
      | some (.array k e) => match P.underlying e, intsOf d with
        | some (.int _), some l => if g < 48 ∧ P.cellsOf e = 1 ∧ P.cellsOf t = k ∧ l.length = k ∧ k ≠ 0 ∧ k ≤ 1073741824 then some (g, l) else none
        | _, _ => none
      | _ => none
    | none => none
  | none => none
def laidMem (P : Program) : List (String × DataW Unit) → T AObj
  | [] => .leaf
  | (n, d) :: r => match laidRow P n d with
    | some (g, l) => (laidMem P r).set g (.cells (T.leaf.fill 0 l) l.length 0 false)
    | none => laidMem P r
def E0 : Env := ⟨fun i => if i < 48 then some i else none, fun _ => none, fun _ => false⟩

theorem mapM_at {α β : Type} {f : α → Option β} : ∀ (l : List α) (r : List β), l.mapM f = some r → ∀ (i : Nat) x, l[i]? = some x → ∃ y, r[i]? = some y ∧ f x = some y := by
  intro l
  induction l with
  | nil => intro r _ i x h; simp at h
  | cons a l ih =>
    intro r h i x hx
    rw [List.mapM_cons] at h
    cases ha : f a with
    | none => rw [ha] at h; cases h
    | some b =>
      rw [ha] at h
      cases hl : l.mapM f with
      | none => simp [hl] at h
      | some bs =>
        simp [hl] at h
        subst h
        cases i with
        | zero => simp at hx; subst hx; exact ⟨b, rfl, ha⟩
        | succ i => exact ih bs hl i x (by simpa using hx)
theorem litInts_get : ∀ (ds : List (DataW Unit)) (l : List Value), litInts ds = some l → l.length = ds.length ∧ ∀ (i : Nat) d, ds[i]? = some d → ∃ k n, d = .lit (.int k n) ∧ l[i]? = some (.int k n) := by
  intro ds
  induction ds with
  | nil => intro l h; simp only [litInts, Option.some.injEq] at h; subst h; exact ⟨rfl, fun i d h => by simp at h⟩
  | cons d ds ih =>
    intro l h
    unfold litInts at h
    split at h
    · rename_i heq; cases heq
    · rename_i k n r heq
      injection heq with e1 e2
      subst e1 e2
      split at h
      · rename_i l' hl
        injection h with h
        subst h
        obtain ⟨h1, h2⟩ := ih l' hl
        refine ⟨by simp [h1], fun i d hd => ?_⟩
        cases i with
        | zero => simp at hd; subst hd; exact ⟨k, n, rfl, rfl⟩
        | succ i => exact h2 i d (by simpa using hd)
      · cases h
    · cases h
theorem trod_ints {fuel k : Nat} {t e : TypeId} {kk : IntKind} {cs l : List Value} {d : DataW Unit} {p : List MemPlace} (hu : P.underlying t = some (.array k e)) (he : P.underlying e = some (.int kk)) (h1 : P.cellsOf e = 1) (ht : P.cellsOf t = k)
    (hd : intsOf d = some l) (hl : l.length = k) (h : DataW.trod (fun _ => ()) P w 0 (fun _ => true) false fuel t cs = some (d, p)) : cs = l := by
  cases fuel with
  | zero => simp [DataW.trod] at h
  | succ fuel =>
    unfold DataW.trod at h
    rw [hu] at h
    simp only at h
    split at h
    · rename_i hlen
      cases hm : (List.range k).mapM fun i => DataW.trod (fun _ => ()) P w 0 (fun _ => true) false fuel e ((cs.drop (i * P.cellsOf e)).take (P.cellsOf e)) with
      | none => rw [hm] at h; cases h
      | some xs =>
        rw [hm] at h
        simp only [Option.map_some, Option.some.injEq, Prod.mk.injEq] at h
        obtain ⟨rfl, _⟩ := h
        simp only [intsOf] at hd
        obtain ⟨_, g2⟩ := litInts_get _ _ hd
        apply List.ext_getElem?
        intro i
        by_cases hi : i < k
        · obtain ⟨y, y1, y2⟩ := mapM_at _ _ hm i i (by rw [List.getElem?_range hi])
          obtain ⟨k1, n1, z1, z2⟩ := g2 i y.1 (by rw [List.getElem?_map, y1]; rfl)
          rw [z2]
          rw [h1, Nat.mul_one] at y2
          have hci : cs[i]? = some cs[i] := List.getElem?_eq_getElem (by omega)
          have hone : (cs.drop i).take 1 = [cs[i]] := by
            rw [List.drop_eq_getElem_cons (by omega)]; rfl
          rw [hone] at y2
          cases fuel with
          | zero => simp [DataW.trod] at y2
          | succ fuel =>
            unfold DataW.trod at y2
            rw [he] at y2
            rw [hci]
            generalize cs[i] = v at y2
            cases v <;> simp only at y2 <;> try cases y2
            split at y2
            · rename_i hc
              injection y2 with y2
              subst y2
              simp only at z1
              injection z1 with z1
              injection z1 with z1 z3
              rw [hc.1, z1, z3]
            · cases y2
        · rw [List.getElem?_eq_none (by omega), List.getElem?_eq_none (by omega)]
    · cases h
theorem laid_none {laid : List (String × DataW Unit)} (h : laidMetH P laid w) : laidMet P (laid.filter fun x => x.2.handleName?.isNone) w := by
  unfold laidMetH at h
  split at h
  · rename_i he
    have : laid.filter (fun x => x.2.handleName?.isNone) = laid := by
      apply List.filter_eq_self.2
      intro x hx
      have := List.filter_eq_nil_iff.1 he x hx
      cases hn : x.2.handleName? with
      | none => rfl
      | some _ => rw [hn] at this; simp at this
    rw [this]; exact h
  · exact h.1
theorem laidMem_at : ∀ (laid : List (String × DataW Unit)) (ps : List MemPlace), DataW.LaidVars P w laid ps → (∀ b off, MemPlace.cell b off ∈ ps → ∃ c t, w.heap[b]? = some (.cells c t (0, 0))) →
    ∀ i o, (laidMem P laid).get i = some o → i < 48 ∧ ∃ r, w.heap[i]? = some r ∧ OR P E0 i o r := by
  intro laid
  induction laid with
  | nil => intro ps _ _ i o h; simp [laidMem, T.get] at h
  | cons x laid ih =>
    intro ps hv hcell i o h
    obtain ⟨n, d⟩ := x
    obtain ⟨g, t, cs, fuel, p, q, e1, e2, e3, e4, e5, rfl⟩ := hv
    have ih' := ih q e5 fun b off hb => hcell b off (List.mem_append_right _ hb)
    simp only [laidMem] at h
    cases hr : laidRow P n d with
    | none => rw [hr] at h; exact ih' i o h
    | some gl =>
      obtain ⟨g', l⟩ := gl
      rw [hr] at h
      simp only at h
      unfold laidRow at hr
      rw [e1] at hr
      simp only [e2] at hr
      cases hu : P.underlying t with
      | none => rw [hu] at hr; cases hr
      | some td =>
        rw [hu] at hr
        cases td <;> try (simp at hr; done)
        rename_i k e
        simp only at hr
        split at hr
        · rename_i kk l' he hd
          split at hr
          · rename_i hc
            obtain ⟨c1, c2, c3, c4, c5, c6⟩ := hc
            injection hr with hr
            injection hr with hr1 hr2
            subst hr1 hr2
            rw [T.get_set _ _ _ (by omega)] at h
            split at h
            · rename_i hi
              subst hi
              injection h with h
              subst h
              have hcs := trod_ints hu he c2 c3 hd c4 e4
              have hsz : cs.size = k := by rw [← Array.length_toList, hcs]; exact c4
              obtain ⟨c, t', hheap⟩ := hcell i 0 (List.mem_append_left _ (List.mem_append_left _ (by
                unfold MemPlace.row
                simp only [List.mem_map, List.mem_range]
                exact ⟨0, by omega, by simp [Addr.add]⟩)))
              have hcc : c = cs := by
                unfold World.var? at e3
                rw [e1] at e3
                simp only [Option.bind_some, hheap, Option.some.injEq] at e3
                exact e3
              subst hcc
              refine ⟨c1, _, hheap, c, ⟨_, t', .inl rfl, fun h64 => by omega, rfl⟩, ?_, fun j v hj hv => ?_⟩
              · simp [sizeOk, E0, hsz, c4]
              · rw [T.get_fill _ _ _ _ (by omega), if_pos (by omega)] at hv
                simp only [Nat.sub_zero] at hv
                have hmem : clean v = true := by
                  obtain ⟨dl, rfl⟩ : ∃ dl, d = .agg dl := by
                    cases d <;> first | exact ⟨_, rfl⟩ | (simp [intsOf] at hd)
                  obtain ⟨g1, g2⟩ := litInts_get _ _ hd
                  have hjd : dl[j]? = some dl[j] := List.getElem?_eq_getElem (by omega)
                  obtain ⟨k1, n1, _, z2⟩ := g2 j _ hjd
                  rw [z2] at hv
                  injection hv with hv
                  subst hv; rfl
                refine ⟨v, ?_, VR.of_clean E0 v hmem⟩
                rw [← Array.getElem?_toList, hcs]; exact hv
            · exact ih' i o h
          · cases hr
        · cases hr
theorem HR.laid {laid : List (String × DataW Unit)} (h : laidMetH P laid w) : HR P w E0 (laidMem P (laid.filter fun x => x.2.handleName?.isNone)) 64 w := by
  obtain ⟨ps, h1, _, h3⟩ := laid_none h
  have hat := laidMem_at _ ps h1 fun b off hb => (h3 b off hb).1
  refine ⟨Below.refl _ _, fun i b hb => ?_, fun g hg => by simp [E0, hg], fun i j o o' b _ _ hi hj => ?_, fun i hp => absurd hp Bool.false_ne_true, fun i o ho _ => ?_⟩
  · simp only [E0] at hb
    split at hb
    · exact ⟨by omega, fun _ => by omega⟩
    · cases hb
  · simp only [E0] at hi hj
    split at hi <;> split at hj <;> first | (cases hi; cases hj; rfl) | (cases hi; done) | (cases hj; done)
  · obtain ⟨k1, r, k2, k3⟩ := hat i o ho
    exact ⟨i, r, by simp [E0, k1], k2, k3⟩
/-- A law, over package variables that hold known integers, at arguments that ours stand for. -/
theorem laid_call {laid : List (String × DataW Unit)} (hP : plainB P = true) (hm : P.follows .mixedOrders = true) {w : World} (h : laidMetH P laid w) {sm : Sums} (hsm : SumOK P w sm) (steps n : Nat) (f : FuncId)
    {l : List Value} {args : Array Value} (hl : VRL E0 l args.toList) (he : isTrue (evCall2 sm P steps n f l ⟨laidMem P (laid.filter fun x => x.2.handleName?.isNone), 64, 0⟩) = true) :
    Calls P f args w fun e w' => e = .returned (.bool true) ∧ Below w.heap.size w w' := by
  obtain ⟨m, hr⟩ := isTrue_ok he
  obtain ⟨_, hc⟩ := evCall2_ok (plainly_of hP) hm hsm steps n f l _ _ _ hr
  refine Calls.mono (hc E0 w args (HR.laid h) (Nat.zero_le _) hl) fun e w' ⟨E', _, k2, _, _, k5⟩ => ?_
  cases e with
  | returned v => cases k5; exact ⟨rfl, k2.below⟩
  | _ => exact k5.elim
/-- A closed law, over package variables that hold known integers. -/
theorem laid_true {laid : List (String × DataW Unit)} (hP : plainB P = true) (hm : P.follows .mixedOrders = true) {w : World} (h : laidMetH P laid w) {sm : Sums} (hsm : SumOK P w sm) (steps n : Nat) (f : FuncId)
    (he : isTrue (evCall2 sm P steps n f [] ⟨laidMem P (laid.filter fun x => x.2.handleName?.isNone), 64, 0⟩) = true) :
    Calls P f #[] w fun e w' => e = .returned (.bool true) ∧ Below w.heap.size w w' := laid_call hP hm h hsm steps n f .nil he
end Go.Proofs.YtkecgbcfkbafpaaDoor.Ev
