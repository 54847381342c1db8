/-
  What our machine calls is what the model calls.
-/
import Derived.Test.YtkecgbcfkbafpaaDoorEvS
import Derived.Defers
import Derived.Laws.Externs
import Derived.Lib.Overlaps
namespace Go.Proofs.YtkecgbcfkbafpaaDoor.Ev
set_option linter.unusedSectionVars false
variable [Sig]
open Go.RowKit
set_option linter.unusedSimpArgs false

variable {P : Program} {w0 w : World} {E : Env} {m : Mem}

/-- No function with a body is the one whose call is none. -/
def Plainly (P : Program) : Prop := ∀ (g : Nat) (fn : Func), P.funcs[g]? = some fn → fn.name ≠ "runtime.NumGoroutine"
theorem callFunc_run (hP : Plainly P) {g : Nat} {fn : Func} (hf : P.funcs[g]? = some fn) (hb : fn.body.isSome = true) (args : Array Value) (w : World) :
    (callFunc g args).run P w = .ok (.enter g args) w := by
  have hn := hP g fn hf
  have hne : fn.body ≠ none := by intro e; rw [e] at hb; cases hb
  simp [callFunc, Sem.run_bind, program, Sem.run, Result.andThen, hf, hn, hne, Sem.run_pure]
theorem exCallee_value {tm : T Value} {nt : Nat} {a : Act} (ha : AR E tm nt a) {c : Call} {x : Operand} (hc : c.callee = .value x) {g : Nat} {l : List Value} (he : exCallee P m tm c = some (g, l)) (ty : TypeId) :
    ∃ (d : Deferred) (cap args : Array Value), (∀ w, (resolve a.eval c ty).run P w = .ok d w) ∧ d.target = .fn (.func g) cap ∧
    (∀ w, (invoke d.target d.args).run P w = (callFunc g args).run P w) ∧ VRL E l args.toList := by
  unfold exCallee at he
  rw [hc] at he
  simp only at he
  split at he
  · rename_i g' fst cap l' h1 h2
    injection he with he
    injection he with e1 e2
    subst e1 e2
    have hv := ev_VR ha h1
    have hl := evs_VR ha c.args.toList _ h2
    generalize hy : a.eval x = y at hv
    cases hv with
    | @func _ y y' x' l' h0 h' =>
      refine ⟨{ target := .fn (.func g') l'.toArray, args := y'.toArray ++ c.args.map a.eval }, l'.toArray, y'.toArray ++ c.args.map a.eval ++ l'.toArray, fun w => ?_, rfl, fun w => ?_, ?_⟩
      · simp [resolve, hc, hy, Deferred.ofValue, Sem.run_pure]
      · simp only [invoke]
      · simpa [List.append_assoc] using (h0.append hl).append h'
  · cases he
theorem wrap_nil (ts : Array TypeId) (t : TypeId) (A : Addr) (n : String) : Builtin.ssaWrapNilChk_ ts t #[.pointer (some A), strVal "", strVal n] = pure (.pointer (some A)) := rfl
theorem exCallee_invoke (h : HR P w0 E m.H m.next w) {tm : T Value} {nt : Nat} {a : Act} (ha : AR E tm nt a) {c : Call} {x : Operand} {name : String} (hc : c.callee = .invoke x name) {g : Nat} {l : List Value}
    (he : exCallee P m tm c = some (g, l)) (ty : TypeId) :
    ∃ args : Array Value, (do let d ← resolve a.eval c ty; invoke d.target d.args : Sem Next).run P w = (callFunc g args).run P w ∧ VRL E l args.toList := by
  unfold exCallee at he
  rw [hc] at he
  simp only at he
  split at he
  · rename_i t v l' h1 h2
    have hv := ev_VR ha h1
    have hl := evs_VR ha c.args.toList _ h2
    split at he
    · rename_i info hi
      split at he
      · rename_i mt hm
        generalize hy : a.eval x = y at hv
        cases hv with
        | @iface _ _ v' hv =>
          have key : ∀ (u u' : Value), (receiverAt t (.val v') (mt.func.getD (0, false)).2 (some ((name.splitOn ".").getLastD name))).run P w = .ok u' w → VR E u u' → mt.path.isEmpty = true → mt.func = some (g, (mt.func.getD (0, false)).2) → l = u :: l' →
              ∃ args : Array Value, (do let d ← resolve a.eval c ty; invoke d.target d.args : Sem Next).run P w = (callFunc g args).run P w ∧ VRL E l args.toList := by
            intro u u' hr hu hpath hfun hl'
            refine ⟨#[u'] ++ c.args.map a.eval, ?_, by rw [hl']; simpa using VRL.cons hu hl⟩
            have hpl : mt.path.toList = [] := by rw [Array.isEmpty_iff.1 hpath]
            have hres : (resolve a.eval c ty).run P w = .ok { target := .fn (.method name) #[], args := #[.iface t v'] ++ c.args.map a.eval } w := by unfold resolve; rw [hc, ← hy]; rfl
            rw [Sem.run_bind, hres]
            simp only [Result.andThen, invoke]
            have hg0 : (#[Value.iface t v'] ++ c.args.map a.eval)[0]? = some (.iface t v') := by rw [Array.getElem?_append_left (by exact Nat.zero_lt_one)]; rfl
            have hex : (#[Value.iface t v'] ++ c.args.map a.eval).extract 1 (#[Value.iface t v'] ++ c.args.map a.eval).size = c.args.map a.eval := by
              apply Array.ext'
              simp
              exact List.take_of_length_le (by simp)
            rw [hg0, hex]
            simp only [callMethod, program, Sem.run_bind, Sem.run, Result.andThen]
            have hmeth : (Go.method (P.types.size + Made.depth) t v' name).run P w = .ok (g, u') w := by
              have hd : P.types.size + Made.depth = (P.types.size + (Made.depth - 1)) + 1 := by simp [Made.depth]
              rw [hd]
              simp only [Go.method, Sem.run_bind, run_typeInfo w hi, Result.andThen, hm, hpl, follow, Sem.run_pure]
              rw [hfun]
              simp only [Sem.run_bind, hpath, if_true, hr, Result.andThen, Sem.run_pure]
            rw [hmeth]
          split at he
          · rename_i g' e hp hfu hu
            injection he with he
            injection he with e1 e2
            subst e1 e2
            refine key v v' ?_ hv hp (by rw [hfu]; rfl) rfl
            rw [hfu]
            simp [receiverAt, Sem.run_bind, run_underlying hu, Result.andThen, Place.get, Sem.run_pure]
          · rename_i g' e hp hfu hu
            split at he
            · rename_i u hlo
              injection he with he
              injection he with e1 e2
              subst e1 e2
              obtain ⟨u', h3, h4⟩ := exLoad_run h hv hlo
              refine key u u' ?_ h4 hp (by rw [hfu]; rfl) rfl
              rw [hfu]
              cases hv <;> simp only [exLoad] at hlo <;> try cases hlo
              simp only [Instr.loadAt] at h3
              simp only [receiverAt, Sem.run_bind, run_underlying hu, Result.andThen, Place.get, Sem.run_pure, wrap_nil, Option.getD_some]
              simpa [Sem.run_bind, Result.andThen, Instr.sureAddr, asAddr, Sem.run_pure] using h3
            · cases he
          · rename_i g' e hno hp hfu hu
            injection he with he
            injection he with e1 e2
            subst e1 e2
            refine key v v' ?_ hv hp (by rw [hfu]; rfl) rfl
            rw [hfu]
            rw [receiverAt, Sem.run_bind, run_underlying hu]
            simp only [Result.andThen]
            cases e <;> first | exact absurd rfl (hno _) | rfl
          · cases he
      · cases he
    · cases he
  · cases he

/-- What a call calls. -/
theorem exCallee_any (h : HR P w0 E m.H m.next w) {tm : T Value} {nt : Nat} {a : Act} (ha : AR E tm nt a) {c : Call} {g : Nat} {l : List Value}
    (he : exCallee P m tm c = some (g, l)) (ty : TypeId) :
    ∃ args : Array Value, (do let d ← resolve a.eval c ty; invoke d.target d.args : Sem Next).run P w = (callFunc g args).run P w ∧ VRL E l args.toList := by
  cases hc : c.callee with
  | value x =>
    obtain ⟨d, cap, args, h1, _, h3, h4⟩ := exCallee_value ha hc he ty
    exact ⟨args, by rw [Sem.run_bind, h1]; exact h3 w, h4⟩
  | invoke x name => exact exCallee_invoke h ha hc he ty
  | builtin b => unfold exCallee at he; rw [hc] at he; cases he
theorem exCallee_run (hP : Plainly P) (h : HR P w0 E m.H m.next w) {tm : T Value} {nt : Nat} {a : Act} (ha : AR E tm nt a) {c : Call} {g : Nat} {l : List Value}
    (he : exCallee P m tm c = some (g, l)) {fn : Func} (hf : P.funcs[g]? = some fn) (hb : fn.body.isSome = true) (ty : TypeId) :
    ∃ args : Array Value, (do let d ← resolve a.eval c ty; invoke d.target d.args : Sem Next).run P w = .ok (.enter g args) w ∧ VRL E l args.toList := by
  obtain ⟨args, h1, h2⟩ := exCallee_any h ha he ty
  exact ⟨args, by rw [h1]; exact callFunc_run hP hf hb args w, h2⟩

/-! ### functions without a body -/
theorem no_generic1 : Extern.allGenericRows.lookup "internal/abi.NoEscape" = none := by kernel_rfl
theorem no_typed1 : Extern.allTypedRows.lookup "internal/abi.NoEscape" = none := by kernel_rfl
theorem row1 : Extern.allRows.lookup "internal/abi.NoEscape" = some Extern.AbiNoEscape.same := by kernel_rfl
theorem no_generic2 : Extern.allGenericRows.lookup "internal/bytealg.MakeNoZero" = none := by kernel_rfl
theorem row2 : Extern.allTypedRows.lookup "internal/bytealg.MakeNoZero" = some Extern.BytealgMakeNoZero.makeNoZero := by kernel_rfl
theorem no_generic3 : Extern.allGenericRows.lookup "internal/reflectlite.TypeOf" = none := by kernel_rfl
theorem no_typed3 : Extern.allTypedRows.lookup "internal/reflectlite.TypeOf" = none := by kernel_rfl
theorem row3 : Extern.allRows.lookup "internal/reflectlite.TypeOf" = some Extern.ReflectliteType.typeOf := by kernel_rfl
theorem no_generic4 : Extern.allGenericRows.lookup "slices.overlaps" = none := by kernel_rfl
theorem typed4 : Extern.allTypedRows.lookup "slices.overlaps" = some Extern.SlicesOverlaps.overlaps := by kernel_rfl
theorem isOverlaps_find {fn : Func} (h : isOverlaps fn = true) : Extern.find fn = some (Extern.SlicesOverlaps.overlaps fn.params fn.resultTypes) := by
  unfold isOverlaps at h
  simp only [Bool.and_eq_true, decide_eq_true_eq, Option.isNone_iff_eq_none] at h
  obtain ⟨⟨⟨h1, h2⟩, h3⟩, h4⟩ := h
  simp [Extern.find, h1, h2, h3, h4, no_generic4, typed4]
theorem exOverlaps_run (h : HR P w0 E m.H m.next w) {fn : Func} {i j b b' o o' : Nat} (hb : E.blk i = some b) (hb' : E.blk j = some b') (he : exOverlaps P m fn i j = true) (la ca lb cb : Nat) :
    Extern.find fn = some (Extern.SlicesOverlaps.overlaps fn.params fn.resultTypes) ∧
    (Extern.SlicesOverlaps.overlaps fn.params fn.resultTypes #[.slice (some ⟨b, o, none⟩) la ca, .slice (some ⟨b', o', none⟩) lb cb]).run P w = .ok (.bool false) w := by
  unfold exOverlaps at he
  split at he
  · rename_i t t' r hp hres
    simp only [Bool.and_eq_true, Bool.not_eq_true', Nat.ble_eq] at he
    obtain ⟨⟨⟨⟨⟨⟨h1, h2⟩, h3⟩, h4⟩, h5⟩, h6⟩, h7⟩ := he
    obtain rfl := Nat.eq_of_beq_eq_true h1
    have hij : i ≠ j := fun e => by subst e; simp at h3
    split at h2
    · rename_i e hu
      split at h6
      · rename_i ci ni ei gi cj nj ej gj hgi hgj
        simp only [Bool.and_eq_true, Bool.not_eq_true', Nat.ble_eq] at h6
        obtain ⟨⟨k1, k2⟩, k3⟩ := h6
        obtain ⟨b1, r1, q1, q2, arr1, ⟨fz1, e1, hz1, hel1, rfl⟩, hs1, _⟩ := h.obj hb hgi
        obtain rfl : b = b1 := by rw [hb] at q1; injection q1
        obtain ⟨b2, r2, q3, q4, arr2, ⟨fz2, e2, hz2, hel2, rfl⟩, hs2, _⟩ := h.obj hb' hgj
        obtain rfl : b' = b2 := by rw [hb'] at q3; injection q3
        have hne : b ≠ b' := fun e => by subst e; exact hij (h.inj i j _ _ b hgi hgj hb hb')
        have hf1 : fz1 = (0, 0) := by
          rcases hz1 with hz | ⟨_, hz⟩
          · exact hz
          · rw [hel1 h4] at hz; rw [hz] at k1; simp at k1
        subst hf1
        cases hi : P.info? e with
        | none => rw [hi] at h2; cases h2
        | some info =>
          refine ⟨isOverlaps_find h7, ?_⟩
          have e1' : fn.params = #[t, t] := hp
          have e2' : fn.resultTypes = #[r] := hres
          rw [e1', e2']
          have hsz := sizeOk_n hs2
          refine Lib.run_overlaps_apart w t r e hu (P.cellsOf e) (fun w => run_sizeOf w hi) ⟨b, o, none⟩ ⟨b', o', none⟩ la ca lb cb hne e1 e2 arr1.size arr2.size (by simp [World.shape?, q2]) (by simp [World.shape?, q4]) (by omega) ?_ ?_
          · unfold World.frozen?
            rw [q2]
            simp
          · unfold World.frozen?
            rw [q2]
            simp
      · cases h6
    · cases h2
  · cases he
theorem exExt_run (hP : Plainly P) (h : HR P w0 E m.H m.next w) (hlo : m.lo ≤ m.next) {g : FuncId} {l : List Value} {args : Array Value} (hl : VRL E l args.toList) {v : Value} {m' : Mem} (he : exExt P m g l = some (v, m')) :
    OpGood P w0 E m w (callFunc g args) v m' := by
  unfold exExt at he
  split at he
  · rename_i fn hf
    split at he
    · rename_i hb
      have hname : (fn.name == "runtime.NumGoroutine") = false := by simpa using hP g fn hf
      split at he
      · rename_i hn
        have key : ∀ e, Extern.find fn = some e → Good P w0 E m w (e args) v m' → OpGood P w0 E m w (callFunc g args) v m' := fun e hfe hg => by
          obtain ⟨E', v', w', h1, h2⟩ := hg
          exact ⟨E', v', w', .inl (by rw [run_callFunc_extern hf hname hb hn hfe, h1]; rfl), h2⟩
        split at he
        · rename_i r hr
          injection he with he
          subst he
          unfold exExtM at hr
          split at hr
          · rename_i a
            split at hr
            · rename_i hnm
              simp only [Option.some.injEq, Prod.mk.injEq] at hr
              obtain ⟨rfl, rfl⟩ := hr
              obtain ⟨al⟩ := args
              simp only at hl
              cases hl with
              | @cons _ x _ _ hx hl =>
                cases hl
                refine key Extern.AbiNoEscape.same ?_ (Good.same h (Lib.run_noEscape w x) hx)
                simp only [Extern.find, hnm, no_generic1, no_typed1, row1]
                rfl
            · cases hr
          · rename_i i o la ca j o' lb cb
            split at hr
            · rename_i hov
              simp only [Option.some.injEq, Prod.mk.injEq] at hr
              obtain ⟨rfl, rfl⟩ := hr
              obtain ⟨al⟩ := args
              simp only at hl
              cases hl with
              | cons hx hl =>
                cases hl with
                | cons hy hl =>
                  cases hl
                  cases hx with
                  | slice _ _ hb _ =>
                    cases hy with
                    | slice _ _ hb' _ =>
                      obtain ⟨r1, r2⟩ := exOverlaps_run h hb hb' hov la _ lb _
                      exact key _ r1 (Good.same h r2 (.bool false))
            · cases hr
          · rename_i t u
            split at hr
            · rename_i hnm
              cases hq : gQ P (Extern.ReflectliteType.typeOf #[.iface t .nilIface]) with
              | none => rw [hq] at hr; cases hr
              | some x =>
                rw [hq] at hr
                simp only [Ev.same, Option.some.injEq, Prod.mk.injEq] at hr
                obtain ⟨rfl, rfl⟩ := hr
                obtain ⟨al⟩ := args
                simp only at hl
                cases hl with
                | cons hx hl =>
                  cases hl; cases hx
                  have hr2 := gQ_run (w := w) (E := E) h.glob hq
                  refine key Extern.ReflectliteType.typeOf ?_ (Good.same h hr2.1 hr2.2)
                  simp only [Extern.find, hnm, no_generic3, no_typed3, row3]
                  rfl
            · cases hr
          · rename_i n
            split at hr
            · rename_i hnm
              split at hr
              · rename_i t hrt
                split at hr
                · rename_i e hu
                  split at hr
                  · rename_i hc
                    simp only [Option.some.injEq, Prod.mk.injEq] at hr
                    obtain ⟨rfl, rfl⟩ := hr
                    obtain ⟨al⟩ := args
                    simp only at hl
                    cases hl with
                    | cons hx hl =>
                      cases hl; cases hx
                      obtain ⟨cs, h1, h2, _⟩ := Lib.run_makeNoZero (P := P) w fn.params t e hu n hc.2.1
                      refine key (Extern.BytealgMakeNoZero.makeNoZero fn.params #[t]) ?_ (rowMem_good h hlo hc.1 hc.2.2 (.inl rfl) h2 (fun j u _ hu => by simp [T.get] at hu) ?_ (World.alloc_heap_new w.drew.drew _) h1)
                      · simp only [Extern.find, hnm, no_generic2, row2, hrt]
                        rfl
                      · exact (Below.refl _ _).drew.drew.alloc (Nat.le_refl _) _
                  · cases hr
                · cases hr
              · cases hr
            · cases hr
          · cases hr
        · split at he
          · rename_i hcl
            split at he
            · rename_i e hfe
              have hargs : args = l.toArray := by
                have := hl.eq_of_g h.glob hcl
                apply Array.ext'
                simpa using this
              subst hargs
              cases hq : gQ P (e l.toArray) with
              | none => rw [hq] at he; cases he
              | some u =>
                rw [hq] at he
                simp only [Ev.same, Option.some.injEq, Prod.mk.injEq] at he
                obtain ⟨rfl, rfl⟩ := he
                have hr := gQ_run (w := w) (E := E) h.glob hq
                exact key e hfe (Good.same h hr.1 hr.2)
            · cases he
          · cases he
      · cases he
    · cases he
  · cases he
end Go.Proofs.YtkecgbcfkbafpaaDoor.Ev
