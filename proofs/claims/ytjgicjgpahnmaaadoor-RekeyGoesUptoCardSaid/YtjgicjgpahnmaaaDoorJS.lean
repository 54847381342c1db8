/-
  rekey.list and rekey.why, answered by our machine.
-/
import Derived.Test.YtjgicjgpahnmaaaDoorJE
import Derived.Test.YtjgicjgpahnmaaaDoorJR
import Derived.Test.YtjgicjgpahnmaaaDoorRows
import Derived.LaidLaws
import Derived.Test.YtjgicjgpahnmaaaDoorJP
/-! rekey.list and rekey.why, answered by our machine. -/
namespace Go.Proofs.YtjgicjgpahnmaaaDoor
open Go.RowKit Ev
set_option linter.unusedVariables false
theorem plainT : plainB Tryd.prog = true := by kernel_rfl
theorem mixedT : Tryd.prog.follows .mixedOrders = true := by kernel_rfl
def ranTo (r : Tr (Out × Mem)) : Option Value := match r with
  | .ok (.ret v, _) => some v
  | _ => none
theorem ranTo_ok {r : Tr (Out × Mem)} {v : Value} (h : ranTo r = some v) : ∃ m, r = .ok (.ret v, m) := by
  unfold ranTo at h
  split at h
  · injection h with h; subst h; exact ⟨_, rfl⟩
  · cases h
section
variable {E : Env}
theorem vr_tuple {x : List Value} {v' : Value} (h : VR E (.tuple x.toArray) v') : ∃ x', v' = .tuple x'.toArray ∧ VRL E x x' := by
  generalize hz : Value.tuple x.toArray = z at h
  cases h with
  | tuple h => injection hz with hz; have := List.toArray_inj hz; subst this; exact ⟨_, rfl, h⟩
  | _ => cases hz
theorem vr_agg {x : List Value} {v' : Value} (h : VR E (.agg x.toArray) v') : ∃ x', v' = .agg x'.toArray ∧ VRL E x x' := by
  generalize hz : Value.agg x.toArray = z at h
  cases h with
  | agg h => injection hz with hz; have := List.toArray_inj hz; subst this; exact ⟨_, rfl, h⟩
  | _ => cases hz
theorem vrl_1 {a : Value} {x' : List Value} (h : VRL E [a] x') : ∃ b, x' = [b] ∧ VR E a b := by
  cases h with | cons h hs => cases hs; exact ⟨_, rfl, h⟩
theorem vrl_2 {a b : Value} {x' : List Value} (h : VRL E [a, b] x') : ∃ c d, x' = [c, d] ∧ VR E a c ∧ VR E b d := by
  cases h with | cons h hs => obtain ⟨d, rfl, h2⟩ := vrl_1 hs; exact ⟨_, _, rfl, h, h2⟩
end
/-- One block of the caller's, read alone. -/
def EL (b : Nat) : Env := ⟨fun i => if i < 48 then some i else if i = 48 then some b else none, fun _ => none, fun _ => false⟩
theorem EL_hr (b : Nat) (w : World) : HR Tryd.prog w (EL b) .leaf 64 w := by
  refine ⟨Below.refl _ _, fun i b' e => ?_, fun g hg => by simp [EL, hg], fun i j o o' b' h => by simp [T.get] at h, fun i hp => absurd hp Bool.false_ne_true, fun i o ho => by simp [T.get] at ho⟩
  simp only [EL] at e
  split at e
  · exact ⟨by omega, fun h => by omega⟩
  · split at e
    · exact ⟨by omega, fun h => by omega⟩
    · cases e
def listArg (a : Option Addr) (n c : Nat) : Value := .iface 88 (.agg #[.slice a n c])
theorem list_ran0 (n c : Nat) : ranTo (evCall2 (fun _ _ _ => none) Tryd.prog 1000 20 27 [listArg none n c] ⟨.leaf, 64, 0⟩) = some (.tuple #[listArg none n c, .bool true]) := by kernel_rfl
theorem list_ran1 (o n c : Nat) : ranTo (evCall2 (fun _ _ _ => none) Tryd.prog 1000 20 27 [listArg (some ⟨48, o, none⟩) n c] ⟨.leaf, 64, 0⟩) = some (.tuple #[listArg (some ⟨48, o, none⟩) n c, .bool true]) := by kernel_rfl
theorem list_any (a : Option Addr) (n c : Nat) (w : World) (ha : ∀ x, a = some x → x = ⟨x.block, x.off, none⟩) :
    Calls Tryd.prog 27 #[.iface 88 (.agg #[.slice a n c])] w (Ret (.tuple #[.iface 88 (.agg #[.slice a n c]), .bool true]) w) := by
  cases a with
  | none =>
    obtain ⟨m, hr⟩ := ranTo_ok (list_ran0 n c)
    obtain ⟨_, hc⟩ := evCall2_ok (plainly_of plainT) mixedT no_sums 1000 20 _ _ _ _ _ hr
    refine Calls.mono (hc (EL 0) w _ (EL_hr 0 w) (Nat.zero_le _) (.cons (.iface _ (.agg (.cons (.slice0 _ _) .nil))) .nil)) fun e w'' ⟨E', _, k2, _, _, k5⟩ => ?_
    cases e with
    | returned v =>
      obtain ⟨x, rfl, h2⟩ := vr_tuple (x := [_, _]) k5
      obtain ⟨c1, d1, rfl, h3, h4⟩ := vrl_2 h2
      cases h4
      cases h3 with | iface _ h3 =>
      obtain ⟨y, rfl, h5⟩ := vr_agg (x := [_]) h3
      obtain ⟨z, rfl, h6⟩ := vrl_1 h5
      cases h6
      exact ⟨rfl, k2.below⟩
    | _ => exact k5.elim
  | some x =>
    obtain ⟨b, o, rfl⟩ : ∃ b o, x = ⟨b, o, none⟩ := ⟨_, _, ha x rfl⟩
    obtain ⟨m, hr⟩ := ranTo_ok (list_ran1 o n c)
    obtain ⟨_, hc⟩ := evCall2_ok (plainly_of plainT) mixedT no_sums 1000 20 _ _ _ _ _ hr
    refine Calls.mono (hc (EL b) w _ (EL_hr b w) (Nat.zero_le _) (.cons (.iface _ (.agg (.cons (.slice o n (by simp [EL]) (by simp [capOf, EL])) .nil))) .nil)) fun e w'' ⟨E', k1, k2, _, _, k5⟩ => ?_
    have hE := k1.to 48 b (by simp [EL])
    cases e with
    | returned v =>
      obtain ⟨x, rfl, h2⟩ := vr_tuple (x := [_, _]) k5
      obtain ⟨c1, d1, rfl, h3, h4⟩ := vrl_2 h2
      cases h4
      cases h3 with | iface _ h3 =>
      obtain ⟨y, rfl, h5⟩ := vr_agg (x := [_]) h3
      obtain ⟨z, rfl, h6⟩ := vrl_1 h5
      cases h6 with
      | slice _ _ g1 g2 =>
        rw [hE.1] at g1
        injection g1 with g1
        subst g1
        have hcap : (E'.cap 48) = none := hE.2
        simp only [capOf, hcap] at g2
        subst g2
        exact ⟨rfl, k2.below⟩
    | _ => exact k5.elim
theorem list_ranx : ranTo (evCall2 (fun _ _ _ => none) Tryd.prog 1000 20 27 [.iface 88 (.agg #[.slice (some ⟨48, 0, some 0⟩) 0 0])] ⟨.leaf, 64, 0⟩) = some (.tuple #[.iface 88 (.agg #[.slice (some ⟨48, 0, some 0⟩) 0 0]), .bool true]) := by kernel_rfl
/-- A tuple of nothing: some tuple of nothing comes back. -/
theorem list_none (x : Addr) (c : Nat) (w : World) :
    Calls Tryd.prog 27 #[.iface 88 (.agg #[.slice (some x) 0 c])] w (fun e w' => ∃ a2 c2, e = .returned (.tuple #[.iface 88 (.agg #[.slice a2 0 c2]), .bool true]) ∧ Below w.heap.size w w') := by
  obtain ⟨m, hr⟩ := ranTo_ok list_ranx
  obtain ⟨_, hc⟩ := evCall2_ok (plainly_of plainT) mixedT no_sums 1000 20 _ _ _ _ _ hr
  refine Calls.mono (hc (EL 0) w _ (EL_hr 0 w) (Nat.zero_le _) (.cons (.iface _ (.agg (.cons (.slicex 48 x c) .nil))) .nil)) fun e w'' ⟨E', k1, k2, _, _, k5⟩ => ?_
  cases e with
  | returned v =>
    obtain ⟨x, rfl, h2⟩ := vr_tuple (x := [_, _]) k5
    obtain ⟨c1, d1, rfl, h3, h4⟩ := vrl_2 h2
    cases h4
    cases h3 with | iface _ h3 =>
    obtain ⟨y, rfl, h5⟩ := vr_agg (x := [_]) h3
    obtain ⟨z, rfl, h6⟩ := vrl_1 h5
    cases h6 with
    | slicex _ a c => exact ⟨_, _, rfl, k2.below⟩
  | _ => exact k5.elim
/-- The list of a tuple value. -/
theorem list_tuple (l : List PT) (a : Option Addr) (c : Nat) (w : World) (B : Nat) (hl : ValuesAt w (· < B) l a) :
    Calls Tryd.prog 27 #[.iface 88 (.agg #[.slice a l.length c])] w (fun e w' => ∃ a2 c2, e = .returned (.tuple #[.iface 88 (.agg #[.slice a2 l.length c2]), .bool true]) ∧ Below w.heap.size w w' ∧ ValuesAt w (· < B) l a2) := by
  cases l with
  | nil =>
    cases a with
    | none =>
      refine (list_any none 0 c w (fun x h => by cases h)).mono ?_
      rintro e w' ⟨rfl, hb⟩
      exact ⟨_, _, rfl, hb, trivial⟩
    | some x =>
      refine (list_none x c w).mono ?_
      rintro e w' ⟨a2, c2, rfl, hb⟩
      exact ⟨_, _, rfl, hb, trivial⟩
  | cons t r =>
    refine (list_any a (t :: r).length c w (fun x h => by subst h; obtain ⟨b, o, u, e, _⟩ := hl; injection e with e; subst e; rfl)).mono ?_
    rintro e w' ⟨rfl, hb⟩
    exact ⟨_, _, rfl, hb, hl⟩
end Go.Proofs.YtjgicjgpahnmaaaDoor

/-! rekey.why, answered by our machine, whatever item's error comes; the variable 'none'. -/
namespace Go.Proofs.YtjgicjgpahnmaaaDoor
open Go.RowKit Ev
set_option linter.unusedVariables false
noncomputable def rtypeW : TypeId := match Tryd.prog.cutTypes.find? (·.1 == "internal/reflectlite.rtype") with
  | some x => x.2
  | none => 0
noncomputable def baseW : T AObj := (laidMem Tryd.prog (Rows.rekeyGoesUptoRow.laid.filter fun x => x.2.handleName?.isNone)).set 1 (.cells (T.leaf.set 0 (.iface rtypeW (.agg #[typeHandle Tryd.prog 41]))) 1 0 false)
theorem base_hr {w : World} (h : laidMetH Tryd.prog Rows.rekeyGoesUptoRow.laid w) : HR Tryd.prog w E0 baseW 64 w :=
  HR.laidH h (x := ("errors.errorType", Rows.laid_errors_errorType)) (List.mem_of_getElem? (i := 0) rfl) rfl rfl (name := [101, 114, 114, 111, 114]) rfl (by kernel_rfl) (by kernel_rfl) (by kernel_rfl) (by decide) (of_decide_eq_true (by kernel_rfl))
def isRet (r : Tr (Out × Mem)) : Bool := match r with
  | .ok (.ret (.iface _ _), _) => true
  | .ok (.ret .nilIface, _) => true
  | _ => false
theorem isRet_ok {r : Tr (Out × Mem)} (h : isRet r = true) : ∃ v m, r = .ok (.ret v, m) ∧ ∀ E v', VR E v v' → v'.cells = #[v'] := by
  unfold isRet at h
  split at h
  · exact ⟨_, _, rfl, fun E v' h => by cases h; rfl⟩
  · exact ⟨_, _, rfl, fun E v' h => by cases h; rfl⟩
  · cases h
theorem why_ran90 : isRet (evCall2 (fun _ _ _ => none) Tryd.prog 100000 60 29 [.iface 32 (.int .i64 90)] ⟨baseW, 64, 0⟩) = true := by kernel_rfl
theorem why_ran91 : isRet (evCall2 (fun _ _ _ => none) Tryd.prog 100000 60 29 [.iface 32 (.int .i64 91)] ⟨baseW, 64, 0⟩) = true := by kernel_rfl
theorem why_ranP : isRet (evCall2 (fun _ _ _ => none) Tryd.prog 100000 60 29 [.iface 135 (.chan (some 0))] ⟨baseW, 64, 0⟩) = true := by kernel_rfl
theorem why_ranA : isRet (evCall2 (fun _ _ _ => none) Tryd.prog 100000 60 29 [.iface 135 (.agg #[.chan (some 0)])] ⟨baseW, 64, 0⟩) = true := by kernel_rfl
/-- Something comes back. -/
def SomePost (w : World) (e : Ending) (w' : World) : Prop := ∃ v, e = .returned v ∧ v.cells = #[v] ∧ Below w.heap.size w w'
/-- The errors that an item may have. -/
def ItemErr (v : Value) : Prop := v = .iface 32 (.int .i64 90) ∨ v = .iface 32 (.int .i64 91) ∨ (∃ x, x.oneCell' = true ∧ opqOK x = true ∧ v = .iface 135 x) ∨ (∃ x, opqOK x = true ∧ v = .iface 135 (.agg #[x]))
theorem call_some {P : Program} {w : World} {H : T AObj} (hP : Plainly P) (hm : P.follows .mixedOrders = true) (steps n : Nat) (f : FuncId) {l : List Value} {args : Array Value} (h0 : HR P w E0 H 64 w) (hv : VRL E0 l args.toList) (he : isRet (evCall2 (fun _ _ _ => none) P steps n f l ⟨H, 64, 0⟩) = true) : Calls P f args w (SomePost w) := by
  obtain ⟨v, m, hr, hone⟩ := isRet_ok he
  obtain ⟨_, hc⟩ := evCall2_ok hP hm no_sums steps n f _ _ _ _ hr
  refine Calls.mono (hc E0 w args h0 (Nat.zero_le _) hv) fun e w'' ⟨E', _, k2, _, _, k5⟩ => ?_
  cases e with
  | returned v => exact ⟨_, rfl, hone _ _ k5, k2.below⟩
  | _ => exact k5.elim
theorem some_of {w0 w : World} (h : laidMetH Tryd.prog Rows.rekeyGoesUptoRow.laid w0) (hb : Below w0.heap.size w0 w) (steps n : Nat) (f : FuncId) {l : List Value} (hr : isRet (evCall2 (fun _ _ _ => none) Tryd.prog steps n f l ⟨baseW, 64, 0⟩) = true) {args : Array Value} (hv : VRL E0 l args.toList) :
    Calls Tryd.prog f args w (SomePost w) := call_some (plainly_of plainT) mixedT steps n f (HR.at_later (base_hr h) hb) hv hr
theorem why_any {w0 w : World} (h : laidMetH Tryd.prog Rows.rekeyGoesUptoRow.laid w0) (hb : Below w0.heap.size w0 w) {v : Value} (hv : ItemErr v) : Calls Tryd.prog 29 #[v] w (SomePost w) := by
  rcases hv with rfl | rfl | ⟨x, _, hx, rfl⟩ | ⟨x, hx, rfl⟩
  · exact some_of h hb _ _ _ why_ran90 (.cons (.iface _ (.int _ _)) .nil)
  · exact some_of h hb _ _ _ why_ran91 (.cons (.iface _ (.int _ _)) .nil)
  · exact some_of h hb _ _ _ why_ranP (.cons (.iface _ (.opq 0 hx)) .nil)
  · exact some_of h hb _ _ _ why_ranA (.cons (.iface _ (.agg (.cons (.opq 0 hx) .nil))) .nil)
/-- The variable 'none' is there. -/
def NoneMet (w : World) : Prop := ∃ v, w.cell? ⟨0, 0, none⟩ = some v ∧ ItemErr v
end Go.Proofs.YtjgicjgpahnmaaaDoor

/-! The package variable 'none' holds an error. -/
namespace Go.Proofs.YtjgicjgpahnmaaaDoor
open Go.RowKit Ev
set_option linter.unusedVariables false
theorem none_glob : Tryd.prog.globalNamed "dovetail/rekey.none" = some 0 := by kernel_rfl
theorem none_gtype : (Tryd.prog.globals[0]?).map (·.type) = some 41 := by kernel_rfl
theorem iface_trod {P : Program} {w : World} {m : Array (String × TypeId)} {fuel : Nat} {t : TypeId} {cs : List Value} {n : String} {d : DataW Unit} {p : List MemPlace} (ht : P.underlying t = some (.interface m)) (h : DataW.trod (fun _ => ()) P w 0 (fun _ => true) false fuel t cs = some (.iface n d, p)) :
    ∃ u v f x, cs = [.iface u v] ∧ P.typeName? 3 u = some n ∧ DataW.trod (fun _ => ()) P w 0 (fun _ => true) false f u v.cells.toList = some x ∧ x.1 = d := by
  cases fuel with
  | zero => simp [DataW.trod] at h
  | succ fuel =>
    unfold DataW.trod at h
    rw [ht] at h
    rcases cs with _ | ⟨x, _ | ⟨y, L⟩⟩
    · simp at h
    · cases x <;> try (simp at h; done)
      rename_i u v
      simp only at h
      split at h
      · cases h
      · rename_i name hname
        cases hx : DataW.trod (fun _ => ()) P w 0 (fun _ => true) false fuel u v.cells.toList with
        | none => rw [hx] at h; simp at h
        | some z =>
          rw [hx] at h
          simp only [Option.map_some, Option.some.injEq, Prod.mk.injEq, DataW.iface.injEq] at h
          obtain ⟨⟨rfl, h2⟩, _⟩ := h
          exact ⟨u, v, fuel, z, rfl, hname, hx, h2⟩
      · cases h
    · simp at h
theorem ptr_trod {P : Program} {w : World} {e : TypeId} {fuel : Nat} {t : TypeId} {cs : List Value} {d : DataW Unit} {x : DataW Unit × List MemPlace} (ht : P.underlying t = some (.pointer e)) (h : DataW.trod (fun _ => ()) P w 0 (fun _ => true) false fuel t cs = some x) (hx : x.1 = .ptr d) : ∃ a, cs = [.pointer (some a)] := by
  cases fuel with
  | zero => simp [DataW.trod] at h
  | succ fuel =>
    unfold DataW.trod at h
    rw [ht] at h
    rcases cs with _ | ⟨y, _ | ⟨z, L⟩⟩
    · simp at h
    · cases y <;> try (simp at h; done)
      rename_i a
      cases a with
      | none => simp at h; subst h; simp at hx
      | some a => exact ⟨a, rfl⟩
    · simp at h
theorem none_met {w : World} (h : laidMetH Tryd.prog Rows.rekeyGoesUptoRow.laid w) : NoneMet w := by
  obtain ⟨ps, h1, _, _⟩ := laid_none h
  obtain ⟨g, t, cs, fuel, p, q, e1, e2, e3, e4, _, _⟩ := h1
  obtain rfl : 0 = g := Option.some.inj (none_glob.symm.trans e1)
  obtain rfl : 41 = t := Option.some.inj (none_gtype.symm.trans e2)
  unfold World.var? at e3
  rw [e1] at e3
  simp only [Option.bind_some] at e3
  have hcell : ∀ (i : Nat) (u : Value), cs.toList[i]? = some u → w.cell? ⟨0, i, none⟩ = some u := by
    intro i u hu
    split at e3
    · rename_i c ty fz hh
      injection e3 with e3
      subst e3
      simp only [World.cell?, hh]
      simpa using hu
    · cases e3
  obtain ⟨u, v, f, x, hcs, hname, hx, hx1⟩ := iface_trod Tryd.underlying41 e4
  have hu : u = 135 := typeName_ptr_named (nm := "errors.errorString") (by kernel_rfl) (by kernel_rfl) (by decide) u hname
  subst hu
  obtain ⟨a, ha⟩ := ptr_trod Tryd.underlying135 hx hx1
  refine ⟨_, hcell 0 _ (by rw [hcs]; rfl), ?_⟩
  have hva : v.cells = #[.pointer (some a)] := by
    apply Array.toList_inj.1
    exact ha
  unfold Value.cells at hva
  split at hva
  · subst hva
    exact .inr (.inr (.inr ⟨_, rfl, rfl⟩))
  · have : v = .pointer (some a) := by simpa using hva
    subst this
    exact .inr (.inr (.inl ⟨_, rfl, rfl, rfl⟩))
end Go.Proofs.YtjgicjgpahnmaaaDoor

/-! rekey.item: what a source says. -/
namespace Go.Proofs.YtjgicjgpahnmaaaDoor
open Go.RowKit Go.WideShapes
set_option linter.unusedVariables false
/-- The part that a source picks. -/
def pick (t : PT) (s : Int × PT) : Option PT := if 0 ≤ s.1 then t.items[s.1.toNat]? else if s.2.why = 0 ∧ s.2.depth < 16 then some s.2 else none
/-- What an item comes to. -/
def ItemPost (B : Nat) (x : Option PT) (w : World) (e : Ending) (w' : World) : Prop := Below w.heap.size w w' ∧ match x with
  | some p => ∃ v, e = .returned (.tuple #[v, .nilIface]) ∧ ValueAt w' (fun b => b < B ∨ (w.heap.size ≤ b ∧ b < w'.heap.size)) p v
  | none => ∃ v, e = .returned (.tuple #[.nilIface, v]) ∧ ItemErr v
theorem new_cells (w : World) (cs : List Value) (ty : TypeId) : CellsAt (w.alloc (.cells cs.toArray ty)) w.heap.size 0 cs := fun i u hu => by
  have h : (w.alloc (.cells cs.toArray ty)).heap[w.heap.size]? = some (.cells cs.toArray ty (0, 0)) := World.alloc_heap_new w _
  simp only [World.cell?, h]
  simpa using hu
theorem NoneMet.below {w w' : World} {B : Nat} (h : NoneMet w) (hb : Below B w w') (hB : 0 < B) : NoneMet w' := by
  obtain ⟨v, h1, h2⟩ := h
  exact ⟨v, (hb.cell (by simpa using hB)).trans h1, h2⟩
set_option maxRecDepth 100000 in
set_option maxHeartbeats 1000000 in
theorem item_field (t : PT) (x : Int) (n : Nat) (p : PT) (a : Option Addr) (c : Nat) (a' : Option Addr) (c' : Nat) (w : World) (hn : NoneMet w) (hx : x = (n : Int)) (hlc : t.items.length ≤ maxLen) (B : Nat) (hB : B ≤ w.heap.size) (hv : ValuesAt w (· < B) t.items a') (hwz : 0 < w.heap.size) :
    Calls Tryd.prog 28 #[.agg (Value.int .i64 x :: partCells p a c).toArray, .iface 88 (.agg #[.slice a' t.items.length c'])] w (ItemPost B t.items[n]? w) := by
  have HLen := Lib.hid (fun w => tupLen_any a' t.items.length c' w hlc)
  have HV := Lib.hid hv
  have HN := Lib.hid hn
  have HL := Lib.hid hlc
  obtain ⟨W1, hW1⟩ : ∃ W1, W1 = w.alloc (.cells (Value.int .i64 x :: partCells p a c).toArray 39) := ⟨_, rfl⟩
  have HB1 := Lib.hid (show Below w.heap.size w W1 by rw [hW1]; exact (Below.refl w.heap.size w).alloc (Nat.le_refl _) _)
  have HC1 := Lib.hid (show CellsAt W1 w.heap.size 0 (Value.int .i64 x :: partCells p a c) by rw [hW1]; exact new_cells _ _ _)
  have hz1 : W1.heap.size = w.heap.size + 1 := by rw [hW1]; simp
  have k0 : W1.cell? ⟨w.heap.size, 0, none⟩ = some (Value.int .i64 x) := HC1.out 0 _ rfl
  have hx0 : 0 ≤ x := by omega
  have HXn := Lib.hid hx
  clear hn hv hx
  unfold partCells at hW1 ⊢
  go_enter Tryd.func28, Tryd.ntmps28
  go_wp2_with fail
  rw [← hW1]
  clear hW1
  go_region_law (go_simp; go_invoke; go_simp; go_at_call 83; refine (HLen.out _).mono ?_; rintro e w2 ⟨rfl, hb2⟩; have HB2 := Lib.hid (HB1.out.drew.trans (hb2.mono (by simp only [World.size_drew]; omega))); have k0' := (hb2.cell (p := ⟨w.heap.size, 0, none⟩) (by simp only [World.size_drew]; omega)).trans k0; have hz2 := hb2.size)
  all_goals (
    clear k0 hz1 HC1
    by_cases hlt : n < t.items.length
    · have hxl : x < (t.items.length : Int) := by have := HXn.out; omega
      obtain ⟨b, o, u, ea, hb, hc, hu⟩ := (HV.out.below (HB2.out.mono hB)).get hlt
      subst ea
      have HAt := Lib.hid (tupAt_any b o t.items.length c' n x u w2 HL.out (by simp only [World.size_drew] at hz2; have := HB2.out.size; omega) HXn.out hlt hc)
      have HU := Lib.hid hu
      clear hc hu hb HLen
      go_wp2_with fail
      refine HAt.out.mono ?_
      rintro e w3 ⟨rfl, hb3⟩
      have hz3 := hb3.size
      have HB3 := Lib.hid (HB2.out.trans (hb3.mono HB2.out.size))
      have HU3 := Lib.hid (HU.out.below (hb3.mono (by have := HB2.out.size; omega)))
      clear hb3 HAt
      go_wp2_with fail
      go_ret2
      refine ⟨HB3.out, ?_⟩
      rw [List.getElem?_eq_getElem hlt]
      exact ⟨u, rfl, ValueAt.more (fun b hb => .inl hb) _ _ HU3.out⟩
    · have hxl : ¬ x < (t.items.length : Int) := by have := HXn.out; omega
      obtain ⟨v, hc, hv⟩ := HN.out.below HB2.out hwz
      have HVe := Lib.hid hv
      clear hv HLen
      go_wp2_with fail
      go_region_law (fail)
      all_goals (
        go_wp2_with fail
        go_ret2
        refine ⟨HB2.out.drew, ?_⟩
        rw [List.getElem?_eq_none (by omega)]
        exact ⟨v, rfl, HVe.out⟩))
end Go.Proofs.YtjgicjgpahnmaaaDoor

/-! rekey.item of a part; of any source. -/
namespace Go.Proofs.YtjgicjgpahnmaaaDoor
open Go.RowKit Go.WideShapes
set_option linter.unusedVariables false
theorem PT.why_cases (p : PT) : p.why = 0 ∨ p.why = 90 ∨ p.why = 91 := by
  unfold PT.why; split
  · exact .inr (.inr rfl)
  · split
    · exact .inl rfl
    · exact .inr (.inl rfl)
theorem PT.why_depth {p : PT} (h : p.why = 0) : p.depth ≤ 16 := by
  unfold PT.why at h
  split at h
  · cases h
  · rename_i hd
    rw [PT.deeper_depth] at hd
    simpa using hd
theorem PT.why_may {p : PT} (h : p.why = 0) : p.may = true := by
  unfold PT.why at h
  split at h
  · cases h
  · split at h
    · assumption
    · cases h
set_option maxRecDepth 100000 in
set_option maxHeartbeats 1000000 in
theorem item_part (x : Int) (p : PT) (a : Option Addr) (c : Nat) (tv : Value) (w : World) (hx : x < 0) (hp : PartAt w (· < w.heap.size) p (partCells p a c)) (B : Nat) (q : Option PT) (hq : q = if p.why = 0 ∧ p.depth < 16 then some p else none) :
    Calls Tryd.prog 28 #[.agg (Value.int .i64 x :: partCells p a c).toArray, tv] w (ItemPost B q w) := by
  have HQ := Lib.hid hq
  clear hq
  obtain ⟨W1, hW1⟩ : ∃ W1, W1 = w.alloc (.cells (Value.int .i64 x :: partCells p a c).toArray 39) := ⟨_, rfl⟩
  have HB1 := Lib.hid (show Below w.heap.size w W1 by rw [hW1]; exact (Below.refl w.heap.size w).alloc (Nat.le_refl _) _)
  have HC1 : CellsAt W1 w.heap.size 0 (Value.int .i64 x :: partCells p a c) := by rw [hW1]; exact new_cells _ _ _
  have hz1 : W1.heap.size = w.heap.size + 1 := by rw [hW1]; simp
  have HM := Lib.hid (valMake_any p a c W1 ((hp.below HB1.out).wide (by omega)))
  have k0 : W1.cell? ⟨w.heap.size, 0, none⟩ = some (Value.int .i64 x) := HC1 0 _ rfl
  have k1 : W1.cell? ⟨w.heap.size, 1, none⟩ = some (Value.int .u8 p.kind) := HC1 1 _ rfl
  have k2 : W1.cell? ⟨w.heap.size, 2, none⟩ = some (Value.bool p.yes) := HC1 2 _ rfl
  have k3 : W1.cell? ⟨w.heap.size, 3, none⟩ = some (Value.bool p.bel) := HC1 3 _ rfl
  have k4 : W1.cell? ⟨w.heap.size, 4, none⟩ = some (Value.string p.mag) := HC1 4 _ rfl
  have k5 : W1.cell? ⟨w.heap.size, 5, none⟩ = some (Value.string p.raw) := HC1 5 _ rfl
  have k6 : W1.cell? ⟨w.heap.size, 6, none⟩ = some (Value.slice a p.items.length c) := HC1 6 _ rfl
  clear hp HC1
  have hm9 : ∀ (e : Ending) (w' : World), MakePost p W1 e w' → (Below W1.heap.size W1 w' ∧ ((∃ n : Int, (n = 90 ∨ n = 91) ∧ p.why ≠ 0 ∧ e = .returned (.tuple #[.nilIface, .int .i64 n])) ∨ (p.why = 0 ∧ ∃ v, e = .returned (.tuple #[v, .int .i64 0]) ∧ ValueAt w' (fun b => W1.heap.size ≤ b ∧ b < w'.heap.size) p v))) := by
    rintro e w' ⟨h1, h2 | ⟨h2, v, h3, h4⟩⟩
    · exact ⟨h1, .inl ⟨_, (PT.why_cases p).resolve_left h2.1, h2.1, h2.2⟩⟩
    · exact ⟨h1, .inr ⟨h2, v, h3, h4⟩⟩
  have HM9 := Lib.hid hm9
  clear hm9
  unfold partCells at hW1 HM ⊢
  go_enter Tryd.func28, Tryd.ntmps28
  go_wp2_with fail
  rw [← hW1]
  clear hW1
  go_wp2_with fail
  refine HM.out.mono ?_
  intro e w2 h
  obtain ⟨hb2, ⟨n, hn, hwhy, rfl⟩ | ⟨hwhy, v, rfl, hv⟩⟩ := HM9.out e w2 h
  · have HB2 := Lib.hid (HB1.out.trans (hb2.mono (by omega)))
    have HW := Lib.hid hwhy
    clear h hb2 HM HM9 hwhy k0 k1 k2 k3 k4 k5 k6
    rcases hn with rfl | rfl
    · go_wp2_with fail
      go_ret2
      refine ⟨HB2.out, ?_⟩
      rw [show q = none from HQ.out.trans (if_neg (fun h => HW.out h.1))]
      exact ⟨_, rfl, .inl rfl⟩
    · go_wp2_with fail
      go_ret2
      refine ⟨HB2.out, ?_⟩
      rw [show q = none from HQ.out.trans (if_neg (fun h => HW.out h.1))]
      exact ⟨_, rfl, .inr (.inl rfl)⟩
  · have HB2 := Lib.hid (HB1.out.trans (hb2.mono (by omega)))
    have HW := Lib.hid hwhy
    have HV := Lib.hid hv
    have HD := Lib.hid (Depth_any p v w2 (by have := PT.why_depth hwhy; omega) (ValueAt.more (fun b hb => hb.2) _ _ hv))
    clear h hb2 HM HM9 hwhy k0 k1 k2 k3 k4 k5 k6 hv
    go_wp2_with fail
    refine HD.out.mono ?_
    rintro e w3 ⟨rfl, hb3⟩
    have HB3 := Lib.hid (HB2.out.trans (hb3.mono HB2.out.size))
    have HV3 := Lib.hid (ValueAt.more (S' := fun b => b < B ∨ (w.heap.size ≤ b ∧ b < w3.heap.size)) (fun b hb => .inr ⟨by have := hb.1; omega, by have := hb3.size; have := hb.2; omega⟩) _ _ (ValueAt.keep (fun p hp => hb3.cell hp.2) _ _ HV.out))
    clear hb3 HB2 HV HD
    by_cases hd : p.depth < 16
    · have hd' : ¬ ((p.depth : Int) ≥ 16) := by omega
      have HDp := Lib.hid hd
      clear hd
      go_wp2_with fail
      go_ret2
      refine ⟨HB3.out, ?_⟩
      rw [show q = some p from HQ.out.trans (if_pos ⟨HW.out, HDp.out⟩)]
      exact ⟨v, rfl, HV3.out⟩
    · have hd' : ((p.depth : Int) ≥ 16) := by omega
      have HDp := Lib.hid hd
      clear hd
      go_wp2_with fail
      go_ret2
      refine ⟨HB3.out, ?_⟩
      rw [show q = none from HQ.out.trans (if_neg (fun h => HDp.out h.2))]
      exact ⟨_, rfl, .inr (.inl rfl)⟩
theorem item_any (t : PT) (s : Int × PT) (a : Option Addr) (c : Nat) (a' : Option Addr) (c' : Nat) (w : World) (hn : NoneMet w) (hlc : t.items.length ≤ maxLen) (hp : PartAt w (· < w.heap.size) s.2 (partCells s.2 a c)) (B : Nat) (hB : B ≤ w.heap.size) (hv : ValuesAt w (· < B) t.items a') (hwz : 0 < w.heap.size) :
    Calls Tryd.prog 28 #[.agg (Value.int .i64 s.1 :: partCells s.2 a c).toArray, .iface 88 (.agg #[.slice a' t.items.length c'])] w (ItemPost B (pick t s) w) := by
  unfold pick
  by_cases h0 : 0 ≤ s.1
  · rw [if_pos h0]
    exact item_field t s.1 s.1.toNat s.2 a c a' c' w hn (by omega) hlc B hB hv hwz
  · rw [if_neg h0]
    exact item_part s.1 s.2 a c _ w (by omega) hp B _ rfl
end Go.Proofs.YtjgicjgpahnmaaaDoor
