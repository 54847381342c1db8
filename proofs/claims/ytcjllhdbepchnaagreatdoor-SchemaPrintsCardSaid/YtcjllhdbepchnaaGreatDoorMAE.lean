/-
  errors.As and errors.Is of a fault with a path, answered by our machine; the law's look at the package.
-/
import Derived.Test.YtcjllhdbepchnaaGreatDoorMF
import Derived.Test.YtcjllhdbepchnaaGreatDoorRows
import Derived.Test.YtcjllhdbepchnaaGreatDoorMAD
namespace Go.Proofs.YtcjllhdbepchnaaGreatDoor
open Go.RowKit Go.WideShapes Ev
set_option linter.unusedVariables false
theorem plainT : plainB Tryz.prog = true := by kernel_rfl
theorem mixedT : Tryz.prog.follows .mixedOrders = true := by kernel_rfl
/-- One block of the caller's, read alone. -/
def EL (b : Nat) : Env := ⟨fun i => if i < 48 then some i else if i = 48 then some b else none, fun _ => none, fun _ => false⟩
noncomputable def rtypeW : TypeId := match Tryz.prog.cutTypes.find? (·.1 == "internal/reflectlite.rtype") with
  | some x => x.2
  | none => 0
noncomputable def baseW : T AObj := (laidMem Tryz.prog (Rows.schemaChecksRow.laid.filter fun x => x.2.handleName?.isNone)).set 0 (.cells (T.leaf.set 0 (.iface rtypeW (.agg #[typeHandle Tryz.prog 42]))) 1 0 false)
theorem base_hr {w : World} (h : laidMetH Tryz.prog Rows.schemaChecksRow.laid w) : HR Tryz.prog w E0 baseW 64 w :=
  HR.laidH h (x := ("errors.errorType", Rows.laid_errors_errorType)) (List.mem_of_getElem? (i := 4) rfl) rfl rfl (name := [101, 114, 114, 111, 114]) rfl (by kernel_rfl) (by kernel_rfl) (by kernel_rfl) (by decide) (of_decide_eq_true (by kernel_rfl))
theorem EL_base {w : World} (h : laidMetH Tryz.prog Rows.schemaChecksRow.laid w) (T : Nat) : HR Tryz.prog w (EL T) baseW 64 w := by
  have h0 := base_hr h
  have lt : ∀ i o, baseW.get i = some o → i < 48 := fun i o ho => by
    obtain ⟨b, r, k1, _⟩ := h0.born i o ho rfl
    simp only [E0] at k1
    split at k1
    · assumption
    · cases k1
  have same : ∀ i, i < 48 → (EL T).blk i = some i := fun i hi => by simp [EL, hi]
  refine ⟨h0.below, fun i b e => ?_, fun g hg => same g hg, fun i j o o' b h1 h2 e1 e2 => ?_, fun i hp => absurd hp Bool.false_ne_true, fun i o ho hp => ?_⟩
  · simp only [EL] at e
    split at e
    · exact ⟨by omega, fun h => by omega⟩
    · split at e
      · exact ⟨by omega, fun h => by omega⟩
      · cases e
  · rw [same i (lt i o h1)] at e1
    rw [same j (lt j o' h2)] at e2
    cases e1; cases e2; rfl
  · obtain ⟨b, r, k1, k2, k3⟩ := h0.born i o ho rfl
    have hi := lt i o ho
    have hb : b = i := by simp [E0, hi] at k1; exact k1.symm
    subst hb
    have hto : ∀ i b, E0.blk i = some b → (EL T).blk i = some b ∧ (EL T).cap i = E0.cap i := by
      intro i b h
      simp only [E0] at h
      split at h
      · injection h with h; subst h; exact ⟨same _ (by assumption), rfl⟩
      · cases h
    have hle : E0.le (EL T) := ⟨hto, rfl⟩
    exact ⟨b, r, same b hi, k2, k3.mono hle k1⟩
noncomputable def asMem : T AObj := baseW.set 64 (.cells (T.leaf.set 0 (.pointer none)) 1 91 false)
def asChk (r : Tr (Out × Mem)) : Bool := match r with
  | .ok (.ret (.bool true), m) => match m.H.get 64 with
    | some (.cells cs n _ _) => match cs.get 0 with
      | some (.pointer (some ⟨48, 0, none⟩)) => Nat.blt 0 n
      | _ => false
    | _ => false
  | _ => false
theorem as_ran : asChk (evCall2 (fun _ _ _ => none) Tryz.prog 100000 60 49 [.iface 91 (.pointer (some ⟨48, 0, none⟩)), .iface 101 (.pointer (some ⟨64, 0, none⟩))] ⟨asMem, 65, 0⟩) = true := by kernel_rfl
theorem asChk_ok {r : Tr (Out × Mem)} (h : asChk r = true) : ∃ m cs n e g, r = .ok (.ret (.bool true), m) ∧ m.H.get 64 = some (.cells cs n e g) ∧ cs.get 0 = some (.pointer (some ⟨48, 0, none⟩)) ∧ 0 < n := by
  unfold asChk at h
  split at h
  · split at h
    · split at h
      · exact ⟨_, _, _, _, _, rfl, by assumption, by assumption, by simpa [Nat.blt_eq] using h⟩
      · cases h
    · cases h
  · cases h
theorem call_full {P : Program} {w0 w : World} {E : Env} {H : T AObj} {next : Nat} (hP : Plainly P) (hm : P.follows .mixedOrders = true) (steps n : Nat) (f : FuncId) {l : List Value} {args : Array Value} {v : Value} {m : Mem} (h0 : HR P w0 E H next w) (hv : VRL E l args.toList) (hr : evCall2 (fun _ _ _ => none) P steps n f l ⟨H, next, 0⟩ = .ok (.ret v, m)) :
    Calls P f args w fun e w' => ∃ E' v', E.le E' ∧ HR P w0 E' m.H m.next w' ∧ e = .returned v' ∧ VR E' v v' := by
  obtain ⟨_, hc⟩ := evCall2_ok hP hm no_sums steps n f _ _ _ _ hr
  refine Calls.mono (hc E w args h0 (Nat.zero_le _) hv) fun e w'' ⟨E', k1, k2, _, _, k5⟩ => ?_
  cases e with
  | returned v' => exact ⟨E', v', k1, k2, rfl, k5⟩
  | _ => exact k5.elim
set_option maxRecDepth 100000 in
/-- errors.As of a fault: it is laid into the box. -/
theorem as_any {w0 w wb : World} {Tb b : Nat} (h : laidMetH Tryz.prog Rows.schemaChecksRow.laid w0) (hb0 : Below w0.heap.size w0 w) (hge : w.heap.size ≤ b) (hb : Below w.heap.size w wb) (hbox : BoxAt wb b (.pointer none) 91) :
    Calls Tryz.prog 49 #[.iface 91 (.pointer (some ⟨Tb, 0, none⟩)), .iface 101 (.pointer (some ⟨b, 0, none⟩))] wb fun e w' => e = .returned (.bool true) ∧ Below w.heap.size w w' ∧ w'.cell? ⟨b, 0, none⟩ = some (.pointer (some ⟨Tb, 0, none⟩)) := by
  have h0 : HR Tryz.prog w (EL Tb) baseW 64 w := by
    have h1 := EL_base h Tb
    refine ⟨Below.refl _ _, fun i b e => ⟨(h1.dom i b e).1, fun h64 => by have := (h1.dom i b e).1; omega⟩, h1.glob, h1.inj, fun i hp => absurd hp Bool.false_ne_true, fun i o ho hp => ?_⟩
    obtain ⟨b, r, k1, k2, k3⟩ := h1.born i o ho hp
    exact ⟨b, r, k1, by rw [hb0.block b (Array.getElem?_eq_some_iff.1 k2).1]; exact k2, k3⟩
  have hor : OR Tryz.prog ((EL Tb).more 64 b none) 64 (.cells (T.leaf.set 0 (.pointer none)) 1 91 false) (.cells #[.pointer none] 91 (0, 0)) := by
    refine ⟨#[.pointer none], ⟨_, _, fun _ => .inl rfl, fun _ => rfl, rfl⟩, by simp [sizeOk, Env.more], fun j v hj hv => ?_⟩
    obtain rfl : j = 0 := by omega
    rw [T.get_set _ _ _ (by omega), if_pos rfl] at hv
    injection hv with hv
    subst hv
    exact ⟨_, rfl, .ptr0⟩
  have hr := HR.newAt h0 (by decide) hge hor hb hbox
  obtain ⟨m, cs, n, el, g, hev, hg1, hg2, hn⟩ := asChk_ok as_ran
  refine Calls.mono (call_full (plainly_of plainT) mixedT _ _ _ hr (.cons (.iface _ (.ptr 0 (by simp [Env.more, EL]))) (.cons (.iface _ (.ptr 0 (by simp [Env.more]))) .nil)) hev) fun e w' ⟨E', v', k1, k2, k3, k4⟩ => ?_
  cases k4
  have e64 := (k1.to 64 b (by simp [Env.more])).1
  have e48 := (k1.to 48 Tb (by simp [Env.more, EL])).1
  obtain ⟨b9, r, g3, g4, g5⟩ := k2.obj e64 hg1
  rw [e64] at g3
  injection g3 with g3
  subst g3
  obtain ⟨arr, ⟨fz, el', _, _, rfl⟩, hsz, hcell⟩ := g5
  refine ⟨k3, k2.below, ?_⟩
  obtain ⟨v', h1, h2⟩ := hcell 0 _ hn hg2
  cases h2 with
  | ptr _ hblk =>
    rw [e48] at hblk
    injection hblk with hblk
    subst hblk
    simp only [World.cell?, g4]
    exact h1
noncomputable def isMem (code : Int) : T AObj := baseW.set 48 (.cells (T.leaf.fill 0 [.int .i64 code, .chan (some 1), .chan (some 2), .chan (some 3)]) 4 93 false)
theorem is_rans : ([111, 112, 113, 114, 115, 116].all fun code : Int => isTrue (evCall2 (fun _ _ _ => none) Tryz.prog 100000 60 62 [.iface 91 (.pointer (some ⟨48, 0, none⟩)), .iface 34 (.int .i64 code)] ⟨isMem code, 64, 0⟩)) = true := by kernel_rfl
set_option maxRecDepth 100000 in
theorem isMem_hr {w0 w : World} {Tb : Nat} {code at_ : Int} {v : Value} (h : laidMetH Tryz.prog Rows.schemaChecksRow.laid w0) (hb0 : Below w0.heap.size w0 w) (hw0 : w0.heap.size ≤ Tb) (hF : FltAt w Tb code at_ v) (hv : opqOK v = true) : HR Tryz.prog w (EL Tb) (isMem code) 64 w := by
  have h1 := EL_base h Tb
  have hlt : ∀ i o, baseW.get i = some o → i < 48 := fun i o ho => by
    obtain ⟨b, r, k1, _⟩ := (base_hr h).born i o ho rfl
    simp only [E0] at k1
    split at k1
    · assumption
    · cases k1
  have hgl : ∀ i, i < 48 → i < w0.heap.size ∨ baseW.get i = none := fun i hi => by
    cases hg : baseW.get i with
    | none => exact .inr rfl
    | some o =>
      obtain ⟨b, r, k1, k2, _⟩ := h1.born i o hg rfl
      have : b = i := by have := h1.glob i hi; rw [this] at k1; injection k1 with k1; exact k1.symm
      subst this
      exact .inl (Array.getElem?_eq_some_iff.1 k2).1
  have hget : ∀ i o, (isMem code).get i = some o → (i = 48 ∧ o = .cells (T.leaf.fill 0 [.int .i64 code, .chan (some 1), .chan (some 2), .chan (some 3)]) 4 93 false) ∨ (i ≠ 48 ∧ baseW.get i = some o) := fun i o ho => by
    unfold isMem at ho
    rw [T.get_set _ _ _ (by omega)] at ho
    split at ho
    · injection ho with ho; exact .inl ⟨by assumption, ho.symm⟩
    · exact .inr ⟨by assumption, ho⟩
  refine ⟨Below.refl _ _, fun i b e => ⟨(h1.dom i b e).1, fun h64 => by have := (h1.dom i b e).1; omega⟩, h1.glob, fun i j o o' b g1 g2 e1 e2 => ?_, fun i hp => absurd hp Bool.false_ne_true, fun i o ho hp => ?_⟩
  · rcases hget i o g1 with ⟨rfl, _⟩ | ⟨hi, g1'⟩ <;> rcases hget j o' g2 with ⟨rfl, _⟩ | ⟨hj, g2'⟩
    · rfl
    · have hj48 := hlt j o' g2'
      rcases hgl j hj48 with h9 | h9
      · rw [h1.glob j hj48] at e2
        injection e2 with e2
        simp only [EL] at e1
        simp at e1
        omega
      · rw [h9] at g2'; cases g2'
    · have hi48 := hlt i o g1'
      rcases hgl i hi48 with h9 | h9
      · rw [h1.glob i hi48] at e1
        injection e1 with e1
        simp only [EL] at e2
        simp at e2
        omega
      · rw [h9] at g1'; cases g1'
    · exact h1.inj i j o o' b g1' g2' e1 e2
  · rcases hget i o ho with ⟨rfl, rfl⟩ | ⟨hi, g1⟩
    · refine ⟨Tb, _, by simp [EL], hF, #[.int .i64 code, .int .i64 at_, v, .nilIface], ⟨_, _, fun h64 => by omega, fun h64 => by omega, rfl⟩, by simp [sizeOk, EL], fun j v hj hv => ?_⟩
      rw [T.get_fill _ _ _ _ (by show 0 + 4 ≤ _; omega), if_pos ⟨Nat.zero_le _, by show j < 0 + 4; omega⟩] at hv
      rcases j with _ | _ | _ | _ | j
      · simp at hv; subst hv; exact ⟨_, rfl, .int _ _⟩
      · simp at hv; subst hv; exact ⟨_, rfl, .opq 1 rfl⟩
      · simp at hv; subst hv; exact ⟨_, rfl, .opq 2 hv⟩
      · simp at hv; subst hv; exact ⟨_, rfl, .opq 3 rfl⟩
      · omega
    · obtain ⟨b, r, k1, k2, k3⟩ := h1.born i o g1 hp
      exact ⟨b, r, k1, by rw [hb0.block b (Array.getElem?_eq_some_iff.1 k2).1]; exact k2, k3⟩
theorem true_full {P : Program} {w : World} {E : Env} {H : T AObj} (hP : Plainly P) (hm : P.follows .mixedOrders = true) (steps n : Nat) (f : FuncId) {l : List Value} {args : Array Value} (h0 : HR P w E H 64 w) (hv : VRL E l args.toList) (he : isTrue (evCall2 (fun _ _ _ => none) P steps n f l ⟨H, 64, 0⟩) = true) :
    Calls P f args w (Ret (.bool true) w) := by
  obtain ⟨m, hr⟩ := isTrue_ok he
  refine Calls.mono (call_full hP hm steps n f h0 hv hr) fun e w' ⟨E', v', _, k2, k3, k4⟩ => ?_
  cases k4
  exact ⟨k3, k2.below⟩
theorem is_any {w0 w : World} {Tb : Nat} {code at_ : Int} {v : Value} (h : laidMetH Tryz.prog Rows.schemaChecksRow.laid w0) (hb0 : Below w0.heap.size w0 w) (hw0 : w0.heap.size ≤ Tb) (hF : FltAt w Tb code at_ v) (hv : opqOK v = true) (hc : 111 ≤ code ∧ code ≤ 116) :
    Calls Tryz.prog 62 #[.iface 91 (.pointer (some ⟨Tb, 0, none⟩)), .iface 34 (.int .i64 code)] w (Ret (.bool true) w) := by
  have h1 := isMem_hr h hb0 hw0 hF hv
  have hr := List.all_eq_true.1 is_rans code (by
    obtain ⟨h1, h2⟩ := hc
    have : code = 111 ∨ code = 112 ∨ code = 113 ∨ code = 114 ∨ code = 115 ∨ code = 116 := by omega
    simpa using this)
  exact true_full (plainly_of plainT) mixedT _ _ _ h1 (.cons (.iface _ (.ptr 0 (by simp [EL]))) (.cons (.iface _ (.int _ _)) .nil)) hr
theorem awake_ran : isTrue (evCall2 (fun _ _ _ => none) Tryz.prog 100000 60 28 [] ⟨baseW, 64, 0⟩) = true := by kernel_rfl
theorem awake_any {w w' : World} (h : laidMetH Tryz.prog Rows.schemaChecksRow.laid w) (hb : Below w.heap.size w w') : Calls Tryz.prog 28 #[] w' (Ret (.bool true) w') :=
  true_full (plainly_of plainT) mixedT _ _ _ (HR.at_later (base_hr h) hb) .nil awake_ran
end Go.Proofs.YtcjllhdbepchnaaGreatDoor
