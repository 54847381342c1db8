/-
  rekey.why and rekey.list, exactly.
-/
import Derived.Test.YtjgicjgpahnmaaaDoorKN
namespace Go.Proofs.YtjgicjgpahnmaaaDoor
open Go.RowKit Go.WideShapes Ev
set_option linter.unusedVariables false
def errV (n : Int) : Value := if n = 0 then .nilIface else .iface 32 (.int .i64 n)
/-- The error of an item that is wrong so. -/
def ErrOf (n : Int) (v : Value) : Prop := (n = 0 ∧ ((∃ x, x.oneCell' = true ∧ opqOK x = true ∧ v = .iface 135 x) ∨ (∃ x, opqOK x = true ∧ v = .iface 135 (.agg #[x])))) ∨ ((n = 90 ∨ n = 91) ∧ v = .iface 32 (.int .i64 n))
theorem why_x90 : ranTo (evCall2 (fun _ _ _ => none) Tryd.prog 100000 60 29 [.iface 32 (.int .i64 90)] ⟨baseW, 64, 0⟩) = some (.iface 32 (.int .i64 90)) := by kernel_rfl
theorem why_x91 : ranTo (evCall2 (fun _ _ _ => none) Tryd.prog 100000 60 29 [.iface 32 (.int .i64 91)] ⟨baseW, 64, 0⟩) = some (.iface 32 (.int .i64 91)) := by kernel_rfl
theorem why_xP : ranTo (evCall2 (fun _ _ _ => none) Tryd.prog 100000 60 29 [.iface 135 (.chan (some 0))] ⟨baseW, 64, 0⟩) = some .nilIface := by kernel_rfl
theorem why_xA : ranTo (evCall2 (fun _ _ _ => none) Tryd.prog 100000 60 29 [.iface 135 (.agg #[.chan (some 0)])] ⟨baseW, 64, 0⟩) = some .nilIface := by kernel_rfl
theorem call_to {P : Program} {w : World} {E : Env} {H : T AObj} (hP : Plainly P) (hm : P.follows .mixedOrders = true) (steps n : Nat) (f : FuncId) {l : List Value} {args : Array Value} {u u' : Value} (h0 : HR P w E H 64 w) (hv : VRL E l args.toList) (he : ranTo (evCall2 (fun _ _ _ => none) P steps n f l ⟨H, 64, 0⟩) = some u) (hu : ∀ E' v', VR E' u v' → v' = u') : Calls P f args w (Ret u' w) := by
  obtain ⟨m, hr⟩ := ranTo_ok he
  obtain ⟨_, hc⟩ := evCall2_ok hP hm no_sums steps n f _ _ _ _ hr
  refine Calls.mono (hc E w args h0 (Nat.zero_le _) hv) fun e w'' ⟨E', _, k2, _, _, k5⟩ => ?_
  cases e with
  | returned v => exact ⟨by rw [hu _ _ k5], k2.below⟩
  | _ => exact k5.elim
theorem why_exact {w0 w : World} (h : laidMetH Tryd.prog Rows.rekeyGoesUptoRow.laid w0) (hb : Below w0.heap.size w0 w) {n : Int} {v : Value} (hv : ErrOf n v) : Calls Tryd.prog 29 #[v] w (Ret (errV n) w) := by
  rcases hv with ⟨rfl, ⟨x, _, hx, rfl⟩ | ⟨x, hx, rfl⟩⟩ | ⟨rfl | rfl, rfl⟩
  · exact call_to (plainly_of plainT) mixedT _ _ _ (HR.at_later (base_hr h) hb) (.cons (.iface _ (.opq 0 hx)) .nil) why_xP (fun E' v' h => by cases h; rfl)
  · exact call_to (plainly_of plainT) mixedT _ _ _ (HR.at_later (base_hr h) hb) (.cons (.iface _ (.agg (.cons (.opq 0 hx) .nil))) .nil) why_xA (fun E' v' h => by cases h; rfl)
  · exact call_to (plainly_of plainT) mixedT _ _ _ (HR.at_later (base_hr h) hb) (.cons (.iface _ (.int _ _)) .nil) why_x90 (fun E' v' h => by cases h with | iface _ h => cases h; rfl)
  · exact call_to (plainly_of plainT) mixedT _ _ _ (HR.at_later (base_hr h) hb) (.cons (.iface _ (.int _ _)) .nil) why_x91 (fun E' v' h => by cases h with | iface _ h => cases h; rfl)
/-- The variable 'none' is there. -/
def NoneMetX (w : World) : Prop := ∃ v, w.cell? ⟨0, 0, none⟩ = some v ∧ ErrOf 0 v
theorem none_metX {w : World} (h : laidMetH Tryd.prog Rows.rekeyGoesUptoRow.laid w) : NoneMetX w := by
  obtain ⟨ps, h1, _, _⟩ := laid_none h
  obtain ⟨g, t, cs, fuel, p, q, e1, e2, e3, e4, _, _⟩ := h1
  obtain rfl : 0 = g := Option.some.inj (none_glob.symm.trans e1)
  obtain rfl : 41 = t := Option.some.inj (none_gtype.symm.trans e2)
  unfold World.var? at e3
  rw [e1] at e3
  simp only [Option.bind_some] at e3
  have hcell : ∀ (i : Nat) (u : Value), cs.toList[i]? = some u → w.cell? ⟨0, i, none⟩ = some u := by
    intro i u hu
    split at e3
    · rename_i c ty fz hh
      injection e3 with e3
      subst e3
      simp only [World.cell?, hh]
      simpa using hu
    · cases e3
  obtain ⟨u, v, f, x, hcs, hname, hx, hx1⟩ := iface_trod Tryd.underlying41 e4
  have hu : u = 135 := typeName_ptr_named (nm := "errors.errorString") (by kernel_rfl) (by kernel_rfl) (by decide) u hname
  subst hu
  obtain ⟨a, ha⟩ := ptr_trod Tryd.underlying135 hx hx1
  refine ⟨_, hcell 0 _ (by rw [hcs]; rfl), ?_⟩
  have hva : v.cells = #[.pointer (some a)] := by
    apply Array.toList_inj.1
    exact ha
  unfold Value.cells at hva
  split at hva
  · subst hva
    exact .inl ⟨rfl, .inr ⟨_, rfl, rfl⟩⟩
  · have : v = .pointer (some a) := by simpa using hva
    subst this
    exact .inl ⟨rfl, .inl ⟨_, rfl, rfl, rfl⟩⟩
end Go.Proofs.YtjgicjgpahnmaaaDoor
