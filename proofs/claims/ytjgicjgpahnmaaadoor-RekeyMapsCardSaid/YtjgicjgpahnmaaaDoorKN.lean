/-
  The package variable 'none' holds an error.
-/
import Derived.LaidLaws
import Derived.Test.YtjgicjgpahnmaaaDoorKM
namespace Go.Proofs.YtjgicjgpahnmaaaDoor
open Go.RowKit Ev
set_option linter.unusedVariables false
theorem none_glob : Tryd.prog.globalNamed "dovetail/rekey.none" = some 0 := by kernel_rfl
theorem none_gtype : (Tryd.prog.globals[0]?).map (·.type) = some 41 := by kernel_rfl
theorem iface_trod {P : Program} {w : World} {m : Array (String × TypeId)} {fuel : Nat} {t : TypeId} {cs : List Value} {n : String} {d : DataW Unit} {p : List MemPlace} (ht : P.underlying t = some (.interface m)) (h : DataW.trod (fun _ => ()) P w 0 (fun _ => true) false fuel t cs = some (.iface n d, p)) :
    ∃ u v f x, cs = [.iface u v] ∧ P.typeName? 3 u = some n ∧ DataW.trod (fun _ => ()) P w 0 (fun _ => true) false f u v.cells.toList = some x ∧ x.1 = d := by
  cases fuel with
  | zero => simp [DataW.trod] at h
  | succ fuel =>
    unfold DataW.trod at h
    rw [ht] at h
    rcases cs with _ | ⟨x, _ | ⟨y, L⟩⟩
    · simp at h
    · cases x <;> try (simp at h; done)
      rename_i u v
      simp only at h
      split at h
      · cases h
      · rename_i name hname
        cases hx : DataW.trod (fun _ => ()) P w 0 (fun _ => true) false fuel u v.cells.toList with
        | none => rw [hx] at h; simp at h
        | some z =>
          rw [hx] at h
          simp only [Option.map_some, Option.some.injEq, Prod.mk.injEq, DataW.iface.injEq] at h
          obtain ⟨⟨rfl, h2⟩, _⟩ := h
          exact ⟨u, v, fuel, z, rfl, hname, hx, h2⟩
      · cases h
    · simp at h
theorem ptr_trod {P : Program} {w : World} {e : TypeId} {fuel : Nat} {t : TypeId} {cs : List Value} {d : DataW Unit} {x : DataW Unit × List MemPlace} (ht : P.underlying t = some (.pointer e)) (h : DataW.trod (fun _ => ()) P w 0 (fun _ => true) false fuel t cs = some x) (hx : x.1 = .ptr d) : ∃ a, cs = [.pointer (some a)] := by
  cases fuel with
  | zero => simp [DataW.trod] at h
  | succ fuel =>
    unfold DataW.trod at h
    rw [ht] at h
    rcases cs with _ | ⟨y, _ | ⟨z, L⟩⟩
    · simp at h
    · cases y <;> try (simp at h; done)
      rename_i a
      cases a with
      | none => simp at h; subst h; simp at hx
      | some a => exact ⟨a, rfl⟩
    · simp at h
theorem none_met {w : World} (h : laidMetH Tryd.prog Rows.rekeyGoesUptoRow.laid w) : NoneMet w := by
  obtain ⟨ps, h1, _, _⟩ := laid_none h
  obtain ⟨g, t, cs, fuel, p, q, e1, e2, e3, e4, _, _⟩ := h1
  obtain rfl : 0 = g := Option.some.inj (none_glob.symm.trans e1)
  obtain rfl : 41 = t := Option.some.inj (none_gtype.symm.trans e2)
  unfold World.var? at e3
  rw [e1] at e3
  simp only [Option.bind_some] at e3
  have hcell : ∀ (i : Nat) (u : Value), cs.toList[i]? = some u → w.cell? ⟨0, i, none⟩ = some u := by
    intro i u hu
    split at e3
    · rename_i c ty fz hh
      injection e3 with e3
      subst e3
      simp only [World.cell?, hh]
      simpa using hu
    · cases e3
  obtain ⟨u, v, f, x, hcs, hname, hx, hx1⟩ := iface_trod Tryd.underlying41 e4
  have hu : u = 135 := typeName_ptr_named (nm := "errors.errorString") (by kernel_rfl) (by kernel_rfl) (by decide) u hname
  subst hu
  obtain ⟨a, ha⟩ := ptr_trod Tryd.underlying135 hx hx1
  refine ⟨_, hcell 0 _ (by rw [hcs]; rfl), ?_⟩
  have hva : v.cells = #[.pointer (some a)] := by
    apply Array.toList_inj.1
    exact ha
  unfold Value.cells at hva
  split at hva
  · subst hva
    exact .inr (.inr (.inr ⟨_, rfl, rfl⟩))
  · have : v = .pointer (some a) := by simpa using hva
    subst this
    exact .inr (.inr (.inl ⟨_, rfl, rfl, rfl⟩))
end Go.Proofs.YtjgicjgpahnmaaaDoor
