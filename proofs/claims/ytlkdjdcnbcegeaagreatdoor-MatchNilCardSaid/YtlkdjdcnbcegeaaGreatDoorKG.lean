/-
  Words that the walks of marks share: texts joined, rows of one's own.
-/
import Derived.Test.YtlkdjdcnbcegeaaGreatDoorKD
import Derived.Test.YtlkdjdcnbcegeaaGreatDoorKE
import Derived.Test.YtlkdjdcnbcegeaaGreatDoorKF
import Derived.Lib.AppendStr
namespace Go.Proofs.YtlkdjdcnbcegeaaGreatDoor
open Go.RowKit Go.WideShapes
set_option linter.unusedVariables false
theorem own_below {w w' : World} {base n size : Nat} {e : TypeId} {v : Value} {xs : List Value} (h : w.ownsRow base e size v n xs) (hb : Below w.heap.size w w') : w'.ownsRow base e size v n xs :=
  h.kept (row := none) ⟨hb.os, hb.tape, hb.output, hb.size, fun i hi _ => hb.block i hi⟩ (by cases v.ownBlock <;> simp)
theorem strCells_append (a b : List UInt8) : Lib.strCells (txt (a ++ b)) = Lib.strCells (txt a) ++ Lib.strCells (txt b) := by simp [Lib.strCells, txt]
theorem strCells_u8s (a : List UInt8) : Lib.strCells (txt a) = u8s (a.map UInt8.toNat) := by simp [Lib.strCells, txt, u8s]
theorem strOf_txt (a : List UInt8) : strOf (a.map UInt8.toNat) = txt a := by simp [strOf, txt, Function.comp_def]
theorem range_succ {p : Nat → Bool} {k : Nat} (h : (List.range k).all p = true) (hp : p k = true) : (List.range (k + 1)).all p = true := by
  rw [List.range_succ, List.all_append, h]; simp [hp]
theorem all_take_succ {α : Type} {p : α → Bool} {l : List α} {k : Nat} (hk : k < l.length) (h : (l.take k).all p = true) (hp : p l[k] = true) : (l.take (k + 1)).all p = true := by
  rw [List.take_succ_eq_append_getElem hk, List.all_append, h]; simp [hp]
theorem all_bad {α : Type} {p : α → Bool} {l : List α} {k : Nat} (hk : k < l.length) (hp : p l[k] = false) : l.all p = false := by
  rw [List.all_eq_false]
  exact ⟨l[k], List.getElem_mem hk, by simp [hp]⟩
theorem join_take_one {sep : List UInt8} {xs : List (List UInt8)} (h : 0 < xs.length) : Lib.join (xs.take 1) sep = xs[0] := by
  match xs, h with
  | y :: r, _ => simp [Lib.join_one]
theorem join_take_succ {sep : List UInt8} {xs : List (List UInt8)} {k : Nat} (hk : 0 < k) (h : k < xs.length) : Lib.join (xs.take (k + 1)) sep = Lib.join (xs.take k) sep ++ sep ++ xs[k] := by
  match xs, k, hk, h with
  | y :: r, k + 1, _, h =>
    have h' : k < r.length := by simpa using h
    rw [List.take_succ_cons, List.take_succ_cons, Lib.join_cons, Lib.join_cons, Lib.joinTail_take_succ sep r k r[k] (List.getElem?_eq_getElem h')]
    simp [List.append_assoc]
/-- The points' text. -/
def ptsText (l : List Int) : List UInt8 := Lib.join (l.map fun p => hexW p.toNat) [32]
theorem ptsText_len {l : List Int} (h : l.all pointB = true) : (ptsText l).length ≤ l.length * 7 := by
  have g1 := join_len [32] 6 (l.map fun p => hexW p.toNat) fun y hy => by
    obtain ⟨p, hp, rfl⟩ := List.mem_map.1 hy
    obtain ⟨q1, q2⟩ := pointB_of (List.all_eq_true.1 h p hp)
    exact hexW_few (by omega)
  rw [List.length_map] at g1
  exact g1
theorem ptsText_one {l : List Int} (h : 0 < l.length) : ptsText (l.take 1) = hexW l[0].toNat := by
  unfold ptsText
  rw [List.map_take, join_take_one (by simpa using h)]
  simp
theorem ptsText_succ {l : List Int} {k : Nat} (hk : 0 < k) (h : k < l.length) : ptsText (l.take (k + 1)) = ptsText (l.take k) ++ [32] ++ hexW l[k].toNat := by
  unfold ptsText
  rw [List.map_take, join_take_succ hk (by simpa using h), ← List.map_take]
  simp
theorem all_take {α : Type} {p : α → Bool} {l : List α} (h : l.all p = true) (k : Nat) : (l.take k).all p = true := List.all_eq_true.2 fun x hx => List.all_eq_true.1 h x (List.mem_of_mem_take hx)
theorem own_apart {w : World} {N1 N2 s1 s2 n1 n2 : Nat} {e1 e2 : TypeId} {v1 v2 : Value} {xs1 xs2 : List Value} (h1 : w.ownsRow N1 e1 s1 v1 n1 xs1) (h2 : w.ownsRow N2 e2 s2 v2 n2 xs2) (hne : e1 ≠ e2) : v1.ownBlock = none ∨ v1.ownBlock ≠ v2.ownBlock := by
  rcases h1.2 with ⟨rfl, _⟩ | ⟨g1, c1, u1, rfl, _, k1, _⟩
  · exact .inl rfl
  · rcases h2.2 with ⟨rfl, _⟩ | ⟨g2, c2, u2, rfl, _, k2, _⟩
    · exact .inr (by simp [Value.ownBlock])
    · refine .inr fun h => hne ?_
      simp only [Value.ownBlock, Option.some.injEq] at h
      subst h
      rw [k1] at k2
      injection k2 with k2
      injection k2 with _ k2
/-- The marks. -/
def markP : List Value := [.int .i64 (-77)]
theorem row_lit {w : World} {N n size : Nat} {e : TypeId} {v : Value} {xs : List Value} (h : w.ownsRow N e size v (n + 1) xs) : ∃ g c, v = .slice (some ⟨g, 0, none⟩) (n + 1) c ∧ n + 1 ≤ c ∧ N ≤ g ∧ g < w.heap.size := by
  rcases h.2 with ⟨_, h0⟩ | ⟨g, c, cur, rfl, hb, hg, hc, _⟩
  · cases h0
  · exact ⟨g, c, rfl, hc, hb, (Array.getElem?_eq_some_iff.1 hg).1⟩
theorem intCells_len (l : List Int) : (intCells l).length = l.length := by simp [intCells]
theorem intCells_one (l : List Int) : ∀ u ∈ intCells l, u.oneCell' = true := by
  intro u hu
  obtain ⟨n, _, rfl⟩ := List.mem_map.1 hu
  rfl
theorem int_info : (Tryz.prog.info? 3).map (fun i => (i.zero, i.size, i.bytes)) = some (some (.int .i64 0), 1, 8) := by kernel_rfl
theorem own_cell {w : World} {N e g n cap size j : Nat} {xs : List Value} {u : Value} (h : w.ownsRow N e size (.slice (some ⟨g, 0, none⟩) n cap) n xs) (hj : xs[j]? = some u) : w.cell? ⟨g, j, none⟩ = some u := by
  have hl : j < xs.length := (List.getElem?_eq_some_iff.1 hj).1
  rw [h.cellAt j (by rw [← h.1]; exact hl)]
  exact hj
theorem own_cap {w : World} {N e g n cap size : Nat} {xs : List Value} (h : w.ownsRow N e size (.slice (some ⟨g, 0, none⟩) n cap) n xs) : n ≤ cap ∧ g < w.heap.size := by
  rcases h.2 with ⟨h', _⟩ | ⟨g', cap', cur, h', _, hg, hnc, _⟩
  · simp at h'
  · simp only [Value.slice.injEq, Option.some.injEq, Addr.mk.injEq, and_true, true_and] at h'
    obtain ⟨rfl, rfl⟩ := h'
    exact ⟨hnc, (Array.getElem?_eq_some_iff.1 hg).1⟩
/-- Texts as values. -/
def strsV (xs : List (List UInt8)) : List Value := xs.map fun x => .string (txt x)
theorem strsV_len (xs : List (List UInt8)) : (strsV xs).length = xs.length := by simp [strsV]
theorem strsV_snoc (xs : List (List UInt8)) (x : List UInt8) : strsV (xs ++ [x]) = strsV xs ++ [.string (txt x)] := by simp [strsV]
theorem str_info : (Tryz.prog.info? 9).map (fun i => (i.zero, i.size, i.bytes)) = some (some (.string ⟨#[]⟩), 1, 16) := by kernel_rfl
theorem RowM.one {w : World} {B n : Nat} {v : Value} {vs : List Value} (h : RowM w B v n vs) : v.oneCell' = true := by obtain ⟨A, c, rfl, _⟩ := h; rfl
/-- The points of an entry as texts. -/
def hexs (l : List Int) : List (List UInt8) := l.map fun p => hexW p.toNat
theorem hexs_take {l : List Int} {k : Nat} (h : k < l.length) : hexs (l.take (k + 1)) = hexs (l.take k) ++ [hexW l[k].toNat] := by
  unfold hexs
  rw [List.take_succ_eq_append_getElem h, List.map_append, List.map_singleton]
end Go.Proofs.YtlkdjdcnbcegeaaGreatDoor
