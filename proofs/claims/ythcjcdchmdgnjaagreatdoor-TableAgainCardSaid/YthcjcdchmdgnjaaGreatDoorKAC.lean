/-
  The law's heavy and lent: entries in memory of their own, with marked room.
-/
import Derived.Test.YthcjcdchmdgnjaaGreatDoorKAB
namespace Go.Proofs.YthcjcdchmdgnjaaGreatDoor
open Go.RowKit Go.WideShapes
set_option linter.unusedVariables false
set_option linter.unusedSimpArgs false
def Modest (l : List EN) : Prop := l.length ≤ 1048576 ∧ ∀ x ∈ l, x.pts.length ≤ 1048576 ∧ x.els.length ≤ 1048576
def HeavyPost (l : List EN) (w : World) (e : Ending) (w' : World) : Prop := ∃ r : Bool, e = .returned (.bool r) ∧ Below w.heap.size w w' ∧ (r = false → Modest l)
set_option maxRecDepth 100000 in
set_option maxHeartbeats 2000000 in
theorem heavy_any (l : List EN) (A : Option Addr) (c : Nat) (w : World) (h : EntriesAt w w.heap.size l A) (hlc : l.length ≤ c) (hl : l.length ≤ 140737488351232) :
    Calls Tryz.prog 4 #[.slice A l.length c] w (HeavyPost l w) := by
  have HL := Lib.hid h
  have HB0 := Lib.hid (Below.refl w.heap.size w)
  clear h
  go_enter Tryz.func4, Tryz.ntmps4
  go_wp2_with fail
  go_loopw [3, 4] (fun t3 i wr => ∃ (k n : Nat), t3 = .int .i64 n ∧ i = .int .i64 k ∧ k ≤ l.length ∧ n ≤ 1048576 ∧ k ≤ n ∧ Hid (∀ j (h : j < l.length), j < k → l[j].pts.length ≤ 1048576 ∧ l[j].els.length ≤ 1048576) ∧ Hid (Below w.heap.size w wr)) (fun _ i _ => l.length - (intOf i).toNat)
  case atStart => exact ⟨0, 0, rfl, rfl, by omega, by omega, by omega, Lib.hid (fun j _ h => by omega), HB0⟩
  case round =>
    clear HB0
    obtain ⟨k, n, rfl, rfl, hk, hn, hkn, HM, HB⟩ := hrel
    have hwz := HB.out.size
    by_cases hlt : k < l.length
    · obtain ⟨b, o, rfl⟩ := HL.out.some (by omega)
      obtain ⟨hbl, v1, v2, g1, g2, hent⟩ := (HL.out.below HB.out).at_ hlt
      have hltI : (k : Int) < (l.length : Int) := by omega
      obtain ⟨⟨A1, c1, rfl, hc1, hm1, _⟩, ⟨A2, c2, rfl, hc2, hm2, _⟩⟩ := hent
      have HBq := Lib.hid (fun m => below_nq HB.out m)
      obtain ⟨P, hP⟩ : ∃ P, P = l[k].pts.length := ⟨_, rfl⟩
      obtain ⟨E, hE⟩ : ∃ E, E = l[k].els.length := ⟨_, rfl⟩
      rw [← hP] at hc1 hm1 g1
      rw [← hE] at hc2 hm2 g2
      have HPE := Lib.hid (And.intro hP hE)
      clear hP hE
      go_wp2_with fail
      go_quiet (fail)
      by_cases hbig : 1048576 < n + 1 + P + E
      · have hbI : (1048576 : Int) < (n : Int) + 1 + (P : Int) + (E : Int) := by omega
        clear hbig
        go_wp2_with fail
        go_ret
        exact ⟨true, rfl, HBq.out _, fun h => by cases h⟩
      · have hbI : ¬ (1048576 : Int) < (n : Int) + 1 + (P : Int) + (E : Int) := by omega
        have HM' := Lib.hid (show ∀ j (h : j < l.length), j < k + 1 → l[j].pts.length ≤ 1048576 ∧ l[j].els.length ≤ 1048576 from fun j h hj => by
          by_cases e : j = k
          · subst e
            rw [← HPE.out.1, ← HPE.out.2]
            omega
          · exact HM.out j h (by omega))
        go_wp2_with fail
        go_roundw
        case rel => exact ⟨k + 1, n + 1 + P + E, by congr 1, by go_num, by omega, by omega, by omega, HM', Lib.hid (HBq.out _)⟩
        case measure => simp [intOf]; omega
    · obtain rfl : k = l.length := by omega
      have HF := Lib.hid (show Modest l from ⟨by omega, fun x hx => by
        obtain ⟨i, hi, rfl⟩ := List.getElem_of_mem hx
        exact HM.out i hi hi⟩)
      clear hlt HM
      go_wp2_with fail
      go_ret
      exact ⟨false, rfl, HB.out, fun _ => HF.out⟩
theorem own_apart {w : World} {N1 N2 s1 s2 n1 n2 : Nat} {e1 e2 : TypeId} {v1 v2 : Value} {xs1 xs2 : List Value} (h1 : w.ownsRow N1 e1 s1 v1 n1 xs1) (h2 : w.ownsRow N2 e2 s2 v2 n2 xs2) (hne : e1 ≠ e2) : v1.ownBlock = none ∨ v1.ownBlock ≠ v2.ownBlock := by
  rcases h1.2 with ⟨rfl, _⟩ | ⟨g1, c1, u1, rfl, _, k1, _⟩
  · exact .inl rfl
  · rcases h2.2 with ⟨rfl, _⟩ | ⟨g2, c2, u2, rfl, _, k2, _⟩
    · exact .inr (by simp [Value.ownBlock])
    · refine .inr fun h => hne ?_
      simp only [Value.ownBlock, Option.some.injEq] at h
      subst h
      rw [k1] at k2
      injection k2 with k2
      injection k2 with _ k2
/-- The marks. -/
def markP : List Value := [.int .i64 (-77)]
def markE : List Value := [.bool false, .int .i64 (-77), .int .i64 0, .int .i64 0]
/-- An entry lent. -/
def LE (w : World) (N : Nat) (x : EN) (v1 v2 : Value) : Prop := ∃ gp cp ge ce, v1 = .slice (some ⟨gp, 0, none⟩) x.pts.length cp ∧ v2 = .slice (some ⟨ge, 0, none⟩) x.els.length ce ∧
  w.ownsRow N 3 1 (.slice (some ⟨gp, 0, none⟩) (x.pts.length + 1) cp) (x.pts.length + 1) (intCells x.pts ++ markP) ∧ w.ownsRow N 43 4 (.slice (some ⟨ge, 0, none⟩) (x.els.length + 1) ce) (x.els.length + 1) (elsCells x.els ++ markE)
def LEs (w : World) (N : Nat) (l : List EN) (k : Nat) (vs : List Value) : Prop := ∀ i (h : i < l.length), i < k → ∃ v1 v2, vs[i * 2]? = some v1 ∧ vs[i * 2 + 1]? = some v2 ∧ LE w N l[i] v1 v2
section
variable {w w' : World} {N k : Nat} {x : EN} {v1 v2 : Value} {l : List EN} {vs : List Value}
theorem LE.below (h : LE w N x v1 v2) (hb : Below w.heap.size w w') : LE w' N x v1 v2 := by
  obtain ⟨gp, cp, ge, ce, e1, e2, h1, h2⟩ := h
  exact ⟨gp, cp, ge, ce, e1, e2, own_below h1 hb, own_below h2 hb⟩
theorem LE.grown (h : LE w N x v1 v2) {v : Value} {N2 n : Nat} {xs : List Value} (ho : w.ownsRow N2 36 2 v n xs) (hg : w.grownBy w' v.ownBlock) : LE w' N x v1 v2 := by
  obtain ⟨gp, cp, ge, ce, e1, e2, h1, h2⟩ := h
  exact ⟨gp, cp, ge, ce, e1, e2, h1.kept hg (own_apart h1 ho (by decide)), h2.kept hg (own_apart h2 ho (by decide))⟩
theorem LEs.below (h : LEs w N l k vs) (hb : Below w.heap.size w w') : LEs w' N l k vs := fun i hi hk => by
  obtain ⟨v1, v2, g1, g2, g3⟩ := h i hi hk
  exact ⟨v1, v2, g1, g2, g3.below hb⟩
theorem LEs.grown (h : LEs w N l k vs) {v : Value} {N2 n : Nat} {xs : List Value} (ho : w.ownsRow N2 36 2 v n xs) (hg : w.grownBy w' v.ownBlock) : LEs w' N l k vs := fun i hi hk => by
  obtain ⟨v1, v2, g1, g2, g3⟩ := h i hi hk
  exact ⟨v1, v2, g1, g2, g3.grown ho hg⟩
theorem LEs.snoc (h : LEs w N l k vs) (hv : vs.length = k * 2) (hk : k < l.length) (he : LE w N l[k] v1 v2) : LEs w N l (k + 1) (vs ++ [v1, v2]) := fun i hi hik => by
  by_cases e : i = k
  · subst e
    refine ⟨v1, v2, ?_, ?_, he⟩
    · rw [List.getElem?_append_right (by omega), hv]; simp
    · rw [List.getElem?_append_right (by omega), hv]; simp
  · obtain ⟨u1, u2, g1, g2, g3⟩ := h i hi (by omega)
    exact ⟨u1, u2, by rw [List.getElem?_append_left (by omega)]; exact g1, by rw [List.getElem?_append_left (by omega)]; exact g2, g3⟩
theorem LEs.more (h : LEs w N l k vs) (hv : vs.length = k * 2) (us : List Value) : LEs w N l k (vs ++ us) := fun i hi hik => by
  obtain ⟨u1, u2, g1, g2, g3⟩ := h i hi hik
  exact ⟨u1, u2, by rw [List.getElem?_append_left (by omega)]; exact g1, by rw [List.getElem?_append_left (by omega)]; exact g2, g3⟩
end
/-- All of them, with one more that marks the room. -/
def LentE (w : World) (N : Nat) (l : List EN) (v : Value) : Prop := ∃ g c vs, v = .slice (some ⟨g, 0, none⟩) l.length c ∧ w.ownsRow N 36 2 (.slice (some ⟨g, 0, none⟩) (l.length + 1) c) (l.length + 1) vs ∧ LEs w N l l.length vs ∧ ∃ A cm, vs[l.length * 2]? = some (.slice A 1 cm)
def LentPost (l : List EN) (w : World) (e : Ending) (w' : World) : Prop := ∃ v, e = .returned v ∧ Below w.heap.size w w' ∧ LentE w' w.heap.size l v
theorem row_lit {w : World} {N n size : Nat} {e : TypeId} {v : Value} {xs : List Value} (h : w.ownsRow N e size v (n + 1) xs) : ∃ g c, v = .slice (some ⟨g, 0, none⟩) (n + 1) c ∧ n + 1 ≤ c ∧ N ≤ g ∧ g < w.heap.size := by
  rcases h.2 with ⟨_, h0⟩ | ⟨g, c, cur, rfl, hb, hg, hc, _⟩
  · cases h0
  · exact ⟨g, c, rfl, hc, hb, (Array.getElem?_eq_some_iff.1 hg).1⟩
theorem intCells_len (l : List Int) : (intCells l).length = l.length := by simp [intCells]
theorem elsCells_len : ∀ l : List EL, (elsCells l).length = l.length * 4
  | [] => rfl
  | e :: r => by
    have := elsCells_len r
    unfold elsCells at this ⊢
    rw [List.flatMap_cons, List.length_append, this, List.length_cons]
    simp [EL.cells]
    omega
theorem intCells_one (l : List Int) : ∀ u ∈ intCells l, u.oneCell' = true := by
  intro u hu
  obtain ⟨n, _, rfl⟩ := List.mem_map.1 hu
  rfl
theorem elsCells_one (l : List EL) : ∀ u ∈ elsCells l, u.oneCell' = true := by
  intro u hu
  obtain ⟨e, _, h⟩ := List.mem_flatMap.1 hu
  simp [EL.cells] at h
  rcases h with rfl | rfl | rfl | rfl <;> rfl
theorem int_info : (Tryz.prog.info? 3).map (fun i => (i.zero, i.size, i.bytes)) = some (some (.int .i64 0), 1, 8) := by kernel_rfl
theorem el_info : (Tryz.prog.info? 43).map (fun i => (i.zero, i.size, i.bytes)) = some (some (.agg #[.bool false, .int .i64 0, .int .i64 0, .int .i64 0]), 4, 32) := by kernel_rfl
theorem en_info : (Tryz.prog.info? 36).map (fun i => (i.zero, i.size, i.bytes)) = some (some (.agg #[.slice none 0 0, .slice none 0 0]), 2, 48) := by kernel_rfl
end Go.Proofs.YthcjcdchmdgnjaaGreatDoor
