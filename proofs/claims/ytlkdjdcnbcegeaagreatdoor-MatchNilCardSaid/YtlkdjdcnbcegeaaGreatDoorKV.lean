/-
  What a point is made of, to the end, in plain words.
-/
import Derived.Test.YtlkdjdcnbcegeaaGreatDoorKO
import Derived.Test.YtlkdjdcnbcegeaaGreatDoorKR
/-! What a point is made of, to the end, in plain words. -/
namespace Go.Proofs.YtlkdjdcnbcegeaaGreatDoor
set_option linter.unusedVariables false
/-- .. so many steps deep. -/
def endsF (parts : Int → List Int) : Nat → Int → List Int
  | 0, p => [p]
  | n + 1, p => if parts p = [] then [p] else (parts p).flatMap (endsF parts n)
/-- More steps change nothing. -/
def Settled (parts : Int → List Int) (p : Int) (N : Nat) : Prop := ∀ n, N ≤ n → endsF parts n p = endsF parts N p
theorem Settled.more {parts : Int → List Int} {p : Int} {N M : Nat} (h : Settled parts p N) (hM : N ≤ M) : Settled parts p M := fun n hn => by
  rw [h n (by omega), h M hM]
theorem flatMap_same {f g : Int → List Int} : ∀ l : List Int, (∀ q ∈ l, f q = g q) → l.flatMap f = l.flatMap g
  | [], _ => rfl
  | a :: l, h => by rw [List.flatMap_cons, List.flatMap_cons, h a (by simp), flatMap_same l fun q hq => h q (by simp [hq])]
theorem settled_all {parts : Int → List Int} : ∀ l : List Int, (∀ q ∈ l, ∃ N, Settled parts q N) → ∃ M, ∀ q ∈ l, Settled parts q M
  | [], _ => ⟨0, by simp⟩
  | a :: l, h => by
    obtain ⟨N, hN⟩ := h a (by simp)
    obtain ⟨M, hM⟩ := settled_all l fun q hq => h q (by simp [hq])
    refine ⟨max N M, fun q hq => ?_⟩
    rcases List.mem_cons.1 hq with rfl | hq
    · exact hN.more (by omega)
    · exact (hM q hq).more (by omega)
theorem settled_step {parts : Int → List Int} {p : Int} {M : Nat} (h : ∀ q ∈ parts p, Settled parts q M) : Settled parts p (M + 1) := by
  intro n hn
  obtain ⟨k, rfl⟩ : ∃ k, n = k + 1 := ⟨n - 1, by omega⟩
  unfold endsF
  split
  · rfl
  · exact flatMap_same _ fun q hq => by rw [h q hq k (by omega)]
theorem settles {parts : Int → List Int} (U : List Int) (hU : ∀ p, p ∉ U → parts p = []) (hac : ∀ p ∈ U, ¬ Leads parts p p) (p : Int) : ∃ N, Settled parts p N := by
  refine ring_ind U hU hac (fun p => ∃ N, Settled parts p N) (fun p ih => ?_) p
  obtain ⟨M, hM⟩ := settled_all _ ih
  exact ⟨M + 1, settled_step hM⟩
open Classical in
noncomputable def ends (parts : Int → List Int) (p : Int) : List Int := if h : ∃ N, Settled parts p N then endsF parts h.choose p else [p]
theorem ends_at {parts : Int → List Int} {p : Int} {N : Nat} (h : Settled parts p N) : ends parts p = endsF parts N p := by
  have hx : ∃ N, Settled parts p N := ⟨N, h⟩
  have hc := hx.choose_spec
  unfold ends
  rw [dif_pos hx]
  rcases Nat.le_total N hx.choose with h1 | h1
  · exact h _ h1
  · exact (hc _ h1).symm
theorem ends_eq {parts : Int → List Int} (hs : ∀ p, ∃ N, Settled parts p N) (p : Int) : ends parts p = if parts p = [] then [p] else (parts p).flatMap (ends parts) := by
  obtain ⟨M, hM⟩ := settled_all (parts p) fun q _ => hs q
  rw [ends_at (settled_step hM)]
  unfold endsF
  split
  · rfl
  · exact flatMap_same _ fun q hq => (ends_at (hM q hq)).symm
theorem endsF_pos (parts : Int → List Int) : ∀ n p, 1 ≤ (endsF parts n p).length
  | 0, p => by simp [endsF]
  | n + 1, p => by
    unfold endsF
    split
    · simp
    · next h =>
      cases hp : parts p with
      | nil => exact absurd hp h
      | cons a l =>
        rw [List.flatMap_cons, List.length_append]
        have := endsF_pos parts n a
        omega
theorem ends_pos (parts : Int → List Int) (p : Int) : 1 ≤ (ends parts p).length := by
  unfold ends
  split
  · exact endsF_pos _ _ _
  · simp
theorem ends_leaf {parts : Int → List Int} (U : List Int) (hU : ∀ p, p ∉ U → parts p = []) (hac : ∀ p ∈ U, ¬ Leads parts p p) (p : Int) : ∀ q ∈ ends parts p, parts q = [] := by
  refine ring_ind U hU hac (fun p => ∀ q ∈ ends parts p, parts q = []) (fun p ih q hq => ?_) p
  rw [ends_eq (settles U hU hac)] at hq
  split at hq
  · next h => rw [List.mem_singleton] at hq; subst hq; exact h
  · obtain ⟨a, ha, hqa⟩ := List.mem_flatMap.1 hq
    exact ih a ha q hqa
theorem ends_from {parts : Int → List Int} (U : List Int) (hU : ∀ p, p ∉ U → parts p = []) (hac : ∀ p ∈ U, ¬ Leads parts p p) (p : Int) : ∀ q ∈ ends parts p, q = p ∨ Leads parts p q := by
  refine ring_ind U hU hac (fun p => ∀ q ∈ ends parts p, q = p ∨ Leads parts p q) (fun p ih q hq => ?_) p
  rw [ends_eq (settles U hU hac)] at hq
  split at hq
  · rw [List.mem_singleton] at hq; exact Or.inl hq
  · obtain ⟨a, ha, hqa⟩ := List.mem_flatMap.1 hq
    rcases ih a ha q hqa with rfl | h
    · exact Or.inr (.one ha)
    · exact Or.inr (.more ha h)
/-- How many, but 19 at most. -/
def sumsz (f : Int → Nat) : List Int → Nat
  | [] => 0
  | a :: l => f a + sumsz f l
theorem flatMap_len (f : Int → List Int) : ∀ l : List Int, (l.flatMap f).length = sumsz (fun p => (f p).length) l
  | [] => rfl
  | a :: l => by rw [List.flatMap_cons, List.length_append, flatMap_len f l]; rfl
theorem sumsz_snoc (f : Int → Nat) : ∀ (l : List Int) (a : Int), sumsz f (l ++ [a]) = sumsz f l + f a
  | [], a => by simp [sumsz]
  | b :: l, a => by simp only [List.cons_append, sumsz, sumsz_snoc f l a]; omega
end Go.Proofs.YtlkdjdcnbcegeaaGreatDoor

/-! (*ucd.Data).size: how many parts to the end, but 19 at most, where no point leads to itself. -/
namespace Go.Proofs.YtlkdjdcnbcegeaaGreatDoor
open Go.RowKit Go.WideShapes
set_option linter.unusedVariables false
set_option linter.unusedSimpArgs false
/-- The sizes known so far. -/
def KnownX (f : Int → Nat) (w : World) (N : Nat) : Prop := ∃ kn : List (Value × Value), MapAt w N IntKey kn ∧ ∀ q ∈ kn, ∃ p : Int, q = (.int .i64 p, .int .i64 (min (f p : Int) 19))
theorem KnownX.lt {f : Int → Nat} {w : World} {N : Nat} (h : KnownX f w N) : N < w.heap.size := by obtain ⟨kn, h1, _⟩ := h; exact h1.lt
theorem KnownX.look {f : Int → Nat} {w : World} {N : Nat} (h : KnownX f w N) (p : Int) : ∃ (a : Int) (r : Bool), (Instr.lookup 99 (.map (some N)) (.int .i64 p) true).run Tryz.prog w = .ok (.tuple #[.int .i64 a, .bool r]) w ∧ (r = true → a = min (f p : Int) 19) := by
  obtain ⟨kn, h1, h2⟩ := h
  rcases h1.run_look (P := Tryz.prog) (keyOk_int Tryz.underlying3) Tryz.underlying99 (Tryz.zeroValue3 w) (key := .int .i64 p) ⟨p, rfl⟩ true with ⟨hr, hno⟩ | ⟨u, hr, hu⟩
  · exact ⟨0, false, hr, by simp⟩
  · obtain ⟨p', e⟩ := h2 _ hu
    injection e with e1 e2
    have e3 : p = p' := by simpa using e1
    subst e3 e2
    exact ⟨_, true, hr, fun _ => rfl⟩
theorem KnownX.put {f : Int → Nat} {w : World} {N : Nat} (h : KnownX f w N) (p n : Int) (h0 : n = min (f p : Int) 19) : ∃ w', (Instr.mapUpdate 99 (.map (some N)) (.int .i64 p) (.int .i64 n)).run Tryz.prog w = .ok () w' ∧ KnownX f w' N ∧ w.grownBy w' (some N) ∧ w'.heap.size = w.heap.size := by
  obtain ⟨kn, h1, h2⟩ := h
  obtain ⟨w', l', r1, r2, r3, r4, r5, _, _⟩ := h1.run_put (P := Tryz.prog) (keyOk_int Tryz.underlying3) Tryz.underlying99 (key := .int .i64 p) (val := .int .i64 n) ⟨p, rfl⟩
  refine ⟨w', r1, ⟨l', r2, fun q hq => ?_⟩, r3, r4⟩
  rcases r5 q hq with hq | rfl
  · exact h2 q hq
  · exact ⟨p, by rw [h0]⟩
/-- From one world to another one in which only the known sizes have turned. -/
structure KnewX (f : Int → Nat) (w w' : World) (N : Nat) : Prop where
  g : w.grownBy w' (some N)
  z : w'.heap.size = w.heap.size
  k : KnownX f w' N
theorem KnewX.trans {f : Int → Nat} {a b c : World} {N : Nat} (h : KnewX f a b N) (k : KnewX f b c N) : KnewX f a c N := ⟨h.g.trans k.g, k.z.trans h.z, k.k⟩
theorem KnewX.data {f : Int → Nat} {w w' : World} {N D b : Nat} {Q : Nat → Prop} {l : List MK} (h : KnewX f w w' N) (hk : KnownX f w N) (hd : DataM w Q D b l) (h1 : D ≠ N) (h2 : b ≠ N) (hQ : ∀ g, Q g → g < w.heap.size) : DataM w' Q D b l := by
  obtain ⟨kn, a1, _⟩ := hk
  obtain ⟨kn', a1', _⟩ := h.k
  exact hd.keep (h.g.block D hd.D_lt (by simp [h1])) (h.g.block b hd.b_lt (by simp [h2])) (fun p hp => cell_map h.g a1 a1' p (hQ _ hp)) (fun _ h => h)
noncomputable def szOf (l : List MK) (p : Int) : Nat := (ends (partsOf l) p).length
def SizeX (l : List MK) (p : Int) (N : Nat) (w : World) (e : Ending) (w' : World) : Prop := ∃ n : Int, e = .returned (.int .i64 n) ∧ n = min (szOf l p : Int) 19 ∧ KnewX (szOf l) w w' N
theorem szOf_eq {l : List MK} (hac : ∀ x ∈ l, ¬ Leads (partsOf l) x.pt x.pt) (p : Int) : szOf l p = if partsOf l p = [] then 1 else sumsz (szOf l) (partsOf l p) := by
  have hs := settles (parts := partsOf l) (l.map MK.pt) (fun q hq => partsOf_none hq) (fun q hq => by obtain ⟨x, hx, rfl⟩ := List.mem_map.1 hq; exact hac x hx)
  unfold szOf
  rw [ends_eq hs]
  split
  · rfl
  · rw [flatMap_len]
theorem szOf_pos (l : List MK) (p : Int) : 1 ≤ szOf l p := ends_pos _ _
theorem sumsz_pos {f : Int → Nat} (h : ∀ p, 1 ≤ f p) : ∀ l : List Int, sumsz f l = 0 → l = []
  | [], _ => rfl
  | a :: l, e => by have := h a; simp only [sumsz] at e; omega
set_option maxRecDepth 100000 in
set_option maxHeartbeats 8000000 in
theorem sizeX_ok (Q : Nat → Prop) (D b N : Nat) (l : List MK) (hac : ∀ x ∈ l, ¬ Leads (partsOf l) x.pt x.pt) (h1 : D ≠ N) (h2 : b ≠ N) (hP : ∀ p, (partsOf l p).length ≤ 100000) (p : Int) :
    ∀ w : World, DataM w Q D b l → (∀ g, Q g → g < w.heap.size) → KnownX (szOf l) w N → Calls Tryz.prog 56 #[.pointer (some ⟨D, 0, none⟩), .int .i64 p, .map (some N)] w (SizeX l p N w) := by
  refine ring_ind (l.map MK.pt) (fun q hq => partsOf_none hq) (fun q hq => by obtain ⟨x, hx, rfl⟩ := List.mem_map.1 hq; exact hac x hx) (fun p => ∀ w : World, DataM w Q D b l → (∀ g, Q g → g < w.heap.size) → KnownX (szOf l) w N → Calls Tryz.prog 56 #[.pointer (some ⟨D, 0, none⟩), .int .i64 p, .map (some N)] w (SizeX l p N w)) ?_ p
  clear p
  intro p ih w hd hQ hk
  have HIH := Lib.hid ih
  have HD := Lib.hid hd
  have HK := Lib.hid hk
  have HP := Lib.hid (hP p)
  obtain ⟨a0, r0, hl0, ha0⟩ := hk.look p
  have HE := Lib.hid (szOf_eq hac p)
  have hcd : w.cell? ⟨D, 0, none⟩ = some (.map (some b)) := by simp [World.cell?, hd.d]
  obtain ⟨a, c, v, hlk, hv⟩ := hd.look p w rfl
  have HV := Lib.hid hv
  obtain ⟨A0, c0, rfl⟩ : ∃ A0 c0, v = .slice A0 (partsOf l p).length c0 := by
    rcases hv with ⟨rfl, e⟩ | ⟨g, c, e, _⟩
    · exact ⟨none, 0, by rw [e]; rfl⟩
    · exact ⟨_, _, e⟩
  have hfd := field_parts
  have HK0 := Lib.hid (show KnewX (szOf l) w w N from ⟨⟨rfl, rfl, rfl, Nat.le_refl _, fun _ _ _ => rfl⟩, rfl, hk⟩)
  have HA0 := Lib.hid ha0
  clear ih hd hk hv hac hP ha0
  cases r0 with
  | true =>
    go_enter Tryz.func56, Tryz.ntmps56
    go_wp2_with fail
    go_ret
    exact ⟨a0, rfl, HA0.out trivial, HK0.out⟩
  | false =>
    go_enter Tryz.func56, Tryz.ntmps56
    go_wp2_with fail
    go_loopw [9, 28] (fun t9 t28 wr => ∃ (n : Int) (j : Nat), t9 = .int .i64 n ∧ t28 = .int .i64 j ∧ j ≤ (partsOf l p).length ∧ 0 ≤ n ∧ n ≤ 19 ∧ Hid (n = min (sumsz (szOf l) ((partsOf l p).take j) : Int) 19) ∧ Hid (KnewX (szOf l) w wr N)) (fun _ t28 _ => (partsOf l p).length - (intOf t28).toNat)
    case atStart => exact ⟨0, 0, rfl, rfl, by omega, by omega, by omega, Lib.hid (by simp [sumsz]; omega), HK0⟩
    case round =>
      clear HK0
      obtain ⟨n, j, rfl, rfl, hj, hn0, hn9, HN, HKw⟩ := hrel
      have hkw := HKw.out.data HK.out HD.out h1 h2 hQ
      have hjb : (partsOf l p).length ≤ 100000 := HP.out
      have hjI : (j : Int) ≤ 100000 := by omega
      by_cases hjl : j < (partsOf l p).length
      · obtain ⟨g, c9, ev, hc9, hg9, hcs9⟩ : ∃ g c9, Value.slice A0 (partsOf l p).length c0 = .slice (some ⟨g, 0, none⟩) (partsOf l p).length c9 ∧ (partsOf l p).length ≤ c9 ∧ Q g ∧ CellsAt w g 0 (intCells (partsOf l p)) := by
          rcases HV.out with ⟨_, e⟩ | h
          · rw [e] at hjl; exact absurd hjl (by simp)
          · exact h
        injection ev with ea _ ec
        subst ea ec
        have hcell : wr.cell? ⟨g, j, none⟩ = some (.int .i64 (partsOf l p)[j]) := by
          obtain ⟨kn, k1, _⟩ := HK.out
          obtain ⟨kn', k1', _⟩ := HKw.out.k
          rw [cell_map HKw.out.g k1 k1' ⟨g, j, none⟩ (hQ g hg9)]
          have := hcs9 j (.int .i64 (partsOf l p)[j]) (by simp [intCells, hjl])
          rwa [Nat.zero_add] at this
        have HI := Lib.hid (HIH.out (partsOf l p)[j] (List.getElem_mem hjl) wr hkw (fun g hg => by have := HKw.out.z; have := hQ g hg; omega) HKw.out.k)
        have HT := Lib.hid (show sumsz (szOf l) ((partsOf l p).take (j + 1)) = sumsz (szOf l) ((partsOf l p).take j) + szOf l (partsOf l p)[j] from by rw [List.take_succ_eq_append_getElem hjl, sumsz_snoc])
        generalize (partsOf l p)[j] = q at hcell HI HT
        clear hkw hcs9
        go_wp2_with fail
        refine HI.out.mono ?_
        rintro e w5 ⟨n5, rfl, hn5, hk5⟩
        have hn50 : 0 ≤ n5 := by omega
        have hn59 : n5 ≤ 19 := by omega
        have HM5 := Lib.hid (show min (n + n5) 19 = min (sumsz (szOf l) ((partsOf l p).take (j + 1)) : Int) 19 from by rw [HT.out, HN.out, hn5]; omega)
        clear hn5
        have HK5 := Lib.hid (HKw.out.trans hk5)
        have hmin : 0 ≤ min (n + n5) 19 ∧ min (n + n5) 19 ≤ 19 := by omega
        clear hk5 HI hcell
        go_wp2_with fail
        go_roundw
        case rel => exact ⟨min (n + n5) 19, j + 1, by go_num, by go_num, by omega, hmin.1, hmin.2, HM5, HK5⟩
        case measure => simp [intOf]; omega
      · have hjj : j = (partsOf l p).length := by omega
        clear hkw
        subst hjj
        have HNE := Lib.hid (show (if n = 0 then 1 else n) = min (szOf l p : Int) 19 from by
          have h1 := HN.out
          rw [List.take_length] at h1
          rw [HE.out]
          by_cases hp0 : partsOf l p = []
          · rw [if_pos hp0]
            rw [hp0] at h1
            simp [sumsz] at h1
            rw [h1]; rfl
          · rw [if_neg hp0, ← h1, if_neg]
            intro h0
            exact hp0 (sumsz_pos (szOf_pos l) _ (by omega)))
        by_cases hz : n = 0
        · subst hz
          obtain ⟨w5, hup, hk5, hg5, hs5⟩ := HKw.out.k.put p 1 (by have := HNE.out; simpa using this)
          have HK5 := Lib.hid (HKw.out.trans ⟨hg5, hs5, hk5⟩)
          clear hk5 hg5 hs5
          go_wp2_with fail
          go_ret
          exact ⟨1, rfl, by have := HNE.out; simpa using this, HK5.out⟩
        · obtain ⟨w5, hup, hk5, hg5, hs5⟩ := HKw.out.k.put p n (by have := HNE.out; rwa [if_neg hz] at this)
          have HK5 := Lib.hid (HKw.out.trans ⟨hg5, hs5, hk5⟩)
          have hzb : (n == 0) = false := by rw [beq_eq_false_iff_ne]; exact hz
          clear hk5 hg5 hs5
          go_wp2_with fail
          go_ret
          exact ⟨n, rfl, by have := HNE.out; rwa [if_neg hz] at this, HK5.out⟩
end Go.Proofs.YtlkdjdcnbcegeaaGreatDoor
