/-
  (*ucd.Data).size: some number from 1 to 19, where no point leads to itself.
-/
import Derived.Test.YtccaaniepeohbaaGreatDoorKT
namespace Go.Proofs.YtccaaniepeohbaaGreatDoor
open Go.RowKit Go.WideShapes
set_option linter.unusedVariables false
set_option linter.unusedSimpArgs false
/-- Where only a map has turned, no cell has. -/
theorem cell_map {w w' : World} {b : Nat} {K K' : Value → Prop} {m m' : List (Value × Value)} (hg : w.grownBy w' (some b)) (h : MapAt w b K m) (h' : MapAt w' b K' m') (p : Addr) (hp : p.block < w.heap.size) : w'.cell? p = w.cell? p := by
  by_cases e : p.block = b
  · obtain ⟨es, c, h1, _⟩ := h
    obtain ⟨es', c', h1', _⟩ := h'
    unfold World.cell?
    rw [e, h1, h1']
  · exact World.cell?_of_block (hg.block p.block hp (by simp [e]))
/-- The sizes known so far. -/
def Known (w : World) (N : Nat) : Prop := ∃ kn : List (Value × Value), MapAt w N IntKey kn ∧ ∀ q ∈ kn, ∃ a : Int, q.2 = .int .i64 a ∧ 0 ≤ a ∧ a ≤ 19
theorem Known.lt {w : World} {N : Nat} (h : Known w N) : N < w.heap.size := by obtain ⟨kn, h1, _⟩ := h; exact h1.lt
theorem Known.look {w : World} {N : Nat} (h : Known w N) (p : Int) : ∃ (a : Int) (r : Bool), (Instr.lookup 53 (.map (some N)) (.int .i64 p) true).run Tryz.prog w = .ok (.tuple #[.int .i64 a, .bool r]) w ∧ 0 ≤ a ∧ a ≤ 19 := by
  obtain ⟨kn, h1, h2⟩ := h
  rcases h1.run_look (P := Tryz.prog) (keyOk_int Tryz.underlying3) Tryz.underlying53 (Tryz.zeroValue3 w) (key := .int .i64 p) ⟨p, rfl⟩ true with ⟨hr, hno⟩ | ⟨u, hr, hu⟩
  · exact ⟨0, false, hr, by omega, by omega⟩
  · obtain ⟨a, ha, h0, h9⟩ := h2 _ hu
    simp only at ha
    subst ha
    exact ⟨a, true, hr, h0, h9⟩
theorem Known.put {w : World} {N : Nat} (h : Known w N) (p n : Int) (h0 : 0 ≤ n) (h9 : n ≤ 19) : ∃ w', (Instr.mapUpdate 53 (.map (some N)) (.int .i64 p) (.int .i64 n)).run Tryz.prog w = .ok () w' ∧ Known w' N ∧ w.grownBy w' (some N) ∧ w'.heap.size = w.heap.size := by
  obtain ⟨kn, h1, h2⟩ := h
  obtain ⟨w', l', r1, r2, r3, r4, r5, _, _⟩ := h1.run_put (P := Tryz.prog) (keyOk_int Tryz.underlying3) Tryz.underlying53 (key := .int .i64 p) (val := .int .i64 n) ⟨p, rfl⟩
  refine ⟨w', r1, ⟨l', r2, fun q hq => ?_⟩, r3, r4⟩
  rcases r5 q hq with hq | rfl
  · exact h2 q hq
  · exact ⟨n, rfl, h0, h9⟩
/-- From one world to another one in which only the known sizes have turned. -/
structure Knew (w w' : World) (N : Nat) : Prop where
  g : w.grownBy w' (some N)
  z : w'.heap.size = w.heap.size
  k : Known w' N
theorem Knew.trans {a b c : World} {N : Nat} (h : Knew a b N) (k : Knew b c N) : Knew a c N := ⟨h.g.trans k.g, k.z.trans h.z, k.k⟩
theorem Knew.data {w w' : World} {N D b : Nat} {Q : Nat → Prop} {l : List MK} (h : Knew w w' N) (hk : Known w N) (hd : DataM w Q D b l) (h1 : D ≠ N) (h2 : b ≠ N) (hQ : ∀ g, Q g → g < w.heap.size) : DataM w' Q D b l := by
  obtain ⟨kn, a1, _⟩ := hk
  obtain ⟨kn', a1', _⟩ := h.k
  exact hd.keep (h.g.block D hd.D_lt (by simp [h1])) (h.g.block b hd.b_lt (by simp [h2])) (fun p hp => cell_map h.g a1 a1' p (hQ _ hp)) (fun _ h => h)
def SizePost (N : Nat) (w : World) (e : Ending) (w' : World) : Prop := ∃ n : Int, e = .returned (.int .i64 n) ∧ 0 ≤ n ∧ n ≤ 19 ∧ Knew w w' N
set_option maxRecDepth 100000 in
set_option maxHeartbeats 8000000 in
theorem size_ok (Q : Nat → Prop) (D b N : Nat) (l : List MK) (hac : ∀ x ∈ l, ¬ Leads (partsOf l) x.pt x.pt) (h1 : D ≠ N) (h2 : b ≠ N) (hP : ∀ p, (partsOf l p).length ≤ 100000) (p : Int) :
    ∀ w : World, DataM w Q D b l → (∀ g, Q g → g < w.heap.size) → Known w N → Calls Tryz.prog 29 #[.pointer (some ⟨D, 0, none⟩), .int .i64 p, .map (some N)] w (SizePost N w) := by
  refine ring_ind (l.map MK.pt) (fun q hq => partsOf_none hq) (fun q hq => by obtain ⟨x, hx, rfl⟩ := List.mem_map.1 hq; exact hac x hx) (fun p => ∀ w : World, DataM w Q D b l → (∀ g, Q g → g < w.heap.size) → Known w N → Calls Tryz.prog 29 #[.pointer (some ⟨D, 0, none⟩), .int .i64 p, .map (some N)] w (SizePost N w)) ?_ p
  clear p
  intro p ih w hd hQ hk
  have HIH := Lib.hid ih
  have HD := Lib.hid hd
  have HK := Lib.hid hk
  have HP := Lib.hid (hP p)
  obtain ⟨a0, r0, hl0, ha0, ha9⟩ := hk.look p
  have hcd : w.cell? ⟨D, 0, none⟩ = some (.map (some b)) := by simp [World.cell?, hd.d]
  obtain ⟨a, c, v, hlk, hv⟩ := hd.look p w rfl
  have HV := Lib.hid hv
  obtain ⟨A0, c0, rfl⟩ : ∃ A0 c0, v = .slice A0 (partsOf l p).length c0 := by
    rcases hv with ⟨rfl, e⟩ | ⟨g, c, e, _⟩
    · exact ⟨none, 0, by rw [e]; rfl⟩
    · exact ⟨_, _, e⟩
  have hfd := field_parts
  have HK0 := Lib.hid (show Knew w w N from ⟨⟨rfl, rfl, rfl, Nat.le_refl _, fun _ _ _ => rfl⟩, rfl, hk⟩)
  clear ih hd hk hv hac hP
  cases r0 with
  | true =>
    go_enter Tryz.func29, Tryz.ntmps29
    go_wp2_with fail
    go_ret
    exact ⟨a0, rfl, ha0, ha9, HK0.out⟩
  | false =>
    go_enter Tryz.func29, Tryz.ntmps29
    go_wp2_with fail
    go_loopw [9, 28] (fun t9 t28 wr => ∃ (n : Int) (j : Nat), t9 = .int .i64 n ∧ t28 = .int .i64 j ∧ j ≤ (partsOf l p).length ∧ 0 ≤ n ∧ n ≤ 19 ∧ Hid (Knew w wr N)) (fun _ t28 _ => (partsOf l p).length - (intOf t28).toNat)
    case atStart => exact ⟨0, 0, rfl, rfl, by omega, by omega, by omega, HK0⟩
    case round =>
      clear HK0
      obtain ⟨n, j, rfl, rfl, hj, hn0, hn9, HKw⟩ := hrel
      have hkw := HKw.out.data HK.out HD.out h1 h2 hQ
      have hjb : (partsOf l p).length ≤ 100000 := HP.out
      have hjI : (j : Int) ≤ 100000 := by omega
      by_cases hjl : j < (partsOf l p).length
      · obtain ⟨g, c9, ev, hc9, hg9, hcs9⟩ : ∃ g c9, Value.slice A0 (partsOf l p).length c0 = .slice (some ⟨g, 0, none⟩) (partsOf l p).length c9 ∧ (partsOf l p).length ≤ c9 ∧ Q g ∧ CellsAt w g 0 (intCells (partsOf l p)) := by
          rcases HV.out with ⟨_, e⟩ | h
          · rw [e] at hjl; exact absurd hjl (by simp)
          · exact h
        injection ev with ea _ ec
        subst ea ec
        have hcell : wr.cell? ⟨g, j, none⟩ = some (.int .i64 (partsOf l p)[j]) := by
          obtain ⟨kn, k1, _⟩ := HK.out
          obtain ⟨kn', k1', _⟩ := HKw.out.k
          rw [cell_map HKw.out.g k1 k1' ⟨g, j, none⟩ (hQ g hg9)]
          have := hcs9 j (.int .i64 (partsOf l p)[j]) (by simp [intCells, hjl])
          rwa [Nat.zero_add] at this
        have HI := Lib.hid (HIH.out (partsOf l p)[j] (List.getElem_mem hjl) wr hkw (fun g hg => by have := HKw.out.z; have := hQ g hg; omega) HKw.out.k)
        generalize (partsOf l p)[j] = q at hcell HI
        clear hkw hcs9
        go_wp2_with fail
        refine HI.out.mono ?_
        rintro e w5 ⟨n5, rfl, hn50, hn59, hk5⟩
        have HK5 := Lib.hid (HKw.out.trans hk5)
        have hmin : 0 ≤ min (n + n5) 19 ∧ min (n + n5) 19 ≤ 19 := by omega
        clear hk5 HI hcell
        go_wp2_with fail
        go_roundw
        case rel => exact ⟨min (n + n5) 19, j + 1, by go_num, by go_num, by omega, hmin.1, hmin.2, HK5⟩
        case measure => simp [intOf]; omega
      · have hjj : j = (partsOf l p).length := by omega
        clear hkw
        subst hjj
        by_cases hz : n = 0
        · subst hz
          obtain ⟨w5, hup, hk5, hg5, hs5⟩ := HKw.out.k.put p 1 (by omega) (by omega)
          have HK5 := Lib.hid (HKw.out.trans ⟨hg5, hs5, hk5⟩)
          clear hk5 hg5 hs5
          go_wp2_with fail
          go_ret
          exact ⟨1, rfl, by omega, by omega, HK5.out⟩
        · obtain ⟨w5, hup, hk5, hg5, hs5⟩ := HKw.out.k.put p n hn0 hn9
          have HK5 := Lib.hid (HKw.out.trans ⟨hg5, hs5, hk5⟩)
          have hzb : (n == 0) = false := by rw [beq_eq_false_iff_ne]; exact hz
          clear hk5 hg5 hs5
          go_wp2_with fail
          go_ret
          exact ⟨n, rfl, hn0, hn9, HK5.out⟩
end Go.Proofs.YtccaaniepeohbaaGreatDoor
