/-
  ref06.SameElements and SameEntries of the same; law06.kept.
-/
import Derived.Test.YthcjcdchmdgnjaaGreatDoorKAC
namespace Go.Proofs.YthcjcdchmdgnjaaGreatDoor
open Go.RowKit Go.WideShapes
set_option linter.unusedVariables false
set_option maxRecDepth 100000 in
set_option maxHeartbeats 2000000 in
theorem sameEls_any (es : List EL) (v1 v2 : Value) (w : World) (h1 : RowM w w.heap.size v1 es.length (elsCells es)) (h2 : RowM w w.heap.size v2 es.length (elsCells es)) : Calls Tryz.prog 22 #[v1, v2] w (Ret (.bool true) w) := by
  have H1 := Lib.hid h1
  have H2 := Lib.hid h2
  have HB0 := Lib.hid (Below.refl w.heap.size w)
  obtain ⟨A1, c1, rfl, hc1, hm1, _⟩ := h1
  obtain ⟨A2, c2, rfl, hc2, hm2, _⟩ := h2
  go_enter Tryz.func22, Tryz.ntmps22
  go_wp2_with fail
  go_loopw [5] (fun i wr => ∃ (k : Nat), i = .int .i64 k ∧ k ≤ es.length ∧ Hid (Below w.heap.size w wr)) (fun i _ => es.length - (intOf i).toNat)
  case atStart => exact ⟨0, rfl, by omega, HB0⟩
  case round =>
    clear HB0
    obtain ⟨k, rfl, hk, HB⟩ := hrel
    by_cases hlt : k < es.length
    · obtain ⟨b1, o1, d1, e1, hb1, g0, g1, g2, g3⟩ := (H1.out.below HB.out).el hlt
      injection e1 with e1 _ ec1; subst e1 ec1
      obtain ⟨b2, o2, d2, e2, hb2, f0, f1, f2, f3⟩ := (H2.out.below HB.out).el hlt
      injection e2 with e2 _ ec2; subst e2 ec2
      have hltI : (k : Int) < (es.length : Int) := by omega
      have HBq := Lib.hid (fun m => below_nq HB.out m)
      obtain ⟨e, he⟩ : ∃ e, e = es[k] := ⟨_, rfl⟩
      rw [← he] at g0 g1 g2 g3 f0 f1 f2 f3
      clear he
      obtain ⟨v, p, s, t⟩ := e
      simp only at g0 g1 g2 g3 f0 f1 f2 f3
      go_wp2_with fail
      go_quiet (fail)
      go_wp2_with fail
      go_roundw
      case rel => exact ⟨k + 1, by go_num, by omega, Lib.hid (HBq.out _)⟩
      case measure => simp [intOf]; omega
    · obtain rfl : k = es.length := by omega
      go_wp2_with fail
      go_ret
      exact ⟨rfl, HB.out⟩
theorem ahead_self (a : List Int) : ahead a a = 0 := ahead_same (fun j hj => ⟨a[j], by simp [hj], by simp [hj]⟩) rfl
set_option maxRecDepth 100000 in
set_option maxHeartbeats 4000000 in
theorem sameEns_any (l : List EN) (A1 A2 : Option Addr) (c1 c2 : Nat) (w : World) (h1 : EntriesAt w w.heap.size l A1) (h2 : EntriesAt w w.heap.size l A2) (hc1 : l.length ≤ c1) (hc2 : l.length ≤ c2) (hl : l.length ≤ 1048576) : Calls Tryz.prog 8 #[.slice A1 l.length c1, .slice A2 l.length c2] w (Ret (.bool true) w) := by
  have H1 := Lib.hid h1
  have H2 := Lib.hid h2
  have HB0 := Lib.hid (Below.refl w.heap.size w)
  clear h1 h2
  go_enter Tryz.func8, Tryz.ntmps8
  go_wp2_with fail
  go_loopw [5] (fun i wr => ∃ (k : Nat), i = .int .i64 k ∧ k ≤ l.length ∧ Hid (Below w.heap.size w wr)) (fun i _ => l.length - (intOf i).toNat)
  case atStart => exact ⟨0, rfl, by omega, HB0⟩
  case round =>
    clear HB0
    obtain ⟨k, rfl, hk, HB⟩ := hrel
    have hwz := HB.out.size
    by_cases hlt : k < l.length
    · obtain ⟨b1, o1, rfl⟩ := H1.out.some (by omega)
      obtain ⟨b2, o2, rfl⟩ := H2.out.some (by omega)
      obtain ⟨hb1, v1, v2, g1, g2, hen1⟩ := (H1.out.below HB.out).at_ hlt
      obtain ⟨hb2, u1, u2, f1, f2, hen2⟩ := (H2.out.below HB.out).at_ hlt
      have hltI : (k : Int) < (l.length : Int) := by omega
      have hk0 : (0 : Int) ≤ (k : Int) := by omega
      have HE1 := Lib.hid (hen1.more hwz)
      have HE2 := Lib.hid (hen2.more hwz)
      have HA := Lib.hid (fun W (hb : Below wr.heap.size wr W) => refAhead_any l[k].pts l[k].pts v1 u1 W ((HE1.out.1.below hb).more hb.size) ((HE2.out.1.below hb).more hb.size))
      rw [ahead_self] at HA
      have HS := Lib.hid (fun W (hb : Below wr.heap.size wr W) => sameEls_any l[k].els v2 u2 W ((HE1.out.2.below hb).more hb.size) ((HE2.out.2.below hb).more hb.size))
      have HK := Lib.hid (fun (W : World) (hb : Below wr.heap.size wr W) => (⟨hb, (hb.cell (by simp only; omega)).trans g1, (hb.cell (by simp only; omega)).trans g2, (hb.cell (by simp only; omega)).trans f1, (hb.cell (by simp only; omega)).trans f2⟩ : Below wr.heap.size wr W ∧ W.cell? ⟨b1, o1 + k * 2, none⟩ = some v1 ∧ W.cell? ⟨b1, o1 + k * 2 + 1, none⟩ = some v2 ∧ W.cell? ⟨b2, o2 + k * 2, none⟩ = some u1 ∧ W.cell? ⟨b2, o2 + k * 2 + 1, none⟩ = some u2))
      clear hen1 hen2
      go_wp2_with fail
      refine wp_region_noPanic ?_
      refine wp_region_held_drew (S := fun W => Below wr.heap.size wr W ∧ W.cell? ⟨b1, o1 + k * 2, none⟩ = some v1 ∧ W.cell? ⟨b1, o1 + k * 2 + 1, none⟩ = some v2 ∧ W.cell? ⟨b2, o2 + k * 2, none⟩ = some u1 ∧ W.cell? ⟨b2, o2 + k * 2 + 1, none⟩ = some u2) (by kernel_rfl) (HK.out _ (Below.refl _ _).drew) (fun hHeld0 => ?_)
      (try simp only [Act.put, List.setIfInBounds_toArray, List.set_cons_zero, List.set_cons_succ])
      refine wpAnyH_take (i := 0) (oi := ?_) (v := ?_) ?_ (by kernel_rfl) (by kernel_rfl) (by kernel_rfl) (fun _ _ _ h => h) (Or.inl ⟨?_, ?_⟩) hHeld0 ?_
      rotate_left 2
      · (simp only [List.getElem?_toArray, List.getElem?_cons_zero]; rfl)
      · rfl
      · (intro w hSw; (try dsimp only at hSw); go_simp; (try with_reducible rfl))
      (try simp only [Act.put, List.setIfInBounds_toArray, List.set_cons_zero, List.set_cons_succ])
      refine wpAnyH_take (i := 1) (oi := ?_) (v := ?_) ?_ (by kernel_rfl) (by kernel_rfl) (by kernel_rfl) (fun _ _ _ h => h) (Or.inl ⟨?_, ?_⟩) hHeld0 ?_
      rotate_left 2
      · (simp only [List.getElem?_toArray, List.getElem?_cons_succ, List.getElem?_cons_zero]; rfl)
      · rfl
      · (intro w hSw; (try dsimp only at hSw); go_simp; (try with_reducible rfl))
      (try simp only [Act.put, List.setIfInBounds_toArray, List.set_cons_zero, List.set_cons_succ])
      refine wpAnyH_take (i := 2) (oi := ?_) (v := ?_) ?_ (by kernel_rfl) (by kernel_rfl) (by kernel_rfl) (fun _ _ _ h => h) (Or.inl ⟨?_, ?_⟩) hHeld0 ?_
      rotate_left 2
      · (simp only [List.getElem?_toArray, List.getElem?_cons_succ, List.getElem?_cons_zero]; rfl)
      · rfl
      · (intro w hSw; (try dsimp only at hSw); go_simp; (try with_reducible rfl))
      (try simp only [Act.put, List.setIfInBounds_toArray, List.set_cons_zero, List.set_cons_succ])
      refine wpAnyH_take (i := 3) (oi := ?_) (v := ?_) ?_ (by kernel_rfl) (by kernel_rfl) (by kernel_rfl) (fun _ _ _ h => h) (Or.inl ⟨?_, ?_⟩) hHeld0 ?_
      rotate_left 2
      · (simp only [List.getElem?_toArray, List.getElem?_cons_succ, List.getElem?_cons_zero]; rfl)
      · rfl
      · (intro w hSw; (try dsimp only at hSw); go_simp; (try with_reducible rfl))
      (try simp only [Act.put, List.setIfInBounds_toArray, List.set_cons_zero, List.set_cons_succ])
      refine wpAnyH_take (i := 4) (oi := ?_) (v := ?_) ?_ (by kernel_rfl) (by kernel_rfl) (by kernel_rfl) (fun _ _ _ h => h) (Or.inl ⟨?_, ?_⟩) hHeld0 ?_
      rotate_left 2
      · (simp only [List.getElem?_toArray, List.getElem?_cons_succ, List.getElem?_cons_zero]; rfl)
      · rfl
      · (intro w hSw; (try dsimp only at hSw); go_simp; (try with_reducible rfl))
      (try simp only [Act.put, List.setIfInBounds_toArray, List.set_cons_zero, List.set_cons_succ])
      refine wpAnyH_take (i := 5) (oi := ?_) (v := ?_) ?_ (by kernel_rfl) (by kernel_rfl) (by kernel_rfl) (fun _ _ _ h => h) (Or.inl ⟨?_, ?_⟩) hHeld0 ?_
      rotate_left 2
      · (simp only [List.getElem?_toArray, List.getElem?_cons_succ, List.getElem?_cons_zero]; rfl)
      · rfl
      · (intro w hSw; (try dsimp only at hSw); go_simp; (try with_reducible rfl))
      (try simp only [Act.put, List.setIfInBounds_toArray, List.set_cons_zero, List.set_cons_succ])
      refine wpAnyH_take (i := 6) (oi := ?_) (v := ?_) ?_ (by kernel_rfl) (by kernel_rfl) (by kernel_rfl) (fun _ _ _ h => h) (Or.inl ⟨?_, ?_⟩) hHeld0 ?_
      rotate_left 2
      · (simp only [List.getElem?_toArray, List.getElem?_cons_succ, List.getElem?_cons_zero]; rfl)
      · rfl
      · (intro w hSw; (try dsimp only at hSw); go_simp; (try with_reducible rfl))
      (try simp only [Act.put, List.setIfInBounds_toArray, List.set_cons_zero, List.set_cons_succ])
      refine wpAnyH_take (i := 7) (oi := ?_) (v := ?_) ?_ (by kernel_rfl) (by kernel_rfl) (by kernel_rfl) (fun _ _ _ h => h) (Or.inl ⟨?_, ?_⟩) hHeld0 ?_
      rotate_left 2
      · (simp only [List.getElem?_toArray, List.getElem?_cons_succ, List.getElem?_cons_zero]; rfl)
      · rfl
      · (intro w hSw; (try dsimp only at hSw); go_simp; (try with_reducible rfl))
      (try simp only [Act.put, List.setIfInBounds_toArray, List.set_cons_zero, List.set_cons_succ])
      refine wpAnyH_take (i := 8) (oi := ?_) (v := ?_) ?_ (by kernel_rfl) (by kernel_rfl) (by kernel_rfl) (fun _ _ _ h => h) (Or.inl ⟨?_, ?_⟩) hHeld0 ?_
      rotate_left 2
      · (simp only [List.getElem?_toArray, List.getElem?_cons_succ, List.getElem?_cons_zero]; rfl)
      · rfl
      · (intro w hSw; (try dsimp only at hSw); go_simp; (try with_reducible rfl))
      (try simp only [Act.put, List.setIfInBounds_toArray, List.set_cons_zero, List.set_cons_succ])
      refine wpAnyH_take (i := 9) (oi := ?_) (v := ?_) ?_ (by kernel_rfl) (by kernel_rfl) (by kernel_rfl) (fun _ _ _ h => h) (Or.inl ⟨?_, ?_⟩) hHeld0 ?_
      rotate_left 2
      · (simp only [List.getElem?_toArray, List.getElem?_cons_succ, List.getElem?_cons_zero]; rfl)
      · rfl
      · (intro w hSw; (try dsimp only at hSw); go_simp; (try with_reducible rfl))
      (try simp only [Act.put, List.setIfInBounds_toArray, List.set_cons_zero, List.set_cons_succ])
      refine wpAnyH_ready (rs := [10]) (by kernel_rfl) (by simp) ?_
      refine AllReadyH.cons (by rfl) (fun K hK => ?_) AllReadyH.nil
      go_simp
      go_at_call 21
      refine (HA.out _ (by first | exact Below.refl _ _ | exact (Below.refl _ _).drew)).mono ?_
      rintro e w2 ⟨rfl, hb2⟩
      have hS2 := HK.out w2 ((Below.refl wr.heap.size wr).drew.trans hb2)
      clear hb2
      refine hK.out _ _ (hS2) (fun hHeld1 => ?_)
      clear hK K
      (try simp only [Act.put, List.setIfInBounds_toArray, List.set_cons_zero, List.set_cons_succ])
      refine wpAnyH_take (i := 11) (oi := ?_) (v := ?_) ?_ (by kernel_rfl) (by kernel_rfl) (by kernel_rfl) (fun _ _ _ h => h) (Or.inl ⟨?_, ?_⟩) hHeld1 ?_
      rotate_left 2
      · (simp only [List.getElem?_toArray, List.getElem?_cons_succ, List.getElem?_cons_zero]; rfl)
      · rfl
      · (intro w hSw; (try dsimp only at hSw); go_simp; (try with_reducible rfl))
      (try simp only [Act.put, List.setIfInBounds_toArray, List.set_cons_zero, List.set_cons_succ])
      refine wpAnyH_take (i := 12) (oi := ?_) (v := ?_) ?_ (by kernel_rfl) (by kernel_rfl) (by kernel_rfl) (fun _ _ _ h => h) (Or.inl ⟨?_, ?_⟩) hHeld1 ?_
      rotate_left 2
      · (simp only [List.getElem?_toArray, List.getElem?_cons_succ, List.getElem?_cons_zero]; rfl)
      · rfl
      · (intro w hSw; (try dsimp only at hSw); go_simp; (try with_reducible rfl))
      (try simp only [Act.put, List.setIfInBounds_toArray, List.set_cons_zero, List.set_cons_succ])
      refine wpAnyH_take (i := 13) (oi := ?_) (v := ?_) ?_ (by kernel_rfl) (by kernel_rfl) (by kernel_rfl) (fun _ _ _ h => h) (Or.inl ⟨?_, ?_⟩) hHeld1 ?_
      rotate_left 2
      · (simp only [List.getElem?_toArray, List.getElem?_cons_succ, List.getElem?_cons_zero]; rfl)
      · rfl
      · (intro w hSw; (try dsimp only at hSw); go_simp; (try with_reducible rfl))
      (try simp only [Act.put, List.setIfInBounds_toArray, List.set_cons_zero, List.set_cons_succ])
      refine wpAnyH_take (i := 14) (oi := ?_) (v := ?_) ?_ (by kernel_rfl) (by kernel_rfl) (by kernel_rfl) (fun _ _ _ h => h) (Or.inl ⟨?_, ?_⟩) hHeld1 ?_
      rotate_left 2
      · (simp only [List.getElem?_toArray, List.getElem?_cons_succ, List.getElem?_cons_zero]; rfl)
      · rfl
      · (intro w hSw; (try dsimp only at hSw); go_simp; (try with_reducible rfl))
      (try simp only [Act.put, List.setIfInBounds_toArray, List.set_cons_zero, List.set_cons_succ])
      refine wpAnyH_take (i := 15) (oi := ?_) (v := ?_) ?_ (by kernel_rfl) (by kernel_rfl) (by kernel_rfl) (fun _ _ _ h => h) (Or.inl ⟨?_, ?_⟩) hHeld1 ?_
      rotate_left 2
      · (simp only [List.getElem?_toArray, List.getElem?_cons_succ, List.getElem?_cons_zero]; rfl)
      · rfl
      · (intro w hSw; (try dsimp only at hSw); go_simp; (try with_reducible rfl))
      (try simp only [Act.put, List.setIfInBounds_toArray, List.set_cons_zero, List.set_cons_succ])
      refine wpAnyH_take (i := 16) (oi := ?_) (v := ?_) ?_ (by kernel_rfl) (by kernel_rfl) (by kernel_rfl) (fun _ _ _ h => h) (Or.inl ⟨?_, ?_⟩) hHeld1 ?_
      rotate_left 2
      · (simp only [List.getElem?_toArray, List.getElem?_cons_succ, List.getElem?_cons_zero]; rfl)
      · rfl
      · (intro w hSw; (try dsimp only at hSw); go_simp; (try with_reducible rfl))
      (try simp only [Act.put, List.setIfInBounds_toArray, List.set_cons_zero, List.set_cons_succ])
      refine wpAnyH_take (i := 17) (oi := ?_) (v := ?_) ?_ (by kernel_rfl) (by kernel_rfl) (by kernel_rfl) (fun _ _ _ h => h) (Or.inl ⟨?_, ?_⟩) hHeld1 ?_
      rotate_left 2
      · (simp only [List.getElem?_toArray, List.getElem?_cons_succ, List.getElem?_cons_zero]; rfl)
      · rfl
      · (intro w hSw; (try dsimp only at hSw); go_simp; (try with_reducible rfl))
      (try simp only [Act.put, List.setIfInBounds_toArray, List.set_cons_zero, List.set_cons_succ])
      refine wpAnyH_take (i := 18) (oi := ?_) (v := ?_) ?_ (by kernel_rfl) (by kernel_rfl) (by kernel_rfl) (fun _ _ _ h => h) (Or.inl ⟨?_, ?_⟩) hHeld1 ?_
      rotate_left 2
      · (simp only [List.getElem?_toArray, List.getElem?_cons_succ, List.getElem?_cons_zero]; rfl)
      · rfl
      · (intro w hSw; (try dsimp only at hSw); go_simp; (try with_reducible rfl))
      (try simp only [Act.put, List.setIfInBounds_toArray, List.set_cons_zero, List.set_cons_succ])
      refine wpAnyH_take (i := 19) (oi := ?_) (v := ?_) ?_ (by kernel_rfl) (by kernel_rfl) (by kernel_rfl) (fun _ _ _ h => h) (Or.inl ⟨?_, ?_⟩) hHeld1 ?_
      rotate_left 2
      · (simp only [List.getElem?_toArray, List.getElem?_cons_succ, List.getElem?_cons_zero]; rfl)
      · rfl
      · (intro w hSw; (try dsimp only at hSw); go_simp; (try with_reducible rfl))
      (try simp only [Act.put, List.setIfInBounds_toArray, List.set_cons_zero, List.set_cons_succ])
      refine wpAnyH_take (i := 20) (oi := ?_) (v := ?_) ?_ (by kernel_rfl) (by kernel_rfl) (by kernel_rfl) (fun _ _ _ h => h) (Or.inl ⟨?_, ?_⟩) hHeld1 ?_
      rotate_left 2
      · (simp only [List.getElem?_toArray, List.getElem?_cons_succ, List.getElem?_cons_zero]; rfl)
      · rfl
      · (intro w hSw; (try dsimp only at hSw); go_simp; (try with_reducible rfl))
      (try simp only [Act.put, List.setIfInBounds_toArray, List.set_cons_zero, List.set_cons_succ])
      refine wpAnyH_take (i := 21) (oi := ?_) (v := ?_) ?_ (by kernel_rfl) (by kernel_rfl) (by kernel_rfl) (fun _ _ _ h => h) (Or.inl ⟨?_, ?_⟩) hHeld1 ?_
      rotate_left 2
      · (simp only [List.getElem?_toArray, List.getElem?_cons_succ, List.getElem?_cons_zero]; rfl)
      · rfl
      · (intro w hSw; (try dsimp only at hSw); go_simp; (try with_reducible rfl))
      (try simp only [Act.put, List.setIfInBounds_toArray, List.set_cons_zero, List.set_cons_succ])
      refine wpAnyH_take (i := 22) (oi := ?_) (v := ?_) ?_ (by kernel_rfl) (by kernel_rfl) (by kernel_rfl) (fun _ _ _ h => h) (Or.inl ⟨?_, ?_⟩) hHeld1 ?_
      rotate_left 2
      · (simp only [List.getElem?_toArray, List.getElem?_cons_succ, List.getElem?_cons_zero]; rfl)
      · rfl
      · (intro w hSw; (try dsimp only at hSw); go_simp; (try with_reducible rfl))
      (try simp only [Act.put, List.setIfInBounds_toArray, List.set_cons_zero, List.set_cons_succ])
      refine wpAnyH_ready (rs := [23]) (by kernel_rfl) (by simp) ?_
      refine AllReadyH.cons (by rfl) (fun K hK => ?_) AllReadyH.nil
      go_simp
      go_at_call 22
      refine (HS.out w2 hS2.1).mono ?_
      rintro e w3 ⟨rfl, hb3⟩
      have hS3 := HK.out w3 (hS2.1.trans (hb3.mono hS2.1.size))
      clear hb3
      refine hK.out _ _ (hS3) (fun hHeld2 => ?_)
      clear hK K
      (try simp only [Act.put, List.setIfInBounds_toArray, List.set_cons_zero, List.set_cons_succ])
      refine wpAnyH_take (i := 24) (oi := ?_) (v := ?_) ?_ (by kernel_rfl) (by kernel_rfl) (by kernel_rfl) (fun _ _ _ h => h) (Or.inl ⟨?_, ?_⟩) hHeld2 ?_
      rotate_left 2
      · (simp only [List.getElem?_toArray, List.getElem?_cons_succ, List.getElem?_cons_zero]; rfl)
      · rfl
      · (intro w hSw; (try dsimp only at hSw); go_simp; (try with_reducible rfl))
      (try simp only [Act.put, List.setIfInBounds_toArray, List.set_cons_zero, List.set_cons_succ])
      refine wpAnyH_take (i := 25) (oi := ?_) (v := ?_) ?_ (by kernel_rfl) (by kernel_rfl) (by kernel_rfl) (fun _ _ _ h => h) (Or.inl ⟨?_, ?_⟩) hHeld2 ?_
      rotate_left 2
      · (simp only [List.getElem?_toArray, List.getElem?_cons_succ, List.getElem?_cons_zero]; rfl)
      · rfl
      · (intro w hSw; (try dsimp only at hSw); go_simp; (try with_reducible rfl))
      (try simp only [Act.put, List.setIfInBounds_toArray, List.set_cons_zero, List.set_cons_succ])
      refine wpAnyH_done (by kernel_rfl) ?_ _
      refine NoPanic.normal ?_
      have HBz := Lib.hid (HB.out.trans (hS3.1.mono hwz))
      go_wp2_with fail
      go_roundw
      case rel => exact ⟨k + 1, by go_num, by omega, HBz⟩
      case measure => simp [intOf]; omega
    · obtain rfl : k = l.length := by omega
      go_wp2_with fail
      go_ret
      exact ⟨rfl, HB.out⟩
theorem own_cell {w : World} {N e g n cap size j : Nat} {xs : List Value} {u : Value} (h : w.ownsRow N e size (.slice (some ⟨g, 0, none⟩) n cap) n xs) (hj : xs[j]? = some u) : w.cell? ⟨g, j, none⟩ = some u := by
  have hl : j < xs.length := (List.getElem?_eq_some_iff.1 hj).1
  rw [h.cellAt j (by rw [← h.1]; exact hl)]
  exact hj
theorem own_cap {w : World} {N e g n cap size : Nat} {xs : List Value} (h : w.ownsRow N e size (.slice (some ⟨g, 0, none⟩) n cap) n xs) : n ≤ cap ∧ g < w.heap.size := by
  rcases h.2 with ⟨h', _⟩ | ⟨g', cap', cur, h', _, hg, hnc, _⟩
  · simp at h'
  · simp only [Value.slice.injEq, Option.some.injEq, Addr.mk.injEq, and_true, true_and] at h'
    obtain ⟨rfl, rfl⟩ := h'
    exact ⟨hnc, (Array.getElem?_eq_some_iff.1 hg).1⟩
theorem LE.ent {w : World} {N : Nat} {x : EN} {v1 v2 : Value} (h : LE w N x v1 v2) (hm : x.pts.length ≤ 1048576 ∧ x.els.length ≤ 1048576) : EntAt w w.heap.size x v1 v2 := by
  obtain ⟨gp, cp, ge, ce, rfl, rfl, h1, h2⟩ := h
  refine ⟨⟨_, _, rfl, by have := (own_cap h1).1; omega, by omega, fun _ => ⟨gp, 0, rfl, (own_cap h1).2, fun i u hu => ?_⟩⟩, ⟨_, _, rfl, by have := (own_cap h2).1; omega, by omega, fun _ => ⟨ge, 0, rfl, (own_cap h2).2, fun i u hu => ?_⟩⟩⟩
  · rw [Nat.zero_add]
    exact own_cell h1 (by rw [List.getElem?_append_left (List.getElem?_eq_some_iff.1 hu).1]; exact hu)
  · rw [Nat.zero_add]
    exact own_cell h2 (by rw [List.getElem?_append_left (List.getElem?_eq_some_iff.1 hu).1]; exact hu)
theorem LentE.below {w w' : World} {N : Nat} {l : List EN} {v : Value} (h : LentE w N l v) (hb : Below w.heap.size w w') : LentE w' N l v := by
  obtain ⟨g, c, vs, e, h1, h2, h3⟩ := h
  exact ⟨g, c, vs, e, own_below h1 hb, h2.below hb, h3⟩
theorem LentE.entries {w : World} {N : Nat} {l : List EN} {v : Value} (h : LentE w N l v) (hm : Modest l) : ∃ g c, v = .slice (some ⟨g, 0, none⟩) l.length c ∧ l.length ≤ c ∧ EntriesAt w w.heap.size l (some ⟨g, 0, none⟩) := by
  obtain ⟨g, c, vs, rfl, h1, h2, h3⟩ := h
  refine ⟨g, c, rfl, by have := (own_cap h1).1; omega, fun _ => ⟨g, 0, rfl, (own_cap h1).2, fun i hi => ?_⟩⟩
  obtain ⟨v1, v2, k1, k2, k3⟩ := h2 i hi hi
  refine ⟨v1, v2, ?_, ?_, k3.ent (hm.2 _ (List.getElem_mem hi))⟩
  · rw [Nat.zero_add, Nat.mul_comm]; exact own_cell h1 k1
  · rw [Nat.zero_add, Nat.mul_comm]; exact own_cell h1 k2
theorem LE.marks {w : World} {N : Nat} {x : EN} {v1 v2 : Value} (h : LE w N x v1 v2) : ∃ gp cp ge ce, v1 = .slice (some ⟨gp, 0, none⟩) x.pts.length cp ∧ v2 = .slice (some ⟨ge, 0, none⟩) x.els.length ce ∧ x.pts.length + 1 ≤ cp ∧ x.els.length + 1 ≤ ce ∧ w.cell? ⟨gp, x.pts.length, none⟩ = some (.int .i64 (-77)) ∧ w.cell? ⟨ge, x.els.length * 4 + 1, none⟩ = some (.int .i64 (-77)) := by
  obtain ⟨gp, cp, ge, ce, e1, e2, h1, h2⟩ := h
  refine ⟨gp, cp, ge, ce, e1, e2, (own_cap h1).1, (own_cap h2).1, own_cell h1 ?_, own_cell h2 ?_⟩
  · rw [List.getElem?_append_right (by rw [intCells_len]; exact Nat.le_refl _), intCells_len, Nat.sub_self]; rfl
  · rw [List.getElem?_append_right (by rw [elsCells_len]; omega), elsCells_len, show x.els.length * 4 + 1 - x.els.length * 4 = 1 by omega]; rfl
end Go.Proofs.YthcjcdchmdgnjaaGreatDoor
