/-
  ref04.Print: the text of marks, or why there is none.
-/
import Derived.Test.YtccaaniepeohbaaGreatDoorKAE
namespace Go.Proofs.YtccaaniepeohbaaGreatDoor
open Go.RowKit Go.WideShapes
set_option linter.unusedVariables false
set_option linter.unusedSimpArgs false
/-- What comes back. -/
def PrtPost (l : List MK) (w : World) (e : Ending) (w' : World) : Prop := e = .returned (.tuple #[.string (txt (ucdOut l)), .int .i64 (ucdWhy l)]) ∧ Below w.heap.size w w'
theorem PrtPost.of {l : List MK} {w w' : World} {s : ByteArray} {c : Int} (h : c = ucdWhy l) (h2 : s = txt (ucdOut l)) (hb : Below w.heap.size w w') : PrtPost l w (.returned (.tuple #[.string s, .int .i64 c])) w' := ⟨by rw [h, h2], hb⟩
theorem head_long {l : List MK} {k : Nat} (hk : k < l.length) (h : 65536 < (ucdHead l (k + 1)).length) : 65536 < (ucdText l).length := Nat.lt_of_lt_of_le h (ucdHead_mono (by omega))
theorem text_in {l : List MK} {k : Nat} (hk : k < l.length) : l[k].text.length ≤ (ucdHead l (k + 1)).length := by
  cases k with
  | zero => rw [ucdHead_one hk]; exact Nat.le_refl _
  | succ j => rw [ucdHead_succ (by omega) hk, List.length_append]; omega
theorem parts_long {l : List MK} {k : Nat} (hk : k < l.length) (hm : l[k].may = true) (h : 65537 < 5 * l[k].parts.length) : 65536 < (ucdText l).length := by
  refine head_long hk (Nat.lt_of_lt_of_le ?_ (text_in hk))
  have h1 := (head_len hm).1
  have h2 := pts_ge l[k].parts
  unfold MK.text
  rw [List.length_append]
  omega
set_option maxRecDepth 100000 in
set_option maxHeartbeats 8000000 in
theorem refPrint_any (l : List MK) (A : Option Addr) (c : Nat) (w : World) (h : MarksAt w w.heap.size l A) (hc : l.length ≤ 140737488351232) (hlc : l.length ≤ c) :
    Calls Tryz.prog 8 #[.slice A l.length c] w (PrtPost l w) := by
  have HL := Lib.hid h
  have HB0 := Lib.hid (Below.refl w.heap.size w)
  have HM := Lib.hid refMay_any
  have HT := Lib.hid refMText_any
  by_cases hmany : 4096 < l.length
  · have hmI : (4096 : Int) < (l.length : Int) := by omega
    have HR := Lib.hid (why_many hmany)
    clear h hmany
    go_enter Tryz.func8, Tryz.ntmps8
    go_wp2_with fail
    go_ret2
    exact .of HR.out.1.symm (by rw [HR.out.2]; rfl) HB0.out
  · have hmI : ¬ (4096 : Int) < (l.length : Int) := by omega
    have HF := Lib.hid hmany
    have hmn : l.length ≤ 4096 := by omega
    clear h hmany
    go_enter Tryz.func8, Tryz.ntmps8
    go_wp2_with fail
    go_loopw [4] (fun i wr => ∃ (k : Nat), i = .int .i64 k ∧ k ≤ l.length ∧ Hid ((List.range k).all (mkMay l) = true) ∧ Hid (Below w.heap.size w wr)) (fun i _ => l.length - (intOf i).toNat)
    case atStart => exact ⟨0, rfl, by omega, Lib.hid rfl, HB0⟩
    case round =>
      clear HB0
      obtain ⟨k, rfl, hk, HA, HB⟩ := hrel
      have hwz := HB.out.size
      by_cases hlt : k < l.length
      · obtain ⟨b, o, rfl⟩ := HL.out.some_ (by omega)
        obtain ⟨hbl, v1, g1, g2, g3, hent⟩ := (HL.out.below HB.out).at_ hlt
        have hltI : (k : Int) < (l.length : Int) := by omega
        have HE := Lib.hid (hent.more hwz)
        have hone := hent.one
        have HM' := Lib.hid (fun W (hb : Below wr.heap.size wr W) => HM.out l[k] v1 W ((HE.out.below hb).more hb.size))
        have HN := Lib.hid (mk_not hlt)
        clear hent
        cases hm : l[k].may with
        | false =>
          have HR := Lib.hid (why_bad HF.out hlt (HN.out hm))
          rw [hm] at HM'
          obtain ⟨X, hX⟩ : ∃ X, X = l[k].pt := ⟨_, rfl⟩
          obtain ⟨Y, hY⟩ : ∃ Y, Y = l[k].cls := ⟨_, rfl⟩
          rw [← hX] at g1 HM'
          rw [← hY] at g2 HM'
          clear hX hY
          have HK := Lib.hid (fun W (hb : Below wr.heap.size wr W) => (⟨hb, (hb.cell (by simp only; omega)).trans g1, (hb.cell (by simp only; omega)).trans g2, (hb.cell (by simp only; omega)).trans g3⟩ : Below wr.heap.size wr W ∧ W.cell? ⟨b, o + k * 3, none⟩ = some (.int .i64 X) ∧ W.cell? ⟨b, o + k * 3 + 1, none⟩ = some (.int .i64 Y) ∧ W.cell? ⟨b, o + k * 3 + 2, none⟩ = some v1))
          clear hm
          go_wp2_with fail
          refine wp_region_noPanic ?_
          refine wp_region_held_drew (S := fun W => Below wr.heap.size wr W ∧ W.cell? ⟨b, o + k * 3, none⟩ = some (.int .i64 X) ∧ W.cell? ⟨b, o + k * 3 + 1, none⟩ = some (.int .i64 Y) ∧ W.cell? ⟨b, o + k * 3 + 2, none⟩ = some v1) (by kernel_rfl) (HK.out _ (Below.refl _ _).drew) (fun hHeld0 => ?_)
          (try simp only [Act.put, List.setIfInBounds_toArray, List.set_cons_zero, List.set_cons_succ])
          refine wpAnyH_take (i := 0) (oi := ?_) (v := ?_) ?_ (by kernel_rfl) (by kernel_rfl) (by kernel_rfl) (fun _ _ _ h => h) (Or.inl ⟨?_, ?_⟩) hHeld0 ?_
          rotate_left 2
          · (simp only [List.getElem?_toArray, List.getElem?_cons_zero]; rfl)
          · rfl
          · (intro w hSw; (try dsimp only at hSw); go_simp; (try with_reducible rfl))
          (try simp only [Act.put, List.setIfInBounds_toArray, List.set_cons_zero, List.set_cons_succ])
          refine wpAnyH_take (i := 1) (oi := ?_) (v := ?_) ?_ (by kernel_rfl) (by kernel_rfl) (by kernel_rfl) (fun _ _ _ h => h) (Or.inl ⟨?_, ?_⟩) hHeld0 ?_
          rotate_left 2
          · (simp only [List.getElem?_toArray, List.getElem?_cons_succ, List.getElem?_cons_zero]; rfl)
          · rfl
          · (intro w hSw; (try dsimp only at hSw); go_simp; (try with_reducible rfl))
          (try simp only [Act.put, List.setIfInBounds_toArray, List.set_cons_zero, List.set_cons_succ])
          refine wpAnyH_take (i := 2) (oi := ?_) (v := ?_) ?_ (by kernel_rfl) (by kernel_rfl) (by kernel_rfl) (fun _ _ _ h => h) (Or.inl ⟨?_, ?_⟩) hHeld0 ?_
          rotate_left 2
          · (simp only [List.getElem?_toArray, List.getElem?_cons_succ, List.getElem?_cons_zero]; rfl)
          · rfl
          · (intro w hSw; (try dsimp only at hSw); go_simp; (try with_reducible rfl))
          (try simp only [Act.put, List.setIfInBounds_toArray, List.set_cons_zero, List.set_cons_succ])
          refine wpAnyH_take (i := 3) (oi := ?_) (v := ?_) ?_ (by kernel_rfl) (by kernel_rfl) (by kernel_rfl) (fun _ _ _ h => h) (Or.inl ⟨?_, ?_⟩) hHeld0 ?_
          rotate_left 2
          · (simp only [List.getElem?_toArray, List.getElem?_cons_succ, List.getElem?_cons_zero]; rfl)
          · rfl
          · (intro w hSw; (try dsimp only at hSw); go_simp; (try with_reducible rfl))
          (try simp only [Act.put, List.setIfInBounds_toArray, List.set_cons_zero, List.set_cons_succ])
          refine wpAnyH_ready (rs := [4]) (by kernel_rfl) (by simp) ?_
          refine AllReadyH.cons (by rfl) (fun K hK => ?_) AllReadyH.nil
          go_simp
          go_at_call 20
          refine (HM'.out _ (by first | exact Below.refl _ _ | exact (Below.refl _ _).drew)).mono ?_
          rintro e w2 ⟨rfl, hb2⟩
          have hS2 := HK.out w2 ((Below.refl wr.heap.size wr).drew.trans hb2)
          clear hb2
          refine hK.out _ _ (hS2) (fun hHeld1 => ?_)
          clear hK K
          (try simp only [Act.put, List.setIfInBounds_toArray, List.set_cons_zero, List.set_cons_succ])
          refine wpAnyH_take (i := 5) (oi := ?_) (v := ?_) ?_ (by kernel_rfl) (by kernel_rfl) (by kernel_rfl) (fun _ _ _ h => h) (Or.inl ⟨?_, ?_⟩) hHeld1 ?_
          rotate_left 2
          · (simp only [List.getElem?_toArray, List.getElem?_cons_succ, List.getElem?_cons_zero]; rfl)
          · rfl
          · (intro w hSw; (try dsimp only at hSw); go_simp; (try with_reducible rfl))
          (try simp only [Act.put, List.setIfInBounds_toArray, List.set_cons_zero, List.set_cons_succ])
          refine wpAnyH_take (i := 6) (oi := ?_) (v := ?_) ?_ (by kernel_rfl) (by kernel_rfl) (by kernel_rfl) (fun _ _ _ h => h) (Or.inl ⟨?_, ?_⟩) hHeld1 ?_
          rotate_left 2
          · (simp only [List.getElem?_toArray, List.getElem?_cons_succ, List.getElem?_cons_zero]; rfl)
          · rfl
          · (intro w hSw; (try dsimp only at hSw); go_simp; (try with_reducible rfl))
          (try simp only [Act.put, List.setIfInBounds_toArray, List.set_cons_zero, List.set_cons_succ])
          refine wpAnyH_take (i := 7) (oi := ?_) (v := undef) ?_ (by kernel_rfl) (by kernel_rfl) (by kernel_rfl) (fun _ _ _ h => h) (Or.inr ⟨?_, rfl⟩) hHeld1 ?_
          rotate_left 1
          · (simp only [List.getElem?_toArray, List.getElem?_cons_succ, List.getElem?_cons_zero]; rfl)
          · rfl
          (try simp only [Act.put, List.setIfInBounds_toArray, List.set_cons_zero, List.set_cons_succ])
          refine wpAnyH_take (i := 8) (oi := ?_) (v := undef) ?_ (by kernel_rfl) (by kernel_rfl) (by kernel_rfl) (fun _ _ _ h => h) (Or.inr ⟨?_, rfl⟩) hHeld1 ?_
          rotate_left 1
          · (simp only [List.getElem?_toArray, List.getElem?_cons_succ, List.getElem?_cons_zero]; rfl)
          · rfl
          (try simp only [Act.put, List.setIfInBounds_toArray, List.set_cons_zero, List.set_cons_succ])
          refine wpAnyH_take (i := 9) (oi := ?_) (v := undef) ?_ (by kernel_rfl) (by kernel_rfl) (by kernel_rfl) (fun _ _ _ h => h) (Or.inr ⟨?_, rfl⟩) hHeld1 ?_
          rotate_left 1
          · (simp only [List.getElem?_toArray, List.getElem?_cons_succ, List.getElem?_cons_zero]; rfl)
          · rfl
          (try simp only [Act.put, List.setIfInBounds_toArray, List.set_cons_zero, List.set_cons_succ])
          refine wpAnyH_take (i := 10) (oi := ?_) (v := undef) ?_ (by kernel_rfl) (by kernel_rfl) (by kernel_rfl) (fun _ _ _ h => h) (Or.inr ⟨?_, rfl⟩) hHeld1 ?_
          rotate_left 1
          · (simp only [List.getElem?_toArray, List.getElem?_cons_succ, List.getElem?_cons_zero]; rfl)
          · rfl
          (try simp only [Act.put, List.setIfInBounds_toArray, List.set_cons_zero, List.set_cons_succ])
          refine wpAnyH_take (i := 11) (oi := ?_) (v := undef) ?_ (by kernel_rfl) (by kernel_rfl) (by kernel_rfl) (fun _ _ _ h => h) (Or.inr ⟨?_, rfl⟩) hHeld1 ?_
          rotate_left 1
          · (simp only [List.getElem?_toArray, List.getElem?_cons_succ, List.getElem?_cons_zero]; rfl)
          · rfl
          (try simp only [Act.put, List.setIfInBounds_toArray, List.set_cons_zero, List.set_cons_succ])
          refine wpAnyH_take (i := 12) (oi := ?_) (v := undef) ?_ (by kernel_rfl) (by kernel_rfl) (by kernel_rfl) (fun _ _ _ h => h) (Or.inr ⟨?_, rfl⟩) hHeld1 ?_
          rotate_left 1
          · (simp only [List.getElem?_toArray, List.getElem?_cons_succ, List.getElem?_cons_zero]; rfl)
          · rfl
          (try simp only [Act.put, List.setIfInBounds_toArray, List.set_cons_zero, List.set_cons_succ])
          refine wpAnyH_take (i := 13) (oi := ?_) (v := undef) ?_ (by kernel_rfl) (by kernel_rfl) (by kernel_rfl) (fun _ _ _ h => h) (Or.inr ⟨?_, rfl⟩) hHeld1 ?_
          rotate_left 1
          · (simp only [List.getElem?_toArray, List.getElem?_cons_succ, List.getElem?_cons_zero]; rfl)
          · rfl
          (try simp only [Act.put, List.setIfInBounds_toArray, List.set_cons_zero, List.set_cons_succ])
          refine wpAnyH_take (i := 14) (oi := ?_) (v := undef) ?_ (by kernel_rfl) (by kernel_rfl) (by kernel_rfl) (fun _ _ _ h => h) (Or.inr ⟨?_, rfl⟩) hHeld1 ?_
          rotate_left 1
          · (simp only [List.getElem?_toArray, List.getElem?_cons_succ, List.getElem?_cons_zero]; rfl)
          · rfl
          (try simp only [Act.put, List.setIfInBounds_toArray, List.set_cons_zero, List.set_cons_succ])
          refine wpAnyH_take (i := 15) (oi := ?_) (v := undef) ?_ (by kernel_rfl) (by kernel_rfl) (by kernel_rfl) (fun _ _ _ h => h) (Or.inr ⟨?_, rfl⟩) hHeld1 ?_
          rotate_left 1
          · (simp only [List.getElem?_toArray, List.getElem?_cons_succ, List.getElem?_cons_zero]; rfl)
          · rfl
          (try simp only [Act.put, List.setIfInBounds_toArray, List.set_cons_zero, List.set_cons_succ])
          refine wpAnyH_take (i := 16) (oi := ?_) (v := undef) ?_ (by kernel_rfl) (by kernel_rfl) (by kernel_rfl) (fun _ _ _ h => h) (Or.inr ⟨?_, rfl⟩) hHeld1 ?_
          rotate_left 1
          · (simp only [List.getElem?_toArray, List.getElem?_cons_succ, List.getElem?_cons_zero]; rfl)
          · rfl
          (try simp only [Act.put, List.setIfInBounds_toArray, List.set_cons_zero, List.set_cons_succ])
          refine wpAnyH_take (i := 17) (oi := ?_) (v := undef) ?_ (by kernel_rfl) (by kernel_rfl) (by kernel_rfl) (fun _ _ _ h => h) (Or.inr ⟨?_, rfl⟩) hHeld1 ?_
          rotate_left 1
          · (simp only [List.getElem?_toArray, List.getElem?_cons_succ, List.getElem?_cons_zero]; rfl)
          · rfl
          (try simp only [Act.put, List.setIfInBounds_toArray, List.set_cons_zero, List.set_cons_succ])
          refine wpAnyH_take (i := 18) (oi := ?_) (v := undef) ?_ (by kernel_rfl) (by kernel_rfl) (by kernel_rfl) (fun _ _ _ h => h) (Or.inr ⟨?_, rfl⟩) hHeld1 ?_
          rotate_left 1
          · (simp only [List.getElem?_toArray, List.getElem?_cons_succ, List.getElem?_cons_zero]; rfl)
          · rfl
          (try simp only [Act.put, List.setIfInBounds_toArray, List.set_cons_zero, List.set_cons_succ])
          refine wpAnyH_take (i := 19) (oi := ?_) (v := undef) ?_ (by kernel_rfl) (by kernel_rfl) (by kernel_rfl) (fun _ _ _ h => h) (Or.inr ⟨?_, rfl⟩) hHeld1 ?_
          rotate_left 1
          · (simp only [List.getElem?_toArray, List.getElem?_cons_succ, List.getElem?_cons_zero]; rfl)
          · rfl
          (try simp only [Act.put, List.setIfInBounds_toArray, List.set_cons_zero, List.set_cons_succ])
          refine wpAnyH_take (i := 20) (oi := ?_) (v := undef) ?_ (by kernel_rfl) (by kernel_rfl) (by kernel_rfl) (fun _ _ _ h => h) (Or.inr ⟨?_, rfl⟩) hHeld1 ?_
          rotate_left 1
          · (simp only [List.getElem?_toArray, List.getElem?_cons_succ, List.getElem?_cons_zero]; rfl)
          · rfl
          (try simp only [Act.put, List.setIfInBounds_toArray, List.set_cons_zero, List.set_cons_succ])
          refine wpAnyH_take (i := 21) (oi := ?_) (v := undef) ?_ (by kernel_rfl) (by kernel_rfl) (by kernel_rfl) (fun _ _ _ h => h) (Or.inr ⟨?_, rfl⟩) hHeld1 ?_
          rotate_left 1
          · (simp only [List.getElem?_toArray, List.getElem?_cons_succ, List.getElem?_cons_zero]; rfl)
          · rfl
          (try simp only [Act.put, List.setIfInBounds_toArray, List.set_cons_zero, List.set_cons_succ])
          refine wpAnyH_take (i := 22) (oi := ?_) (v := undef) ?_ (by kernel_rfl) (by kernel_rfl) (by kernel_rfl) (fun _ _ _ h => h) (Or.inr ⟨?_, rfl⟩) hHeld1 ?_
          rotate_left 1
          · (simp only [List.getElem?_toArray, List.getElem?_cons_succ, List.getElem?_cons_zero]; rfl)
          · rfl
          (try simp only [Act.put, List.setIfInBounds_toArray, List.set_cons_zero, List.set_cons_succ])
          refine wpAnyH_take (i := 23) (oi := ?_) (v := ?_) ?_ (by kernel_rfl) (by kernel_rfl) (by kernel_rfl) (fun _ _ _ h => h) (Or.inl ⟨?_, ?_⟩) hHeld1 ?_
          rotate_left 2
          · (simp only [List.getElem?_toArray, List.getElem?_cons_succ, List.getElem?_cons_zero]; rfl)
          · rfl
          · (intro w hSw; (try dsimp only at hSw); go_simp; (try with_reducible rfl))
          (try simp only [Act.put, List.setIfInBounds_toArray, List.set_cons_zero, List.set_cons_succ])
          refine wpAnyH_done (by kernel_rfl) ?_ _
          refine NoPanic.normal ?_
          go_wp2_with fail
          go_ret2
          exact .of HR.out.1.symm (by rw [HR.out.2]; rfl) (HB.out.trans (hS2.1.mono hwz))
        | true =>
          rw [hm] at HM'
          cases k with
          | zero =>
            rw [Nat.zero_mul, Nat.add_zero] at g1 g2 g3
            have HP := Lib.hid (show mkMay l 0 = true by rw [mkMay_zero hlt]; exact hm)
            obtain ⟨X, hX⟩ : ∃ X, X = l[0].pt := ⟨_, rfl⟩
            obtain ⟨Y, hY⟩ : ∃ Y, Y = l[0].cls := ⟨_, rfl⟩
            rw [← hX] at g1 HM'
            rw [← hY] at g2 HM'
            clear hX hY
            have HK := Lib.hid (fun W (hb : Below wr.heap.size wr W) => (⟨hb, (hb.cell (by simp only; omega)).trans g1, (hb.cell (by simp only; omega)).trans g2, (hb.cell (by simp only; omega)).trans g3⟩ : Below wr.heap.size wr W ∧ W.cell? ⟨b, o, none⟩ = some (.int .i64 X) ∧ W.cell? ⟨b, o + 1, none⟩ = some (.int .i64 Y) ∧ W.cell? ⟨b, o + 2, none⟩ = some v1))
            clear hm
            go_wp2_with fail
            refine wp_region_noPanic ?_
            refine wp_region_held_drew (S := fun W => Below wr.heap.size wr W ∧ W.cell? ⟨b, o, none⟩ = some (.int .i64 X) ∧ W.cell? ⟨b, o + 1, none⟩ = some (.int .i64 Y) ∧ W.cell? ⟨b, o + 2, none⟩ = some v1) (by kernel_rfl) (HK.out _ (Below.refl _ _).drew) (fun hHeld0 => ?_)
            (try simp only [Act.put, List.setIfInBounds_toArray, List.set_cons_zero, List.set_cons_succ])
            refine wpAnyH_take (i := 0) (oi := ?_) (v := ?_) ?_ (by kernel_rfl) (by kernel_rfl) (by kernel_rfl) (fun _ _ _ h => h) (Or.inl ⟨?_, ?_⟩) hHeld0 ?_
            rotate_left 2
            · (simp only [List.getElem?_toArray, List.getElem?_cons_zero]; rfl)
            · rfl
            · (intro w hSw; (try dsimp only at hSw); go_simp; (try with_reducible rfl))
            (try simp only [Act.put, List.setIfInBounds_toArray, List.set_cons_zero, List.set_cons_succ])
            refine wpAnyH_take (i := 1) (oi := ?_) (v := ?_) ?_ (by kernel_rfl) (by kernel_rfl) (by kernel_rfl) (fun _ _ _ h => h) (Or.inl ⟨?_, ?_⟩) hHeld0 ?_
            rotate_left 2
            · (simp only [List.getElem?_toArray, List.getElem?_cons_succ, List.getElem?_cons_zero]; rfl)
            · rfl
            · (intro w hSw; (try dsimp only at hSw); go_simp; (try with_reducible rfl))
            (try simp only [Act.put, List.setIfInBounds_toArray, List.set_cons_zero, List.set_cons_succ])
            refine wpAnyH_take (i := 2) (oi := ?_) (v := ?_) ?_ (by kernel_rfl) (by kernel_rfl) (by kernel_rfl) (fun _ _ _ h => h) (Or.inl ⟨?_, ?_⟩) hHeld0 ?_
            rotate_left 2
            · (simp only [List.getElem?_toArray, List.getElem?_cons_succ, List.getElem?_cons_zero]; rfl)
            · rfl
            · (intro w hSw; (try dsimp only at hSw); go_simp; (try with_reducible rfl))
            (try simp only [Act.put, List.setIfInBounds_toArray, List.set_cons_zero, List.set_cons_succ])
            refine wpAnyH_take (i := 3) (oi := ?_) (v := ?_) ?_ (by kernel_rfl) (by kernel_rfl) (by kernel_rfl) (fun _ _ _ h => h) (Or.inl ⟨?_, ?_⟩) hHeld0 ?_
            rotate_left 2
            · (simp only [List.getElem?_toArray, List.getElem?_cons_succ, List.getElem?_cons_zero]; rfl)
            · rfl
            · (intro w hSw; (try dsimp only at hSw); go_simp; (try with_reducible rfl))
            (try simp only [Act.put, List.setIfInBounds_toArray, List.set_cons_zero, List.set_cons_succ])
            refine wpAnyH_ready (rs := [4]) (by kernel_rfl) (by simp) ?_
            refine AllReadyH.cons (by rfl) (fun K hK => ?_) AllReadyH.nil
            go_simp
            go_at_call 20
            refine (HM'.out _ (by first | exact Below.refl _ _ | exact (Below.refl _ _).drew)).mono ?_
            rintro e w2 ⟨rfl, hb2⟩
            have hS2 := HK.out w2 ((Below.refl wr.heap.size wr).drew.trans hb2)
            clear hb2
            refine hK.out _ _ (hS2) (fun hHeld1 => ?_)
            clear hK K
            (try simp only [Act.put, List.setIfInBounds_toArray, List.set_cons_zero, List.set_cons_succ])
            refine wpAnyH_take (i := 5) (oi := ?_) (v := ?_) ?_ (by kernel_rfl) (by kernel_rfl) (by kernel_rfl) (fun _ _ _ h => h) (Or.inl ⟨?_, ?_⟩) hHeld1 ?_
            rotate_left 2
            · (simp only [List.getElem?_toArray, List.getElem?_cons_succ, List.getElem?_cons_zero]; rfl)
            · rfl
            · (intro w hSw; (try dsimp only at hSw); go_simp; (try with_reducible rfl))
            (try simp only [Act.put, List.setIfInBounds_toArray, List.set_cons_zero, List.set_cons_succ])
            refine wpAnyH_take (i := 6) (oi := ?_) (v := ?_) ?_ (by kernel_rfl) (by kernel_rfl) (by kernel_rfl) (fun _ _ _ h => h) (Or.inl ⟨?_, ?_⟩) hHeld1 ?_
            rotate_left 2
            · (simp only [List.getElem?_toArray, List.getElem?_cons_succ, List.getElem?_cons_zero]; rfl)
            · rfl
            · (intro w hSw; (try dsimp only at hSw); go_simp; (try with_reducible rfl))
            (try simp only [Act.put, List.setIfInBounds_toArray, List.set_cons_zero, List.set_cons_succ])
            refine wpAnyH_take (i := 7) (oi := ?_) (v := ?_) ?_ (by kernel_rfl) (by kernel_rfl) (by kernel_rfl) (fun _ _ _ h => h) (Or.inl ⟨?_, ?_⟩) hHeld1 ?_
            rotate_left 2
            · (simp only [List.getElem?_toArray, List.getElem?_cons_succ, List.getElem?_cons_zero]; rfl)
            · rfl
            · (intro w hSw; (try dsimp only at hSw); go_simp; (try with_reducible rfl))
            (try simp only [Act.put, List.setIfInBounds_toArray, List.set_cons_zero, List.set_cons_succ])
            refine wpAnyH_take (i := 8) (oi := ?_) (v := ?_) ?_ (by kernel_rfl) (by kernel_rfl) (by kernel_rfl) (fun _ _ _ h => h) (Or.inl ⟨?_, ?_⟩) hHeld1 ?_
            rotate_left 2
            · (simp only [List.getElem?_toArray, List.getElem?_cons_succ, List.getElem?_cons_zero]; rfl)
            · rfl
            · (intro w hSw; (try dsimp only at hSw); go_simp; (try with_reducible rfl))
            (try simp only [Act.put, List.setIfInBounds_toArray, List.set_cons_zero, List.set_cons_succ])
            refine wpAnyH_take (i := 9) (oi := ?_) (v := ?_) ?_ (by kernel_rfl) (by kernel_rfl) (by kernel_rfl) (fun _ _ _ h => h) (Or.inl ⟨?_, ?_⟩) hHeld1 ?_
            rotate_left 2
            · (simp only [List.getElem?_toArray, List.getElem?_cons_succ, List.getElem?_cons_zero]; rfl)
            · rfl
            · (intro w hSw; (try dsimp only at hSw); go_simp; (try with_reducible rfl))
            (try simp only [Act.put, List.setIfInBounds_toArray, List.set_cons_zero, List.set_cons_succ])
            refine wpAnyH_take (i := 10) (oi := ?_) (v := undef) ?_ (by kernel_rfl) (by kernel_rfl) (by kernel_rfl) (fun _ _ _ h => h) (Or.inr ⟨?_, rfl⟩) hHeld1 ?_
            rotate_left 1
            · (simp only [List.getElem?_toArray, List.getElem?_cons_succ, List.getElem?_cons_zero]; rfl)
            · rfl
            (try simp only [Act.put, List.setIfInBounds_toArray, List.set_cons_zero, List.set_cons_succ])
            refine wpAnyH_take (i := 11) (oi := ?_) (v := undef) ?_ (by kernel_rfl) (by kernel_rfl) (by kernel_rfl) (fun _ _ _ h => h) (Or.inr ⟨?_, rfl⟩) hHeld1 ?_
            rotate_left 1
            · (simp only [List.getElem?_toArray, List.getElem?_cons_succ, List.getElem?_cons_zero]; rfl)
            · rfl
            (try simp only [Act.put, List.setIfInBounds_toArray, List.set_cons_zero, List.set_cons_succ])
            refine wpAnyH_take (i := 12) (oi := ?_) (v := undef) ?_ (by kernel_rfl) (by kernel_rfl) (by kernel_rfl) (fun _ _ _ h => h) (Or.inr ⟨?_, rfl⟩) hHeld1 ?_
            rotate_left 1
            · (simp only [List.getElem?_toArray, List.getElem?_cons_succ, List.getElem?_cons_zero]; rfl)
            · rfl
            (try simp only [Act.put, List.setIfInBounds_toArray, List.set_cons_zero, List.set_cons_succ])
            refine wpAnyH_take (i := 13) (oi := ?_) (v := undef) ?_ (by kernel_rfl) (by kernel_rfl) (by kernel_rfl) (fun _ _ _ h => h) (Or.inr ⟨?_, rfl⟩) hHeld1 ?_
            rotate_left 1
            · (simp only [List.getElem?_toArray, List.getElem?_cons_succ, List.getElem?_cons_zero]; rfl)
            · rfl
            (try simp only [Act.put, List.setIfInBounds_toArray, List.set_cons_zero, List.set_cons_succ])
            refine wpAnyH_take (i := 14) (oi := ?_) (v := undef) ?_ (by kernel_rfl) (by kernel_rfl) (by kernel_rfl) (fun _ _ _ h => h) (Or.inr ⟨?_, rfl⟩) hHeld1 ?_
            rotate_left 1
            · (simp only [List.getElem?_toArray, List.getElem?_cons_succ, List.getElem?_cons_zero]; rfl)
            · rfl
            (try simp only [Act.put, List.setIfInBounds_toArray, List.set_cons_zero, List.set_cons_succ])
            refine wpAnyH_take (i := 15) (oi := ?_) (v := undef) ?_ (by kernel_rfl) (by kernel_rfl) (by kernel_rfl) (fun _ _ _ h => h) (Or.inr ⟨?_, rfl⟩) hHeld1 ?_
            rotate_left 1
            · (simp only [List.getElem?_toArray, List.getElem?_cons_succ, List.getElem?_cons_zero]; rfl)
            · rfl
            (try simp only [Act.put, List.setIfInBounds_toArray, List.set_cons_zero, List.set_cons_succ])
            refine wpAnyH_take (i := 16) (oi := ?_) (v := undef) ?_ (by kernel_rfl) (by kernel_rfl) (by kernel_rfl) (fun _ _ _ h => h) (Or.inr ⟨?_, rfl⟩) hHeld1 ?_
            rotate_left 1
            · (simp only [List.getElem?_toArray, List.getElem?_cons_succ, List.getElem?_cons_zero]; rfl)
            · rfl
            (try simp only [Act.put, List.setIfInBounds_toArray, List.set_cons_zero, List.set_cons_succ])
            refine wpAnyH_take (i := 17) (oi := ?_) (v := undef) ?_ (by kernel_rfl) (by kernel_rfl) (by kernel_rfl) (fun _ _ _ h => h) (Or.inr ⟨?_, rfl⟩) hHeld1 ?_
            rotate_left 1
            · (simp only [List.getElem?_toArray, List.getElem?_cons_succ, List.getElem?_cons_zero]; rfl)
            · rfl
            (try simp only [Act.put, List.setIfInBounds_toArray, List.set_cons_zero, List.set_cons_succ])
            refine wpAnyH_take (i := 18) (oi := ?_) (v := undef) ?_ (by kernel_rfl) (by kernel_rfl) (by kernel_rfl) (fun _ _ _ h => h) (Or.inr ⟨?_, rfl⟩) hHeld1 ?_
            rotate_left 1
            · (simp only [List.getElem?_toArray, List.getElem?_cons_succ, List.getElem?_cons_zero]; rfl)
            · rfl
            (try simp only [Act.put, List.setIfInBounds_toArray, List.set_cons_zero, List.set_cons_succ])
            refine wpAnyH_take (i := 19) (oi := ?_) (v := undef) ?_ (by kernel_rfl) (by kernel_rfl) (by kernel_rfl) (fun _ _ _ h => h) (Or.inr ⟨?_, rfl⟩) hHeld1 ?_
            rotate_left 1
            · (simp only [List.getElem?_toArray, List.getElem?_cons_succ, List.getElem?_cons_zero]; rfl)
            · rfl
            (try simp only [Act.put, List.setIfInBounds_toArray, List.set_cons_zero, List.set_cons_succ])
            refine wpAnyH_take (i := 20) (oi := ?_) (v := undef) ?_ (by kernel_rfl) (by kernel_rfl) (by kernel_rfl) (fun _ _ _ h => h) (Or.inr ⟨?_, rfl⟩) hHeld1 ?_
            rotate_left 1
            · (simp only [List.getElem?_toArray, List.getElem?_cons_succ, List.getElem?_cons_zero]; rfl)
            · rfl
            (try simp only [Act.put, List.setIfInBounds_toArray, List.set_cons_zero, List.set_cons_succ])
            refine wpAnyH_take (i := 21) (oi := ?_) (v := undef) ?_ (by kernel_rfl) (by kernel_rfl) (by kernel_rfl) (fun _ _ _ h => h) (Or.inr ⟨?_, rfl⟩) hHeld1 ?_
            rotate_left 1
            · (simp only [List.getElem?_toArray, List.getElem?_cons_succ, List.getElem?_cons_zero]; rfl)
            · rfl
            (try simp only [Act.put, List.setIfInBounds_toArray, List.set_cons_zero, List.set_cons_succ])
            refine wpAnyH_take (i := 22) (oi := ?_) (v := ?_) ?_ (by kernel_rfl) (by kernel_rfl) (by kernel_rfl) (fun _ _ _ h => h) (Or.inl ⟨?_, ?_⟩) hHeld1 ?_
            rotate_left 2
            · (simp only [List.getElem?_toArray, List.getElem?_cons_succ, List.getElem?_cons_zero]; rfl)
            · rfl
            · (intro w hSw; (try dsimp only at hSw); go_simp; (try with_reducible rfl))
            (try simp only [Act.put, List.setIfInBounds_toArray, List.set_cons_zero, List.set_cons_succ])
            refine wpAnyH_take (i := 23) (oi := ?_) (v := ?_) ?_ (by kernel_rfl) (by kernel_rfl) (by kernel_rfl) (fun _ _ _ h => h) (Or.inl ⟨?_, ?_⟩) hHeld1 ?_
            rotate_left 2
            · (simp only [List.getElem?_toArray, List.getElem?_cons_succ, List.getElem?_cons_zero]; rfl)
            · rfl
            · (intro w hSw; (try dsimp only at hSw); go_simp; (try with_reducible rfl))
            (try simp only [Act.put, List.setIfInBounds_toArray, List.set_cons_zero, List.set_cons_succ])
            refine wpAnyH_done (by kernel_rfl) ?_ _
            refine NoPanic.normal ?_
            have HA' := Lib.hid (range_succ HA.out HP.out)
            go_wp2_with fail
            go_roundw
            case rel => exact ⟨1, rfl, by omega, HA', Lib.hid (HB.out.trans (hS2.1.mono hwz))⟩
            case measure => simp [intOf]; omega
          | succ j =>
            have hjt : j < l.length := by omega
            obtain ⟨_, _, f1, _, _, _⟩ := (HL.out.below HB.out).at_ hjt
            have hj0 : (0 : Int) ≤ (j : Int) + 1 := by omega
            have hjw : IntKind.i64.wrap (j : Int) = (j : Int) := by rw [IntKind.wrap_i64]; omega
            have hjI : (j : Int) < (l.length : Int) := by omega
            have hjI2 : (j : Int) + 1 < (l.length : Int) := by omega
            have HP := Lib.hid (show mkMay l (j + 1) = decide (l[j].pt < l[j + 1].pt) by rw [mkMay_succ hlt, hm, Bool.true_and])
            obtain ⟨X, hX⟩ : ∃ X, X = l[j + 1].pt := ⟨_, rfl⟩
            obtain ⟨Y, hY⟩ : ∃ Y, Y = l[j + 1].cls := ⟨_, rfl⟩
            obtain ⟨Z, hZ⟩ : ∃ Z, Z = l[j].pt := ⟨_, rfl⟩
            rw [← hX] at g1 HM' HP
            rw [← hY] at g2 HM'
            rw [← hZ] at f1 HP
            clear hX hY hZ
            have HK := Lib.hid (fun W (hb : Below wr.heap.size wr W) => (⟨hb, (hb.cell (by simp only; omega)).trans g1, (hb.cell (by simp only; omega)).trans g2, (hb.cell (by simp only; omega)).trans g3, (hb.cell (by simp only; omega)).trans f1⟩ : Below wr.heap.size wr W ∧ W.cell? ⟨b, o + (j + 1) * 3, none⟩ = some (.int .i64 X) ∧ W.cell? ⟨b, o + (j + 1) * 3 + 1, none⟩ = some (.int .i64 Y) ∧ W.cell? ⟨b, o + (j + 1) * 3 + 2, none⟩ = some v1 ∧ W.cell? ⟨b, o + j * 3, none⟩ = some (.int .i64 Z)))
            clear hm
            by_cases hneg : Z < X
            · have hge : ¬ X ≤ Z := by omega
              have HA' := Lib.hid (range_succ HA.out (by rw [HP.out]; exact decide_eq_true hneg))
              clear hneg HP
              go_wp2_with fail
              refine wp_region_noPanic ?_
              refine wp_region_held_drew (S := fun W => Below wr.heap.size wr W ∧ W.cell? ⟨b, o + (j + 1) * 3, none⟩ = some (.int .i64 X) ∧ W.cell? ⟨b, o + (j + 1) * 3 + 1, none⟩ = some (.int .i64 Y) ∧ W.cell? ⟨b, o + (j + 1) * 3 + 2, none⟩ = some v1 ∧ W.cell? ⟨b, o + j * 3, none⟩ = some (.int .i64 Z)) (by kernel_rfl) (HK.out _ (Below.refl _ _).drew) (fun hHeld0 => ?_)
              (try simp only [Act.put, List.setIfInBounds_toArray, List.set_cons_zero, List.set_cons_succ])
              refine wpAnyH_take (i := 0) (oi := ?_) (v := ?_) ?_ (by kernel_rfl) (by kernel_rfl) (by kernel_rfl) (fun _ _ _ h => h) (Or.inl ⟨?_, ?_⟩) hHeld0 ?_
              rotate_left 2
              · (simp only [List.getElem?_toArray, List.getElem?_cons_zero]; rfl)
              · rfl
              · (intro w hSw; (try dsimp only at hSw); go_simp; (try with_reducible rfl))
              (try simp only [Act.put, List.setIfInBounds_toArray, List.set_cons_zero, List.set_cons_succ])
              refine wpAnyH_take (i := 1) (oi := ?_) (v := ?_) ?_ (by kernel_rfl) (by kernel_rfl) (by kernel_rfl) (fun _ _ _ h => h) (Or.inl ⟨?_, ?_⟩) hHeld0 ?_
              rotate_left 2
              · (simp only [List.getElem?_toArray, List.getElem?_cons_succ, List.getElem?_cons_zero]; rfl)
              · rfl
              · (intro w hSw; (try dsimp only at hSw); go_simp; (try with_reducible rfl))
              (try simp only [Act.put, List.setIfInBounds_toArray, List.set_cons_zero, List.set_cons_succ])
              refine wpAnyH_take (i := 2) (oi := ?_) (v := ?_) ?_ (by kernel_rfl) (by kernel_rfl) (by kernel_rfl) (fun _ _ _ h => h) (Or.inl ⟨?_, ?_⟩) hHeld0 ?_
              rotate_left 2
              · (simp only [List.getElem?_toArray, List.getElem?_cons_succ, List.getElem?_cons_zero]; rfl)
              · rfl
              · (intro w hSw; (try dsimp only at hSw); go_simp; (try with_reducible rfl))
              (try simp only [Act.put, List.setIfInBounds_toArray, List.set_cons_zero, List.set_cons_succ])
              refine wpAnyH_take (i := 3) (oi := ?_) (v := ?_) ?_ (by kernel_rfl) (by kernel_rfl) (by kernel_rfl) (fun _ _ _ h => h) (Or.inl ⟨?_, ?_⟩) hHeld0 ?_
              rotate_left 2
              · (simp only [List.getElem?_toArray, List.getElem?_cons_succ, List.getElem?_cons_zero]; rfl)
              · rfl
              · (intro w hSw; (try dsimp only at hSw); go_simp; (try with_reducible rfl))
              (try simp only [Act.put, List.setIfInBounds_toArray, List.set_cons_zero, List.set_cons_succ])
              refine wpAnyH_ready (rs := [4]) (by kernel_rfl) (by simp) ?_
              refine AllReadyH.cons (by rfl) (fun K hK => ?_) AllReadyH.nil
              go_simp
              go_at_call 20
              refine (HM'.out _ (by first | exact Below.refl _ _ | exact (Below.refl _ _).drew)).mono ?_
              rintro e w2 ⟨rfl, hb2⟩
              have hS2 := HK.out w2 ((Below.refl wr.heap.size wr).drew.trans hb2)
              clear hb2
              refine hK.out _ _ (hS2) (fun hHeld1 => ?_)
              clear hK K
              (try simp only [Act.put, List.setIfInBounds_toArray, List.set_cons_zero, List.set_cons_succ])
              refine wpAnyH_take (i := 5) (oi := ?_) (v := ?_) ?_ (by kernel_rfl) (by kernel_rfl) (by kernel_rfl) (fun _ _ _ h => h) (Or.inl ⟨?_, ?_⟩) hHeld1 ?_
              rotate_left 2
              · (simp only [List.getElem?_toArray, List.getElem?_cons_succ, List.getElem?_cons_zero]; rfl)
              · rfl
              · (intro w hSw; (try dsimp only at hSw); go_simp; (try with_reducible rfl))
              (try simp only [Act.put, List.setIfInBounds_toArray, List.set_cons_zero, List.set_cons_succ])
              refine wpAnyH_take (i := 6) (oi := ?_) (v := ?_) ?_ (by kernel_rfl) (by kernel_rfl) (by kernel_rfl) (fun _ _ _ h => h) (Or.inl ⟨?_, ?_⟩) hHeld1 ?_
              rotate_left 2
              · (simp only [List.getElem?_toArray, List.getElem?_cons_succ, List.getElem?_cons_zero]; rfl)
              · rfl
              · (intro w hSw; (try dsimp only at hSw); go_simp; (try with_reducible rfl))
              (try simp only [Act.put, List.setIfInBounds_toArray, List.set_cons_zero, List.set_cons_succ])
              refine wpAnyH_take (i := 7) (oi := ?_) (v := ?_) ?_ (by kernel_rfl) (by kernel_rfl) (by kernel_rfl) (fun _ _ _ h => h) (Or.inl ⟨?_, ?_⟩) hHeld1 ?_
              rotate_left 2
              · (simp only [List.getElem?_toArray, List.getElem?_cons_succ, List.getElem?_cons_zero]; rfl)
              · rfl
              · (intro w hSw; (try dsimp only at hSw); go_simp; (try with_reducible rfl))
              (try simp only [Act.put, List.setIfInBounds_toArray, List.set_cons_zero, List.set_cons_succ])
              refine wpAnyH_take (i := 8) (oi := ?_) (v := ?_) ?_ (by kernel_rfl) (by kernel_rfl) (by kernel_rfl) (fun _ _ _ h => h) (Or.inl ⟨?_, ?_⟩) hHeld1 ?_
              rotate_left 2
              · (simp only [List.getElem?_toArray, List.getElem?_cons_succ, List.getElem?_cons_zero]; rfl)
              · rfl
              · (intro w hSw; (try dsimp only at hSw); go_simp; (try with_reducible rfl))
              (try simp only [Act.put, List.setIfInBounds_toArray, List.set_cons_zero, List.set_cons_succ])
              refine wpAnyH_take (i := 9) (oi := ?_) (v := ?_) ?_ (by kernel_rfl) (by kernel_rfl) (by kernel_rfl) (fun _ _ _ h => h) (Or.inl ⟨?_, ?_⟩) hHeld1 ?_
              rotate_left 2
              · (simp only [List.getElem?_toArray, List.getElem?_cons_succ, List.getElem?_cons_zero]; rfl)
              · rfl
              · (intro w hSw; (try dsimp only at hSw); go_simp; (try with_reducible rfl))
              (try simp only [Act.put, List.setIfInBounds_toArray, List.set_cons_zero, List.set_cons_succ])
              refine wpAnyH_take (i := 10) (oi := ?_) (v := ?_) ?_ (by kernel_rfl) (by kernel_rfl) (by kernel_rfl) (fun _ _ _ h => h) (Or.inl ⟨?_, ?_⟩) hHeld1 ?_
              rotate_left 2
              · (simp only [List.getElem?_toArray, List.getElem?_cons_succ, List.getElem?_cons_zero]; rfl)
              · rfl
              · (intro w hSw; (try dsimp only at hSw); go_simp; (try with_reducible rfl))
              (try simp only [Act.put, List.setIfInBounds_toArray, List.set_cons_zero, List.set_cons_succ])
              refine wpAnyH_take (i := 11) (oi := ?_) (v := ?_) ?_ (by kernel_rfl) (by kernel_rfl) (by kernel_rfl) (fun _ _ _ h => h) (Or.inl ⟨?_, ?_⟩) hHeld1 ?_
              rotate_left 2
              · (simp only [List.getElem?_toArray, List.getElem?_cons_succ, List.getElem?_cons_zero]; rfl)
              · rfl
              · (intro w hSw; (try dsimp only at hSw); go_simp; (try with_reducible rfl))
              (try simp only [Act.put, List.setIfInBounds_toArray, List.set_cons_zero, List.set_cons_succ])
              refine wpAnyH_take (i := 12) (oi := ?_) (v := ?_) ?_ (by kernel_rfl) (by kernel_rfl) (by kernel_rfl) (fun _ _ _ h => h) (Or.inl ⟨?_, ?_⟩) hHeld1 ?_
              rotate_left 2
              · (simp only [List.getElem?_toArray, List.getElem?_cons_succ, List.getElem?_cons_zero]; rfl)
              · rfl
              · (intro w hSw; (try dsimp only at hSw); go_simp; (try with_reducible rfl))
              (try simp only [Act.put, List.setIfInBounds_toArray, List.set_cons_zero, List.set_cons_succ])
              refine wpAnyH_take (i := 13) (oi := ?_) (v := ?_) ?_ (by kernel_rfl) (by kernel_rfl) (by kernel_rfl) (fun _ _ _ h => h) (Or.inl ⟨?_, ?_⟩) hHeld1 ?_
              rotate_left 2
              · (simp only [List.getElem?_toArray, List.getElem?_cons_succ, List.getElem?_cons_zero]; rfl)
              · rfl
              · (intro w hSw; (try dsimp only at hSw); go_simp; (try with_reducible rfl))
              (try simp only [Act.put, List.setIfInBounds_toArray, List.set_cons_zero, List.set_cons_succ])
              refine wpAnyH_take (i := 14) (oi := ?_) (v := ?_) ?_ (by kernel_rfl) (by kernel_rfl) (by kernel_rfl) (fun _ _ _ h => h) (Or.inl ⟨?_, ?_⟩) hHeld1 ?_
              rotate_left 2
              · (simp only [List.getElem?_toArray, List.getElem?_cons_succ, List.getElem?_cons_zero]; rfl)
              · rfl
              · (intro w hSw; (try dsimp only at hSw); go_simp; (try with_reducible rfl))
              (try simp only [Act.put, List.setIfInBounds_toArray, List.set_cons_zero, List.set_cons_succ])
              refine wpAnyH_take (i := 15) (oi := ?_) (v := ?_) ?_ (by kernel_rfl) (by kernel_rfl) (by kernel_rfl) (fun _ _ _ h => h) (Or.inl ⟨?_, ?_⟩) hHeld1 ?_
              rotate_left 2
              · (simp only [List.getElem?_toArray, List.getElem?_cons_succ, List.getElem?_cons_zero]; rfl)
              · rfl
              · (intro w hSw; (try dsimp only at hSw); go_simp; (try with_reducible rfl))
              (try simp only [Act.put, List.setIfInBounds_toArray, List.set_cons_zero, List.set_cons_succ])
              refine wpAnyH_take (i := 16) (oi := ?_) (v := ?_) ?_ (by kernel_rfl) (by kernel_rfl) (by kernel_rfl) (fun _ _ _ h => h) (Or.inl ⟨?_, ?_⟩) hHeld1 ?_
              rotate_left 2
              · (simp only [List.getElem?_toArray, List.getElem?_cons_succ, List.getElem?_cons_zero]; rfl)
              · rfl
              · (intro w hSw; (try dsimp only at hSw); go_simp; (try with_reducible rfl))
              (try simp only [Act.put, List.setIfInBounds_toArray, List.set_cons_zero, List.set_cons_succ])
              refine wpAnyH_take (i := 17) (oi := ?_) (v := ?_) ?_ (by kernel_rfl) (by kernel_rfl) (by kernel_rfl) (fun _ _ _ h => h) (Or.inl ⟨?_, ?_⟩) hHeld1 ?_
              rotate_left 2
              · (simp only [List.getElem?_toArray, List.getElem?_cons_succ, List.getElem?_cons_zero]; rfl)
              · rfl
              · (intro w hSw; (try dsimp only at hSw); go_simp; (try with_reducible rfl))
              (try simp only [Act.put, List.setIfInBounds_toArray, List.set_cons_zero, List.set_cons_succ])
              refine wpAnyH_take (i := 18) (oi := ?_) (v := ?_) ?_ (by kernel_rfl) (by kernel_rfl) (by kernel_rfl) (fun _ _ _ h => h) (Or.inl ⟨?_, ?_⟩) hHeld1 ?_
              rotate_left 2
              · (simp only [List.getElem?_toArray, List.getElem?_cons_succ, List.getElem?_cons_zero]; rfl)
              · rfl
              · (intro w hSw; (try dsimp only at hSw); go_simp; (try with_reducible rfl))
              (try simp only [Act.put, List.setIfInBounds_toArray, List.set_cons_zero, List.set_cons_succ])
              refine wpAnyH_take (i := 19) (oi := ?_) (v := ?_) ?_ (by kernel_rfl) (by kernel_rfl) (by kernel_rfl) (fun _ _ _ h => h) (Or.inl ⟨?_, ?_⟩) hHeld1 ?_
              rotate_left 2
              · (simp only [List.getElem?_toArray, List.getElem?_cons_succ, List.getElem?_cons_zero]; rfl)
              · rfl
              · (intro w hSw; (try dsimp only at hSw); go_simp; (try with_reducible rfl))
              (try simp only [Act.put, List.setIfInBounds_toArray, List.set_cons_zero, List.set_cons_succ])
              refine wpAnyH_take (i := 20) (oi := ?_) (v := ?_) ?_ (by kernel_rfl) (by kernel_rfl) (by kernel_rfl) (fun _ _ _ h => h) (Or.inl ⟨?_, ?_⟩) hHeld1 ?_
              rotate_left 2
              · (simp only [List.getElem?_toArray, List.getElem?_cons_succ, List.getElem?_cons_zero]; rfl)
              · rfl
              · (intro w hSw; (try dsimp only at hSw); go_simp; (try with_reducible rfl))
              (try simp only [Act.put, List.setIfInBounds_toArray, List.set_cons_zero, List.set_cons_succ])
              refine wpAnyH_take (i := 21) (oi := ?_) (v := ?_) ?_ (by kernel_rfl) (by kernel_rfl) (by kernel_rfl) (fun _ _ _ h => h) (Or.inl ⟨?_, ?_⟩) hHeld1 ?_
              rotate_left 2
              · (simp only [List.getElem?_toArray, List.getElem?_cons_succ, List.getElem?_cons_zero]; rfl)
              · rfl
              · (intro w hSw; (try dsimp only at hSw); go_simp; (try with_reducible rfl))
              (try simp only [Act.put, List.setIfInBounds_toArray, List.set_cons_zero, List.set_cons_succ])
              refine wpAnyH_take (i := 22) (oi := ?_) (v := ?_) ?_ (by kernel_rfl) (by kernel_rfl) (by kernel_rfl) (fun _ _ _ h => h) (Or.inl ⟨?_, ?_⟩) hHeld1 ?_
              rotate_left 2
              · (simp only [List.getElem?_toArray, List.getElem?_cons_succ, List.getElem?_cons_zero]; rfl)
              · rfl
              · (intro w hSw; (try dsimp only at hSw); go_simp; (try with_reducible rfl))
              (try simp only [Act.put, List.setIfInBounds_toArray, List.set_cons_zero, List.set_cons_succ])
              refine wpAnyH_take (i := 23) (oi := ?_) (v := ?_) ?_ (by kernel_rfl) (by kernel_rfl) (by kernel_rfl) (fun _ _ _ h => h) (Or.inl ⟨?_, ?_⟩) hHeld1 ?_
              rotate_left 2
              · (simp only [List.getElem?_toArray, List.getElem?_cons_succ, List.getElem?_cons_zero]; rfl)
              · rfl
              · (intro w hSw; (try dsimp only at hSw); go_simp; (try with_reducible rfl))
              (try simp only [Act.put, List.setIfInBounds_toArray, List.set_cons_zero, List.set_cons_succ])
              refine wpAnyH_done (by kernel_rfl) ?_ _
              refine NoPanic.normal ?_
              go_wp2_with fail
              go_roundw
              case rel => exact ⟨j + 2, by go_num, by omega, HA', Lib.hid (HB.out.trans (hS2.1.mono hwz))⟩
              case measure => simp [intOf]; omega
            · have hge : X ≤ Z := by omega
              have HR := Lib.hid (why_bad HF.out hlt (by rw [HP.out]; exact decide_eq_false hneg))
              clear hneg HP
              go_wp2_with fail
              refine wp_region_noPanic ?_
              refine wp_region_held_drew (S := fun W => Below wr.heap.size wr W ∧ W.cell? ⟨b, o + (j + 1) * 3, none⟩ = some (.int .i64 X) ∧ W.cell? ⟨b, o + (j + 1) * 3 + 1, none⟩ = some (.int .i64 Y) ∧ W.cell? ⟨b, o + (j + 1) * 3 + 2, none⟩ = some v1 ∧ W.cell? ⟨b, o + j * 3, none⟩ = some (.int .i64 Z)) (by kernel_rfl) (HK.out _ (Below.refl _ _).drew) (fun hHeld0 => ?_)
              (try simp only [Act.put, List.setIfInBounds_toArray, List.set_cons_zero, List.set_cons_succ])
              refine wpAnyH_take (i := 0) (oi := ?_) (v := ?_) ?_ (by kernel_rfl) (by kernel_rfl) (by kernel_rfl) (fun _ _ _ h => h) (Or.inl ⟨?_, ?_⟩) hHeld0 ?_
              rotate_left 2
              · (simp only [List.getElem?_toArray, List.getElem?_cons_zero]; rfl)
              · rfl
              · (intro w hSw; (try dsimp only at hSw); go_simp; (try with_reducible rfl))
              (try simp only [Act.put, List.setIfInBounds_toArray, List.set_cons_zero, List.set_cons_succ])
              refine wpAnyH_take (i := 1) (oi := ?_) (v := ?_) ?_ (by kernel_rfl) (by kernel_rfl) (by kernel_rfl) (fun _ _ _ h => h) (Or.inl ⟨?_, ?_⟩) hHeld0 ?_
              rotate_left 2
              · (simp only [List.getElem?_toArray, List.getElem?_cons_succ, List.getElem?_cons_zero]; rfl)
              · rfl
              · (intro w hSw; (try dsimp only at hSw); go_simp; (try with_reducible rfl))
              (try simp only [Act.put, List.setIfInBounds_toArray, List.set_cons_zero, List.set_cons_succ])
              refine wpAnyH_take (i := 2) (oi := ?_) (v := ?_) ?_ (by kernel_rfl) (by kernel_rfl) (by kernel_rfl) (fun _ _ _ h => h) (Or.inl ⟨?_, ?_⟩) hHeld0 ?_
              rotate_left 2
              · (simp only [List.getElem?_toArray, List.getElem?_cons_succ, List.getElem?_cons_zero]; rfl)
              · rfl
              · (intro w hSw; (try dsimp only at hSw); go_simp; (try with_reducible rfl))
              (try simp only [Act.put, List.setIfInBounds_toArray, List.set_cons_zero, List.set_cons_succ])
              refine wpAnyH_take (i := 3) (oi := ?_) (v := ?_) ?_ (by kernel_rfl) (by kernel_rfl) (by kernel_rfl) (fun _ _ _ h => h) (Or.inl ⟨?_, ?_⟩) hHeld0 ?_
              rotate_left 2
              · (simp only [List.getElem?_toArray, List.getElem?_cons_succ, List.getElem?_cons_zero]; rfl)
              · rfl
              · (intro w hSw; (try dsimp only at hSw); go_simp; (try with_reducible rfl))
              (try simp only [Act.put, List.setIfInBounds_toArray, List.set_cons_zero, List.set_cons_succ])
              refine wpAnyH_ready (rs := [4]) (by kernel_rfl) (by simp) ?_
              refine AllReadyH.cons (by rfl) (fun K hK => ?_) AllReadyH.nil
              go_simp
              go_at_call 20
              refine (HM'.out _ (by first | exact Below.refl _ _ | exact (Below.refl _ _).drew)).mono ?_
              rintro e w2 ⟨rfl, hb2⟩
              have hS2 := HK.out w2 ((Below.refl wr.heap.size wr).drew.trans hb2)
              clear hb2
              refine hK.out _ _ (hS2) (fun hHeld1 => ?_)
              clear hK K
              (try simp only [Act.put, List.setIfInBounds_toArray, List.set_cons_zero, List.set_cons_succ])
              refine wpAnyH_take (i := 5) (oi := ?_) (v := ?_) ?_ (by kernel_rfl) (by kernel_rfl) (by kernel_rfl) (fun _ _ _ h => h) (Or.inl ⟨?_, ?_⟩) hHeld1 ?_
              rotate_left 2
              · (simp only [List.getElem?_toArray, List.getElem?_cons_succ, List.getElem?_cons_zero]; rfl)
              · rfl
              · (intro w hSw; (try dsimp only at hSw); go_simp; (try with_reducible rfl))
              (try simp only [Act.put, List.setIfInBounds_toArray, List.set_cons_zero, List.set_cons_succ])
              refine wpAnyH_take (i := 6) (oi := ?_) (v := ?_) ?_ (by kernel_rfl) (by kernel_rfl) (by kernel_rfl) (fun _ _ _ h => h) (Or.inl ⟨?_, ?_⟩) hHeld1 ?_
              rotate_left 2
              · (simp only [List.getElem?_toArray, List.getElem?_cons_succ, List.getElem?_cons_zero]; rfl)
              · rfl
              · (intro w hSw; (try dsimp only at hSw); go_simp; (try with_reducible rfl))
              (try simp only [Act.put, List.setIfInBounds_toArray, List.set_cons_zero, List.set_cons_succ])
              refine wpAnyH_take (i := 7) (oi := ?_) (v := ?_) ?_ (by kernel_rfl) (by kernel_rfl) (by kernel_rfl) (fun _ _ _ h => h) (Or.inl ⟨?_, ?_⟩) hHeld1 ?_
              rotate_left 2
              · (simp only [List.getElem?_toArray, List.getElem?_cons_succ, List.getElem?_cons_zero]; rfl)
              · rfl
              · (intro w hSw; (try dsimp only at hSw); go_simp; (try with_reducible rfl))
              (try simp only [Act.put, List.setIfInBounds_toArray, List.set_cons_zero, List.set_cons_succ])
              refine wpAnyH_take (i := 8) (oi := ?_) (v := ?_) ?_ (by kernel_rfl) (by kernel_rfl) (by kernel_rfl) (fun _ _ _ h => h) (Or.inl ⟨?_, ?_⟩) hHeld1 ?_
              rotate_left 2
              · (simp only [List.getElem?_toArray, List.getElem?_cons_succ, List.getElem?_cons_zero]; rfl)
              · rfl
              · (intro w hSw; (try dsimp only at hSw); go_simp; (try with_reducible rfl))
              (try simp only [Act.put, List.setIfInBounds_toArray, List.set_cons_zero, List.set_cons_succ])
              refine wpAnyH_take (i := 9) (oi := ?_) (v := ?_) ?_ (by kernel_rfl) (by kernel_rfl) (by kernel_rfl) (fun _ _ _ h => h) (Or.inl ⟨?_, ?_⟩) hHeld1 ?_
              rotate_left 2
              · (simp only [List.getElem?_toArray, List.getElem?_cons_succ, List.getElem?_cons_zero]; rfl)
              · rfl
              · (intro w hSw; (try dsimp only at hSw); go_simp; (try with_reducible rfl))
              (try simp only [Act.put, List.setIfInBounds_toArray, List.set_cons_zero, List.set_cons_succ])
              refine wpAnyH_take (i := 10) (oi := ?_) (v := ?_) ?_ (by kernel_rfl) (by kernel_rfl) (by kernel_rfl) (fun _ _ _ h => h) (Or.inl ⟨?_, ?_⟩) hHeld1 ?_
              rotate_left 2
              · (simp only [List.getElem?_toArray, List.getElem?_cons_succ, List.getElem?_cons_zero]; rfl)
              · rfl
              · (intro w hSw; (try dsimp only at hSw); go_simp; (try with_reducible rfl))
              (try simp only [Act.put, List.setIfInBounds_toArray, List.set_cons_zero, List.set_cons_succ])
              refine wpAnyH_take (i := 11) (oi := ?_) (v := ?_) ?_ (by kernel_rfl) (by kernel_rfl) (by kernel_rfl) (fun _ _ _ h => h) (Or.inl ⟨?_, ?_⟩) hHeld1 ?_
              rotate_left 2
              · (simp only [List.getElem?_toArray, List.getElem?_cons_succ, List.getElem?_cons_zero]; rfl)
              · rfl
              · (intro w hSw; (try dsimp only at hSw); go_simp; (try with_reducible rfl))
              (try simp only [Act.put, List.setIfInBounds_toArray, List.set_cons_zero, List.set_cons_succ])
              refine wpAnyH_take (i := 12) (oi := ?_) (v := ?_) ?_ (by kernel_rfl) (by kernel_rfl) (by kernel_rfl) (fun _ _ _ h => h) (Or.inl ⟨?_, ?_⟩) hHeld1 ?_
              rotate_left 2
              · (simp only [List.getElem?_toArray, List.getElem?_cons_succ, List.getElem?_cons_zero]; rfl)
              · rfl
              · (intro w hSw; (try dsimp only at hSw); go_simp; (try with_reducible rfl))
              (try simp only [Act.put, List.setIfInBounds_toArray, List.set_cons_zero, List.set_cons_succ])
              refine wpAnyH_take (i := 13) (oi := ?_) (v := ?_) ?_ (by kernel_rfl) (by kernel_rfl) (by kernel_rfl) (fun _ _ _ h => h) (Or.inl ⟨?_, ?_⟩) hHeld1 ?_
              rotate_left 2
              · (simp only [List.getElem?_toArray, List.getElem?_cons_succ, List.getElem?_cons_zero]; rfl)
              · rfl
              · (intro w hSw; (try dsimp only at hSw); go_simp; (try with_reducible rfl))
              (try simp only [Act.put, List.setIfInBounds_toArray, List.set_cons_zero, List.set_cons_succ])
              refine wpAnyH_take (i := 14) (oi := ?_) (v := ?_) ?_ (by kernel_rfl) (by kernel_rfl) (by kernel_rfl) (fun _ _ _ h => h) (Or.inl ⟨?_, ?_⟩) hHeld1 ?_
              rotate_left 2
              · (simp only [List.getElem?_toArray, List.getElem?_cons_succ, List.getElem?_cons_zero]; rfl)
              · rfl
              · (intro w hSw; (try dsimp only at hSw); go_simp; (try with_reducible rfl))
              (try simp only [Act.put, List.setIfInBounds_toArray, List.set_cons_zero, List.set_cons_succ])
              refine wpAnyH_take (i := 15) (oi := ?_) (v := ?_) ?_ (by kernel_rfl) (by kernel_rfl) (by kernel_rfl) (fun _ _ _ h => h) (Or.inl ⟨?_, ?_⟩) hHeld1 ?_
              rotate_left 2
              · (simp only [List.getElem?_toArray, List.getElem?_cons_succ, List.getElem?_cons_zero]; rfl)
              · rfl
              · (intro w hSw; (try dsimp only at hSw); go_simp; (try with_reducible rfl))
              (try simp only [Act.put, List.setIfInBounds_toArray, List.set_cons_zero, List.set_cons_succ])
              refine wpAnyH_take (i := 16) (oi := ?_) (v := ?_) ?_ (by kernel_rfl) (by kernel_rfl) (by kernel_rfl) (fun _ _ _ h => h) (Or.inl ⟨?_, ?_⟩) hHeld1 ?_
              rotate_left 2
              · (simp only [List.getElem?_toArray, List.getElem?_cons_succ, List.getElem?_cons_zero]; rfl)
              · rfl
              · (intro w hSw; (try dsimp only at hSw); go_simp; (try with_reducible rfl))
              (try simp only [Act.put, List.setIfInBounds_toArray, List.set_cons_zero, List.set_cons_succ])
              refine wpAnyH_take (i := 17) (oi := ?_) (v := ?_) ?_ (by kernel_rfl) (by kernel_rfl) (by kernel_rfl) (fun _ _ _ h => h) (Or.inl ⟨?_, ?_⟩) hHeld1 ?_
              rotate_left 2
              · (simp only [List.getElem?_toArray, List.getElem?_cons_succ, List.getElem?_cons_zero]; rfl)
              · rfl
              · (intro w hSw; (try dsimp only at hSw); go_simp; (try with_reducible rfl))
              (try simp only [Act.put, List.setIfInBounds_toArray, List.set_cons_zero, List.set_cons_succ])
              refine wpAnyH_take (i := 18) (oi := ?_) (v := ?_) ?_ (by kernel_rfl) (by kernel_rfl) (by kernel_rfl) (fun _ _ _ h => h) (Or.inl ⟨?_, ?_⟩) hHeld1 ?_
              rotate_left 2
              · (simp only [List.getElem?_toArray, List.getElem?_cons_succ, List.getElem?_cons_zero]; rfl)
              · rfl
              · (intro w hSw; (try dsimp only at hSw); go_simp; (try with_reducible rfl))
              (try simp only [Act.put, List.setIfInBounds_toArray, List.set_cons_zero, List.set_cons_succ])
              refine wpAnyH_take (i := 19) (oi := ?_) (v := ?_) ?_ (by kernel_rfl) (by kernel_rfl) (by kernel_rfl) (fun _ _ _ h => h) (Or.inl ⟨?_, ?_⟩) hHeld1 ?_
              rotate_left 2
              · (simp only [List.getElem?_toArray, List.getElem?_cons_succ, List.getElem?_cons_zero]; rfl)
              · rfl
              · (intro w hSw; (try dsimp only at hSw); go_simp; (try with_reducible rfl))
              (try simp only [Act.put, List.setIfInBounds_toArray, List.set_cons_zero, List.set_cons_succ])
              refine wpAnyH_take (i := 20) (oi := ?_) (v := ?_) ?_ (by kernel_rfl) (by kernel_rfl) (by kernel_rfl) (fun _ _ _ h => h) (Or.inl ⟨?_, ?_⟩) hHeld1 ?_
              rotate_left 2
              · (simp only [List.getElem?_toArray, List.getElem?_cons_succ, List.getElem?_cons_zero]; rfl)
              · rfl
              · (intro w hSw; (try dsimp only at hSw); go_simp; (try with_reducible rfl))
              (try simp only [Act.put, List.setIfInBounds_toArray, List.set_cons_zero, List.set_cons_succ])
              refine wpAnyH_take (i := 21) (oi := ?_) (v := ?_) ?_ (by kernel_rfl) (by kernel_rfl) (by kernel_rfl) (fun _ _ _ h => h) (Or.inl ⟨?_, ?_⟩) hHeld1 ?_
              rotate_left 2
              · (simp only [List.getElem?_toArray, List.getElem?_cons_succ, List.getElem?_cons_zero]; rfl)
              · rfl
              · (intro w hSw; (try dsimp only at hSw); go_simp; (try with_reducible rfl))
              (try simp only [Act.put, List.setIfInBounds_toArray, List.set_cons_zero, List.set_cons_succ])
              refine wpAnyH_take (i := 22) (oi := ?_) (v := ?_) ?_ (by kernel_rfl) (by kernel_rfl) (by kernel_rfl) (fun _ _ _ h => h) (Or.inl ⟨?_, ?_⟩) hHeld1 ?_
              rotate_left 2
              · (simp only [List.getElem?_toArray, List.getElem?_cons_succ, List.getElem?_cons_zero]; rfl)
              · rfl
              · (intro w hSw; (try dsimp only at hSw); go_simp; (try with_reducible rfl))
              (try simp only [Act.put, List.setIfInBounds_toArray, List.set_cons_zero, List.set_cons_succ])
              refine wpAnyH_take (i := 23) (oi := ?_) (v := ?_) ?_ (by kernel_rfl) (by kernel_rfl) (by kernel_rfl) (fun _ _ _ h => h) (Or.inl ⟨?_, ?_⟩) hHeld1 ?_
              rotate_left 2
              · (simp only [List.getElem?_toArray, List.getElem?_cons_succ, List.getElem?_cons_zero]; rfl)
              · rfl
              · (intro w hSw; (try dsimp only at hSw); go_simp; (try with_reducible rfl))
              (try simp only [Act.put, List.setIfInBounds_toArray, List.set_cons_zero, List.set_cons_succ])
              refine wpAnyH_done (by kernel_rfl) ?_ _
              refine NoPanic.normal ?_
              go_wp2_with fail
              go_ret2
              exact .of HR.out.1.symm (by rw [HR.out.2]; rfl) (HB.out.trans (hS2.1.mono hwz))
      · obtain rfl : k = l.length := by omega
        have HAll := Lib.hid HA.out
        clear HA hlt
        obtain ⟨i0, hi, hz0, hz1, hz2⟩ := info_parts u8_info
        have HO0 := Lib.hid (World.ownsRow_nil wr w.heap.size 5 1)
        go_wp2_with fail
        go_loopw [5, 6] (fun t5 i wr => ∃ (k : Nat) (L : List UInt8) (A5 : Option Addr) (c5 : Nat), t5 = .slice A5 L.length c5 ∧ i = .int .i64 k ∧ k ≤ l.length ∧ L.length ≤ 65536 ∧ Hid (L = ucdHead l k) ∧ Hid (Below w.heap.size w wr) ∧ Hid (wr.ownsRow w.heap.size 5 1 (.slice A5 L.length c5) L.length (Lib.strCells (txt L)))) (fun _ i _ => l.length - (intOf i).toNat)
        case atStart => exact ⟨0, [], none, 0, rfl, rfl, by omega, by simp, Lib.hid rfl, HB, HO0⟩
        case round =>
          clear HB HO0 hwz hk
          obtain ⟨k, L, A5, c5, rfl, rfl, hk, hLl, HLe, HB, HO⟩ := hrel
          have hwz := HB.out.size
          by_cases hlt : k < l.length
          · obtain ⟨b, o, rfl⟩ := HL.out.some_ (by omega)
            have hltI : (k : Int) < (l.length : Int) := by omega
            have hmay := all_mk HAll.out hlt
            have HT' := Lib.hid (fun W (hb : Below w.heap.size w W) (v1 : Value) (he : RowM W w.heap.size v1 l[k].parts.length (intCells l[k].parts)) (hp : l[k].parts.length ≤ 13107) => HT.out l[k] v1 W (he.more hb.size) hmay hp)
            have HPl := Lib.hid (parts_long hlt hmay)
            have HHl := Lib.hid (head_long hlt)
            have hhl := (head_len hmay).2
            have hpl := ptsText_len (fits_all (may_of hmay).2.2)
            have htl : l[k].text.length = l[k].head.length + (ptsText l[k].parts).length := by unfold MK.text; rw [List.length_append]
            clear hmay
            cases k with
            | zero =>
              obtain ⟨hbl, v1, g1, g2, g3, hent⟩ := (HL.out.below HB.out).at_ hlt
              have HTx := Lib.hid (HT' wr HB.out v1 hent)
              rw [Nat.zero_mul, Nat.add_zero] at g1 g2 g3
              obtain rfl : L = [] := HLe.out
              obtain ⟨A1, c1, rfl, hc1, hm1, _⟩ := hent
              by_cases h5 : 65537 < 5 * l[0].parts.length
              · have h5I : (65537 : Int) < 5 * (l[0].parts.length : Int) := by omega
                have HR := Lib.hid (why_long HF.out HAll.out (HPl.out h5))
                clear h5
                go_wp2_with fail
                go_ret2
                exact .of HR.out.1.symm (by rw [HR.out.2]; rfl) HB.out
              · have h5I : ¬ (65537 : Int) < 5 * (l[0].parts.length : Int) := by omega
                have HTy := Lib.hid (HTx.out (by omega))
                have htb : l[0].text.length ≤ 100000 := by omega
                clear h5 htl hpl hhl
                go_wp2_with fail
                refine HTy.out.mono ?_
                rintro e w2 ⟨rfl, hb2⟩
                have HB2 := Lib.hid (HB.out.trans (hb2.mono hwz))
                have hs2 := HB2.out.size
                have HO2 := Lib.hid (own_below HO.out hb2)
                clear hb2 g1 g2 g3
                obtain ⟨TX, hTX⟩ : ∃ TX, TX = l[0].text := ⟨_, rfl⟩
                have HT1 := Lib.hid (show TX = ucdHead l 1 by rw [hTX]; exact (ucdHead_one hlt).symm)
                rw [← hTX] at htb ⊢
                clear hTX
                by_cases hlg : 65536 < TX.length
                · have hlI : (65536 : Int) < (TX.length : Int) := by omega
                  have HR := Lib.hid (why_long HF.out HAll.out (HHl.out (by rw [← HT1.out]; exact hlg)))
                  clear hlg
                  go_wp2_with (at_builtin; refine Lib.wpList_append_own_string _ rfl _ _ 42 9 rfl w.heap.size 5 i0 Tryz.underlying42 Tryz.underlying9 hi hz0 hz1 hz2 _ _ _ rfl HO2.out (txt TX) rfl (by rw [txt_size]; unfold maxLen; omega) (by rw [txt_size]; omega) hs2 ?_; intro v4 w4 hown4 hgrow4 hne4; obtain ⟨A4, c4, hv4⟩ : ∃ A4 c4, v4 = .slice A4 TX.length c4 := (by rcases hown4.2 with ⟨h1, h2⟩ | ⟨g, cap, cur, h1, _⟩; exact ⟨none, 0, by rw [h1]; congr 1; rw [txt_size] at h2; omega⟩; exact ⟨_, _, by rw [h1, txt_size, List.length_nil, Nat.zero_add]⟩); subst hv4)
                  have HB4 := Lib.hid (HB2.out.grown hgrow4 hs2 (fun j ej => row_ge HO2.out ej))
                  clear hown4 hgrow4 hne4
                  go_wp2_with fail
                  go_ret2
                  exact .of HR.out.1.symm (by rw [HR.out.2]; rfl) HB4.out
                · have hlI : ¬ (65536 : Int) < (TX.length : Int) := by omega
                  go_wp2_with (at_builtin; refine Lib.wpList_append_own_string _ rfl _ _ 42 9 rfl w.heap.size 5 i0 Tryz.underlying42 Tryz.underlying9 hi hz0 hz1 hz2 _ _ _ rfl HO2.out (txt TX) rfl (by rw [txt_size]; unfold maxLen; omega) (by rw [txt_size]; omega) hs2 ?_; intro v4 w4 hown4 hgrow4 hne4; obtain ⟨A4, c4, hv4⟩ : ∃ A4 c4, v4 = .slice A4 TX.length c4 := (by rcases hown4.2 with ⟨h1, h2⟩ | ⟨g, cap, cur, h1, _⟩; exact ⟨none, 0, by rw [h1]; congr 1; rw [txt_size] at h2; omega⟩; exact ⟨_, _, by rw [h1, txt_size, List.length_nil, Nat.zero_add]⟩); subst hv4)
                  have HB4 := Lib.hid (HB2.out.grown hgrow4 hs2 (fun j ej => row_ge HO2.out ej))
                  have HO4 := Lib.hid (show w4.ownsRow w.heap.size 5 1 (.slice A4 TX.length c4) TX.length (Lib.strCells (txt TX)) by
                    have h9 := hown4
                    rw [txt_size] at h9
                    simpa [Lib.strCells, txt] using h9)
                  clear hown4 hgrow4 hne4
                  go_wp2_with fail
                  go_roundw
                  case rel => exact ⟨1, TX, _, _, rfl, rfl, by omega, by omega, HT1, HB4, HO4⟩
                  case measure => simp [intOf]; omega
            | succ j =>
              have hj0 : (0 : Int) < (j : Int) + 1 := by omega
              have hj1 : (0 : Int) ≤ (j : Int) + 1 := by omega
              have hjI2 : (j : Int) + 1 < (l.length : Int) := by omega
              obtain ⟨P, hP⟩ : ∃ P, P = l[j + 1].parts.length := ⟨_, rfl⟩
              by_cases h5 : 65537 < 5 * P
              · have h5I : (65537 : Int) < 5 * (P : Int) := by omega
                have HR := Lib.hid (why_long HF.out HAll.out (HPl.out (by rw [← hP]; exact h5)))
                have HPe := Lib.hid hP
                clear h5 hP htl hpl
                go_wp2_with (at_builtin; refine wpList_append_own _ rfl _ _ 42 rfl w.heap.size 5 i0 (.int .u8 0) 1 1 Tryz.underlying42 hi hz0 hz1 hz2 rfl (by decide) _ _ _ rfl (HO.out.alloc _) ⟨wr.heap.size, 0, none⟩ 1 1 [.int .u8 10] rfl rfl (World.news_of_block (cs := #[.int .u8 10]) (t := 5) (fr := (0, 0)) (heap_alloc_new wr _)) (by simp [Value.oneCell']) (by unfold maxLen; omega) (by omega) (by simp; omega) ?_; intro v4 w4 hown4 hgrow4 hne4; have hgrow5 : (wr.alloc (Obj.cells #[.int .u8 10] 5)).grownBy w4 (Value.slice A5 L.length c5).ownBlock := hgrow4; have HB4 := Lib.hid ((HB.out.alloc hwz (Obj.cells #[.int .u8 10] 5)).grown hgrow5 (by simp; omega) (fun j ej => by have := row_ge HO.out ej; omega)); obtain ⟨hbl, v1, g1, g2, g3, hent⟩ := (HL.out.below HB4.out).at_ hlt; have HTx := Lib.hid (HT' w4 HB4.out v1 hent); obtain ⟨A1, c1, rfl, hc1, hm1, _⟩ := hent; rw [← HPe.out] at g3 hc1 hm1; clear hgrow4 hgrow5 hne4)
                go_wp2_with fail
                go_ret2
                exact .of HR.out.1.symm (by rw [HR.out.2]; rfl) HB4.out
              · have h5I : ¬ (65537 : Int) < 5 * (P : Int) := by omega
                have hP13 : P ≤ 13107 := by omega
                have htb : l[j + 1].text.length ≤ 100000 := by omega
                have HPe := Lib.hid hP
                clear h5 hP htl hpl
                go_wp2_with (at_builtin; refine wpList_append_own _ rfl _ _ 42 rfl w.heap.size 5 i0 (.int .u8 0) 1 1 Tryz.underlying42 hi hz0 hz1 hz2 rfl (by decide) _ _ _ rfl (HO.out.alloc _) ⟨wr.heap.size, 0, none⟩ 1 1 [.int .u8 10] rfl rfl (World.news_of_block (cs := #[.int .u8 10]) (t := 5) (fr := (0, 0)) (heap_alloc_new wr _)) (by simp [Value.oneCell']) (by unfold maxLen; omega) (by omega) (by simp; omega) ?_; intro v4 w4 hown4 hgrow4 hne4; have hgrow5 : (wr.alloc (Obj.cells #[.int .u8 10] 5)).grownBy w4 (Value.slice A5 L.length c5).ownBlock := hgrow4; have HB4 := Lib.hid ((HB.out.alloc hwz (Obj.cells #[.int .u8 10] 5)).grown hgrow5 (by simp; omega) (fun j ej => by have := row_ge HO.out ej; omega)); obtain ⟨hbl, v1, g1, g2, g3, hent⟩ := (HL.out.below HB4.out).at_ hlt; have HTx := Lib.hid (HT' w4 HB4.out v1 hent); obtain ⟨A1, c1, rfl, hc1, hm1, _⟩ := hent; rw [← HPe.out] at g3 hc1 hm1; clear hgrow4 hgrow5 hne4)
                have hs4 := HB4.out.size
                have HO4 := Lib.hid (show w4.ownsRow w.heap.size 5 1 v4 (L ++ [10]).length (Lib.strCells (txt (L ++ [10]))) by
                  rw [strCells_append, List.length_append]
                  exact hown4)
                have HTy := Lib.hid (HTx.out (by rw [← HPe.out]; exact hP13))
                clear hown4
                rw [← HPe.out] at HTy
                refine HTy.out.mono ?_
                rintro e w2 ⟨rfl, hb2⟩
                have HB2 := Lib.hid (HB4.out.trans (hb2.mono hs4))
                have hs2 := HB2.out.size
                have HO2 := Lib.hid (own_below HO4.out hb2)
                have hln : (L ++ [10]).length = L.length + 1 := by simp
                clear hb2 g1 g2 g3
                obtain ⟨TX, hTX⟩ : ∃ TX, TX = l[j + 1].text := ⟨_, rfl⟩
                have HT1 := Lib.hid (show L ++ [10] ++ TX = ucdHead l (j + 2) by rw [hTX, ucdHead_succ (by omega) hlt, HLe.out])
                rw [← hTX] at htb ⊢
                clear hTX
                by_cases hlg : 65536 < (L ++ [10] ++ TX).length
                · have hlI : (65536 : Int) < (L.length : Int) + 1 + (TX.length : Int) := by simp at hlg; omega
                  have HR := Lib.hid (why_long HF.out HAll.out (HHl.out (by rw [← HT1.out]; exact hlg)))
                  clear hlg
                  go_wp2_with (at_builtin; refine Lib.wpList_append_own_string _ rfl _ _ 42 9 rfl w.heap.size 5 i0 Tryz.underlying42 Tryz.underlying9 hi hz0 hz1 hz2 _ _ _ rfl HO2.out (txt TX) rfl (by rw [txt_size]; unfold maxLen; omega) (by rw [txt_size]; omega) hs2 ?_; intro v4 w4 hown4 hgrow4 hne4; obtain ⟨A4, c4, hv4⟩ : ∃ A4 c4, v4 = .slice A4 (L.length + 1 + TX.length) c4 := (by rcases hown4.2 with ⟨h1, h2⟩ | ⟨g, cap, cur, h1, _⟩; exact ⟨none, 0, by rw [h1]; congr 1; rw [txt_size] at h2; omega⟩; exact ⟨_, _, by rw [h1, txt_size, hln]⟩); subst hv4)
                  have HB5 := Lib.hid (HB2.out.grown hgrow4 hs2 (fun j ej => row_ge HO2.out ej))
                  clear hown4 hgrow4 hne4
                  go_wp2_with fail
                  go_ret2
                  exact .of HR.out.1.symm (by rw [HR.out.2]; rfl) HB5.out
                · have hlI : ¬ (65536 : Int) < (L.length : Int) + 1 + (TX.length : Int) := by simp at hlg; omega
                  have hlN : (L ++ [10] ++ TX).length ≤ 65536 := by omega
                  clear hlg
                  go_wp2_with (at_builtin; refine Lib.wpList_append_own_string _ rfl _ _ 42 9 rfl w.heap.size 5 i0 Tryz.underlying42 Tryz.underlying9 hi hz0 hz1 hz2 _ _ _ rfl HO2.out (txt TX) rfl (by rw [txt_size]; unfold maxLen; omega) (by rw [txt_size]; omega) hs2 ?_; intro v4 w4 hown4 hgrow4 hne4; obtain ⟨A4, c4, hv4⟩ : ∃ A4 c4, v4 = .slice A4 (L.length + 1 + TX.length) c4 := (by rcases hown4.2 with ⟨h1, h2⟩ | ⟨g, cap, cur, h1, _⟩; exact ⟨none, 0, by rw [h1]; congr 1; rw [txt_size] at h2; omega⟩; exact ⟨_, _, by rw [h1, txt_size, hln]⟩); subst hv4)
                  have HB5 := Lib.hid (HB2.out.grown hgrow4 hs2 (fun j ej => row_ge HO2.out ej))
                  have HLL := Lib.hid (show L.length + 1 + TX.length = (L ++ [10] ++ TX).length by simp; omega)
                  have HO5 := Lib.hid (show w4.ownsRow w.heap.size 5 1 (.slice A4 (L ++ [10] ++ TX).length c4) (L ++ [10] ++ TX).length (Lib.strCells (txt (L ++ [10] ++ TX))) by
                    have h9 := hown4
                    rw [txt_size, hln] at h9
                    rw [strCells_append, ← HLL.out]
                    exact h9)
                  clear hown4 hgrow4 hne4
                  go_wp2_with fail
                  go_roundw
                  case rel => exact ⟨j + 2, L ++ [10] ++ TX, _, _, by rw [← HLL.out], by go_num, by omega, hlN, HT1, HB5, HO5⟩
                  case measure => simp [intOf]; omega
          · obtain rfl : k = l.length := by omega
            have HLt := Lib.hid (show L = ucdText l by rw [HLe.out, ucdHead_all])
            have HR := Lib.hid (why_ok HF.out HAll.out (by rw [← HLt.out]; omega))
            have hcv := run_string_row (RowAt.of_own (show wr.ownsRow w.heap.size 5 1 (.slice A5 L.length c5) L.length (u8s (L.map UInt8.toNat)) by rw [← strCells_u8s]; exact HO.out))
            have HS := Lib.hid (show strOf (L.map UInt8.toNat) = txt (ucdOut l) by rw [strOf_txt, HR.out.2, HLt.out])
            clear hlt
            go_wp2_with fail
            go_ret2
            exact .of HR.out.1.symm HS.out HB.out
end Go.Proofs.YtccaaniepeohbaaGreatDoor
