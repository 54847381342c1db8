/-
  ucd.Print: the text of marks, or why there is none.
-/
import Derived.Test.YtccaaniepeohbaaGreatDoorKAF
import Derived.Test.YtccaaniepeohbaaGreatDoorKAN
import Derived.Test.YtccaaniepeohbaaGreatDoorKAP
namespace Go.Proofs.YtccaaniepeohbaaGreatDoor
open Go.RowKit Go.WideShapes
set_option linter.unusedVariables false
set_option linter.unusedSimpArgs false
theorem own_box_apart {w : World} {N n size B : Nat} {e e2 : TypeId} {v : Value} {xs : List Value} {cs : Array Value} {fr : Nat × Nat} (h : w.ownsRow N e size v n xs) (hb : w.heap[B]? = some (.cells cs e2 fr)) (hne : e ≠ e2) : some B ≠ v.ownBlock := by
  rcases h.2 with ⟨rfl, _⟩ | ⟨g1, c1, u1, rfl, _, k1, _⟩
  · simp [Value.ownBlock]
  · intro hB
    simp only [Value.ownBlock, Option.some.injEq] at hB
    subst hB
    rw [k1] at hb
    injection hb with hb
    injection hb with _ hb
    exact hne hb
theorem lens_snoc (ts : List (List UInt8)) (X : List UInt8) : Lib.lens (ts ++ [X]) = Lib.lens ts + X.length := by simp [Lib.lens]
theorem join_lens (ts : List (List UInt8)) (sep : List UInt8) : Lib.lens ts ≤ (Lib.join ts sep).length := by
  match ts with
  | [] => simp [Lib.lens]
  | x :: r =>
    rw [Lib.join_cons, List.length_append, Lib.joinTail_length]
    simp [Lib.lens]
theorem ptsText_take (l : List Int) : ∀ c, (ptsText (l.take c)).length ≤ (ptsText l).length := by
  intro c
  by_cases hc : l.length ≤ c
  · rw [List.take_of_length_le hc]; exact Nat.le_refl _
  · obtain ⟨d, hd⟩ : ∃ d, l.length = c + d := ⟨l.length - c, by omega⟩
    have : ∀ e, c + e ≤ l.length → (ptsText (l.take c)).length ≤ (ptsText (l.take (c + e))).length := by
      intro e
      induction e with
      | zero => intro _; exact Nat.le_refl _
      | succ e ih =>
        intro he
        have h1 := ih (by omega)
        rcases Nat.eq_zero_or_pos (c + e) with h0 | h0
        · have : c = 0 := by omega
          subst this
          simp [ptsText, Lib.join_nil]
        · rw [show c + (e + 1) = c + e + 1 by omega, ptsText_succ h0 (by omega), List.length_append, List.length_append]
          omega
    have h9 := this d (by omega)
    rw [← hd, List.take_length] at h9
    exact h9
/-- What is printed of marks while the size is counted. -/
structure Cut (l : List MK) (k n : Nat) (ts : List (List UInt8)) : Prop where
  len : ts.length = k
  few : n ≤ 65541
  all : n ≤ 65536 → ts = (l.take k).map MK.text
  ge : n + 6 * k ≤ Lib.lens ts
  le : Lib.lens ts ≤ Lib.lens ((l.take k).map MK.text)
  mx : ∀ x ∈ ts, x.length ≤ 100000
theorem Cut.zero (l : List MK) : Cut l 0 0 [] := ⟨rfl, by omega, fun _ => rfl, by simp, by simp [Lib.lens], fun x hx => by cases hx⟩
theorem Cut.step {l : List MK} {k n c : Nat} {ts : List (List UInt8)} (h : Cut l k n ts) (hk : k < l.length) (hm : l[k].may = true) (hc : c ≤ l[k].parts.length) (hn : n + 5 * c ≤ 65541) (ha : n + 5 * c ≤ 65536 → c = l[k].parts.length) : Cut l (k + 1) (n + 5 * c) (ts ++ [l[k].head ++ ptsText (l[k].parts.take c)]) := by
  have h1 := head_len hm
  have h2 := pts_ge (l[k].parts.take c)
  rw [List.length_take, Nat.min_eq_left hc] at h2
  have h3 := ptsText_take l[k].parts c
  have hsucc : (l.take (k + 1)).map MK.text = (l.take k).map MK.text ++ [l[k].text] := by rw [List.take_succ_eq_append_getElem hk, List.map_append, List.map_singleton]
  refine ⟨by simp [h.len], hn, fun h0 => ?_, ?_, ?_, fun x hx => ?_⟩
  · rw [hsucc, h.all (by omega), ha h0, List.take_length]; rfl
  · rw [lens_snoc, List.length_append]
    have := h.ge
    omega
  · rw [hsucc, lens_snoc, lens_snoc, List.length_append]
    have := h.le
    have e : l[k].text.length = l[k].head.length + (ptsText l[k].parts).length := by unfold MK.text; rw [List.length_append]
    omega
  · rcases List.mem_append.1 hx with hx | hx
    · exact h.mx x hx
    · rw [List.mem_singleton] at hx
      subst hx
      have h4 := ptsText_len (all_take (fits_all (may_of hm).2.2) c)
      have hcc : c ≤ 13108 := by omega
      have h5 : (l[k].parts.take c).length ≤ c := by rw [List.length_take]; omega
      rw [List.length_append]
      omega
set_option maxRecDepth 100000 in
set_option maxHeartbeats 16000000 in
theorem ucdPrint_any (l : List MK) (A : Option Addr) (c : Nat) {w0 w : World} (hL : laidMetH Tryz.prog Rows.ucdPrintsRow.laid w0) (hb0 : Below w0.heap.size w0 w) (h : MarksAt w w.heap.size l A) (hc : l.length ≤ 140737488351232) (hlc : l.length ≤ c) :
    Calls Tryz.prog 7 #[.slice A l.length c] w (PrtPost l w) := by
  have HL := Lib.hid h
  have HB0 := Lib.hid (Below.refl w.heap.size w)
  have HX := Lib.hid (fun (n : Nat) (hn : n ≤ 1114111) (W : World) (hb : Below w.heap.size w W) => hex_any n hn hL (hb0.trans (hb.mono hb0.size)))
  have HI := Lib.hid (fun (n : Nat) (hn : n ≤ 254) (W : World) (hb : Below w.heap.size w W) => itoa_any n (by omega) hL (hb0.trans (hb.mono hb0.size)))
  have HO0 := Lib.hid (World.ownsRow_nil w w.heap.size 9 1)
  have HC0 := Lib.hid (Cut.zero l)
  have HFi := Lib.hid fits_any
  clear hL hb0
  by_cases hmany : 4096 < l.length
  · have hmI : (4096 : Int) < (l.length : Int) := by omega
    have HR := Lib.hid (why_many hmany)
    clear h hmany
    go_enter Tryz.func7, Tryz.ntmps7
    go_wp2_with fail
    go_ret2
    exact .of HR.out.1.symm (by rw [HR.out.2]; rfl) HB0.out
  · have hmI : ¬ (4096 : Int) < (l.length : Int) := by omega
    have HF := Lib.hid hmany
    have hmn : l.length ≤ 4096 := by omega
    clear h hmany
    obtain ⟨i0, hi, hz0, hz1, hz2⟩ := info_parts str_info
    go_enter Tryz.func7, Tryz.ntmps7
    go_wp2_with fail
    go_loopw [5, 6, 18] (fun t5 t6 i wr => ∃ (k n : Nat) (vt : Value) (ts : List (List UInt8)), t5 = vt ∧ t6 = .int .i64 n ∧ i = .int .i64 k ∧ k ≤ l.length ∧ n ≤ 65541 ∧ Hid (Cut l k n ts) ∧ Hid ((List.range k).all (mkMay l) = true) ∧ Hid (Below w.heap.size w wr) ∧ Hid (wr.ownsRow w.heap.size 9 1 vt ts.length (strsV ts))) (fun _ _ i _ => l.length - (intOf i).toNat)
    case atStart => exact ⟨0, 0, _, [], rfl, rfl, rfl, by omega, by omega, HC0, Lib.hid rfl, HB0, HO0⟩
    case round =>
      clear HB0 HO0 HC0
      obtain ⟨k, n, vt, ts, hvt, rfl, rfl, hk, hn, HC, HA, HB, HO⟩ := hrel
      replace hvt := hvt.symm
      subst hvt
      have hwz := HB.out.size
      by_cases hlt : k < l.length
      · obtain ⟨b, o, rfl⟩ := HL.out.some_ (by omega)
        obtain ⟨hbl, v1, g1, g2, g3, hent⟩ := (HL.out.below HB.out).at_ hlt
        have hltI : (k : Int) < (l.length : Int) := by omega
        have HE := Lib.hid (hent.more hwz)
        have HMbad := Lib.hid (mk_not hlt)
        have HRbad := Lib.hid (fun hm => why_bad HF.out hlt (mk_not hlt hm))
        obtain ⟨A1, c1, rfl, hc1, hm1, _⟩ := hent
        obtain ⟨x, hx⟩ : ∃ x, x = l[k] := ⟨_, rfl⟩
        have HXe := Lib.hid hx
        rw [← hx] at HE HRbad HMbad g1 g2 g3 hc1 hm1
        clear hx
        go_upto_region 9 with fail
        obtain ⟨W1, hW1⟩ : ∃ W1, W1 = wr.alloc (Obj.cells #[.int .i64 x.pt, .int .i64 x.cls, .slice A1 x.parts.length c1] 36) := ⟨_, rfl⟩
        have hb1 : Below wr.heap.size wr W1 := by rw [hW1]; exact below_a1 _ _
        have HX1 := Lib.hid (show MBox W1 wr.heap.size x.pt x.cls (.slice A1 x.parts.length c1) by rw [hW1]; exact MBox.new _ _ _ _)
        have hz1' : W1.heap.size = wr.heap.size + 1 := by rw [hW1]; simp
        rw [← hW1]
        clear hW1
        have HB1 := Lib.hid (HB.out.trans (hb1.mono hwz))
        have HO1 := Lib.hid (own_below HO.out hb1)
        have HE1 := Lib.hid ((HE.out.below hb1).more (B' := W1.heap.size) (by omega))
        obtain ⟨B, hB⟩ : ∃ B, B = wr.heap.size := ⟨_, rfl⟩
        rw [← hB] at hz1' HX1 hwz ⊢
        clear hb1 HB HO HE g1 g2 g3 hB
        have hwz1 := HB1.out.size
        obtain ⟨hbl, _, _, _, _, hent⟩ := (HL.out.below HB1.out).at_ hlt
        clear hent
        go_cut [52] (fun s60 wx => ∃ (r : Bool), s60 = .bool r ∧ Hid (r = true → mkMay l k = false) ∧ Hid (r = false → (fitsB x.pt = true ∧ 0 ≤ x.cls ∧ x.cls ≤ 254) ∧ (x.may = true → mkMay l k = true)) ∧ Hid (Below W1.heap.size W1 wx))
        case first =>
          obtain ⟨x0, x1, x2⟩ := HX1.out.cells
          have HFx := Lib.hid (HFi.out x.pt)
          have HN1 := Lib.hid (fun h => HMbad.out (@may_no1 x h))
          have HN2 := Lib.hid (fun h => HMbad.out (@may_no2 x h))
          have HG0 := Lib.hid (show k = 0 → x.may = true → mkMay l k = true from fun h hm => by subst h; rw [mkMay_zero hlt, ← HXe.out]; exact hm)
          have HGS := Lib.hid (show ∀ j, k = j + 1 → ∀ h : j < l.length, mkMay l k = (x.may && decide (l[j].pt < x.pt)) from fun j h hj => by subst h; rw [mkMay_succ hlt, HXe.out])
          cases hf : fitsB x.pt with
          | false =>
            have HG := Lib.hid (HN1.out hf)
            rw [hf] at HFx
            obtain ⟨X, hX⟩ : ∃ X, X = x.pt := ⟨_, rfl⟩
            obtain ⟨Y, hY⟩ : ∃ Y, Y = x.cls := ⟨_, rfl⟩
            rw [← hX] at x0 HFx
            rw [← hY] at x1
            clear hX hY hf
            have HK := Lib.hid (fun W (hb : Below W1.heap.size W1 W) => (⟨hb, (hb.cell (by simp only; omega)).trans x0, (hb.cell (by simp only; omega)).trans x1⟩ : Below W1.heap.size W1 W ∧ W.cell? ⟨B, 0, none⟩ = some (.int .i64 X) ∧ W.cell? ⟨B, 1, none⟩ = some (.int .i64 Y)))
            refine wp_region_noPanic ?_
            refine wp_region_held_drew (S := fun W => Below W1.heap.size W1 W ∧ W.cell? ⟨B, 0, none⟩ = some (.int .i64 X) ∧ W.cell? ⟨B, 1, none⟩ = some (.int .i64 Y)) (by kernel_rfl) (HK.out _ (Below.refl _ _).drew) (fun hHeld0 => ?_)
            (try simp only [Act.put, List.setIfInBounds_toArray, List.set_cons_zero, List.set_cons_succ])
            refine wpAnyH_take (i := 0) (oi := ?_) (v := ?_) ?_ (by kernel_rfl) (by kernel_rfl) (by kernel_rfl) (fun _ _ _ h => h) (Or.inl ⟨?_, ?_⟩) hHeld0 ?_
            rotate_left 2
            · (simp only [List.getElem?_toArray, List.getElem?_cons_zero]; rfl)
            · rfl
            · (intro w hSw; (try dsimp only at hSw); go_simp; (try with_reducible rfl))
            (try simp only [Act.put, List.setIfInBounds_toArray, List.set_cons_zero, List.set_cons_succ])
            refine wpAnyH_take (i := 1) (oi := ?_) (v := ?_) ?_ (by kernel_rfl) (by kernel_rfl) (by kernel_rfl) (fun _ _ _ h => h) (Or.inl ⟨?_, ?_⟩) hHeld0 ?_
            rotate_left 2
            · (simp only [List.getElem?_toArray, List.getElem?_cons_succ, List.getElem?_cons_zero]; rfl)
            · rfl
            · (intro w hSw; (try dsimp only at hSw); go_simp; (try with_reducible rfl))
            (try simp only [Act.put, List.setIfInBounds_toArray, List.set_cons_zero, List.set_cons_succ])
            refine wpAnyH_take (i := 2) (oi := ?_) (v := ?_) ?_ (by kernel_rfl) (by kernel_rfl) (by kernel_rfl) (fun _ _ _ h => h) (Or.inl ⟨?_, ?_⟩) hHeld0 ?_
            rotate_left 2
            · (simp only [List.getElem?_toArray, List.getElem?_cons_succ, List.getElem?_cons_zero]; rfl)
            · rfl
            · (intro w hSw; (try dsimp only at hSw); go_simp; (try with_reducible rfl))
            (try simp only [Act.put, List.setIfInBounds_toArray, List.set_cons_zero, List.set_cons_succ])
            refine wpAnyH_ready (rs := [3]) (by kernel_rfl) (by simp) ?_
            refine AllReadyH.cons (by rfl) (fun K hK => ?_) AllReadyH.nil
            go_simp
            go_at_call 14
            refine (HFx.out _).mono ?_
            rintro e w2 ⟨rfl, hb2⟩
            have hS2 := HK.out w2 ((Below.refl W1.heap.size W1).drew.trans hb2)
            clear hb2
            refine hK.out _ _ (hS2) (fun hHeld1 => ?_)
            clear hK K
            (try simp only [Act.put, List.setIfInBounds_toArray, List.set_cons_zero, List.set_cons_succ])
            refine wpAnyH_take (i := 4) (oi := ?_) (v := ?_) ?_ (by kernel_rfl) (by kernel_rfl) (by kernel_rfl) (fun _ _ _ h => h) (Or.inl ⟨?_, ?_⟩) hHeld1 ?_
            rotate_left 2
            · (simp only [List.getElem?_toArray, List.getElem?_cons_succ, List.getElem?_cons_zero]; rfl)
            · rfl
            · (intro w hSw; (try dsimp only at hSw); go_simp; (try with_reducible rfl))
            (try simp only [Act.put, List.setIfInBounds_toArray, List.set_cons_zero, List.set_cons_succ])
            refine wpAnyH_take (i := 5) (oi := ?_) (v := ?_) ?_ (by kernel_rfl) (by kernel_rfl) (by kernel_rfl) (fun _ _ _ h => h) (Or.inl ⟨?_, ?_⟩) hHeld1 ?_
            rotate_left 2
            · (simp only [List.getElem?_toArray, List.getElem?_cons_succ, List.getElem?_cons_zero]; rfl)
            · rfl
            · (intro w hSw; (try dsimp only at hSw); go_simp; (try with_reducible rfl))
            (try simp only [Act.put, List.setIfInBounds_toArray, List.set_cons_zero, List.set_cons_succ])
            refine wpAnyH_take (i := 6) (oi := ?_) (v := undef) ?_ (by kernel_rfl) (by kernel_rfl) (by kernel_rfl) (fun _ _ _ h => h) (Or.inr ⟨?_, rfl⟩) hHeld1 ?_
            rotate_left 1
            · (simp only [List.getElem?_toArray, List.getElem?_cons_succ, List.getElem?_cons_zero]; rfl)
            · rfl
            (try simp only [Act.put, List.setIfInBounds_toArray, List.set_cons_zero, List.set_cons_succ])
            refine wpAnyH_take (i := 7) (oi := ?_) (v := undef) ?_ (by kernel_rfl) (by kernel_rfl) (by kernel_rfl) (fun _ _ _ h => h) (Or.inr ⟨?_, rfl⟩) hHeld1 ?_
            rotate_left 1
            · (simp only [List.getElem?_toArray, List.getElem?_cons_succ, List.getElem?_cons_zero]; rfl)
            · rfl
            (try simp only [Act.put, List.setIfInBounds_toArray, List.set_cons_zero, List.set_cons_succ])
            refine wpAnyH_take (i := 8) (oi := ?_) (v := undef) ?_ (by kernel_rfl) (by kernel_rfl) (by kernel_rfl) (fun _ _ _ h => h) (Or.inr ⟨?_, rfl⟩) hHeld1 ?_
            rotate_left 1
            · (simp only [List.getElem?_toArray, List.getElem?_cons_succ, List.getElem?_cons_zero]; rfl)
            · rfl
            (try simp only [Act.put, List.setIfInBounds_toArray, List.set_cons_zero, List.set_cons_succ])
            refine wpAnyH_take (i := 9) (oi := ?_) (v := ?_) ?_ (by kernel_rfl) (by kernel_rfl) (by kernel_rfl) (fun _ _ _ h => h) (Or.inl ⟨?_, ?_⟩) hHeld1 ?_
            rotate_left 2
            · (simp only [List.getElem?_toArray, List.getElem?_cons_succ, List.getElem?_cons_zero]; rfl)
            · rfl
            · (intro w hSw; (try dsimp only at hSw); go_simp; (try with_reducible rfl))
            (try simp only [Act.put, List.setIfInBounds_toArray, List.set_cons_zero, List.set_cons_succ])
            refine wpAnyH_take (i := 10) (oi := ?_) (v := ?_) ?_ (by kernel_rfl) (by kernel_rfl) (by kernel_rfl) (fun _ _ _ h => h) (Or.inl ⟨?_, ?_⟩) hHeld1 ?_
            rotate_left 2
            · (simp only [List.getElem?_toArray, List.getElem?_cons_succ, List.getElem?_cons_zero]; rfl)
            · rfl
            · (intro w hSw; (try dsimp only at hSw); go_simp; (try with_reducible rfl))
            (try simp only [Act.put, List.setIfInBounds_toArray, List.set_cons_zero, List.set_cons_succ])
            refine wpAnyH_take (i := 11) (oi := ?_) (v := undef) ?_ (by kernel_rfl) (by kernel_rfl) (by kernel_rfl) (fun _ _ _ h => h) (Or.inr ⟨?_, rfl⟩) hHeld1 ?_
            rotate_left 1
            · (simp only [List.getElem?_toArray, List.getElem?_cons_succ, List.getElem?_cons_zero]; rfl)
            · rfl
            (try simp only [Act.put, List.setIfInBounds_toArray, List.set_cons_zero, List.set_cons_succ])
            refine wpAnyH_take (i := 12) (oi := ?_) (v := undef) ?_ (by kernel_rfl) (by kernel_rfl) (by kernel_rfl) (fun _ _ _ h => h) (Or.inr ⟨?_, rfl⟩) hHeld1 ?_
            rotate_left 1
            · (simp only [List.getElem?_toArray, List.getElem?_cons_succ, List.getElem?_cons_zero]; rfl)
            · rfl
            (try simp only [Act.put, List.setIfInBounds_toArray, List.set_cons_zero, List.set_cons_succ])
            refine wpAnyH_take (i := 13) (oi := ?_) (v := undef) ?_ (by kernel_rfl) (by kernel_rfl) (by kernel_rfl) (fun _ _ _ h => h) (Or.inr ⟨?_, rfl⟩) hHeld1 ?_
            rotate_left 1
            · (simp only [List.getElem?_toArray, List.getElem?_cons_succ, List.getElem?_cons_zero]; rfl)
            · rfl
            (try simp only [Act.put, List.setIfInBounds_toArray, List.set_cons_zero, List.set_cons_succ])
            refine wpAnyH_take (i := 14) (oi := ?_) (v := ?_) ?_ (by kernel_rfl) (by kernel_rfl) (by kernel_rfl) (fun _ _ _ h => h) (Or.inl ⟨?_, ?_⟩) hHeld1 ?_
            rotate_left 2
            · (simp only [List.getElem?_toArray, List.getElem?_cons_succ, List.getElem?_cons_zero]; rfl)
            · rfl
            · (intro w hSw; (try dsimp only at hSw); go_simp; (try with_reducible rfl))
            (try simp only [Act.put, List.setIfInBounds_toArray, List.set_cons_zero, List.set_cons_succ])
            refine wpAnyH_take (i := 15) (oi := ?_) (v := ?_) ?_ (by kernel_rfl) (by kernel_rfl) (by kernel_rfl) (fun _ _ _ h => h) (Or.inl ⟨?_, ?_⟩) hHeld1 ?_
            rotate_left 2
            · (simp only [List.getElem?_toArray, List.getElem?_cons_succ, List.getElem?_cons_zero]; rfl)
            · rfl
            · (intro w hSw; (try dsimp only at hSw); go_simp; (try with_reducible rfl))
            (try simp only [Act.put, List.setIfInBounds_toArray, List.set_cons_zero, List.set_cons_succ])
            refine wpAnyH_take (i := 16) (oi := ?_) (v := undef) ?_ (by kernel_rfl) (by kernel_rfl) (by kernel_rfl) (fun _ _ _ h => h) (Or.inr ⟨?_, rfl⟩) hHeld1 ?_
            rotate_left 1
            · (simp only [List.getElem?_toArray, List.getElem?_cons_succ, List.getElem?_cons_zero]; rfl)
            · rfl
            (try simp only [Act.put, List.setIfInBounds_toArray, List.set_cons_zero, List.set_cons_succ])
            refine wpAnyH_take (i := 17) (oi := ?_) (v := undef) ?_ (by kernel_rfl) (by kernel_rfl) (by kernel_rfl) (fun _ _ _ h => h) (Or.inr ⟨?_, rfl⟩) hHeld1 ?_
            rotate_left 1
            · (simp only [List.getElem?_toArray, List.getElem?_cons_succ, List.getElem?_cons_zero]; rfl)
            · rfl
            (try simp only [Act.put, List.setIfInBounds_toArray, List.set_cons_zero, List.set_cons_succ])
            refine wpAnyH_take (i := 18) (oi := ?_) (v := undef) ?_ (by kernel_rfl) (by kernel_rfl) (by kernel_rfl) (fun _ _ _ h => h) (Or.inr ⟨?_, rfl⟩) hHeld1 ?_
            rotate_left 1
            · (simp only [List.getElem?_toArray, List.getElem?_cons_succ, List.getElem?_cons_zero]; rfl)
            · rfl
            (try simp only [Act.put, List.setIfInBounds_toArray, List.set_cons_zero, List.set_cons_succ])
            refine wpAnyH_take (i := 19) (oi := ?_) (v := undef) ?_ (by kernel_rfl) (by kernel_rfl) (by kernel_rfl) (fun _ _ _ h => h) (Or.inr ⟨?_, rfl⟩) hHeld1 ?_
            rotate_left 1
            · (simp only [List.getElem?_toArray, List.getElem?_cons_succ, List.getElem?_cons_zero]; rfl)
            · rfl
            (try simp only [Act.put, List.setIfInBounds_toArray, List.set_cons_zero, List.set_cons_succ])
            refine wpAnyH_take (i := 20) (oi := ?_) (v := undef) ?_ (by kernel_rfl) (by kernel_rfl) (by kernel_rfl) (fun _ _ _ h => h) (Or.inr ⟨?_, rfl⟩) hHeld1 ?_
            rotate_left 1
            · (simp only [List.getElem?_toArray, List.getElem?_cons_succ, List.getElem?_cons_zero]; rfl)
            · rfl
            (try simp only [Act.put, List.setIfInBounds_toArray, List.set_cons_zero, List.set_cons_succ])
            refine wpAnyH_take (i := 21) (oi := ?_) (v := undef) ?_ (by kernel_rfl) (by kernel_rfl) (by kernel_rfl) (fun _ _ _ h => h) (Or.inr ⟨?_, rfl⟩) hHeld1 ?_
            rotate_left 1
            · (simp only [List.getElem?_toArray, List.getElem?_cons_succ, List.getElem?_cons_zero]; rfl)
            · rfl
            (try simp only [Act.put, List.setIfInBounds_toArray, List.set_cons_zero, List.set_cons_succ])
            refine wpAnyH_take (i := 22) (oi := ?_) (v := undef) ?_ (by kernel_rfl) (by kernel_rfl) (by kernel_rfl) (fun _ _ _ h => h) (Or.inr ⟨?_, rfl⟩) hHeld1 ?_
            rotate_left 1
            · (simp only [List.getElem?_toArray, List.getElem?_cons_succ, List.getElem?_cons_zero]; rfl)
            · rfl
            (try simp only [Act.put, List.setIfInBounds_toArray, List.set_cons_zero, List.set_cons_succ])
            refine wpAnyH_take (i := 23) (oi := ?_) (v := undef) ?_ (by kernel_rfl) (by kernel_rfl) (by kernel_rfl) (fun _ _ _ h => h) (Or.inr ⟨?_, rfl⟩) hHeld1 ?_
            rotate_left 1
            · (simp only [List.getElem?_toArray, List.getElem?_cons_succ, List.getElem?_cons_zero]; rfl)
            · rfl
            (try simp only [Act.put, List.setIfInBounds_toArray, List.set_cons_zero, List.set_cons_succ])
            refine wpAnyH_take (i := 24) (oi := ?_) (v := undef) ?_ (by kernel_rfl) (by kernel_rfl) (by kernel_rfl) (fun _ _ _ h => h) (Or.inr ⟨?_, rfl⟩) hHeld1 ?_
            rotate_left 1
            · (simp only [List.getElem?_toArray, List.getElem?_cons_succ, List.getElem?_cons_zero]; rfl)
            · rfl
            (try simp only [Act.put, List.setIfInBounds_toArray, List.set_cons_zero, List.set_cons_succ])
            refine wpAnyH_take (i := 25) (oi := ?_) (v := undef) ?_ (by kernel_rfl) (by kernel_rfl) (by kernel_rfl) (fun _ _ _ h => h) (Or.inr ⟨?_, rfl⟩) hHeld1 ?_
            rotate_left 1
            · (simp only [List.getElem?_toArray, List.getElem?_cons_succ, List.getElem?_cons_zero]; rfl)
            · rfl
            (try simp only [Act.put, List.setIfInBounds_toArray, List.set_cons_zero, List.set_cons_succ])
            refine wpAnyH_take (i := 26) (oi := ?_) (v := undef) ?_ (by kernel_rfl) (by kernel_rfl) (by kernel_rfl) (fun _ _ _ h => h) (Or.inr ⟨?_, rfl⟩) hHeld1 ?_
            rotate_left 1
            · (simp only [List.getElem?_toArray, List.getElem?_cons_succ, List.getElem?_cons_zero]; rfl)
            · rfl
            (try simp only [Act.put, List.setIfInBounds_toArray, List.set_cons_zero, List.set_cons_succ])
            refine wpAnyH_take (i := 27) (oi := ?_) (v := undef) ?_ (by kernel_rfl) (by kernel_rfl) (by kernel_rfl) (fun _ _ _ h => h) (Or.inr ⟨?_, rfl⟩) hHeld1 ?_
            rotate_left 1
            · (simp only [List.getElem?_toArray, List.getElem?_cons_succ, List.getElem?_cons_zero]; rfl)
            · rfl
            (try simp only [Act.put, List.setIfInBounds_toArray, List.set_cons_zero, List.set_cons_succ])
            refine wpAnyH_take (i := 28) (oi := ?_) (v := undef) ?_ (by kernel_rfl) (by kernel_rfl) (by kernel_rfl) (fun _ _ _ h => h) (Or.inr ⟨?_, rfl⟩) hHeld1 ?_
            rotate_left 1
            · (simp only [List.getElem?_toArray, List.getElem?_cons_succ, List.getElem?_cons_zero]; rfl)
            · rfl
            (try simp only [Act.put, List.setIfInBounds_toArray, List.set_cons_zero, List.set_cons_succ])
            refine wpAnyH_take (i := 29) (oi := ?_) (v := ?_) ?_ (by kernel_rfl) (by kernel_rfl) (by kernel_rfl) (fun _ _ _ h => h) (Or.inl ⟨?_, ?_⟩) hHeld1 ?_
            rotate_left 2
            · (simp only [List.getElem?_toArray, List.getElem?_cons_succ, List.getElem?_cons_zero]; rfl)
            · rfl
            · (intro w hSw; (try dsimp only at hSw); go_simp; (try with_reducible rfl))
            (try simp only [Act.put, List.setIfInBounds_toArray, List.set_cons_zero, List.set_cons_succ])
            refine wpAnyH_done (by kernel_rfl) ?_ _
            refine NoPanic.normal ?_
            go_wp2_with fail
            go_meet
            exact ⟨true, rfl, Lib.hid (fun _ => HG.out), Lib.hid (fun h => by cases h), Lib.hid hS2.1⟩
          | true =>
            rw [hf] at HFx
            have HFt := Lib.hid hf
            obtain ⟨X, hX⟩ : ∃ X, X = x.pt := ⟨_, rfl⟩
            obtain ⟨Y, hY⟩ : ∃ Y, Y = x.cls := ⟨_, rfl⟩
            rw [← hX] at x0 HFx HGS
            rw [← hY] at x1 HN2
            have HY := Lib.hid hY
            clear hX hY hf
            have HK := Lib.hid (fun W (hb : Below W1.heap.size W1 W) => (⟨hb, (hb.cell (by simp only; omega)).trans x0, (hb.cell (by simp only; omega)).trans x1⟩ : Below W1.heap.size W1 W ∧ W.cell? ⟨B, 0, none⟩ = some (.int .i64 X) ∧ W.cell? ⟨B, 1, none⟩ = some (.int .i64 Y)))
            by_cases hc0 : Y < 0
            · have HG := Lib.hid (HN2.out (by omega))
              refine wp_region_noPanic ?_
              refine wp_region_held_drew (S := fun W => Below W1.heap.size W1 W ∧ W.cell? ⟨B, 0, none⟩ = some (.int .i64 X) ∧ W.cell? ⟨B, 1, none⟩ = some (.int .i64 Y)) (by kernel_rfl) (HK.out _ (Below.refl _ _).drew) (fun hHeld0 => ?_)
              (try simp only [Act.put, List.setIfInBounds_toArray, List.set_cons_zero, List.set_cons_succ])
              refine wpAnyH_take (i := 0) (oi := ?_) (v := ?_) ?_ (by kernel_rfl) (by kernel_rfl) (by kernel_rfl) (fun _ _ _ h => h) (Or.inl ⟨?_, ?_⟩) hHeld0 ?_
              rotate_left 2
              · (simp only [List.getElem?_toArray, List.getElem?_cons_zero]; rfl)
              · rfl
              · (intro w hSw; (try dsimp only at hSw); go_simp; (try with_reducible rfl))
              (try simp only [Act.put, List.setIfInBounds_toArray, List.set_cons_zero, List.set_cons_succ])
              refine wpAnyH_take (i := 1) (oi := ?_) (v := ?_) ?_ (by kernel_rfl) (by kernel_rfl) (by kernel_rfl) (fun _ _ _ h => h) (Or.inl ⟨?_, ?_⟩) hHeld0 ?_
              rotate_left 2
              · (simp only [List.getElem?_toArray, List.getElem?_cons_succ, List.getElem?_cons_zero]; rfl)
              · rfl
              · (intro w hSw; (try dsimp only at hSw); go_simp; (try with_reducible rfl))
              (try simp only [Act.put, List.setIfInBounds_toArray, List.set_cons_zero, List.set_cons_succ])
              refine wpAnyH_take (i := 2) (oi := ?_) (v := ?_) ?_ (by kernel_rfl) (by kernel_rfl) (by kernel_rfl) (fun _ _ _ h => h) (Or.inl ⟨?_, ?_⟩) hHeld0 ?_
              rotate_left 2
              · (simp only [List.getElem?_toArray, List.getElem?_cons_succ, List.getElem?_cons_zero]; rfl)
              · rfl
              · (intro w hSw; (try dsimp only at hSw); go_simp; (try with_reducible rfl))
              (try simp only [Act.put, List.setIfInBounds_toArray, List.set_cons_zero, List.set_cons_succ])
              refine wpAnyH_ready (rs := [3]) (by kernel_rfl) (by simp) ?_
              refine AllReadyH.cons (by rfl) (fun K hK => ?_) AllReadyH.nil
              go_simp
              go_at_call 14
              refine (HFx.out _).mono ?_
              rintro e w2 ⟨rfl, hb2⟩
              have hS2 := HK.out w2 ((Below.refl W1.heap.size W1).drew.trans hb2)
              clear hb2
              refine hK.out _ _ (hS2) (fun hHeld1 => ?_)
              clear hK K
              (try simp only [Act.put, List.setIfInBounds_toArray, List.set_cons_zero, List.set_cons_succ])
              refine wpAnyH_take (i := 4) (oi := ?_) (v := ?_) ?_ (by kernel_rfl) (by kernel_rfl) (by kernel_rfl) (fun _ _ _ h => h) (Or.inl ⟨?_, ?_⟩) hHeld1 ?_
              rotate_left 2
              · (simp only [List.getElem?_toArray, List.getElem?_cons_succ, List.getElem?_cons_zero]; rfl)
              · rfl
              · (intro w hSw; (try dsimp only at hSw); go_simp; (try with_reducible rfl))
              (try simp only [Act.put, List.setIfInBounds_toArray, List.set_cons_zero, List.set_cons_succ])
              refine wpAnyH_take (i := 5) (oi := ?_) (v := ?_) ?_ (by kernel_rfl) (by kernel_rfl) (by kernel_rfl) (fun _ _ _ h => h) (Or.inl ⟨?_, ?_⟩) hHeld1 ?_
              rotate_left 2
              · (simp only [List.getElem?_toArray, List.getElem?_cons_succ, List.getElem?_cons_zero]; rfl)
              · rfl
              · (intro w hSw; (try dsimp only at hSw); go_simp; (try with_reducible rfl))
              (try simp only [Act.put, List.setIfInBounds_toArray, List.set_cons_zero, List.set_cons_succ])
              refine wpAnyH_take (i := 6) (oi := ?_) (v := ?_) ?_ (by kernel_rfl) (by kernel_rfl) (by kernel_rfl) (fun _ _ _ h => h) (Or.inl ⟨?_, ?_⟩) hHeld1 ?_
              rotate_left 2
              · (simp only [List.getElem?_toArray, List.getElem?_cons_succ, List.getElem?_cons_zero]; rfl)
              · rfl
              · (intro w hSw; (try dsimp only at hSw); go_simp; (try with_reducible rfl))
              (try simp only [Act.put, List.setIfInBounds_toArray, List.set_cons_zero, List.set_cons_succ])
              refine wpAnyH_take (i := 7) (oi := ?_) (v := ?_) ?_ (by kernel_rfl) (by kernel_rfl) (by kernel_rfl) (fun _ _ _ h => h) (Or.inl ⟨?_, ?_⟩) hHeld1 ?_
              rotate_left 2
              · (simp only [List.getElem?_toArray, List.getElem?_cons_succ, List.getElem?_cons_zero]; rfl)
              · rfl
              · (intro w hSw; (try dsimp only at hSw); go_simp; (try with_reducible rfl))
              (try simp only [Act.put, List.setIfInBounds_toArray, List.set_cons_zero, List.set_cons_succ])
              refine wpAnyH_take (i := 8) (oi := ?_) (v := ?_) ?_ (by kernel_rfl) (by kernel_rfl) (by kernel_rfl) (fun _ _ _ h => h) (Or.inl ⟨?_, ?_⟩) hHeld1 ?_
              rotate_left 2
              · (simp only [List.getElem?_toArray, List.getElem?_cons_succ, List.getElem?_cons_zero]; rfl)
              · rfl
              · (intro w hSw; (try dsimp only at hSw); go_simp; (try with_reducible rfl))
              (try simp only [Act.put, List.setIfInBounds_toArray, List.set_cons_zero, List.set_cons_succ])
              refine wpAnyH_take (i := 9) (oi := ?_) (v := ?_) ?_ (by kernel_rfl) (by kernel_rfl) (by kernel_rfl) (fun _ _ _ h => h) (Or.inl ⟨?_, ?_⟩) hHeld1 ?_
              rotate_left 2
              · (simp only [List.getElem?_toArray, List.getElem?_cons_succ, List.getElem?_cons_zero]; rfl)
              · rfl
              · (intro w hSw; (try dsimp only at hSw); go_simp; (try with_reducible rfl))
              (try simp only [Act.put, List.setIfInBounds_toArray, List.set_cons_zero, List.set_cons_succ])
              refine wpAnyH_take (i := 10) (oi := ?_) (v := ?_) ?_ (by kernel_rfl) (by kernel_rfl) (by kernel_rfl) (fun _ _ _ h => h) (Or.inl ⟨?_, ?_⟩) hHeld1 ?_
              rotate_left 2
              · (simp only [List.getElem?_toArray, List.getElem?_cons_succ, List.getElem?_cons_zero]; rfl)
              · rfl
              · (intro w hSw; (try dsimp only at hSw); go_simp; (try with_reducible rfl))
              (try simp only [Act.put, List.setIfInBounds_toArray, List.set_cons_zero, List.set_cons_succ])
              refine wpAnyH_take (i := 11) (oi := ?_) (v := undef) ?_ (by kernel_rfl) (by kernel_rfl) (by kernel_rfl) (fun _ _ _ h => h) (Or.inr ⟨?_, rfl⟩) hHeld1 ?_
              rotate_left 1
              · (simp only [List.getElem?_toArray, List.getElem?_cons_succ, List.getElem?_cons_zero]; rfl)
              · rfl
              (try simp only [Act.put, List.setIfInBounds_toArray, List.set_cons_zero, List.set_cons_succ])
              refine wpAnyH_take (i := 12) (oi := ?_) (v := undef) ?_ (by kernel_rfl) (by kernel_rfl) (by kernel_rfl) (fun _ _ _ h => h) (Or.inr ⟨?_, rfl⟩) hHeld1 ?_
              rotate_left 1
              · (simp only [List.getElem?_toArray, List.getElem?_cons_succ, List.getElem?_cons_zero]; rfl)
              · rfl
              (try simp only [Act.put, List.setIfInBounds_toArray, List.set_cons_zero, List.set_cons_succ])
              refine wpAnyH_take (i := 13) (oi := ?_) (v := undef) ?_ (by kernel_rfl) (by kernel_rfl) (by kernel_rfl) (fun _ _ _ h => h) (Or.inr ⟨?_, rfl⟩) hHeld1 ?_
              rotate_left 1
              · (simp only [List.getElem?_toArray, List.getElem?_cons_succ, List.getElem?_cons_zero]; rfl)
              · rfl
              (try simp only [Act.put, List.setIfInBounds_toArray, List.set_cons_zero, List.set_cons_succ])
              refine wpAnyH_take (i := 14) (oi := ?_) (v := ?_) ?_ (by kernel_rfl) (by kernel_rfl) (by kernel_rfl) (fun _ _ _ h => h) (Or.inl ⟨?_, ?_⟩) hHeld1 ?_
              rotate_left 2
              · (simp only [List.getElem?_toArray, List.getElem?_cons_succ, List.getElem?_cons_zero]; rfl)
              · rfl
              · (intro w hSw; (try dsimp only at hSw); go_simp; (try with_reducible rfl))
              (try simp only [Act.put, List.setIfInBounds_toArray, List.set_cons_zero, List.set_cons_succ])
              refine wpAnyH_take (i := 15) (oi := ?_) (v := ?_) ?_ (by kernel_rfl) (by kernel_rfl) (by kernel_rfl) (fun _ _ _ h => h) (Or.inl ⟨?_, ?_⟩) hHeld1 ?_
              rotate_left 2
              · (simp only [List.getElem?_toArray, List.getElem?_cons_succ, List.getElem?_cons_zero]; rfl)
              · rfl
              · (intro w hSw; (try dsimp only at hSw); go_simp; (try with_reducible rfl))
              (try simp only [Act.put, List.setIfInBounds_toArray, List.set_cons_zero, List.set_cons_succ])
              refine wpAnyH_take (i := 16) (oi := ?_) (v := undef) ?_ (by kernel_rfl) (by kernel_rfl) (by kernel_rfl) (fun _ _ _ h => h) (Or.inr ⟨?_, rfl⟩) hHeld1 ?_
              rotate_left 1
              · (simp only [List.getElem?_toArray, List.getElem?_cons_succ, List.getElem?_cons_zero]; rfl)
              · rfl
              (try simp only [Act.put, List.setIfInBounds_toArray, List.set_cons_zero, List.set_cons_succ])
              refine wpAnyH_take (i := 17) (oi := ?_) (v := undef) ?_ (by kernel_rfl) (by kernel_rfl) (by kernel_rfl) (fun _ _ _ h => h) (Or.inr ⟨?_, rfl⟩) hHeld1 ?_
              rotate_left 1
              · (simp only [List.getElem?_toArray, List.getElem?_cons_succ, List.getElem?_cons_zero]; rfl)
              · rfl
              (try simp only [Act.put, List.setIfInBounds_toArray, List.set_cons_zero, List.set_cons_succ])
              refine wpAnyH_take (i := 18) (oi := ?_) (v := undef) ?_ (by kernel_rfl) (by kernel_rfl) (by kernel_rfl) (fun _ _ _ h => h) (Or.inr ⟨?_, rfl⟩) hHeld1 ?_
              rotate_left 1
              · (simp only [List.getElem?_toArray, List.getElem?_cons_succ, List.getElem?_cons_zero]; rfl)
              · rfl
              (try simp only [Act.put, List.setIfInBounds_toArray, List.set_cons_zero, List.set_cons_succ])
              refine wpAnyH_take (i := 19) (oi := ?_) (v := undef) ?_ (by kernel_rfl) (by kernel_rfl) (by kernel_rfl) (fun _ _ _ h => h) (Or.inr ⟨?_, rfl⟩) hHeld1 ?_
              rotate_left 1
              · (simp only [List.getElem?_toArray, List.getElem?_cons_succ, List.getElem?_cons_zero]; rfl)
              · rfl
              (try simp only [Act.put, List.setIfInBounds_toArray, List.set_cons_zero, List.set_cons_succ])
              refine wpAnyH_take (i := 20) (oi := ?_) (v := undef) ?_ (by kernel_rfl) (by kernel_rfl) (by kernel_rfl) (fun _ _ _ h => h) (Or.inr ⟨?_, rfl⟩) hHeld1 ?_
              rotate_left 1
              · (simp only [List.getElem?_toArray, List.getElem?_cons_succ, List.getElem?_cons_zero]; rfl)
              · rfl
              (try simp only [Act.put, List.setIfInBounds_toArray, List.set_cons_zero, List.set_cons_succ])
              refine wpAnyH_take (i := 21) (oi := ?_) (v := undef) ?_ (by kernel_rfl) (by kernel_rfl) (by kernel_rfl) (fun _ _ _ h => h) (Or.inr ⟨?_, rfl⟩) hHeld1 ?_
              rotate_left 1
              · (simp only [List.getElem?_toArray, List.getElem?_cons_succ, List.getElem?_cons_zero]; rfl)
              · rfl
              (try simp only [Act.put, List.setIfInBounds_toArray, List.set_cons_zero, List.set_cons_succ])
              refine wpAnyH_take (i := 22) (oi := ?_) (v := undef) ?_ (by kernel_rfl) (by kernel_rfl) (by kernel_rfl) (fun _ _ _ h => h) (Or.inr ⟨?_, rfl⟩) hHeld1 ?_
              rotate_left 1
              · (simp only [List.getElem?_toArray, List.getElem?_cons_succ, List.getElem?_cons_zero]; rfl)
              · rfl
              (try simp only [Act.put, List.setIfInBounds_toArray, List.set_cons_zero, List.set_cons_succ])
              refine wpAnyH_take (i := 23) (oi := ?_) (v := undef) ?_ (by kernel_rfl) (by kernel_rfl) (by kernel_rfl) (fun _ _ _ h => h) (Or.inr ⟨?_, rfl⟩) hHeld1 ?_
              rotate_left 1
              · (simp only [List.getElem?_toArray, List.getElem?_cons_succ, List.getElem?_cons_zero]; rfl)
              · rfl
              (try simp only [Act.put, List.setIfInBounds_toArray, List.set_cons_zero, List.set_cons_succ])
              refine wpAnyH_take (i := 24) (oi := ?_) (v := undef) ?_ (by kernel_rfl) (by kernel_rfl) (by kernel_rfl) (fun _ _ _ h => h) (Or.inr ⟨?_, rfl⟩) hHeld1 ?_
              rotate_left 1
              · (simp only [List.getElem?_toArray, List.getElem?_cons_succ, List.getElem?_cons_zero]; rfl)
              · rfl
              (try simp only [Act.put, List.setIfInBounds_toArray, List.set_cons_zero, List.set_cons_succ])
              refine wpAnyH_take (i := 25) (oi := ?_) (v := undef) ?_ (by kernel_rfl) (by kernel_rfl) (by kernel_rfl) (fun _ _ _ h => h) (Or.inr ⟨?_, rfl⟩) hHeld1 ?_
              rotate_left 1
              · (simp only [List.getElem?_toArray, List.getElem?_cons_succ, List.getElem?_cons_zero]; rfl)
              · rfl
              (try simp only [Act.put, List.setIfInBounds_toArray, List.set_cons_zero, List.set_cons_succ])
              refine wpAnyH_take (i := 26) (oi := ?_) (v := undef) ?_ (by kernel_rfl) (by kernel_rfl) (by kernel_rfl) (fun _ _ _ h => h) (Or.inr ⟨?_, rfl⟩) hHeld1 ?_
              rotate_left 1
              · (simp only [List.getElem?_toArray, List.getElem?_cons_succ, List.getElem?_cons_zero]; rfl)
              · rfl
              (try simp only [Act.put, List.setIfInBounds_toArray, List.set_cons_zero, List.set_cons_succ])
              refine wpAnyH_take (i := 27) (oi := ?_) (v := undef) ?_ (by kernel_rfl) (by kernel_rfl) (by kernel_rfl) (fun _ _ _ h => h) (Or.inr ⟨?_, rfl⟩) hHeld1 ?_
              rotate_left 1
              · (simp only [List.getElem?_toArray, List.getElem?_cons_succ, List.getElem?_cons_zero]; rfl)
              · rfl
              (try simp only [Act.put, List.setIfInBounds_toArray, List.set_cons_zero, List.set_cons_succ])
              refine wpAnyH_take (i := 28) (oi := ?_) (v := undef) ?_ (by kernel_rfl) (by kernel_rfl) (by kernel_rfl) (fun _ _ _ h => h) (Or.inr ⟨?_, rfl⟩) hHeld1 ?_
              rotate_left 1
              · (simp only [List.getElem?_toArray, List.getElem?_cons_succ, List.getElem?_cons_zero]; rfl)
              · rfl
              (try simp only [Act.put, List.setIfInBounds_toArray, List.set_cons_zero, List.set_cons_succ])
              refine wpAnyH_take (i := 29) (oi := ?_) (v := ?_) ?_ (by kernel_rfl) (by kernel_rfl) (by kernel_rfl) (fun _ _ _ h => h) (Or.inl ⟨?_, ?_⟩) hHeld1 ?_
              rotate_left 2
              · (simp only [List.getElem?_toArray, List.getElem?_cons_succ, List.getElem?_cons_zero]; rfl)
              · rfl
              · (intro w hSw; (try dsimp only at hSw); go_simp; (try with_reducible rfl))
              (try simp only [Act.put, List.setIfInBounds_toArray, List.set_cons_zero, List.set_cons_succ])
              refine wpAnyH_done (by kernel_rfl) ?_ _
              refine NoPanic.normal ?_
              go_wp2_with fail
              go_meet
              exact ⟨true, rfl, Lib.hid (fun _ => HG.out), Lib.hid (fun h => by cases h), Lib.hid hS2.1⟩
            · by_cases hc2 : 254 < Y
              · have HG := Lib.hid (HN2.out (by omega))
                refine wp_region_noPanic ?_
                refine wp_region_held_drew (S := fun W => Below W1.heap.size W1 W ∧ W.cell? ⟨B, 0, none⟩ = some (.int .i64 X) ∧ W.cell? ⟨B, 1, none⟩ = some (.int .i64 Y)) (by kernel_rfl) (HK.out _ (Below.refl _ _).drew) (fun hHeld0 => ?_)
                (try simp only [Act.put, List.setIfInBounds_toArray, List.set_cons_zero, List.set_cons_succ])
                refine wpAnyH_take (i := 0) (oi := ?_) (v := ?_) ?_ (by kernel_rfl) (by kernel_rfl) (by kernel_rfl) (fun _ _ _ h => h) (Or.inl ⟨?_, ?_⟩) hHeld0 ?_
                rotate_left 2
                · (simp only [List.getElem?_toArray, List.getElem?_cons_zero]; rfl)
                · rfl
                · (intro w hSw; (try dsimp only at hSw); go_simp; (try with_reducible rfl))
                (try simp only [Act.put, List.setIfInBounds_toArray, List.set_cons_zero, List.set_cons_succ])
                refine wpAnyH_take (i := 1) (oi := ?_) (v := ?_) ?_ (by kernel_rfl) (by kernel_rfl) (by kernel_rfl) (fun _ _ _ h => h) (Or.inl ⟨?_, ?_⟩) hHeld0 ?_
                rotate_left 2
                · (simp only [List.getElem?_toArray, List.getElem?_cons_succ, List.getElem?_cons_zero]; rfl)
                · rfl
                · (intro w hSw; (try dsimp only at hSw); go_simp; (try with_reducible rfl))
                (try simp only [Act.put, List.setIfInBounds_toArray, List.set_cons_zero, List.set_cons_succ])
                refine wpAnyH_take (i := 2) (oi := ?_) (v := ?_) ?_ (by kernel_rfl) (by kernel_rfl) (by kernel_rfl) (fun _ _ _ h => h) (Or.inl ⟨?_, ?_⟩) hHeld0 ?_
                rotate_left 2
                · (simp only [List.getElem?_toArray, List.getElem?_cons_succ, List.getElem?_cons_zero]; rfl)
                · rfl
                · (intro w hSw; (try dsimp only at hSw); go_simp; (try with_reducible rfl))
                (try simp only [Act.put, List.setIfInBounds_toArray, List.set_cons_zero, List.set_cons_succ])
                refine wpAnyH_ready (rs := [3]) (by kernel_rfl) (by simp) ?_
                refine AllReadyH.cons (by rfl) (fun K hK => ?_) AllReadyH.nil
                go_simp
                go_at_call 14
                refine (HFx.out _).mono ?_
                rintro e w2 ⟨rfl, hb2⟩
                have hS2 := HK.out w2 ((Below.refl W1.heap.size W1).drew.trans hb2)
                clear hb2
                refine hK.out _ _ (hS2) (fun hHeld1 => ?_)
                clear hK K
                (try simp only [Act.put, List.setIfInBounds_toArray, List.set_cons_zero, List.set_cons_succ])
                refine wpAnyH_take (i := 4) (oi := ?_) (v := ?_) ?_ (by kernel_rfl) (by kernel_rfl) (by kernel_rfl) (fun _ _ _ h => h) (Or.inl ⟨?_, ?_⟩) hHeld1 ?_
                rotate_left 2
                · (simp only [List.getElem?_toArray, List.getElem?_cons_succ, List.getElem?_cons_zero]; rfl)
                · rfl
                · (intro w hSw; (try dsimp only at hSw); go_simp; (try with_reducible rfl))
                (try simp only [Act.put, List.setIfInBounds_toArray, List.set_cons_zero, List.set_cons_succ])
                refine wpAnyH_take (i := 5) (oi := ?_) (v := ?_) ?_ (by kernel_rfl) (by kernel_rfl) (by kernel_rfl) (fun _ _ _ h => h) (Or.inl ⟨?_, ?_⟩) hHeld1 ?_
                rotate_left 2
                · (simp only [List.getElem?_toArray, List.getElem?_cons_succ, List.getElem?_cons_zero]; rfl)
                · rfl
                · (intro w hSw; (try dsimp only at hSw); go_simp; (try with_reducible rfl))
                (try simp only [Act.put, List.setIfInBounds_toArray, List.set_cons_zero, List.set_cons_succ])
                refine wpAnyH_take (i := 6) (oi := ?_) (v := ?_) ?_ (by kernel_rfl) (by kernel_rfl) (by kernel_rfl) (fun _ _ _ h => h) (Or.inl ⟨?_, ?_⟩) hHeld1 ?_
                rotate_left 2
                · (simp only [List.getElem?_toArray, List.getElem?_cons_succ, List.getElem?_cons_zero]; rfl)
                · rfl
                · (intro w hSw; (try dsimp only at hSw); go_simp; (try with_reducible rfl))
                (try simp only [Act.put, List.setIfInBounds_toArray, List.set_cons_zero, List.set_cons_succ])
                refine wpAnyH_take (i := 7) (oi := ?_) (v := ?_) ?_ (by kernel_rfl) (by kernel_rfl) (by kernel_rfl) (fun _ _ _ h => h) (Or.inl ⟨?_, ?_⟩) hHeld1 ?_
                rotate_left 2
                · (simp only [List.getElem?_toArray, List.getElem?_cons_succ, List.getElem?_cons_zero]; rfl)
                · rfl
                · (intro w hSw; (try dsimp only at hSw); go_simp; (try with_reducible rfl))
                (try simp only [Act.put, List.setIfInBounds_toArray, List.set_cons_zero, List.set_cons_succ])
                refine wpAnyH_take (i := 8) (oi := ?_) (v := ?_) ?_ (by kernel_rfl) (by kernel_rfl) (by kernel_rfl) (fun _ _ _ h => h) (Or.inl ⟨?_, ?_⟩) hHeld1 ?_
                rotate_left 2
                · (simp only [List.getElem?_toArray, List.getElem?_cons_succ, List.getElem?_cons_zero]; rfl)
                · rfl
                · (intro w hSw; (try dsimp only at hSw); go_simp; (try with_reducible rfl))
                (try simp only [Act.put, List.setIfInBounds_toArray, List.set_cons_zero, List.set_cons_succ])
                refine wpAnyH_take (i := 9) (oi := ?_) (v := ?_) ?_ (by kernel_rfl) (by kernel_rfl) (by kernel_rfl) (fun _ _ _ h => h) (Or.inl ⟨?_, ?_⟩) hHeld1 ?_
                rotate_left 2
                · (simp only [List.getElem?_toArray, List.getElem?_cons_succ, List.getElem?_cons_zero]; rfl)
                · rfl
                · (intro w hSw; (try dsimp only at hSw); go_simp; (try with_reducible rfl))
                (try simp only [Act.put, List.setIfInBounds_toArray, List.set_cons_zero, List.set_cons_succ])
                refine wpAnyH_take (i := 10) (oi := ?_) (v := ?_) ?_ (by kernel_rfl) (by kernel_rfl) (by kernel_rfl) (fun _ _ _ h => h) (Or.inl ⟨?_, ?_⟩) hHeld1 ?_
                rotate_left 2
                · (simp only [List.getElem?_toArray, List.getElem?_cons_succ, List.getElem?_cons_zero]; rfl)
                · rfl
                · (intro w hSw; (try dsimp only at hSw); go_simp; (try with_reducible rfl))
                (try simp only [Act.put, List.setIfInBounds_toArray, List.set_cons_zero, List.set_cons_succ])
                refine wpAnyH_take (i := 11) (oi := ?_) (v := ?_) ?_ (by kernel_rfl) (by kernel_rfl) (by kernel_rfl) (fun _ _ _ h => h) (Or.inl ⟨?_, ?_⟩) hHeld1 ?_
                rotate_left 2
                · (simp only [List.getElem?_toArray, List.getElem?_cons_succ, List.getElem?_cons_zero]; rfl)
                · rfl
                · (intro w hSw; (try dsimp only at hSw); go_simp; (try with_reducible rfl))
                (try simp only [Act.put, List.setIfInBounds_toArray, List.set_cons_zero, List.set_cons_succ])
                refine wpAnyH_take (i := 12) (oi := ?_) (v := ?_) ?_ (by kernel_rfl) (by kernel_rfl) (by kernel_rfl) (fun _ _ _ h => h) (Or.inl ⟨?_, ?_⟩) hHeld1 ?_
                rotate_left 2
                · (simp only [List.getElem?_toArray, List.getElem?_cons_succ, List.getElem?_cons_zero]; rfl)
                · rfl
                · (intro w hSw; (try dsimp only at hSw); go_simp; (try with_reducible rfl))
                (try simp only [Act.put, List.setIfInBounds_toArray, List.set_cons_zero, List.set_cons_succ])
                refine wpAnyH_take (i := 13) (oi := ?_) (v := ?_) ?_ (by kernel_rfl) (by kernel_rfl) (by kernel_rfl) (fun _ _ _ h => h) (Or.inl ⟨?_, ?_⟩) hHeld1 ?_
                rotate_left 2
                · (simp only [List.getElem?_toArray, List.getElem?_cons_succ, List.getElem?_cons_zero]; rfl)
                · rfl
                · (intro w hSw; (try dsimp only at hSw); go_simp; (try with_reducible rfl))
                (try simp only [Act.put, List.setIfInBounds_toArray, List.set_cons_zero, List.set_cons_succ])
                refine wpAnyH_take (i := 14) (oi := ?_) (v := ?_) ?_ (by kernel_rfl) (by kernel_rfl) (by kernel_rfl) (fun _ _ _ h => h) (Or.inl ⟨?_, ?_⟩) hHeld1 ?_
                rotate_left 2
                · (simp only [List.getElem?_toArray, List.getElem?_cons_succ, List.getElem?_cons_zero]; rfl)
                · rfl
                · (intro w hSw; (try dsimp only at hSw); go_simp; (try with_reducible rfl))
                (try simp only [Act.put, List.setIfInBounds_toArray, List.set_cons_zero, List.set_cons_succ])
                refine wpAnyH_take (i := 15) (oi := ?_) (v := ?_) ?_ (by kernel_rfl) (by kernel_rfl) (by kernel_rfl) (fun _ _ _ h => h) (Or.inl ⟨?_, ?_⟩) hHeld1 ?_
                rotate_left 2
                · (simp only [List.getElem?_toArray, List.getElem?_cons_succ, List.getElem?_cons_zero]; rfl)
                · rfl
                · (intro w hSw; (try dsimp only at hSw); go_simp; (try with_reducible rfl))
                (try simp only [Act.put, List.setIfInBounds_toArray, List.set_cons_zero, List.set_cons_succ])
                refine wpAnyH_take (i := 16) (oi := ?_) (v := undef) ?_ (by kernel_rfl) (by kernel_rfl) (by kernel_rfl) (fun _ _ _ h => h) (Or.inr ⟨?_, rfl⟩) hHeld1 ?_
                rotate_left 1
                · (simp only [List.getElem?_toArray, List.getElem?_cons_succ, List.getElem?_cons_zero]; rfl)
                · rfl
                (try simp only [Act.put, List.setIfInBounds_toArray, List.set_cons_zero, List.set_cons_succ])
                refine wpAnyH_take (i := 17) (oi := ?_) (v := undef) ?_ (by kernel_rfl) (by kernel_rfl) (by kernel_rfl) (fun _ _ _ h => h) (Or.inr ⟨?_, rfl⟩) hHeld1 ?_
                rotate_left 1
                · (simp only [List.getElem?_toArray, List.getElem?_cons_succ, List.getElem?_cons_zero]; rfl)
                · rfl
                (try simp only [Act.put, List.setIfInBounds_toArray, List.set_cons_zero, List.set_cons_succ])
                refine wpAnyH_take (i := 18) (oi := ?_) (v := undef) ?_ (by kernel_rfl) (by kernel_rfl) (by kernel_rfl) (fun _ _ _ h => h) (Or.inr ⟨?_, rfl⟩) hHeld1 ?_
                rotate_left 1
                · (simp only [List.getElem?_toArray, List.getElem?_cons_succ, List.getElem?_cons_zero]; rfl)
                · rfl
                (try simp only [Act.put, List.setIfInBounds_toArray, List.set_cons_zero, List.set_cons_succ])
                refine wpAnyH_take (i := 19) (oi := ?_) (v := undef) ?_ (by kernel_rfl) (by kernel_rfl) (by kernel_rfl) (fun _ _ _ h => h) (Or.inr ⟨?_, rfl⟩) hHeld1 ?_
                rotate_left 1
                · (simp only [List.getElem?_toArray, List.getElem?_cons_succ, List.getElem?_cons_zero]; rfl)
                · rfl
                (try simp only [Act.put, List.setIfInBounds_toArray, List.set_cons_zero, List.set_cons_succ])
                refine wpAnyH_take (i := 20) (oi := ?_) (v := undef) ?_ (by kernel_rfl) (by kernel_rfl) (by kernel_rfl) (fun _ _ _ h => h) (Or.inr ⟨?_, rfl⟩) hHeld1 ?_
                rotate_left 1
                · (simp only [List.getElem?_toArray, List.getElem?_cons_succ, List.getElem?_cons_zero]; rfl)
                · rfl
                (try simp only [Act.put, List.setIfInBounds_toArray, List.set_cons_zero, List.set_cons_succ])
                refine wpAnyH_take (i := 21) (oi := ?_) (v := undef) ?_ (by kernel_rfl) (by kernel_rfl) (by kernel_rfl) (fun _ _ _ h => h) (Or.inr ⟨?_, rfl⟩) hHeld1 ?_
                rotate_left 1
                · (simp only [List.getElem?_toArray, List.getElem?_cons_succ, List.getElem?_cons_zero]; rfl)
                · rfl
                (try simp only [Act.put, List.setIfInBounds_toArray, List.set_cons_zero, List.set_cons_succ])
                refine wpAnyH_take (i := 22) (oi := ?_) (v := undef) ?_ (by kernel_rfl) (by kernel_rfl) (by kernel_rfl) (fun _ _ _ h => h) (Or.inr ⟨?_, rfl⟩) hHeld1 ?_
                rotate_left 1
                · (simp only [List.getElem?_toArray, List.getElem?_cons_succ, List.getElem?_cons_zero]; rfl)
                · rfl
                (try simp only [Act.put, List.setIfInBounds_toArray, List.set_cons_zero, List.set_cons_succ])
                refine wpAnyH_take (i := 23) (oi := ?_) (v := undef) ?_ (by kernel_rfl) (by kernel_rfl) (by kernel_rfl) (fun _ _ _ h => h) (Or.inr ⟨?_, rfl⟩) hHeld1 ?_
                rotate_left 1
                · (simp only [List.getElem?_toArray, List.getElem?_cons_succ, List.getElem?_cons_zero]; rfl)
                · rfl
                (try simp only [Act.put, List.setIfInBounds_toArray, List.set_cons_zero, List.set_cons_succ])
                refine wpAnyH_take (i := 24) (oi := ?_) (v := undef) ?_ (by kernel_rfl) (by kernel_rfl) (by kernel_rfl) (fun _ _ _ h => h) (Or.inr ⟨?_, rfl⟩) hHeld1 ?_
                rotate_left 1
                · (simp only [List.getElem?_toArray, List.getElem?_cons_succ, List.getElem?_cons_zero]; rfl)
                · rfl
                (try simp only [Act.put, List.setIfInBounds_toArray, List.set_cons_zero, List.set_cons_succ])
                refine wpAnyH_take (i := 25) (oi := ?_) (v := undef) ?_ (by kernel_rfl) (by kernel_rfl) (by kernel_rfl) (fun _ _ _ h => h) (Or.inr ⟨?_, rfl⟩) hHeld1 ?_
                rotate_left 1
                · (simp only [List.getElem?_toArray, List.getElem?_cons_succ, List.getElem?_cons_zero]; rfl)
                · rfl
                (try simp only [Act.put, List.setIfInBounds_toArray, List.set_cons_zero, List.set_cons_succ])
                refine wpAnyH_take (i := 26) (oi := ?_) (v := undef) ?_ (by kernel_rfl) (by kernel_rfl) (by kernel_rfl) (fun _ _ _ h => h) (Or.inr ⟨?_, rfl⟩) hHeld1 ?_
                rotate_left 1
                · (simp only [List.getElem?_toArray, List.getElem?_cons_succ, List.getElem?_cons_zero]; rfl)
                · rfl
                (try simp only [Act.put, List.setIfInBounds_toArray, List.set_cons_zero, List.set_cons_succ])
                refine wpAnyH_take (i := 27) (oi := ?_) (v := undef) ?_ (by kernel_rfl) (by kernel_rfl) (by kernel_rfl) (fun _ _ _ h => h) (Or.inr ⟨?_, rfl⟩) hHeld1 ?_
                rotate_left 1
                · (simp only [List.getElem?_toArray, List.getElem?_cons_succ, List.getElem?_cons_zero]; rfl)
                · rfl
                (try simp only [Act.put, List.setIfInBounds_toArray, List.set_cons_zero, List.set_cons_succ])
                refine wpAnyH_take (i := 28) (oi := ?_) (v := undef) ?_ (by kernel_rfl) (by kernel_rfl) (by kernel_rfl) (fun _ _ _ h => h) (Or.inr ⟨?_, rfl⟩) hHeld1 ?_
                rotate_left 1
                · (simp only [List.getElem?_toArray, List.getElem?_cons_succ, List.getElem?_cons_zero]; rfl)
                · rfl
                (try simp only [Act.put, List.setIfInBounds_toArray, List.set_cons_zero, List.set_cons_succ])
                refine wpAnyH_take (i := 29) (oi := ?_) (v := ?_) ?_ (by kernel_rfl) (by kernel_rfl) (by kernel_rfl) (fun _ _ _ h => h) (Or.inl ⟨?_, ?_⟩) hHeld1 ?_
                rotate_left 2
                · (simp only [List.getElem?_toArray, List.getElem?_cons_succ, List.getElem?_cons_zero]; rfl)
                · rfl
                · (intro w hSw; (try dsimp only at hSw); go_simp; (try with_reducible rfl))
                (try simp only [Act.put, List.setIfInBounds_toArray, List.set_cons_zero, List.set_cons_succ])
                refine wpAnyH_done (by kernel_rfl) ?_ _
                refine NoPanic.normal ?_
                go_wp2_with fail
                go_meet
                exact ⟨true, rfl, Lib.hid (fun _ => HG.out), Lib.hid (fun h => by cases h), Lib.hid hS2.1⟩
              · have HYb := Lib.hid (show 0 ≤ x.cls ∧ x.cls ≤ 254 by rw [← HY.out]; omega)
                cases k with
                | zero =>
                  refine wp_region_noPanic ?_
                  refine wp_region_held_drew (S := fun W => Below W1.heap.size W1 W ∧ W.cell? ⟨B, 0, none⟩ = some (.int .i64 X) ∧ W.cell? ⟨B, 1, none⟩ = some (.int .i64 Y)) (by kernel_rfl) (HK.out _ (Below.refl _ _).drew) (fun hHeld0 => ?_)
                  (try simp only [Act.put, List.setIfInBounds_toArray, List.set_cons_zero, List.set_cons_succ])
                  refine wpAnyH_take (i := 0) (oi := ?_) (v := ?_) ?_ (by kernel_rfl) (by kernel_rfl) (by kernel_rfl) (fun _ _ _ h => h) (Or.inl ⟨?_, ?_⟩) hHeld0 ?_
                  rotate_left 2
                  · (simp only [List.getElem?_toArray, List.getElem?_cons_zero]; rfl)
                  · rfl
                  · (intro w hSw; (try dsimp only at hSw); go_simp; (try with_reducible rfl))
                  (try simp only [Act.put, List.setIfInBounds_toArray, List.set_cons_zero, List.set_cons_succ])
                  refine wpAnyH_take (i := 1) (oi := ?_) (v := ?_) ?_ (by kernel_rfl) (by kernel_rfl) (by kernel_rfl) (fun _ _ _ h => h) (Or.inl ⟨?_, ?_⟩) hHeld0 ?_
                  rotate_left 2
                  · (simp only [List.getElem?_toArray, List.getElem?_cons_succ, List.getElem?_cons_zero]; rfl)
                  · rfl
                  · (intro w hSw; (try dsimp only at hSw); go_simp; (try with_reducible rfl))
                  (try simp only [Act.put, List.setIfInBounds_toArray, List.set_cons_zero, List.set_cons_succ])
                  refine wpAnyH_take (i := 2) (oi := ?_) (v := ?_) ?_ (by kernel_rfl) (by kernel_rfl) (by kernel_rfl) (fun _ _ _ h => h) (Or.inl ⟨?_, ?_⟩) hHeld0 ?_
                  rotate_left 2
                  · (simp only [List.getElem?_toArray, List.getElem?_cons_succ, List.getElem?_cons_zero]; rfl)
                  · rfl
                  · (intro w hSw; (try dsimp only at hSw); go_simp; (try with_reducible rfl))
                  (try simp only [Act.put, List.setIfInBounds_toArray, List.set_cons_zero, List.set_cons_succ])
                  refine wpAnyH_ready (rs := [3]) (by kernel_rfl) (by simp) ?_
                  refine AllReadyH.cons (by rfl) (fun K hK => ?_) AllReadyH.nil
                  go_simp
                  go_at_call 14
                  refine (HFx.out _).mono ?_
                  rintro e w2 ⟨rfl, hb2⟩
                  have hS2 := HK.out w2 ((Below.refl W1.heap.size W1).drew.trans hb2)
                  clear hb2
                  refine hK.out _ _ (hS2) (fun hHeld1 => ?_)
                  clear hK K
                  (try simp only [Act.put, List.setIfInBounds_toArray, List.set_cons_zero, List.set_cons_succ])
                  refine wpAnyH_take (i := 4) (oi := ?_) (v := ?_) ?_ (by kernel_rfl) (by kernel_rfl) (by kernel_rfl) (fun _ _ _ h => h) (Or.inl ⟨?_, ?_⟩) hHeld1 ?_
                  rotate_left 2
                  · (simp only [List.getElem?_toArray, List.getElem?_cons_succ, List.getElem?_cons_zero]; rfl)
                  · rfl
                  · (intro w hSw; (try dsimp only at hSw); go_simp; (try with_reducible rfl))
                  (try simp only [Act.put, List.setIfInBounds_toArray, List.set_cons_zero, List.set_cons_succ])
                  refine wpAnyH_take (i := 5) (oi := ?_) (v := ?_) ?_ (by kernel_rfl) (by kernel_rfl) (by kernel_rfl) (fun _ _ _ h => h) (Or.inl ⟨?_, ?_⟩) hHeld1 ?_
                  rotate_left 2
                  · (simp only [List.getElem?_toArray, List.getElem?_cons_succ, List.getElem?_cons_zero]; rfl)
                  · rfl
                  · (intro w hSw; (try dsimp only at hSw); go_simp; (try with_reducible rfl))
                  (try simp only [Act.put, List.setIfInBounds_toArray, List.set_cons_zero, List.set_cons_succ])
                  refine wpAnyH_take (i := 6) (oi := ?_) (v := ?_) ?_ (by kernel_rfl) (by kernel_rfl) (by kernel_rfl) (fun _ _ _ h => h) (Or.inl ⟨?_, ?_⟩) hHeld1 ?_
                  rotate_left 2
                  · (simp only [List.getElem?_toArray, List.getElem?_cons_succ, List.getElem?_cons_zero]; rfl)
                  · rfl
                  · (intro w hSw; (try dsimp only at hSw); go_simp; (try with_reducible rfl))
                  (try simp only [Act.put, List.setIfInBounds_toArray, List.set_cons_zero, List.set_cons_succ])
                  refine wpAnyH_take (i := 7) (oi := ?_) (v := ?_) ?_ (by kernel_rfl) (by kernel_rfl) (by kernel_rfl) (fun _ _ _ h => h) (Or.inl ⟨?_, ?_⟩) hHeld1 ?_
                  rotate_left 2
                  · (simp only [List.getElem?_toArray, List.getElem?_cons_succ, List.getElem?_cons_zero]; rfl)
                  · rfl
                  · (intro w hSw; (try dsimp only at hSw); go_simp; (try with_reducible rfl))
                  (try simp only [Act.put, List.setIfInBounds_toArray, List.set_cons_zero, List.set_cons_succ])
                  refine wpAnyH_take (i := 8) (oi := ?_) (v := ?_) ?_ (by kernel_rfl) (by kernel_rfl) (by kernel_rfl) (fun _ _ _ h => h) (Or.inl ⟨?_, ?_⟩) hHeld1 ?_
                  rotate_left 2
                  · (simp only [List.getElem?_toArray, List.getElem?_cons_succ, List.getElem?_cons_zero]; rfl)
                  · rfl
                  · (intro w hSw; (try dsimp only at hSw); go_simp; (try with_reducible rfl))
                  (try simp only [Act.put, List.setIfInBounds_toArray, List.set_cons_zero, List.set_cons_succ])
                  refine wpAnyH_take (i := 9) (oi := ?_) (v := ?_) ?_ (by kernel_rfl) (by kernel_rfl) (by kernel_rfl) (fun _ _ _ h => h) (Or.inl ⟨?_, ?_⟩) hHeld1 ?_
                  rotate_left 2
                  · (simp only [List.getElem?_toArray, List.getElem?_cons_succ, List.getElem?_cons_zero]; rfl)
                  · rfl
                  · (intro w hSw; (try dsimp only at hSw); go_simp; (try with_reducible rfl))
                  (try simp only [Act.put, List.setIfInBounds_toArray, List.set_cons_zero, List.set_cons_succ])
                  refine wpAnyH_take (i := 10) (oi := ?_) (v := ?_) ?_ (by kernel_rfl) (by kernel_rfl) (by kernel_rfl) (fun _ _ _ h => h) (Or.inl ⟨?_, ?_⟩) hHeld1 ?_
                  rotate_left 2
                  · (simp only [List.getElem?_toArray, List.getElem?_cons_succ, List.getElem?_cons_zero]; rfl)
                  · rfl
                  · (intro w hSw; (try dsimp only at hSw); go_simp; (try with_reducible rfl))
                  (try simp only [Act.put, List.setIfInBounds_toArray, List.set_cons_zero, List.set_cons_succ])
                  refine wpAnyH_take (i := 11) (oi := ?_) (v := ?_) ?_ (by kernel_rfl) (by kernel_rfl) (by kernel_rfl) (fun _ _ _ h => h) (Or.inl ⟨?_, ?_⟩) hHeld1 ?_
                  rotate_left 2
                  · (simp only [List.getElem?_toArray, List.getElem?_cons_succ, List.getElem?_cons_zero]; rfl)
                  · rfl
                  · (intro w hSw; (try dsimp only at hSw); go_simp; (try with_reducible rfl))
                  (try simp only [Act.put, List.setIfInBounds_toArray, List.set_cons_zero, List.set_cons_succ])
                  refine wpAnyH_take (i := 12) (oi := ?_) (v := ?_) ?_ (by kernel_rfl) (by kernel_rfl) (by kernel_rfl) (fun _ _ _ h => h) (Or.inl ⟨?_, ?_⟩) hHeld1 ?_
                  rotate_left 2
                  · (simp only [List.getElem?_toArray, List.getElem?_cons_succ, List.getElem?_cons_zero]; rfl)
                  · rfl
                  · (intro w hSw; (try dsimp only at hSw); go_simp; (try with_reducible rfl))
                  (try simp only [Act.put, List.setIfInBounds_toArray, List.set_cons_zero, List.set_cons_succ])
                  refine wpAnyH_take (i := 13) (oi := ?_) (v := ?_) ?_ (by kernel_rfl) (by kernel_rfl) (by kernel_rfl) (fun _ _ _ h => h) (Or.inl ⟨?_, ?_⟩) hHeld1 ?_
                  rotate_left 2
                  · (simp only [List.getElem?_toArray, List.getElem?_cons_succ, List.getElem?_cons_zero]; rfl)
                  · rfl
                  · (intro w hSw; (try dsimp only at hSw); go_simp; (try with_reducible rfl))
                  (try simp only [Act.put, List.setIfInBounds_toArray, List.set_cons_zero, List.set_cons_succ])
                  refine wpAnyH_take (i := 14) (oi := ?_) (v := ?_) ?_ (by kernel_rfl) (by kernel_rfl) (by kernel_rfl) (fun _ _ _ h => h) (Or.inl ⟨?_, ?_⟩) hHeld1 ?_
                  rotate_left 2
                  · (simp only [List.getElem?_toArray, List.getElem?_cons_succ, List.getElem?_cons_zero]; rfl)
                  · rfl
                  · (intro w hSw; (try dsimp only at hSw); go_simp; (try with_reducible rfl))
                  (try simp only [Act.put, List.setIfInBounds_toArray, List.set_cons_zero, List.set_cons_succ])
                  refine wpAnyH_take (i := 15) (oi := ?_) (v := ?_) ?_ (by kernel_rfl) (by kernel_rfl) (by kernel_rfl) (fun _ _ _ h => h) (Or.inl ⟨?_, ?_⟩) hHeld1 ?_
                  rotate_left 2
                  · (simp only [List.getElem?_toArray, List.getElem?_cons_succ, List.getElem?_cons_zero]; rfl)
                  · rfl
                  · (intro w hSw; (try dsimp only at hSw); go_simp; (try with_reducible rfl))
                  (try simp only [Act.put, List.setIfInBounds_toArray, List.set_cons_zero, List.set_cons_succ])
                  refine wpAnyH_take (i := 16) (oi := ?_) (v := ?_) ?_ (by kernel_rfl) (by kernel_rfl) (by kernel_rfl) (fun _ _ _ h => h) (Or.inl ⟨?_, ?_⟩) hHeld1 ?_
                  rotate_left 2
                  · (simp only [List.getElem?_toArray, List.getElem?_cons_succ, List.getElem?_cons_zero]; rfl)
                  · rfl
                  · (intro w hSw; (try dsimp only at hSw); go_simp; (try with_reducible rfl))
                  (try simp only [Act.put, List.setIfInBounds_toArray, List.set_cons_zero, List.set_cons_succ])
                  refine wpAnyH_take (i := 17) (oi := ?_) (v := ?_) ?_ (by kernel_rfl) (by kernel_rfl) (by kernel_rfl) (fun _ _ _ h => h) (Or.inl ⟨?_, ?_⟩) hHeld1 ?_
                  rotate_left 2
                  · (simp only [List.getElem?_toArray, List.getElem?_cons_succ, List.getElem?_cons_zero]; rfl)
                  · rfl
                  · (intro w hSw; (try dsimp only at hSw); go_simp; (try with_reducible rfl))
                  (try simp only [Act.put, List.setIfInBounds_toArray, List.set_cons_zero, List.set_cons_succ])
                  refine wpAnyH_take (i := 18) (oi := ?_) (v := ?_) ?_ (by kernel_rfl) (by kernel_rfl) (by kernel_rfl) (fun _ _ _ h => h) (Or.inl ⟨?_, ?_⟩) hHeld1 ?_
                  rotate_left 2
                  · (simp only [List.getElem?_toArray, List.getElem?_cons_succ, List.getElem?_cons_zero]; rfl)
                  · rfl
                  · (intro w hSw; (try dsimp only at hSw); go_simp; (try with_reducible rfl))
                  (try simp only [Act.put, List.setIfInBounds_toArray, List.set_cons_zero, List.set_cons_succ])
                  refine wpAnyH_take (i := 19) (oi := ?_) (v := undef) ?_ (by kernel_rfl) (by kernel_rfl) (by kernel_rfl) (fun _ _ _ h => h) (Or.inr ⟨?_, rfl⟩) hHeld1 ?_
                  rotate_left 1
                  · (simp only [List.getElem?_toArray, List.getElem?_cons_succ, List.getElem?_cons_zero]; rfl)
                  · rfl
                  (try simp only [Act.put, List.setIfInBounds_toArray, List.set_cons_zero, List.set_cons_succ])
                  refine wpAnyH_take (i := 20) (oi := ?_) (v := undef) ?_ (by kernel_rfl) (by kernel_rfl) (by kernel_rfl) (fun _ _ _ h => h) (Or.inr ⟨?_, rfl⟩) hHeld1 ?_
                  rotate_left 1
                  · (simp only [List.getElem?_toArray, List.getElem?_cons_succ, List.getElem?_cons_zero]; rfl)
                  · rfl
                  (try simp only [Act.put, List.setIfInBounds_toArray, List.set_cons_zero, List.set_cons_succ])
                  refine wpAnyH_take (i := 21) (oi := ?_) (v := undef) ?_ (by kernel_rfl) (by kernel_rfl) (by kernel_rfl) (fun _ _ _ h => h) (Or.inr ⟨?_, rfl⟩) hHeld1 ?_
                  rotate_left 1
                  · (simp only [List.getElem?_toArray, List.getElem?_cons_succ, List.getElem?_cons_zero]; rfl)
                  · rfl
                  (try simp only [Act.put, List.setIfInBounds_toArray, List.set_cons_zero, List.set_cons_succ])
                  refine wpAnyH_take (i := 22) (oi := ?_) (v := undef) ?_ (by kernel_rfl) (by kernel_rfl) (by kernel_rfl) (fun _ _ _ h => h) (Or.inr ⟨?_, rfl⟩) hHeld1 ?_
                  rotate_left 1
                  · (simp only [List.getElem?_toArray, List.getElem?_cons_succ, List.getElem?_cons_zero]; rfl)
                  · rfl
                  (try simp only [Act.put, List.setIfInBounds_toArray, List.set_cons_zero, List.set_cons_succ])
                  refine wpAnyH_take (i := 23) (oi := ?_) (v := undef) ?_ (by kernel_rfl) (by kernel_rfl) (by kernel_rfl) (fun _ _ _ h => h) (Or.inr ⟨?_, rfl⟩) hHeld1 ?_
                  rotate_left 1
                  · (simp only [List.getElem?_toArray, List.getElem?_cons_succ, List.getElem?_cons_zero]; rfl)
                  · rfl
                  (try simp only [Act.put, List.setIfInBounds_toArray, List.set_cons_zero, List.set_cons_succ])
                  refine wpAnyH_take (i := 24) (oi := ?_) (v := undef) ?_ (by kernel_rfl) (by kernel_rfl) (by kernel_rfl) (fun _ _ _ h => h) (Or.inr ⟨?_, rfl⟩) hHeld1 ?_
                  rotate_left 1
                  · (simp only [List.getElem?_toArray, List.getElem?_cons_succ, List.getElem?_cons_zero]; rfl)
                  · rfl
                  (try simp only [Act.put, List.setIfInBounds_toArray, List.set_cons_zero, List.set_cons_succ])
                  refine wpAnyH_take (i := 25) (oi := ?_) (v := undef) ?_ (by kernel_rfl) (by kernel_rfl) (by kernel_rfl) (fun _ _ _ h => h) (Or.inr ⟨?_, rfl⟩) hHeld1 ?_
                  rotate_left 1
                  · (simp only [List.getElem?_toArray, List.getElem?_cons_succ, List.getElem?_cons_zero]; rfl)
                  · rfl
                  (try simp only [Act.put, List.setIfInBounds_toArray, List.set_cons_zero, List.set_cons_succ])
                  refine wpAnyH_take (i := 26) (oi := ?_) (v := undef) ?_ (by kernel_rfl) (by kernel_rfl) (by kernel_rfl) (fun _ _ _ h => h) (Or.inr ⟨?_, rfl⟩) hHeld1 ?_
                  rotate_left 1
                  · (simp only [List.getElem?_toArray, List.getElem?_cons_succ, List.getElem?_cons_zero]; rfl)
                  · rfl
                  (try simp only [Act.put, List.setIfInBounds_toArray, List.set_cons_zero, List.set_cons_succ])
                  refine wpAnyH_take (i := 27) (oi := ?_) (v := undef) ?_ (by kernel_rfl) (by kernel_rfl) (by kernel_rfl) (fun _ _ _ h => h) (Or.inr ⟨?_, rfl⟩) hHeld1 ?_
                  rotate_left 1
                  · (simp only [List.getElem?_toArray, List.getElem?_cons_succ, List.getElem?_cons_zero]; rfl)
                  · rfl
                  (try simp only [Act.put, List.setIfInBounds_toArray, List.set_cons_zero, List.set_cons_succ])
                  refine wpAnyH_take (i := 28) (oi := ?_) (v := ?_) ?_ (by kernel_rfl) (by kernel_rfl) (by kernel_rfl) (fun _ _ _ h => h) (Or.inl ⟨?_, ?_⟩) hHeld1 ?_
                  rotate_left 2
                  · (simp only [List.getElem?_toArray, List.getElem?_cons_succ, List.getElem?_cons_zero]; rfl)
                  · rfl
                  · (intro w hSw; (try dsimp only at hSw); go_simp; (try with_reducible rfl))
                  (try simp only [Act.put, List.setIfInBounds_toArray, List.set_cons_zero, List.set_cons_succ])
                  refine wpAnyH_take (i := 29) (oi := ?_) (v := ?_) ?_ (by kernel_rfl) (by kernel_rfl) (by kernel_rfl) (fun _ _ _ h => h) (Or.inl ⟨?_, ?_⟩) hHeld1 ?_
                  rotate_left 2
                  · (simp only [List.getElem?_toArray, List.getElem?_cons_succ, List.getElem?_cons_zero]; rfl)
                  · rfl
                  · (intro w hSw; (try dsimp only at hSw); go_simp; (try with_reducible rfl))
                  (try simp only [Act.put, List.setIfInBounds_toArray, List.set_cons_zero, List.set_cons_succ])
                  refine wpAnyH_done (by kernel_rfl) ?_ _
                  refine NoPanic.normal ?_
                  go_wp2_with fail
                  go_meet
                  exact ⟨false, rfl, Lib.hid (fun h => by cases h), Lib.hid (fun _ => ⟨⟨HFt.out, HYb.out⟩, HG0.out (by trivial)⟩), Lib.hid hS2.1⟩
                | succ j =>
                  have hjt : j < l.length := by omega
                  obtain ⟨_, _, f1, _, _, _⟩ := (HL.out.below HB1.out).at_ hjt
                  have hj0 : (0 : Int) ≤ (j : Int) + 1 := by omega
                  have hj1 : (0 : Int) < (j : Int) + 1 := by omega
                  have hjw : IntKind.i64.wrap (j : Int) = (j : Int) := by rw [IntKind.wrap_i64]; omega
                  have hjI : (j : Int) < (l.length : Int) := by omega
                  have hjI2 : (j : Int) + 1 < (l.length : Int) := by omega
                  have HP := Lib.hid (HGS.out j rfl hjt)
                  obtain ⟨Z, hZ⟩ : ∃ Z, Z = l[j].pt := ⟨_, rfl⟩
                  rw [← hZ] at f1 HP
                  clear hZ HK
                  have HK := Lib.hid (fun W (hb : Below W1.heap.size W1 W) => (⟨hb, (hb.cell (by simp only; omega)).trans x0, (hb.cell (by simp only; omega)).trans x1, (hb.cell (by simp only; omega)).trans f1⟩ : Below W1.heap.size W1 W ∧ W.cell? ⟨B, 0, none⟩ = some (.int .i64 X) ∧ W.cell? ⟨B, 1, none⟩ = some (.int .i64 Y) ∧ W.cell? ⟨b, o + j * 3, none⟩ = some (.int .i64 Z)))
                  by_cases hneg : Z < X
                  · have hge : ¬ X ≤ Z := by omega
                    have HG := Lib.hid (show x.may = true → mkMay l (j + 1) = true from fun h => by rw [HP.out, h, decide_eq_true hneg]; rfl)
                    clear hneg HP
                    refine wp_region_noPanic ?_
                    refine wp_region_held_drew (S := fun W => Below W1.heap.size W1 W ∧ W.cell? ⟨B, 0, none⟩ = some (.int .i64 X) ∧ W.cell? ⟨B, 1, none⟩ = some (.int .i64 Y) ∧ W.cell? ⟨b, o + j * 3, none⟩ = some (.int .i64 Z)) (by kernel_rfl) (HK.out _ (Below.refl _ _).drew) (fun hHeld0 => ?_)
                    (try simp only [Act.put, List.setIfInBounds_toArray, List.set_cons_zero, List.set_cons_succ])
                    refine wpAnyH_take (i := 0) (oi := ?_) (v := ?_) ?_ (by kernel_rfl) (by kernel_rfl) (by kernel_rfl) (fun _ _ _ h => h) (Or.inl ⟨?_, ?_⟩) hHeld0 ?_
                    rotate_left 2
                    · (simp only [List.getElem?_toArray, List.getElem?_cons_zero]; rfl)
                    · rfl
                    · (intro w hSw; (try dsimp only at hSw); go_simp; (try with_reducible rfl))
                    (try simp only [Act.put, List.setIfInBounds_toArray, List.set_cons_zero, List.set_cons_succ])
                    refine wpAnyH_take (i := 1) (oi := ?_) (v := ?_) ?_ (by kernel_rfl) (by kernel_rfl) (by kernel_rfl) (fun _ _ _ h => h) (Or.inl ⟨?_, ?_⟩) hHeld0 ?_
                    rotate_left 2
                    · (simp only [List.getElem?_toArray, List.getElem?_cons_succ, List.getElem?_cons_zero]; rfl)
                    · rfl
                    · (intro w hSw; (try dsimp only at hSw); go_simp; (try with_reducible rfl))
                    (try simp only [Act.put, List.setIfInBounds_toArray, List.set_cons_zero, List.set_cons_succ])
                    refine wpAnyH_take (i := 2) (oi := ?_) (v := ?_) ?_ (by kernel_rfl) (by kernel_rfl) (by kernel_rfl) (fun _ _ _ h => h) (Or.inl ⟨?_, ?_⟩) hHeld0 ?_
                    rotate_left 2
                    · (simp only [List.getElem?_toArray, List.getElem?_cons_succ, List.getElem?_cons_zero]; rfl)
                    · rfl
                    · (intro w hSw; (try dsimp only at hSw); go_simp; (try with_reducible rfl))
                    (try simp only [Act.put, List.setIfInBounds_toArray, List.set_cons_zero, List.set_cons_succ])
                    refine wpAnyH_ready (rs := [3]) (by kernel_rfl) (by simp) ?_
                    refine AllReadyH.cons (by rfl) (fun K hK => ?_) AllReadyH.nil
                    go_simp
                    go_at_call 14
                    refine (HFx.out _).mono ?_
                    rintro e w2 ⟨rfl, hb2⟩
                    have hS2 := HK.out w2 ((Below.refl W1.heap.size W1).drew.trans hb2)
                    clear hb2
                    refine hK.out _ _ (hS2) (fun hHeld1 => ?_)
                    clear hK K
                    (try simp only [Act.put, List.setIfInBounds_toArray, List.set_cons_zero, List.set_cons_succ])
                    refine wpAnyH_take (i := 4) (oi := ?_) (v := ?_) ?_ (by kernel_rfl) (by kernel_rfl) (by kernel_rfl) (fun _ _ _ h => h) (Or.inl ⟨?_, ?_⟩) hHeld1 ?_
                    rotate_left 2
                    · (simp only [List.getElem?_toArray, List.getElem?_cons_succ, List.getElem?_cons_zero]; rfl)
                    · rfl
                    · (intro w hSw; (try dsimp only at hSw); go_simp; (try with_reducible rfl))
                    (try simp only [Act.put, List.setIfInBounds_toArray, List.set_cons_zero, List.set_cons_succ])
                    refine wpAnyH_take (i := 5) (oi := ?_) (v := ?_) ?_ (by kernel_rfl) (by kernel_rfl) (by kernel_rfl) (fun _ _ _ h => h) (Or.inl ⟨?_, ?_⟩) hHeld1 ?_
                    rotate_left 2
                    · (simp only [List.getElem?_toArray, List.getElem?_cons_succ, List.getElem?_cons_zero]; rfl)
                    · rfl
                    · (intro w hSw; (try dsimp only at hSw); go_simp; (try with_reducible rfl))
                    (try simp only [Act.put, List.setIfInBounds_toArray, List.set_cons_zero, List.set_cons_succ])
                    refine wpAnyH_take (i := 6) (oi := ?_) (v := ?_) ?_ (by kernel_rfl) (by kernel_rfl) (by kernel_rfl) (fun _ _ _ h => h) (Or.inl ⟨?_, ?_⟩) hHeld1 ?_
                    rotate_left 2
                    · (simp only [List.getElem?_toArray, List.getElem?_cons_succ, List.getElem?_cons_zero]; rfl)
                    · rfl
                    · (intro w hSw; (try dsimp only at hSw); go_simp; (try with_reducible rfl))
                    (try simp only [Act.put, List.setIfInBounds_toArray, List.set_cons_zero, List.set_cons_succ])
                    refine wpAnyH_take (i := 7) (oi := ?_) (v := ?_) ?_ (by kernel_rfl) (by kernel_rfl) (by kernel_rfl) (fun _ _ _ h => h) (Or.inl ⟨?_, ?_⟩) hHeld1 ?_
                    rotate_left 2
                    · (simp only [List.getElem?_toArray, List.getElem?_cons_succ, List.getElem?_cons_zero]; rfl)
                    · rfl
                    · (intro w hSw; (try dsimp only at hSw); go_simp; (try with_reducible rfl))
                    (try simp only [Act.put, List.setIfInBounds_toArray, List.set_cons_zero, List.set_cons_succ])
                    refine wpAnyH_take (i := 8) (oi := ?_) (v := ?_) ?_ (by kernel_rfl) (by kernel_rfl) (by kernel_rfl) (fun _ _ _ h => h) (Or.inl ⟨?_, ?_⟩) hHeld1 ?_
                    rotate_left 2
                    · (simp only [List.getElem?_toArray, List.getElem?_cons_succ, List.getElem?_cons_zero]; rfl)
                    · rfl
                    · (intro w hSw; (try dsimp only at hSw); go_simp; (try with_reducible rfl))
                    (try simp only [Act.put, List.setIfInBounds_toArray, List.set_cons_zero, List.set_cons_succ])
                    refine wpAnyH_take (i := 9) (oi := ?_) (v := ?_) ?_ (by kernel_rfl) (by kernel_rfl) (by kernel_rfl) (fun _ _ _ h => h) (Or.inl ⟨?_, ?_⟩) hHeld1 ?_
                    rotate_left 2
                    · (simp only [List.getElem?_toArray, List.getElem?_cons_succ, List.getElem?_cons_zero]; rfl)
                    · rfl
                    · (intro w hSw; (try dsimp only at hSw); go_simp; (try with_reducible rfl))
                    (try simp only [Act.put, List.setIfInBounds_toArray, List.set_cons_zero, List.set_cons_succ])
                    refine wpAnyH_take (i := 10) (oi := ?_) (v := ?_) ?_ (by kernel_rfl) (by kernel_rfl) (by kernel_rfl) (fun _ _ _ h => h) (Or.inl ⟨?_, ?_⟩) hHeld1 ?_
                    rotate_left 2
                    · (simp only [List.getElem?_toArray, List.getElem?_cons_succ, List.getElem?_cons_zero]; rfl)
                    · rfl
                    · (intro w hSw; (try dsimp only at hSw); go_simp; (try with_reducible rfl))
                    (try simp only [Act.put, List.setIfInBounds_toArray, List.set_cons_zero, List.set_cons_succ])
                    refine wpAnyH_take (i := 11) (oi := ?_) (v := ?_) ?_ (by kernel_rfl) (by kernel_rfl) (by kernel_rfl) (fun _ _ _ h => h) (Or.inl ⟨?_, ?_⟩) hHeld1 ?_
                    rotate_left 2
                    · (simp only [List.getElem?_toArray, List.getElem?_cons_succ, List.getElem?_cons_zero]; rfl)
                    · rfl
                    · (intro w hSw; (try dsimp only at hSw); go_simp; (try with_reducible rfl))
                    (try simp only [Act.put, List.setIfInBounds_toArray, List.set_cons_zero, List.set_cons_succ])
                    refine wpAnyH_take (i := 12) (oi := ?_) (v := ?_) ?_ (by kernel_rfl) (by kernel_rfl) (by kernel_rfl) (fun _ _ _ h => h) (Or.inl ⟨?_, ?_⟩) hHeld1 ?_
                    rotate_left 2
                    · (simp only [List.getElem?_toArray, List.getElem?_cons_succ, List.getElem?_cons_zero]; rfl)
                    · rfl
                    · (intro w hSw; (try dsimp only at hSw); go_simp; (try with_reducible rfl))
                    (try simp only [Act.put, List.setIfInBounds_toArray, List.set_cons_zero, List.set_cons_succ])
                    refine wpAnyH_take (i := 13) (oi := ?_) (v := ?_) ?_ (by kernel_rfl) (by kernel_rfl) (by kernel_rfl) (fun _ _ _ h => h) (Or.inl ⟨?_, ?_⟩) hHeld1 ?_
                    rotate_left 2
                    · (simp only [List.getElem?_toArray, List.getElem?_cons_succ, List.getElem?_cons_zero]; rfl)
                    · rfl
                    · (intro w hSw; (try dsimp only at hSw); go_simp; (try with_reducible rfl))
                    (try simp only [Act.put, List.setIfInBounds_toArray, List.set_cons_zero, List.set_cons_succ])
                    refine wpAnyH_take (i := 14) (oi := ?_) (v := ?_) ?_ (by kernel_rfl) (by kernel_rfl) (by kernel_rfl) (fun _ _ _ h => h) (Or.inl ⟨?_, ?_⟩) hHeld1 ?_
                    rotate_left 2
                    · (simp only [List.getElem?_toArray, List.getElem?_cons_succ, List.getElem?_cons_zero]; rfl)
                    · rfl
                    · (intro w hSw; (try dsimp only at hSw); go_simp; (try with_reducible rfl))
                    (try simp only [Act.put, List.setIfInBounds_toArray, List.set_cons_zero, List.set_cons_succ])
                    refine wpAnyH_take (i := 15) (oi := ?_) (v := ?_) ?_ (by kernel_rfl) (by kernel_rfl) (by kernel_rfl) (fun _ _ _ h => h) (Or.inl ⟨?_, ?_⟩) hHeld1 ?_
                    rotate_left 2
                    · (simp only [List.getElem?_toArray, List.getElem?_cons_succ, List.getElem?_cons_zero]; rfl)
                    · rfl
                    · (intro w hSw; (try dsimp only at hSw); go_simp; (try with_reducible rfl))
                    (try simp only [Act.put, List.setIfInBounds_toArray, List.set_cons_zero, List.set_cons_succ])
                    refine wpAnyH_take (i := 16) (oi := ?_) (v := ?_) ?_ (by kernel_rfl) (by kernel_rfl) (by kernel_rfl) (fun _ _ _ h => h) (Or.inl ⟨?_, ?_⟩) hHeld1 ?_
                    rotate_left 2
                    · (simp only [List.getElem?_toArray, List.getElem?_cons_succ, List.getElem?_cons_zero]; rfl)
                    · rfl
                    · (intro w hSw; (try dsimp only at hSw); go_simp; (try with_reducible rfl))
                    (try simp only [Act.put, List.setIfInBounds_toArray, List.set_cons_zero, List.set_cons_succ])
                    refine wpAnyH_take (i := 17) (oi := ?_) (v := ?_) ?_ (by kernel_rfl) (by kernel_rfl) (by kernel_rfl) (fun _ _ _ h => h) (Or.inl ⟨?_, ?_⟩) hHeld1 ?_
                    rotate_left 2
                    · (simp only [List.getElem?_toArray, List.getElem?_cons_succ, List.getElem?_cons_zero]; rfl)
                    · rfl
                    · (intro w hSw; (try dsimp only at hSw); go_simp; (try with_reducible rfl))
                    (try simp only [Act.put, List.setIfInBounds_toArray, List.set_cons_zero, List.set_cons_succ])
                    refine wpAnyH_take (i := 18) (oi := ?_) (v := ?_) ?_ (by kernel_rfl) (by kernel_rfl) (by kernel_rfl) (fun _ _ _ h => h) (Or.inl ⟨?_, ?_⟩) hHeld1 ?_
                    rotate_left 2
                    · (simp only [List.getElem?_toArray, List.getElem?_cons_succ, List.getElem?_cons_zero]; rfl)
                    · rfl
                    · (intro w hSw; (try dsimp only at hSw); go_simp; (try with_reducible rfl))
                    (try simp only [Act.put, List.setIfInBounds_toArray, List.set_cons_zero, List.set_cons_succ])
                    refine wpAnyH_take (i := 19) (oi := ?_) (v := ?_) ?_ (by kernel_rfl) (by kernel_rfl) (by kernel_rfl) (fun _ _ _ h => h) (Or.inl ⟨?_, ?_⟩) hHeld1 ?_
                    rotate_left 2
                    · (simp only [List.getElem?_toArray, List.getElem?_cons_succ, List.getElem?_cons_zero]; rfl)
                    · rfl
                    · (intro w hSw; (try dsimp only at hSw); go_simp; (try with_reducible rfl))
                    (try simp only [Act.put, List.setIfInBounds_toArray, List.set_cons_zero, List.set_cons_succ])
                    refine wpAnyH_take (i := 20) (oi := ?_) (v := ?_) ?_ (by kernel_rfl) (by kernel_rfl) (by kernel_rfl) (fun _ _ _ h => h) (Or.inl ⟨?_, ?_⟩) hHeld1 ?_
                    rotate_left 2
                    · (simp only [List.getElem?_toArray, List.getElem?_cons_succ, List.getElem?_cons_zero]; rfl)
                    · rfl
                    · (intro w hSw; (try dsimp only at hSw); go_simp; (try with_reducible rfl))
                    (try simp only [Act.put, List.setIfInBounds_toArray, List.set_cons_zero, List.set_cons_succ])
                    refine wpAnyH_take (i := 21) (oi := ?_) (v := ?_) ?_ (by kernel_rfl) (by kernel_rfl) (by kernel_rfl) (fun _ _ _ h => h) (Or.inl ⟨?_, ?_⟩) hHeld1 ?_
                    rotate_left 2
                    · (simp only [List.getElem?_toArray, List.getElem?_cons_succ, List.getElem?_cons_zero]; rfl)
                    · rfl
                    · (intro w hSw; (try dsimp only at hSw); go_simp; (try with_reducible rfl))
                    (try simp only [Act.put, List.setIfInBounds_toArray, List.set_cons_zero, List.set_cons_succ])
                    refine wpAnyH_take (i := 22) (oi := ?_) (v := ?_) ?_ (by kernel_rfl) (by kernel_rfl) (by kernel_rfl) (fun _ _ _ h => h) (Or.inl ⟨?_, ?_⟩) hHeld1 ?_
                    rotate_left 2
                    · (simp only [List.getElem?_toArray, List.getElem?_cons_succ, List.getElem?_cons_zero]; rfl)
                    · rfl
                    · (intro w hSw; (try dsimp only at hSw); go_simp; (try with_reducible rfl))
                    (try simp only [Act.put, List.setIfInBounds_toArray, List.set_cons_zero, List.set_cons_succ])
                    refine wpAnyH_take (i := 23) (oi := ?_) (v := ?_) ?_ (by kernel_rfl) (by kernel_rfl) (by kernel_rfl) (fun _ _ _ h => h) (Or.inl ⟨?_, ?_⟩) hHeld1 ?_
                    rotate_left 2
                    · (simp only [List.getElem?_toArray, List.getElem?_cons_succ, List.getElem?_cons_zero]; rfl)
                    · rfl
                    · (intro w hSw; (try dsimp only at hSw); go_simp; (try with_reducible rfl))
                    (try simp only [Act.put, List.setIfInBounds_toArray, List.set_cons_zero, List.set_cons_succ])
                    refine wpAnyH_take (i := 24) (oi := ?_) (v := ?_) ?_ (by kernel_rfl) (by kernel_rfl) (by kernel_rfl) (fun _ _ _ h => h) (Or.inl ⟨?_, ?_⟩) hHeld1 ?_
                    rotate_left 2
                    · (simp only [List.getElem?_toArray, List.getElem?_cons_succ, List.getElem?_cons_zero]; rfl)
                    · rfl
                    · (intro w hSw; (try dsimp only at hSw); go_simp; (try with_reducible rfl))
                    (try simp only [Act.put, List.setIfInBounds_toArray, List.set_cons_zero, List.set_cons_succ])
                    refine wpAnyH_take (i := 25) (oi := ?_) (v := ?_) ?_ (by kernel_rfl) (by kernel_rfl) (by kernel_rfl) (fun _ _ _ h => h) (Or.inl ⟨?_, ?_⟩) hHeld1 ?_
                    rotate_left 2
                    · (simp only [List.getElem?_toArray, List.getElem?_cons_succ, List.getElem?_cons_zero]; rfl)
                    · rfl
                    · (intro w hSw; (try dsimp only at hSw); go_simp; (try with_reducible rfl))
                    (try simp only [Act.put, List.setIfInBounds_toArray, List.set_cons_zero, List.set_cons_succ])
                    refine wpAnyH_take (i := 26) (oi := ?_) (v := ?_) ?_ (by kernel_rfl) (by kernel_rfl) (by kernel_rfl) (fun _ _ _ h => h) (Or.inl ⟨?_, ?_⟩) hHeld1 ?_
                    rotate_left 2
                    · (simp only [List.getElem?_toArray, List.getElem?_cons_succ, List.getElem?_cons_zero]; rfl)
                    · rfl
                    · (intro w hSw; (try dsimp only at hSw); go_simp; (try with_reducible rfl))
                    (try simp only [Act.put, List.setIfInBounds_toArray, List.set_cons_zero, List.set_cons_succ])
                    refine wpAnyH_take (i := 27) (oi := ?_) (v := ?_) ?_ (by kernel_rfl) (by kernel_rfl) (by kernel_rfl) (fun _ _ _ h => h) (Or.inl ⟨?_, ?_⟩) hHeld1 ?_
                    rotate_left 2
                    · (simp only [List.getElem?_toArray, List.getElem?_cons_succ, List.getElem?_cons_zero]; rfl)
                    · rfl
                    · (intro w hSw; (try dsimp only at hSw); go_simp; (try with_reducible rfl))
                    (try simp only [Act.put, List.setIfInBounds_toArray, List.set_cons_zero, List.set_cons_succ])
                    refine wpAnyH_take (i := 28) (oi := ?_) (v := ?_) ?_ (by kernel_rfl) (by kernel_rfl) (by kernel_rfl) (fun _ _ _ h => h) (Or.inl ⟨?_, ?_⟩) hHeld1 ?_
                    rotate_left 2
                    · (simp only [List.getElem?_toArray, List.getElem?_cons_succ, List.getElem?_cons_zero]; rfl)
                    · rfl
                    · (intro w hSw; (try dsimp only at hSw); go_simp; (try with_reducible rfl))
                    (try simp only [Act.put, List.setIfInBounds_toArray, List.set_cons_zero, List.set_cons_succ])
                    refine wpAnyH_take (i := 29) (oi := ?_) (v := ?_) ?_ (by kernel_rfl) (by kernel_rfl) (by kernel_rfl) (fun _ _ _ h => h) (Or.inl ⟨?_, ?_⟩) hHeld1 ?_
                    rotate_left 2
                    · (simp only [List.getElem?_toArray, List.getElem?_cons_succ, List.getElem?_cons_zero]; rfl)
                    · rfl
                    · (intro w hSw; (try dsimp only at hSw); go_simp; (try with_reducible rfl))
                    (try simp only [Act.put, List.setIfInBounds_toArray, List.set_cons_zero, List.set_cons_succ])
                    refine wpAnyH_done (by kernel_rfl) ?_ _
                    refine NoPanic.normal ?_
                    go_wp2_with fail
                    go_meet
                    exact ⟨false, by simp, Lib.hid (fun h => by cases h), Lib.hid (fun _ => ⟨⟨HFt.out, HYb.out⟩, HG.out⟩), Lib.hid hS2.1⟩
                  · have hge : X ≤ Z := by omega
                    have HG := Lib.hid (show mkMay l (j + 1) = false from by rw [HP.out, decide_eq_false hneg, Bool.and_false])
                    clear hneg HP
                    refine wp_region_noPanic ?_
                    refine wp_region_held_drew (S := fun W => Below W1.heap.size W1 W ∧ W.cell? ⟨B, 0, none⟩ = some (.int .i64 X) ∧ W.cell? ⟨B, 1, none⟩ = some (.int .i64 Y) ∧ W.cell? ⟨b, o + j * 3, none⟩ = some (.int .i64 Z)) (by kernel_rfl) (HK.out _ (Below.refl _ _).drew) (fun hHeld0 => ?_)
                    (try simp only [Act.put, List.setIfInBounds_toArray, List.set_cons_zero, List.set_cons_succ])
                    refine wpAnyH_take (i := 0) (oi := ?_) (v := ?_) ?_ (by kernel_rfl) (by kernel_rfl) (by kernel_rfl) (fun _ _ _ h => h) (Or.inl ⟨?_, ?_⟩) hHeld0 ?_
                    rotate_left 2
                    · (simp only [List.getElem?_toArray, List.getElem?_cons_zero]; rfl)
                    · rfl
                    · (intro w hSw; (try dsimp only at hSw); go_simp; (try with_reducible rfl))
                    (try simp only [Act.put, List.setIfInBounds_toArray, List.set_cons_zero, List.set_cons_succ])
                    refine wpAnyH_take (i := 1) (oi := ?_) (v := ?_) ?_ (by kernel_rfl) (by kernel_rfl) (by kernel_rfl) (fun _ _ _ h => h) (Or.inl ⟨?_, ?_⟩) hHeld0 ?_
                    rotate_left 2
                    · (simp only [List.getElem?_toArray, List.getElem?_cons_succ, List.getElem?_cons_zero]; rfl)
                    · rfl
                    · (intro w hSw; (try dsimp only at hSw); go_simp; (try with_reducible rfl))
                    (try simp only [Act.put, List.setIfInBounds_toArray, List.set_cons_zero, List.set_cons_succ])
                    refine wpAnyH_take (i := 2) (oi := ?_) (v := ?_) ?_ (by kernel_rfl) (by kernel_rfl) (by kernel_rfl) (fun _ _ _ h => h) (Or.inl ⟨?_, ?_⟩) hHeld0 ?_
                    rotate_left 2
                    · (simp only [List.getElem?_toArray, List.getElem?_cons_succ, List.getElem?_cons_zero]; rfl)
                    · rfl
                    · (intro w hSw; (try dsimp only at hSw); go_simp; (try with_reducible rfl))
                    (try simp only [Act.put, List.setIfInBounds_toArray, List.set_cons_zero, List.set_cons_succ])
                    refine wpAnyH_ready (rs := [3]) (by kernel_rfl) (by simp) ?_
                    refine AllReadyH.cons (by rfl) (fun K hK => ?_) AllReadyH.nil
                    go_simp
                    go_at_call 14
                    refine (HFx.out _).mono ?_
                    rintro e w2 ⟨rfl, hb2⟩
                    have hS2 := HK.out w2 ((Below.refl W1.heap.size W1).drew.trans hb2)
                    clear hb2
                    refine hK.out _ _ (hS2) (fun hHeld1 => ?_)
                    clear hK K
                    (try simp only [Act.put, List.setIfInBounds_toArray, List.set_cons_zero, List.set_cons_succ])
                    refine wpAnyH_take (i := 4) (oi := ?_) (v := ?_) ?_ (by kernel_rfl) (by kernel_rfl) (by kernel_rfl) (fun _ _ _ h => h) (Or.inl ⟨?_, ?_⟩) hHeld1 ?_
                    rotate_left 2
                    · (simp only [List.getElem?_toArray, List.getElem?_cons_succ, List.getElem?_cons_zero]; rfl)
                    · rfl
                    · (intro w hSw; (try dsimp only at hSw); go_simp; (try with_reducible rfl))
                    (try simp only [Act.put, List.setIfInBounds_toArray, List.set_cons_zero, List.set_cons_succ])
                    refine wpAnyH_take (i := 5) (oi := ?_) (v := ?_) ?_ (by kernel_rfl) (by kernel_rfl) (by kernel_rfl) (fun _ _ _ h => h) (Or.inl ⟨?_, ?_⟩) hHeld1 ?_
                    rotate_left 2
                    · (simp only [List.getElem?_toArray, List.getElem?_cons_succ, List.getElem?_cons_zero]; rfl)
                    · rfl
                    · (intro w hSw; (try dsimp only at hSw); go_simp; (try with_reducible rfl))
                    (try simp only [Act.put, List.setIfInBounds_toArray, List.set_cons_zero, List.set_cons_succ])
                    refine wpAnyH_take (i := 6) (oi := ?_) (v := ?_) ?_ (by kernel_rfl) (by kernel_rfl) (by kernel_rfl) (fun _ _ _ h => h) (Or.inl ⟨?_, ?_⟩) hHeld1 ?_
                    rotate_left 2
                    · (simp only [List.getElem?_toArray, List.getElem?_cons_succ, List.getElem?_cons_zero]; rfl)
                    · rfl
                    · (intro w hSw; (try dsimp only at hSw); go_simp; (try with_reducible rfl))
                    (try simp only [Act.put, List.setIfInBounds_toArray, List.set_cons_zero, List.set_cons_succ])
                    refine wpAnyH_take (i := 7) (oi := ?_) (v := ?_) ?_ (by kernel_rfl) (by kernel_rfl) (by kernel_rfl) (fun _ _ _ h => h) (Or.inl ⟨?_, ?_⟩) hHeld1 ?_
                    rotate_left 2
                    · (simp only [List.getElem?_toArray, List.getElem?_cons_succ, List.getElem?_cons_zero]; rfl)
                    · rfl
                    · (intro w hSw; (try dsimp only at hSw); go_simp; (try with_reducible rfl))
                    (try simp only [Act.put, List.setIfInBounds_toArray, List.set_cons_zero, List.set_cons_succ])
                    refine wpAnyH_take (i := 8) (oi := ?_) (v := ?_) ?_ (by kernel_rfl) (by kernel_rfl) (by kernel_rfl) (fun _ _ _ h => h) (Or.inl ⟨?_, ?_⟩) hHeld1 ?_
                    rotate_left 2
                    · (simp only [List.getElem?_toArray, List.getElem?_cons_succ, List.getElem?_cons_zero]; rfl)
                    · rfl
                    · (intro w hSw; (try dsimp only at hSw); go_simp; (try with_reducible rfl))
                    (try simp only [Act.put, List.setIfInBounds_toArray, List.set_cons_zero, List.set_cons_succ])
                    refine wpAnyH_take (i := 9) (oi := ?_) (v := ?_) ?_ (by kernel_rfl) (by kernel_rfl) (by kernel_rfl) (fun _ _ _ h => h) (Or.inl ⟨?_, ?_⟩) hHeld1 ?_
                    rotate_left 2
                    · (simp only [List.getElem?_toArray, List.getElem?_cons_succ, List.getElem?_cons_zero]; rfl)
                    · rfl
                    · (intro w hSw; (try dsimp only at hSw); go_simp; (try with_reducible rfl))
                    (try simp only [Act.put, List.setIfInBounds_toArray, List.set_cons_zero, List.set_cons_succ])
                    refine wpAnyH_take (i := 10) (oi := ?_) (v := ?_) ?_ (by kernel_rfl) (by kernel_rfl) (by kernel_rfl) (fun _ _ _ h => h) (Or.inl ⟨?_, ?_⟩) hHeld1 ?_
                    rotate_left 2
                    · (simp only [List.getElem?_toArray, List.getElem?_cons_succ, List.getElem?_cons_zero]; rfl)
                    · rfl
                    · (intro w hSw; (try dsimp only at hSw); go_simp; (try with_reducible rfl))
                    (try simp only [Act.put, List.setIfInBounds_toArray, List.set_cons_zero, List.set_cons_succ])
                    refine wpAnyH_take (i := 11) (oi := ?_) (v := ?_) ?_ (by kernel_rfl) (by kernel_rfl) (by kernel_rfl) (fun _ _ _ h => h) (Or.inl ⟨?_, ?_⟩) hHeld1 ?_
                    rotate_left 2
                    · (simp only [List.getElem?_toArray, List.getElem?_cons_succ, List.getElem?_cons_zero]; rfl)
                    · rfl
                    · (intro w hSw; (try dsimp only at hSw); go_simp; (try with_reducible rfl))
                    (try simp only [Act.put, List.setIfInBounds_toArray, List.set_cons_zero, List.set_cons_succ])
                    refine wpAnyH_take (i := 12) (oi := ?_) (v := ?_) ?_ (by kernel_rfl) (by kernel_rfl) (by kernel_rfl) (fun _ _ _ h => h) (Or.inl ⟨?_, ?_⟩) hHeld1 ?_
                    rotate_left 2
                    · (simp only [List.getElem?_toArray, List.getElem?_cons_succ, List.getElem?_cons_zero]; rfl)
                    · rfl
                    · (intro w hSw; (try dsimp only at hSw); go_simp; (try with_reducible rfl))
                    (try simp only [Act.put, List.setIfInBounds_toArray, List.set_cons_zero, List.set_cons_succ])
                    refine wpAnyH_take (i := 13) (oi := ?_) (v := ?_) ?_ (by kernel_rfl) (by kernel_rfl) (by kernel_rfl) (fun _ _ _ h => h) (Or.inl ⟨?_, ?_⟩) hHeld1 ?_
                    rotate_left 2
                    · (simp only [List.getElem?_toArray, List.getElem?_cons_succ, List.getElem?_cons_zero]; rfl)
                    · rfl
                    · (intro w hSw; (try dsimp only at hSw); go_simp; (try with_reducible rfl))
                    (try simp only [Act.put, List.setIfInBounds_toArray, List.set_cons_zero, List.set_cons_succ])
                    refine wpAnyH_take (i := 14) (oi := ?_) (v := ?_) ?_ (by kernel_rfl) (by kernel_rfl) (by kernel_rfl) (fun _ _ _ h => h) (Or.inl ⟨?_, ?_⟩) hHeld1 ?_
                    rotate_left 2
                    · (simp only [List.getElem?_toArray, List.getElem?_cons_succ, List.getElem?_cons_zero]; rfl)
                    · rfl
                    · (intro w hSw; (try dsimp only at hSw); go_simp; (try with_reducible rfl))
                    (try simp only [Act.put, List.setIfInBounds_toArray, List.set_cons_zero, List.set_cons_succ])
                    refine wpAnyH_take (i := 15) (oi := ?_) (v := ?_) ?_ (by kernel_rfl) (by kernel_rfl) (by kernel_rfl) (fun _ _ _ h => h) (Or.inl ⟨?_, ?_⟩) hHeld1 ?_
                    rotate_left 2
                    · (simp only [List.getElem?_toArray, List.getElem?_cons_succ, List.getElem?_cons_zero]; rfl)
                    · rfl
                    · (intro w hSw; (try dsimp only at hSw); go_simp; (try with_reducible rfl))
                    (try simp only [Act.put, List.setIfInBounds_toArray, List.set_cons_zero, List.set_cons_succ])
                    refine wpAnyH_take (i := 16) (oi := ?_) (v := ?_) ?_ (by kernel_rfl) (by kernel_rfl) (by kernel_rfl) (fun _ _ _ h => h) (Or.inl ⟨?_, ?_⟩) hHeld1 ?_
                    rotate_left 2
                    · (simp only [List.getElem?_toArray, List.getElem?_cons_succ, List.getElem?_cons_zero]; rfl)
                    · rfl
                    · (intro w hSw; (try dsimp only at hSw); go_simp; (try with_reducible rfl))
                    (try simp only [Act.put, List.setIfInBounds_toArray, List.set_cons_zero, List.set_cons_succ])
                    refine wpAnyH_take (i := 17) (oi := ?_) (v := ?_) ?_ (by kernel_rfl) (by kernel_rfl) (by kernel_rfl) (fun _ _ _ h => h) (Or.inl ⟨?_, ?_⟩) hHeld1 ?_
                    rotate_left 2
                    · (simp only [List.getElem?_toArray, List.getElem?_cons_succ, List.getElem?_cons_zero]; rfl)
                    · rfl
                    · (intro w hSw; (try dsimp only at hSw); go_simp; (try with_reducible rfl))
                    (try simp only [Act.put, List.setIfInBounds_toArray, List.set_cons_zero, List.set_cons_succ])
                    refine wpAnyH_take (i := 18) (oi := ?_) (v := ?_) ?_ (by kernel_rfl) (by kernel_rfl) (by kernel_rfl) (fun _ _ _ h => h) (Or.inl ⟨?_, ?_⟩) hHeld1 ?_
                    rotate_left 2
                    · (simp only [List.getElem?_toArray, List.getElem?_cons_succ, List.getElem?_cons_zero]; rfl)
                    · rfl
                    · (intro w hSw; (try dsimp only at hSw); go_simp; (try with_reducible rfl))
                    (try simp only [Act.put, List.setIfInBounds_toArray, List.set_cons_zero, List.set_cons_succ])
                    refine wpAnyH_take (i := 19) (oi := ?_) (v := ?_) ?_ (by kernel_rfl) (by kernel_rfl) (by kernel_rfl) (fun _ _ _ h => h) (Or.inl ⟨?_, ?_⟩) hHeld1 ?_
                    rotate_left 2
                    · (simp only [List.getElem?_toArray, List.getElem?_cons_succ, List.getElem?_cons_zero]; rfl)
                    · rfl
                    · (intro w hSw; (try dsimp only at hSw); go_simp; (try with_reducible rfl))
                    (try simp only [Act.put, List.setIfInBounds_toArray, List.set_cons_zero, List.set_cons_succ])
                    refine wpAnyH_take (i := 20) (oi := ?_) (v := ?_) ?_ (by kernel_rfl) (by kernel_rfl) (by kernel_rfl) (fun _ _ _ h => h) (Or.inl ⟨?_, ?_⟩) hHeld1 ?_
                    rotate_left 2
                    · (simp only [List.getElem?_toArray, List.getElem?_cons_succ, List.getElem?_cons_zero]; rfl)
                    · rfl
                    · (intro w hSw; (try dsimp only at hSw); go_simp; (try with_reducible rfl))
                    (try simp only [Act.put, List.setIfInBounds_toArray, List.set_cons_zero, List.set_cons_succ])
                    refine wpAnyH_take (i := 21) (oi := ?_) (v := ?_) ?_ (by kernel_rfl) (by kernel_rfl) (by kernel_rfl) (fun _ _ _ h => h) (Or.inl ⟨?_, ?_⟩) hHeld1 ?_
                    rotate_left 2
                    · (simp only [List.getElem?_toArray, List.getElem?_cons_succ, List.getElem?_cons_zero]; rfl)
                    · rfl
                    · (intro w hSw; (try dsimp only at hSw); go_simp; (try with_reducible rfl))
                    (try simp only [Act.put, List.setIfInBounds_toArray, List.set_cons_zero, List.set_cons_succ])
                    refine wpAnyH_take (i := 22) (oi := ?_) (v := ?_) ?_ (by kernel_rfl) (by kernel_rfl) (by kernel_rfl) (fun _ _ _ h => h) (Or.inl ⟨?_, ?_⟩) hHeld1 ?_
                    rotate_left 2
                    · (simp only [List.getElem?_toArray, List.getElem?_cons_succ, List.getElem?_cons_zero]; rfl)
                    · rfl
                    · (intro w hSw; (try dsimp only at hSw); go_simp; (try with_reducible rfl))
                    (try simp only [Act.put, List.setIfInBounds_toArray, List.set_cons_zero, List.set_cons_succ])
                    refine wpAnyH_take (i := 23) (oi := ?_) (v := ?_) ?_ (by kernel_rfl) (by kernel_rfl) (by kernel_rfl) (fun _ _ _ h => h) (Or.inl ⟨?_, ?_⟩) hHeld1 ?_
                    rotate_left 2
                    · (simp only [List.getElem?_toArray, List.getElem?_cons_succ, List.getElem?_cons_zero]; rfl)
                    · rfl
                    · (intro w hSw; (try dsimp only at hSw); go_simp; (try with_reducible rfl))
                    (try simp only [Act.put, List.setIfInBounds_toArray, List.set_cons_zero, List.set_cons_succ])
                    refine wpAnyH_take (i := 24) (oi := ?_) (v := ?_) ?_ (by kernel_rfl) (by kernel_rfl) (by kernel_rfl) (fun _ _ _ h => h) (Or.inl ⟨?_, ?_⟩) hHeld1 ?_
                    rotate_left 2
                    · (simp only [List.getElem?_toArray, List.getElem?_cons_succ, List.getElem?_cons_zero]; rfl)
                    · rfl
                    · (intro w hSw; (try dsimp only at hSw); go_simp; (try with_reducible rfl))
                    (try simp only [Act.put, List.setIfInBounds_toArray, List.set_cons_zero, List.set_cons_succ])
                    refine wpAnyH_take (i := 25) (oi := ?_) (v := ?_) ?_ (by kernel_rfl) (by kernel_rfl) (by kernel_rfl) (fun _ _ _ h => h) (Or.inl ⟨?_, ?_⟩) hHeld1 ?_
                    rotate_left 2
                    · (simp only [List.getElem?_toArray, List.getElem?_cons_succ, List.getElem?_cons_zero]; rfl)
                    · rfl
                    · (intro w hSw; (try dsimp only at hSw); go_simp; (try with_reducible rfl))
                    (try simp only [Act.put, List.setIfInBounds_toArray, List.set_cons_zero, List.set_cons_succ])
                    refine wpAnyH_take (i := 26) (oi := ?_) (v := ?_) ?_ (by kernel_rfl) (by kernel_rfl) (by kernel_rfl) (fun _ _ _ h => h) (Or.inl ⟨?_, ?_⟩) hHeld1 ?_
                    rotate_left 2
                    · (simp only [List.getElem?_toArray, List.getElem?_cons_succ, List.getElem?_cons_zero]; rfl)
                    · rfl
                    · (intro w hSw; (try dsimp only at hSw); go_simp; (try with_reducible rfl))
                    (try simp only [Act.put, List.setIfInBounds_toArray, List.set_cons_zero, List.set_cons_succ])
                    refine wpAnyH_take (i := 27) (oi := ?_) (v := ?_) ?_ (by kernel_rfl) (by kernel_rfl) (by kernel_rfl) (fun _ _ _ h => h) (Or.inl ⟨?_, ?_⟩) hHeld1 ?_
                    rotate_left 2
                    · (simp only [List.getElem?_toArray, List.getElem?_cons_succ, List.getElem?_cons_zero]; rfl)
                    · rfl
                    · (intro w hSw; (try dsimp only at hSw); go_simp; (try with_reducible rfl))
                    (try simp only [Act.put, List.setIfInBounds_toArray, List.set_cons_zero, List.set_cons_succ])
                    refine wpAnyH_take (i := 28) (oi := ?_) (v := ?_) ?_ (by kernel_rfl) (by kernel_rfl) (by kernel_rfl) (fun _ _ _ h => h) (Or.inl ⟨?_, ?_⟩) hHeld1 ?_
                    rotate_left 2
                    · (simp only [List.getElem?_toArray, List.getElem?_cons_succ, List.getElem?_cons_zero]; rfl)
                    · rfl
                    · (intro w hSw; (try dsimp only at hSw); go_simp; (try with_reducible rfl))
                    (try simp only [Act.put, List.setIfInBounds_toArray, List.set_cons_zero, List.set_cons_succ])
                    refine wpAnyH_take (i := 29) (oi := ?_) (v := ?_) ?_ (by kernel_rfl) (by kernel_rfl) (by kernel_rfl) (fun _ _ _ h => h) (Or.inl ⟨?_, ?_⟩) hHeld1 ?_
                    rotate_left 2
                    · (simp only [List.getElem?_toArray, List.getElem?_cons_succ, List.getElem?_cons_zero]; rfl)
                    · rfl
                    · (intro w hSw; (try dsimp only at hSw); go_simp; (try with_reducible rfl))
                    (try simp only [Act.put, List.setIfInBounds_toArray, List.set_cons_zero, List.set_cons_succ])
                    refine wpAnyH_done (by kernel_rfl) ?_ _
                    refine NoPanic.normal ?_
                    go_wp2_with fail
                    go_meet
                    exact ⟨true, by simp, Lib.hid (fun _ => HG.out), Lib.hid (fun h => by cases h), Lib.hid hS2.1⟩
        case rest =>
          obtain ⟨r, rfl, Hbad, Hgood, HBc⟩ := hcut
          cases r with
          | true =>
            have HR := Lib.hid (why_bad HF.out hlt (Hbad.out rfl))
            have HBz := Lib.hid (HB1.out.trans (HBc.out.mono hwz1))
            clear Hbad Hgood
            go_wp2_with fail
            go_ret2
            exact .of HR.out.1.symm (by rw [HR.out.2]; rfl) HBz.out
          | false =>
            have HH := Lib.hid (Hgood.out rfl).1
            have HG := Lib.hid (Hgood.out rfl).2
            have hwz2 := HBc.out.size
            obtain ⟨x0, x1, x2⟩ := (HX1.out.below HBc.out (by omega)).cells
            have HOp0 := Lib.hid (World.ownsRow_nil wc W1.heap.size 9 1)
            clear Hbad Hgood
            go_wp2_with fail
            clear x0 x1 x2
            go_loopw [6, 9, 56] (fun t6 t9 i wr => ∃ (k2 n2 cc : Nat) (vp : Value), t6 = .int .i64 n2 ∧ t9 = vp ∧ i = .int .i64 k2 ∧ k2 ≤ x.parts.length ∧ cc ≤ k2 ∧ n2 = n + 5 * cc ∧ n2 ≤ 65541 ∧ cc ≤ 13110 ∧ Hid (n2 ≤ 65536 → cc = k2) ∧ Hid ((x.parts.take k2).all fitsB = true) ∧ Hid (Below W1.heap.size W1 wr) ∧ Hid (wr.ownsRow W1.heap.size 9 1 vp (hexs (x.parts.take cc)).length (strsV (hexs (x.parts.take cc))))) (fun _ _ i _ => x.parts.length - (intOf i).toNat)
            case atStart => exact ⟨0, n, 0, _, rfl, rfl, rfl, by omega, by omega, rfl, hn, by omega, Lib.hid (fun _ => rfl), Lib.hid rfl, HBc, HOp0⟩
            case round =>
              clear HBc HOp0 hwz2
              obtain ⟨k2, n2, cc, vp, rfl, hvp, rfl, hk2, hck, hn2, hn2b, hcb, HCk, HA2, HBq, HOp⟩ := hrel
              replace hvp := hvp.symm
              subst hvp
              have hwzq := HBq.out.size
              have HN2 := Lib.hid hn2
              by_cases hlt2 : k2 < x.parts.length
              · obtain ⟨b1, o1, d1, e1, hb1, g1⟩ := (HE1.out.below HBq.out).int hlt2
                injection e1 with e1 _ ec1; subst e1 ec1
                have hlt2I : (k2 : Int) < (x.parts.length : Int) := by omega
                clear hn2
                go_wp2_with fail
                refine (HFi.out _ _).mono ?_
                rintro e w2 ⟨rfl, hb2⟩
                have HB2 := Lib.hid (HBq.out.trans (hb2.mono hwzq))
                have hw2z := HB2.out.size
                have HOp2 := Lib.hid (own_below HOp.out hb2)
                clear hb2 g1
                cases hp : fitsB x.parts[k2] with
                | false =>
                  have HR := Lib.hid (HRbad.out (may_no3 (all_bad hlt2 hp)))
                  have HBz := Lib.hid (HB1.out.trans (HB2.out.mono hwz1))
                  clear hp
                  go_wp2_with fail
                  go_ret2
                  exact .of HR.out.1.symm (by rw [HR.out.2]; rfl) HBz.out
                | true =>
                  have HA3 := Lib.hid (all_take_succ hlt2 HA2.out hp)
                  obtain ⟨hp1, hp2⟩ := fits_point hp
                  clear hp
                  by_cases hsz : n2 ≤ 65536
                  · have hszI : (n2 : Int) ≤ 65536 := by omega
                    obtain rfl : cc = k2 := HCk.out hsz
                    have HT2 := Lib.hid (hexs_take hlt2)
                    obtain ⟨q, hq⟩ := Int.eq_ofNat_of_zero_le hp1
                    rw [hq] at hp2 ⊢
                    have hql : q ≤ 1114111 := by omega
                    have hqt : x.parts[cc].toNat = q := by rw [hq]; rfl
                    rw [hqt] at HT2
                    have HXn := Lib.hid (HX.out q hql w2 (HB1.out.trans (HB2.out.mono hwz1)))
                    have hlenk : (hexs (x.parts.take cc)).length ≤ 13110 := by simp [hexs]; omega
                    have hcc2 : cc + 1 ≤ 13110 := by have := HN2.out; omega
                    clear hp1 hp2 hq hqt
                    go_wp2_with fail
                    refine HXn.out.mono ?_
                    rintro e w3 ⟨rfl, hb3⟩
                    have HB3 := Lib.hid (HB2.out.trans (hb3.mono hw2z))
                    have hw3z := HB3.out.size
                    have HOp3 := Lib.hid (own_below HOp2.out hb3)
                    clear hb3
                    go_wp2_with (at_builtin; refine wpList_append_own _ rfl _ _ 38 rfl W1.heap.size 9 i0 (.string ⟨#[]⟩) 1 16 Tryz.underlying38 hi hz0 hz1 hz2 rfl (by decide) _ _ _ rfl (HOp3.out.alloc _) ⟨w3.heap.size, 0, none⟩ 1 1 [.string (txt (hexW q))] rfl rfl (World.news_of_block (cs := #[.string (txt (hexW q))]) (t := 9) (fr := (0, 0)) (heap_alloc_new w3 _)) (by simp [Value.oneCell']) (by unfold maxLen; omega) (by omega) (by simp; omega) ?_; intro v4 w4 hown4 hgrow4 hne4)
                    have hgrow5 : (w3.alloc (Obj.cells #[.string (txt (hexW q))] 9)).grownBy w4 vp.ownBlock := hgrow4
                    have HB4 := Lib.hid ((HB3.out.alloc hw3z (Obj.cells #[.string (txt (hexW q))] 9)).grown hgrow5 (by simp; omega) (fun j ej => by have := row_ge HOp3.out ej; omega))
                    have HOp4 := Lib.hid (show w4.ownsRow W1.heap.size 9 1 v4 (hexs (x.parts.take (cc + 1))).length (strsV (hexs (x.parts.take (cc + 1)))) by
                      rw [HT2.out, strsV_snoc, List.length_append]
                      exact hown4)
                    clear hown4 hgrow4 hgrow5 hne4
                    go_wp2_with fail
                    go_roundw
                    case rel => exact ⟨cc + 1, n2 + 5, cc + 1, _, by go_num, rfl, by go_num, by omega, by omega, by have := HN2.out; omega, by omega, hcc2, Lib.hid (fun _ => rfl), HA3, HB4, HOp4⟩
                    case measure => simp [intOf]; omega
                  · have hszI : ¬ (n2 : Int) ≤ 65536 := by omega
                    go_wp2_with fail
                    go_roundw
                    case rel => exact ⟨k2 + 1, n2, cc, _, rfl, rfl, by go_num, by omega, by omega, HN2.out, by omega, by omega, Lib.hid (fun h => absurd h hsz), HA3, HB2, HOp2⟩
                    case measure => simp [intOf]; omega
              · obtain rfl : k2 = x.parts.length := by omega
                have HPA := Lib.hid (show x.parts.all fitsB = true by have h9 := HA2.out; rwa [List.take_length] at h9)
                have HMy := Lib.hid (show x.may = true from may_ok HH.out.1 HH.out.2 HPA.out)
                have HTk := Lib.hid (HG.out HMy.out)
                have HCs := Lib.hid (show Cut l (k + 1) n2 (ts ++ [x.head ++ ptsText (x.parts.take cc)]) by
                  have h9 := HC.out.step hlt (by rw [← HXe.out]; exact HMy.out) (c := cc) (by rw [← HXe.out]; omega) (by rw [← HN2.out]; omega) (by rw [← HN2.out, ← HXe.out]; exact HCk.out)
                  rw [← HN2.out, ← HXe.out] at h9
                  exact h9)
                have hxl : (x.head ++ ptsText (x.parts.take cc)).length ≤ 100000 := HCs.out.mx _ (by simp)
                have hlk : ts.length ≤ 4096 := by have := HC.out.len; omega
                have HJl := Lib.hid (show (ptsText (x.parts.take cc)).length ≤ 100000 by simp only [List.length_append] at hxl; omega)
                obtain ⟨P, hP⟩ := Int.eq_ofNat_of_zero_le (fits_point HH.out.1).1
                obtain ⟨C, hC⟩ := Int.eq_ofNat_of_zero_le HH.out.2.1
                have hP2 : P ≤ 1114111 := by have := (fits_point HH.out.1).2; omega
                have hC2 : C ≤ 254 := by have := HH.out.2.2; omega
                have HHd := Lib.hid (show x.head = hexW P ++ [59] ++ Lib.decDigits C ++ [59] by unfold MK.head; rw [hP, hC]; rfl)
                have h6 := hexW_few hP2
                have h3 := (dec_three hC2).2
                have HBw := Lib.hid (HB1.out.trans (HBq.out.mono hwz1))
                have HXq := Lib.hid (show MBox wr B P C (.slice A1 x.parts.length c1) by have h9 := HX1.out.below HBq.out (by omega); rw [hP, hC] at h9; exact h9)
                have HOw := Lib.hid (own_below HO1.out HBq.out)
                have HXP := Lib.hid (fun (W : World) (hb : Below wr.heap.size wr W) => HX.out P hP2 W (HBw.out.trans (hb.mono (by omega))))
                have HIC := Lib.hid (fun (W : World) (hb : Below wr.heap.size wr W) => HI.out C hC2 W (HBw.out.trans (hb.mono (by omega))))
                have hccl : cc ≤ x.parts.length := hck
                have HJ := Lib.hid (fun (W : World) (hb : Below wr.heap.size wr W) => joined_any (hexs (x.parts.take cc)) [32] vp W1.heap.size W (own_below HOp.out hb) (by simp [hexs]; omega) (by have : Lib.join (hexs (x.parts.take cc)) [32] = ptsText (x.parts.take cc) := rfl; rw [this]; have := HJl.out; omega))
                obtain ⟨PT, hPT⟩ : ∃ PT, PT = ptsText (x.parts.take cc) := ⟨_, rfl⟩
                have HJ2 := Lib.hid (fun (W : World) (hb : Below wr.heap.size wr W) => (show Calls Tryz.prog 19 #[vp, .string (txt [32])] W (Ret (.string (txt PT)) W) by rw [hPT]; exact HJ.out W hb))
                rw [← hPT] at HCs hxl HJl
                have hjl := HJl.out
                have hBlt := HXq.out.lt
                clear hlt2 HA2 hP hC hPT HJ HCk hxl hn2
                obtain ⟨x0, x1, x2⟩ := HXq.out.cells
                have z1 : (9223372036854775807 < (txt (hexW P)).size + 1) = False := eq_false (by rw [txt_size]; omega)
                have z2 : (9223372036854775807 < (txt (hexW P)).size + 1 + (txt (Lib.decDigits C)).size) = False := eq_false (by rw [txt_size, txt_size]; omega)
                have z3 : (9223372036854775807 < (txt (hexW P)).size + 1 + (txt (Lib.decDigits C)).size + 1) = False := eq_false (by rw [txt_size, txt_size]; omega)
                have z4 : (9223372036854775807 < (txt (hexW P)).size + 1 + (txt (Lib.decDigits C)).size + 1 + (txt PT).size) = False := eq_false (by rw [txt_size, txt_size, txt_size]; omega)
                have HS1 := Lib.hid (show txt (hexW P) ++ txt [59] ++ txt (Lib.decDigits C) ++ txt [59] ++ txt PT = txt (x.head ++ PT) by rw [HHd.out]; simp only [txt_append])
                have HS2 := Lib.hid (show (txt (hexW P) ++ ⟨#[59]⟩ ++ txt (Lib.decDigits C) ++ ⟨#[59]⟩ ++ txt PT : ByteArray) = txt (x.head ++ PT) from HS1.out)
                have HK := Lib.hid (fun (W : World) (hb : Below wr.heap.size wr W) => (⟨(hb.cell (by simp only; omega)).trans x0, (hb.cell (by simp only; omega)).trans x1⟩ : W.cell? ⟨B, 0, none⟩ = some (.int .i64 P) ∧ W.cell? ⟨B, 1, none⟩ = some (.int .i64 C)))
                go_upto_region 21 with fail
                refine wp_region_noPanic ?_
                refine wp_region_held_drew (S := fun W => W.cell? ⟨B, 0, none⟩ = some (.int .i64 P) ∧ W.cell? ⟨B, 1, none⟩ = some (.int .i64 C)) (by kernel_rfl) (HK.out _ (Below.refl _ _).drew) (fun hHeld0 => ?_)
                (try simp only [Act.put, List.setIfInBounds_toArray, List.set_cons_zero, List.set_cons_succ])
                refine wpAnyH_take (i := 0) (oi := ?_) (v := ?_) ?_ (by kernel_rfl) (by kernel_rfl) (by kernel_rfl) (fun _ _ _ h => h) (Or.inl ⟨?_, ?_⟩) hHeld0 ?_
                rotate_left 2
                · (simp only [List.getElem?_toArray, List.getElem?_cons_zero]; rfl)
                · rfl
                · (intro w hSw; (try dsimp only at hSw); go_simp; (try with_reducible rfl))
                (try simp only [Act.put, List.setIfInBounds_toArray, List.set_cons_zero, List.set_cons_succ])
                refine wpAnyH_take (i := 1) (oi := ?_) (v := ?_) ?_ (by kernel_rfl) (by kernel_rfl) (by kernel_rfl) (fun _ _ _ h => h) (Or.inl ⟨?_, ?_⟩) hHeld0 ?_
                rotate_left 2
                · (simp only [List.getElem?_toArray, List.getElem?_cons_succ, List.getElem?_cons_zero]; rfl)
                · rfl
                · (intro w hSw; (try dsimp only at hSw); go_simp; (try with_reducible rfl))
                (try simp only [Act.put, List.setIfInBounds_toArray, List.set_cons_zero, List.set_cons_succ])
                refine wpAnyH_take (i := 2) (oi := ?_) (v := ?_) ?_ (by kernel_rfl) (by kernel_rfl) (by kernel_rfl) (fun _ _ _ h => h) (Or.inl ⟨?_, ?_⟩) hHeld0 ?_
                rotate_left 2
                · (simp only [List.getElem?_toArray, List.getElem?_cons_succ, List.getElem?_cons_zero]; rfl)
                · rfl
                · (intro w hSw; (try dsimp only at hSw); go_simp; (try with_reducible rfl))
                (try simp only [Act.put, List.setIfInBounds_toArray, List.set_cons_zero, List.set_cons_succ])
                refine wpAnyH_take (i := 5) (oi := ?_) (v := ?_) ?_ (by kernel_rfl) (by kernel_rfl) (by kernel_rfl) (fun _ _ _ h => h) (Or.inl ⟨?_, ?_⟩) hHeld0 ?_
                rotate_left 2
                · (simp only [List.getElem?_toArray, List.getElem?_cons_succ, List.getElem?_cons_zero]; rfl)
                · rfl
                · (intro w hSw; (try dsimp only at hSw); go_simp; (try with_reducible rfl))
                (try simp only [Act.put, List.setIfInBounds_toArray, List.set_cons_zero, List.set_cons_succ])
                refine wpAnyH_take (i := 6) (oi := ?_) (v := ?_) ?_ (by kernel_rfl) (by kernel_rfl) (by kernel_rfl) (fun _ _ _ h => h) (Or.inl ⟨?_, ?_⟩) hHeld0 ?_
                rotate_left 2
                · (simp only [List.getElem?_toArray, List.getElem?_cons_succ, List.getElem?_cons_zero]; rfl)
                · rfl
                · (intro w hSw; (try dsimp only at hSw); go_simp; (try with_reducible rfl))
                (try simp only [Act.put, List.setIfInBounds_toArray, List.set_cons_zero, List.set_cons_succ])
                refine wpAnyH_take (i := 10) (oi := ?_) (v := ?_) ?_ (by kernel_rfl) (by kernel_rfl) (by kernel_rfl) (fun _ _ _ h => h) (Or.inl ⟨?_, ?_⟩) hHeld0 ?_
                rotate_left 2
                · (simp only [List.getElem?_toArray, List.getElem?_cons_succ, List.getElem?_cons_zero]; rfl)
                · rfl
                · (intro w hSw; (try dsimp only at hSw); go_simp; (try with_reducible rfl))
                (try simp only [Act.put, List.setIfInBounds_toArray, List.set_cons_zero, List.set_cons_succ])
                refine wpAnyH_ready (rs := [3]) (by kernel_rfl) (by simp) ?_
                refine AllReadyH.cons (by rfl) (fun K hK => ?_) AllReadyH.nil
                go_simp
                go_at_call 17
                refine (HXP.out _ (Below.refl _ _).drew).mono ?_
                rintro e w2 ⟨rfl, hb2⟩
                have hB2 := (Below.refl wr.heap.size wr).drew.trans hb2
                clear hb2
                refine hK.out _ _ (HK.out w2 hB2) (fun hHeld1 => ?_)
                clear hK K
                (try simp only [Act.put, List.setIfInBounds_toArray, List.set_cons_zero, List.set_cons_succ])
                refine wpAnyH_take (i := 4) (oi := ?_) (v := ?_) ?_ (by kernel_rfl) (by kernel_rfl) (by kernel_rfl) (fun _ _ _ h => h) (Or.inl ⟨?_, ?_⟩) hHeld1 ?_
                rotate_left 2
                · (simp only [List.getElem?_toArray, List.getElem?_cons_succ, List.getElem?_cons_zero]; rfl)
                · rfl
                · (intro w hSw; (try dsimp only at hSw); go_simp; (try with_reducible rfl))
                (try simp only [Act.put, List.setIfInBounds_toArray, List.set_cons_zero, List.set_cons_succ])
                refine wpAnyH_ready (rs := [7]) (by kernel_rfl) (by simp) ?_
                refine AllReadyH.cons (by rfl) (fun K hK => ?_) AllReadyH.nil
                go_simp
                go_at_call 18
                refine (HIC.out w2 hB2).mono ?_
                rintro e w3 ⟨rfl, hb3⟩
                have hB3 := hB2.trans (hb3.mono hB2.size)
                clear hb3
                refine hK.out _ _ (HK.out w3 hB3) (fun hHeld2 => ?_)
                clear hK K
                (try simp only [Act.put, List.setIfInBounds_toArray, List.set_cons_zero, List.set_cons_succ])
                refine wpAnyH_take (i := 8) (oi := ?_) (v := ?_) ?_ (by kernel_rfl) (by kernel_rfl) (by kernel_rfl) (fun _ _ _ h => h) (Or.inl ⟨?_, ?_⟩) hHeld2 ?_
                rotate_left 2
                · (simp only [List.getElem?_toArray, List.getElem?_cons_succ, List.getElem?_cons_zero]; rfl)
                · rfl
                · (intro w hSw; (try dsimp only at hSw); go_simp; (try with_reducible rfl))
                (try simp only [Act.put, List.setIfInBounds_toArray, List.set_cons_zero, List.set_cons_succ])
                refine wpAnyH_take (i := 9) (oi := ?_) (v := ?_) ?_ (by kernel_rfl) (by kernel_rfl) (by kernel_rfl) (fun _ _ _ h => h) (Or.inl ⟨?_, ?_⟩) hHeld2 ?_
                rotate_left 2
                · (simp only [List.getElem?_toArray, List.getElem?_cons_succ, List.getElem?_cons_zero]; rfl)
                · rfl
                · (intro w hSw; (try dsimp only at hSw); go_simp; (try with_reducible rfl))
                (try simp only [Act.put, List.setIfInBounds_toArray, List.set_cons_zero, List.set_cons_succ])
                refine wpAnyH_ready (rs := [11]) (by kernel_rfl) (by simp) ?_
                refine AllReadyH.cons (by rfl) (fun K hK => ?_) AllReadyH.nil
                go_simp
                go_at_call 19
                refine (HJ2.out w3 hB3).mono ?_
                rintro e w4 ⟨rfl, hb4⟩
                have hB4 := hB3.trans (hb4.mono hB3.size)
                have hs4 := hB4.size
                clear hb4
                refine hK.out _ _ (HK.out w4 hB4) (fun hHeld3 => ?_)
                clear hK K
                (try simp only [Act.put, List.setIfInBounds_toArray, List.set_cons_zero, List.set_cons_succ])
                refine wpAnyH_take (i := 12) (oi := ?_) (v := ?_) ?_ (by kernel_rfl) (by kernel_rfl) (by kernel_rfl) (fun _ _ _ h => h) (Or.inl ⟨?_, ?_⟩) hHeld3 ?_
                rotate_left 2
                · (simp only [List.getElem?_toArray, List.getElem?_cons_succ, List.getElem?_cons_zero]; rfl)
                · rfl
                · (intro w hSw; (try dsimp only at hSw); go_simp; (try with_reducible rfl))
                (try simp only [Act.put, List.setIfInBounds_toArray, List.set_cons_zero, List.set_cons_succ])
                refine wpAnyH_ready (rs := [13]) (by kernel_rfl) (by simp) ?_
                refine AllReadyH.cons (by rfl) (fun K hK => ?_) AllReadyH.nil
                go_simp
                refine hK.out _ _ (HK.out _ (hB4.alloc hs4 _)) (fun hHeld4 => ?_)
                clear hK K
                (try simp only [Act.put, List.setIfInBounds_toArray, List.set_cons_zero, List.set_cons_succ])
                refine wpAnyH_ready (rs := [14]) (by kernel_rfl) (by simp) ?_
                refine AllReadyH.cons (by rfl) (fun K hK => ?_) AllReadyH.nil
                rw [if_pos (by rfl)]
                refine wp_append_own _ _ _ 38 rfl w.heap.size 9 i0 (.string ⟨#[]⟩) 1 16 Tryz.underlying38 hi hz0 hz1 hz2 rfl (by decide) _ _ _ rfl ((own_below HOw.out hB4).alloc _) ⟨w4.heap.size, 0, none⟩ 1 1 [.string (txt (x.head ++ PT))] rfl rfl (World.news_of_block (cs := #[.string (txt (x.head ++ PT))]) (t := 9) (fr := (0, 0)) (by rw [← HS2.out]; exact heap_alloc_new w4 _)) (by simp [Value.oneCell']) (by unfold maxLen; omega) (by omega) (by simp; omega) ?_
                intro v5 w5 hown5 hgrow5 hne5
                have hgrow6 : (w4.alloc (Obj.cells #[.string (txt (hexW P) ++ ⟨#[59]⟩ ++ txt (Lib.decDigits C) ++ ⟨#[59]⟩ ++ txt PT)] 9)).grownBy w5 vt.ownBlock := hgrow5
                have hk4 : Below wr.heap.size wr (w4.alloc (Obj.cells #[.string (txt (hexW P) ++ ⟨#[59]⟩ ++ txt (Lib.decDigits C) ++ ⟨#[59]⟩ ++ txt PT)] 9)) := hB4.alloc hs4 _
                have HB5 := Lib.hid ((HBw.out.trans (hk4.mono (by omega))).grown hgrow6 (by simp; omega) (fun j ej => row_ge HOw.out ej))
                have hne6 : some B ≠ vt.ownBlock := own_box_apart (own_below HOw.out hk4) ((hk4.block B hBlt).trans HXq.out) (by decide)
                have hcell6 : ∀ q : Addr, q.block = B → w5.cell? q = (w4.alloc (Obj.cells #[.string (txt (hexW P) ++ ⟨#[59]⟩ ++ txt (Lib.decDigits C) ++ ⟨#[59]⟩ ++ txt PT)] 9)).cell? q := fun q hq => World.cell?_of_block (hgrow6.block q.block (by rw [hq]; simp; omega) (by rw [hq]; exact hne6))
                have hS5 : w5.cell? ⟨B, 0, none⟩ = some (.int .i64 P) ∧ w5.cell? ⟨B, 1, none⟩ = some (.int .i64 C) := (match HK.out _ hk4 with | ⟨y0, y1⟩ => ⟨(hcell6 _ rfl).trans y0, (hcell6 _ rfl).trans y1⟩)
                have HO5 := Lib.hid (show w5.ownsRow w.heap.size 9 1 v5 (ts ++ [x.head ++ PT]).length (strsV (ts ++ [x.head ++ PT])) by
                  rw [strsV_snoc, List.length_append]
                  exact hown5)
                clear hgrow5 hne5 hgrow6 hown5
                refine hK.out _ _ (hS5) (fun hHeld5 => ?_)
                clear hK K
                (try simp only [Act.put, List.setIfInBounds_toArray, List.set_cons_zero, List.set_cons_succ])
                refine wpAnyH_take (i := 15) (oi := ?_) (v := ?_) ?_ (by kernel_rfl) (by kernel_rfl) (by kernel_rfl) (fun _ _ _ h => h) (Or.inl ⟨?_, ?_⟩) hHeld5 ?_
                rotate_left 2
                · (simp only [List.getElem?_toArray, List.getElem?_cons_succ, List.getElem?_cons_zero]; rfl)
                · rfl
                · (intro w hSw; (try dsimp only at hSw); go_simp; (try with_reducible rfl))
                (try simp only [Act.put, List.setIfInBounds_toArray, List.set_cons_zero, List.set_cons_succ])
                refine wpAnyH_done (by kernel_rfl) ?_ _
                refine NoPanic.normal ?_
                have HA4 := Lib.hid (range_succ HA.out HTk.out)
                go_wp2_with fail
                go_roundw
                case rel => exact ⟨k + 1, n2, _, _, rfl, rfl, by go_num, by omega, by omega, HCs, HA4, HB5, HO5⟩
                case measure => simp [intOf]; omega
      · obtain rfl : k = l.length := by omega
        have HAll := Lib.hid HA.out
        have htl := HC.out.len
        have hjb : (Lib.join ts [10]).length ≤ 409604096 := by
          have h1 := join_len [10] 100000 ts HC.out.mx
          have h2 : ts.length ≤ 4096 := by omega
          have h3 : ts.length * (100000 + [(10 : UInt8)].length) ≤ 4096 * (100000 + [(10 : UInt8)].length) := Nat.mul_le_mul_right _ h2
          exact Nat.le_trans h1 h3
        have HJ := Lib.hid (joined_any ts [10] vt w.heap.size wr HO.out (by omega) (by omega))
        clear hlt HA HO
        go_wp2_with fail
        refine HJ.out.mono ?_
        rintro e w5 ⟨rfl, hb5⟩
        have HB5 := Lib.hid (HB.out.trans (hb5.mono hwz))
        clear hb5 HJ
        have hge := HC.out.ge
        have hle := HC.out.le
        rw [List.take_length] at hle
        have hj1 := join_lens ts [10]
        have hj2 := join_lens (l.map MK.text) [10]
        have HAl := Lib.hid HC.out.all
        have e2 : Lib.join (l.map MK.text) [10] = ucdText l := rfl
        rw [e2] at hj2
        obtain ⟨J, hJ⟩ : ∃ J, J = Lib.join ts [10] := ⟨_, rfl⟩
        rw [← hJ] at hj1 hjb ⊢
        have hsz : (txt J).size = J.length := txt_size _
        by_cases hlong : 65536 < J.length
        · have hloI : (65536 : Int) < ((txt J).size : Int) := by omega
          have HR := Lib.hid (why_long HF.out HAll.out (by
            by_cases hn6 : n ≤ 65536
            · have h9 := HAl.out hn6
              rw [List.take_length] at h9
              rw [h9, e2] at hJ
              rw [← hJ]; exact hlong
            · omega))
          clear hlong hsz hJ
          go_wp2_with fail
          go_ret2
          exact .of HR.out.1.symm (by rw [HR.out.2]; rfl) HB5.out
        · have hloI : ¬ (65536 : Int) < ((txt J).size : Int) := by omega
          have hJe : J = ucdText l := by
            have h9 := HAl.out (by omega)
            rw [List.take_length] at h9
            rw [hJ, h9]; rfl
          have HR := Lib.hid (why_ok HF.out HAll.out (by rw [← hJe]; exact hlong))
          have HS := Lib.hid (show txt J = txt (ucdOut l) by rw [HR.out.2, hJe])
          clear hlong hsz hJ hJe
          go_wp2_with fail
          go_ret2
          exact .of HR.out.1.symm HS.out HB5.out
end Go.Proofs.YtccaaniepeohbaaGreatDoor
