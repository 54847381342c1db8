/-
  UtfExact's owned: it answers true of lists that are each their owner's.
-/
import Derived.Test.YtdidepaldppcjaaUtfOwnM
namespace Go.Proofs.Ytdidepaldppcjaa
open Go.RowKit
theorem ints_info : (Try.prog.info? 25).map (fun i => (i.zero, i.size, i.bytes)) = some (some (.slice none 0 0), 1, 24) := by kernel_rfl
theorem new_cell (w : World) (v : Value) (t : TypeId) : (w.alloc (.cells #[v] t)).cell? ⟨w.heap.size, 0, none⟩ = some v := by
  rw [World.cell?_alloc_at _ _ _ _ (by simp)]; rfl
set_option maxRecDepth 100000 in
set_option maxHeartbeats 4000000 in
theorem owned_any (base m c0 : Nat) (A0 : Option Addr) (A : Nat → Option Addr) (N C : Nat → Nat) (w : World) (hl : w.ownsRow base 25 1 (.slice A0 m c0) m (lists m A N C))
    (hr : ∀ j, j < m → ∃ xs, w.ownsRow base 3 1 (.slice (A j) (N j) (C j)) (N j) xs) (hap : ∀ i j g, i < m → j < m → A i = some ⟨g, 0, none⟩ → A j = some ⟨g, 0, none⟩ → i = j)
    (hm : m ≤ 1099511627776) (hN : ∀ j, j < m → N j ≤ 1099511627776) (hb : base ≤ w.heap.size) :
    Calls Try.prog 19 #[.slice A0 m c0] w fun e w' => e = .returned (.bool true) ∧ Below base w w' := by
  obtain ⟨i0, hi, hz0, hz1, hz2⟩ := info_parts int_info
  obtain ⟨i1, hi1, hy0, hy1, hy2⟩ := info_parts ints_info
  have HS0 := Lib.hid (S1.start hl hr)
  have HAP := Lib.hid hap
  have HN := Lib.hid hN
  clear hl hr hap hN
  go_enter Try.func19, Try.ntmps19
  go_wp2_with fail
  go_loopw [4, 5] (fun i _ wr => ∃ n : Nat, i = .int .i64 n ∧ n ≤ m ∧ Hid (S1 base m A N C (.slice A0 m c0) wr n 0) ∧ Below base w wr) (fun i _ _ => m - (intOf i).toNat)
  case atStart => exact ⟨0, rfl, by omega, HS0, Below.refl _ _⟩
  case round =>
    obtain ⟨n, rfl, hn, HS, hB⟩ := hrel
    clear HS0
    by_cases hlt : n < m
    · obtain ⟨b, rfl, _⟩ := row_of HS.out.1 hlt
      have hNn := HN.out n hlt
      go_wp2_with fail
      go_loopw [5] (fun k wr => ∃ q : Nat, k = .int .i64 q ∧ q ≤ N n ∧ Hid (S1 base m A N C (.slice (some ⟨b, 0, none⟩) m c0) wr n q) ∧ Below base w wr) (fun k _ => N n - (intOf k).toNat)
      case atStart => exact ⟨0, rfl, by omega, HS, hB⟩
      case round =>
        obtain ⟨q, rfl, hq, HS, hB⟩ := hrel
        obtain ⟨b', hb', hcell⟩ := row_of HS.out.1 hlt
        obtain rfl : b = b' := by simpa using hb'
        by_cases hql : q < N n
        · obtain ⟨xs, hx, _, _⟩ := HS.out.2 n hlt
          rcases own_at hx with ⟨_, h0⟩ | ⟨g, hg, hbg, _⟩
          · omega
          have HN2 := Lib.hid (HS.out.store HAP.out hlt hql hg)
          rw [hg] at hx hcell
          have hc2 := hx.cellAt q (by omega)
          have hxl := hx.1
          rw [List.getElem?_eq_getElem (by omega)] at hc2
          have hf2 := hx.frozenAt q
          clear hx
          go_wp2_with fail
          go_roundw
          case rel => exact ⟨q + 1, by go_num, by omega, HN2, hB.setCell hbg _⟩
          case measure => simp [intOf]; omega
        · obtain rfl : q = N n := by omega
          go_wp2_with fail
          go_roundw
          case rel => exact ⟨n + 1, by go_num, by omega, Lib.hid (HS.out.next hlt), hB⟩
          case measure => simp [intOf]; omega
    · obtain rfl : n = m := by omega
      have H2 := Lib.hid (S2.start HS.out)
      clear HS
      go_wp2_with fail
      go_loopw [3, 6, 7, 8] (fun lv i _ _ wr => ∃ (k : Nat) (Ls : Nat → Value), i = .int .i64 k ∧ k ≤ n ∧ Hid (S2 base n A N C (.slice A0 n c0) wr lv Ls k) ∧ Below base w wr) (fun _ i _ _ _ => n - (intOf i).toNat)
      case atStart => exact ⟨0, _, rfl, by omega, H2, hB⟩
      case round =>
        clear H2 hB
        obtain ⟨k, Ls, rfl, hk, HS, hB⟩ := hrel
        by_cases hlt : k < n
        · obtain ⟨b, rfl, hcell⟩ := row_of HS.out.row hlt
          have hNk := HN.out k hlt
          obtain ⟨W, hW⟩ : ∃ W, W = wr := ⟨_, rfl⟩
          subst hW
          have HG0 := Lib.hid (G2.start HS.out hlt)
          go_wp2_with fail
          go_loopw [7, 8] (fun x j wr => ∃ q : Nat, j = .int .i64 q ∧ q ≤ 40 ∧ Hid (G2 base A N C W wr x k q) ∧ Below base w wr) (fun _ j _ => 40 - (intOf j).toNat)
          case atStart => exact ⟨0, rfl, by omega, HG0, hB⟩
          case round =>
            clear HG0 hcell
            obtain ⟨q, rfl, hq, HG, hB⟩ := hrel
            have hbz := hB.size
            by_cases hql : q < 40
            · go_wp2_with (at_builtin; refine wpList_append_keeps _ rfl _ _ 25 rfl base 3 i0 (.int .i64 0) 8 Try.underlying25 hi hz0 hz1 hz2 rfl _ _ _ rfl (HG.out.own.alloc _) ⟨wr.heap.size, 0, none⟩ 1 (.int .i64 (5000 + (k : Int))) rfl (new_cell _ _ _) rfl (by unfold maxLen; omega) (by omega) (by simp; omega) ?_; intro g cap w1 hown hgrow hat hgl hkeep)
              go_roundw
              case rel => exact ⟨q + 1, by go_num, by omega, Lib.hid (HG.out.step hown hgrow hat hkeep), (hB.alloc (by omega) _).grown hgrow (by simp; omega) (fun j ej => (HG.out.own.lt j ej).1)⟩
              case measure => simp [intOf]; omega
            · obtain rfl : q = 40 := by omega
              obtain ⟨gx, capx, rfl, hgx, _⟩ := HG.out.own.form (by omega)
              have hbz' := hB.size
              have HL := Lib.hid (HS.out.long_in hlt HG.out)
              have hLlt := Lib.hid HS.out.long.lt
              go_wp2_with (at_builtin; refine wpList_append_keeps _ rfl _ _ 28 rfl base 25 i1 (.slice none 0 0) 24 Try.underlying28 hi1 hy0 hy1 hy2 rfl _ k _ rfl (HL.out.alloc _) ⟨wr.heap.size, 0, none⟩ 1 (.slice (some ⟨gx, 0, none⟩) (N k + 40) capx) rfl (new_cell _ _ _) rfl (by unfold maxLen; omega) (by omega) (by simp; omega) ?_; intro g cap w1 hown hgrow hat hgl hkeep)
              go_roundw
              case rel => exact ⟨k + 1, _, by go_num, by omega, Lib.hid (HS.out.step HAP.out hlt HG.out hown hgrow hat), (hB.alloc (by omega) _).grown hgrow (by simp; omega) (fun j ej => (hLlt.out j ej).1)⟩
              case measure => simp [intOf]; omega
        · obtain rfl : k = n := by omega
          obtain ⟨W, hW⟩ : ∃ W, W = wr := ⟨_, rfl⟩
          subst hW
          go_wp2_with fail
          go_loopw [9, 10] (fun i _ wr => ∃ j d : Nat, i = .int .i64 j ∧ j ≤ k ∧ wr = W.drewN d) (fun i _ _ => k - (intOf i).toNat)
          case atStart => exact ⟨0, 0, rfl, by omega, rfl⟩
          case round =>
            obtain ⟨j, d, rfl, hj, rfl⟩ := hrel
            by_cases hlt : j < k
            · obtain ⟨b, rfl, hcell⟩ := row_of HS.out.row hlt
              obtain ⟨bL, capL, hvL, _, _⟩ := HS.out.long.form (by omega)
              subst hvL
              have hcL := HS.out.long.cellAt j (by omega)
              have hmap : ((List.range k).map Ls)[j]? = some (Ls j) := by simp [hlt]
              rw [hmap] at hcL
              have hg := HS.out.grown j hlt
              obtain ⟨gL, cL, hLs, _, _⟩ := hg.form (by omega)
              rw [hLs] at hcL hg
              have HCL := Lib.hid hg
              have HK := Lib.hid (HS.out.kept j hlt)
              clear hg hmap
              have hNj := HN.out j hlt
              go_wp2_with fail
              go_loopw [10] (fun i wr => ∃ q d : Nat, i = .int .i64 q ∧ q ≤ N j + 40 ∧ wr = W.drewN d) (fun i _ => N j + 40 - (intOf i).toNat)
              case atStart => exact ⟨0, d, rfl, by omega, rfl⟩
              case round =>
                obtain ⟨q, d, rfl, hq, rfl⟩ := hrel
                by_cases hql : q < N j + 40
                · by_cases hqn : q < N j
                  · obtain ⟨g, hA, hc⟩ := HK.out q hqn
                    rw [hA] at hcell
                    have hc2 := HCL.out.cellAt q (by omega)
                    rw [List.getElem?_append_left (by rw [rep_len]; exact hqn), rep_get hqn] at hc2
                    have hne : ((1000 + (j : Int)) != (1000 + (j : Int))) = false := by simp
                    clear HK HCL HS HAP HN
                    go_wp2_with fail
                    go_roundw
                    case rel => exact ⟨q + 1, _, by go_num, by omega, by first | rfl | rw [World.drewN_drewN]⟩
                    case measure => simp [intOf]; omega
                  · have hc2 := HCL.out.cellAt q (by omega)
                    rw [List.getElem?_append_right (by rw [rep_len]; omega), rep_len, rep_get (by omega)] at hc2
                    have hne : ((5000 + (j : Int)) != (5000 + (j : Int))) = false := by simp
                    clear HK HCL HS HAP HN
                    go_wp2_with fail
                    go_roundw
                    case rel => exact ⟨q + 1, _, by go_num, by omega, by first | rfl | rw [World.drewN_drewN]⟩
                    case measure => simp [intOf]; omega
                · obtain rfl : q = N j + 40 := by omega
                  clear HK HCL HAP
                  go_wp2_with fail
                  go_roundw
                  case rel => exact ⟨j + 1, d, by go_num, by omega, rfl⟩
                  case measure => simp [intOf]; omega
            · clear HS HAP HN
              go_wp2_with fail
              go_ret
              exact ⟨rfl, below_drewN hB d⟩
end Go.Proofs.Ytdidepaldppcjaa
