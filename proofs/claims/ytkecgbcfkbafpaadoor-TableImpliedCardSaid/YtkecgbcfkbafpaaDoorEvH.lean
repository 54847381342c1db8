/-
  Our machine's append stands for the model's.
-/
import Derived.Test.YtkecgbcfkbafpaaDoorEvG
namespace Go.Proofs.YtkecgbcfkbafpaaDoor.Ev
set_option linter.unusedSectionVars false
variable [Sig]
open Go.RowKit

variable {P : Program} {w0 w : World} {E : Env} {m : Mem}

theorem exNews_spec (h : HR P w0 E m.H m.next w) {t tx elem : TypeId} {x x' : Value} {info : TypeInfo} {k : Nat} {news : List Value} (hx : VR E x x') (he : exNews P m t tx x = some (elem, info, k, news)) :
    P.underlying t = some (.slice elem) ∧ P.info? elem = some info ∧ (∃ dx, P.underlying tx = some dx ∧ intDesc dx = false) ∧ news.all cell1 = true ∧ 0 < info.size ∧ info.bytes ≤ 1048576 ∧ (∀ W, (Builtin.lenOf x').run P W = .ok k W) ∧ news.length = k * info.size ∧
      ∃ news' : List Value, VRL E news news' ∧ ∀ W : World, (∀ i o b, m.H.get i = some o → E.blk i = some b → W.heap[b]? = w.heap[b]?) → (Builtin.firstCells info.size k x').run P W = .ok news'.toArray W := by
  unfold exNews at he
  cases hu : P.underlying t with
  | none => rw [hu] at he; simp at he
  | some d =>
    cases hux : P.underlying tx with
    | none => rw [hu, hux] at he; cases d <;> simp at he
    | some dx =>
      rw [hu, hux] at he
      cases d <;> try (simp at he; done)
      rename_i el
      simp only at he
      cases hi : P.info? el with
      | none => rw [hi] at he; simp at he
      | some inf =>
        rw [hi] at he
        simp only at he
        cases hr : exRow m.H inf.size x with
        | none => rw [hr] at he; simp at he
        | some q =>
          obtain ⟨k1, n1⟩ := q
          rw [hr] at he
          simp only at he
          split at he
          · rename_i hc
            simp only [Option.some.injEq, Prod.mk.injEq] at he
            obtain ⟨rfl, rfl, rfl, rfl⟩ := he
            obtain ⟨h1, h2, l', h3, h4⟩ := exRow_run h hx hr
            exact ⟨rfl, hi, ⟨dx, rfl, hc.1⟩, hc.2.1, hc.2.2.1, hc.2.2.2, h1, h2, l', h3, h4⟩
          · cases he

theorem exAppend_run (h : HR P w0 E m.H m.next w) (hlo2 : m.lo ≤ m.next) {t tx ty : TypeId} {s s' x x' v : Value} {m' : Mem} (hs : VR E s s') (hx : VR E x x') (he : exAppend P m t tx s x = some (v, m')) :
    Good P w0 E m w (Builtin.append_ #[t, tx] ty #[s', x']) v m' := by
  unfold exAppend at he
  cases hq : exNews P m t tx x with
  | none => rw [hq] at he; cases he
  | some q =>
    obtain ⟨elem, info, k, news⟩ := q
    rw [hq] at he
    simp only at he
    obtain ⟨ht, hi, ⟨dx, hux, hnz⟩, hall, hsz, hby, hlen, hnl, news', hn, hrun⟩ := exNews_spec h hx hq
    have hrunw := hrun w fun _ _ _ _ _ => rfl
    have hrund := hrun w.drew fun _ _ _ _ _ => rfl
    cases hs <;> try (simp at he; done)
    · rename_i n c
      simp only at he
      split at he
      · rename_i h0
        obtain ⟨rfl, rfl⟩ := h0
        split at he
        · rename_i hk
          subst hk
          simp only [Option.some.injEq, Prod.mk.injEq] at he
          obtain ⟨rfl, rfl⟩ := he
          refine Good.same h (v' := .slice none 0 0) ?_ (.slice0 0 0)
          have hdx := intDesc_no hnz
          simp [Builtin.append_, run_underlying ht, run_underlying hux, sizeOf, typeInfo, hi, hlen, hrunw]
        · exact exGrow_run (A := none) (olds := []) (olds' := []) h ht hi hux hnz hsz hby hlen hrund rfl .nil hn (by simp) hnl (by omega) he hlo2
      · cases he
    · rename_i i b o n c c' hb hc
      simp only at he
      cases hg : m.H.get i with
      | none => rw [hg] at he; simp at he
      | some ob =>
        rw [hg] at he
        cases ob <;> try (simp at he; done)
        rename_i cs nb eb g
        simp only at he
        obtain ⟨b', r, h1, h2, arr, ⟨fz, elem', hfz, hel, rfl⟩, hsok, hcell⟩ := h.obj hb hg
        obtain rfl : b = b' := by rw [hb] at h1; injection h1
        have hcc : c ≤ c' := by
          unfold capOf at hc; split at hc <;> omega
        split at he
        · -- it fits
          rename_i hfit
          split at he
          · rename_i hcond
            obtain ⟨f1, f2, f3, f4⟩ := hcond
            simp only [Option.some.injEq, Prod.mk.injEq] at he
            obtain ⟨rfl, rfl⟩ := he
            have hadd : (n + k) * info.size = n * info.size + k * info.size := Nat.add_mul _ _ _
            obtain ⟨w1, hst, hh⟩ := HR.storeL (P := P) news news' 0 h (o := o + n * info.size) hb hg (by omega) f3 f2 (by omega) hn hall
            have hrn := run_app_fits (ty := ty) ht hi hux (intDesc_no hnz) hlen hrunw (b := b) (o := o) (n := n) (c := c') (by omega) hst
            exact ⟨E, _, w1, hrn, E.le_refl, hh, .slice o _ hb hc, fun j hj => by show (m.H.set i _).get j = _; rw [T.get_set _ _ _ f3, if_neg (by omega)], rfl, Nat.le_refl _⟩
          · cases he
        · rename_i hfit
          split at he
          · -- an exact row grows
            rename_i hgf
            subst hgf
            have hcap : E.cap i = none := by
              unfold sizeOk at hsok
              cases hcp : E.cap i with
              | none => rfl
              | some q => rw [hcp] at hsok; simp at hsok
            obtain rfl : c' = c := by simpa [capOf, hcap] using hc
            cases hro : exRow m.H info.size (.slice (some ⟨i, o, none⟩) n c') with
            | none => rw [hro] at he; simp at he
            | some q =>
              obtain ⟨n0, olds⟩ := q
              rw [hro] at he
              simp only at he
              obtain ⟨g1, g2, olds', g3, g4⟩ := exRow_run h (VR.slice o n hb hc) hro
              have hn0 : n = n0 := by
                have := g1 w
                simp only [Builtin.lenOf, Sem.run_pure] at this
                injection this with this
              subst hn0
              exact exGrow_run h ht hi hux hnz hsz hby hlen hrund (g4 w.drew fun _ _ _ _ _ => rfl) g3 hn g2 hnl (by omega) he hlo2
          · rename_i hgt
            obtain rfl : g = true := by simpa using hgt
            split at he
            · rename_i hcond
              obtain ⟨rfl, f2, rfl, f4, f5, f6, f7, f8⟩ := hcond
              cases hto : cs.take 0 (n * info.size) with
              | none => rw [hto] at he; simp at he
              | some olds =>
                cases hz : info.zero with
                | none => rw [hto, hz] at he; simp at he
                | some z =>
                  rw [hto, hz] at he
                  simp only at he
                  split at he
                  · rename_i hzs
                    simp only [Option.some.injEq, Prod.mk.injEq] at he
                    obtain ⟨rfl, rfl⟩ := he
                    cases hcp : E.cap i with
                    | none => simp [sizeOk, hcp] at hsok
                    | some q =>
                      obtain ⟨C, sz⟩ := q
                      simp only [sizeOk, hcp] at hsok
                      obtain ⟨s1, s2, s3, _, s5⟩ := hsok
                      have hsi : info.size = sz := by rw [← s5]; simp [Program.cellsOf, hi]
                      subst hsi
                      obtain ⟨e1, e2⟩ : c ≤ c' ∧ c' = C := by simpa [capOf, hcp] using hc
                      subst e2
                      have hsum : (n + k) * info.size = n * info.size + k * info.size := Nat.add_mul _ _ _
                      have hkeep : ∀ j, j < m.lo → ((m.H.del i).set m.next (.cells (cs.fill nb news) ((n + k) * info.size) eb true)).get j = m.H.get j := fun j hj => by
                        rw [T.get_set _ _ _ f6, if_neg (by omega), T.get_del _ _ f5, if_neg (by omega)]
                      by_cases hfit2 : n + k ≤ c'
                      · rw [hel (by omega)] at h2 hfz
                        have hle2 : (n + k) * info.size ≤ c' * info.size := Nat.mul_le_mul_right _ hfit2
                        have hst := run_storeCells_fz (P := P) b (0 + n * info.size) eb news' 0 arr w h2 hfz (by have := hn.len; omega) (fun v hv => by
                          have := hn.all1 hall
                          exact cell1_one (List.all_eq_true.1 this v hv))
                        have hrn := run_app_fits (ty := ty) ht hi hux (intDesc_no hnz) hlen hrunw (b := b) (o := 0) (n := n) (c := c') hfit2 hst
                        have hreg := h.regrow f6 hb hcp hg h2 hfz hn (by omega) (by omega) (by omega) f5
                        rw [show 0 + n * info.size + 0 = nb + 0 by omega] at hrn
                        rw [show nb + news.length = (n + k) * info.size by omega] at hreg
                        exact ⟨_, _, _, hrn, Env.le_more h _ _, hreg, .slice 0 _ (by simp [Env.more]) (by simp [capOf, Env.more, hfit2]), hkeep, rfl, by simp⟩
                      · obtain ⟨t1, t2⟩ := T.take_spec _ _ _ _ hto
                        obtain ⟨olds', l1, l2⟩ := h.loadL (P := P) hb hg (o := 0) (k := n * info.size) (by omega) hto
                        have hro : exRow m.H info.size (.slice (some ⟨i, 0, none⟩) n c) = some (n, olds) := by
                          simp only [exRow, hg]
                          rw [if_pos (by omega), hto]; rfl
                        obtain ⟨_, _, olds', g3, g4⟩ := exRow_run h (VR.slice 0 n hb hc) hro
                        obtain ⟨C2, hC2, hrn⟩ := run_app_grows (ty := ty) ht hi hz hux (intDesc_no hnz) hlen (g4 w.drew fun _ _ _ _ _ => rfl) hrund (c := c') (by omega) f7 hby
                        refine ⟨_, _, _, hrn, Env.le_more h _ _, HR.grew (h.forget f5) f6 g3 hn (size := info.size) (k := n + k) (C := C2) (tr := cs.fill nb news) (fun j u hj hu => ?_) (by omega) hC2 hzs hsz (by simp [Program.cellsOf, hi]), .slice 0 _ (by simp [Env.more]) (by simp [capOf, Env.more, hC2]), hkeep, rfl, by simp⟩
                        rw [T.get_fill _ _ _ _ (by omega)] at hu
                        by_cases hjn : nb ≤ j ∧ j < nb + news.length
                        · rw [if_pos hjn] at hu
                          rw [List.getElem?_append_right (by omega), t1, f2]; exact hu
                        · rw [if_neg hjn] at hu
                          rw [List.getElem?_append_left (by omega)]
                          have hjl : olds[j]? = some olds[j] := List.getElem?_eq_getElem (by omega)
                          have := t2 j _ hjl
                          rw [Nat.zero_add, hu] at this
                          rw [hjl, this]
                  · cases he
            · cases he

/-! ### zeros behind a row: 'append(s, make(S, n)...)' -/
def exAppendZ (P : Program) (m : Mem) (t tx : TypeId) (s x : Value) : Option (Value × Mem) :=
  match P.underlying t, P.underlying tx, x with
  | some (.slice elem), some (.int _), .int _ (.ofNat k) => match P.info? elem with
    | some info => match info.zero with
      | some z => if 0 < k ∧ k ≤ 1048576 ∧ 0 < info.size ∧ info.bytes ≤ 1048576 ∧ cleanL (Builtin.zeroCells z.cells k).toList = true ∧ (Builtin.zeroCells z.cells k).toList.length = k * info.size then
          match s with
          | .slice none n c => if n = 0 ∧ c = 0 then exGrow m elem info 0 k [] (Builtin.zeroCells z.cells k).toList else none
          | .slice (some ⟨i, _, none⟩) n c => match m.H.get i with
            | some (.cells _ _ _ false) => if c < n + k then match exRow m.H info.size s with
                | some (_, olds) => exGrow m elem info n k olds (Builtin.zeroCells z.cells k).toList
                | none => none else none
            | _ => none
          | _ => none else none
      | none => none
    | none => none
  | _, _, _ => none
theorem run_app_growsZ {t tx ty e : TypeId} {kn k0 : IntKind} {info : TypeInfo} {z : Value} (ht : P.underlying t = some (.slice e)) (hi : P.info? e = some info) (hzz : info.zero = some z) (hx : P.underlying tx = some (.int kn)) {k : Nat} (hk : 0 < k) (hk2 : k ≤ 1048576) (hs : 0 < info.size)
    {A : Option Addr} {n c : Nat} {olds : List Value} (hfo : (Builtin.firstCells info.size n (.slice A n c)).run P w.drew = .ok olds.toArray w.drew) (hc : c < n + k) (h1 : n + k ≤ 1048576) (h2 : info.bytes ≤ 1048576) :
    ∃ C, n + k ≤ C ∧ (Builtin.append_ #[t, tx] ty #[.slice A n c, .int k0 (k : Nat)]).run P w = .ok (.slice (some ⟨w.heap.size, 0, none⟩) (n + k) C) (w.drew.alloc (.cells (olds.toArray ++ (Builtin.zeroCells z.cells k).toList.toArray ++ Builtin.zeroCells z.cells (C - (n + k))) e)) := by
  have hn : ¬ (n + k ≤ c) := by omega
  have h63 : ¬ (9223372036854775807 < ((n : Int) + (k : Int))) := by omega
  have hle := nextslicecap_le hc
  have h48 : ¬ (281474976710656 < Builtin.nextslicecap (n + k) c * info.bytes) := by
    have := Nat.mul_le_mul hle h2
    have : 2 * (n + k) * 1048576 ≤ 2 * 1048576 * 1048576 := Nat.mul_le_mul (Nat.mul_le_mul (Nat.le_refl 2) h1) (Nat.le_refl _)
    omega
  have h48i : ¬ (281474976710656 < (k : Int) * (info.bytes : Int)) := by
    have := Nat.mul_le_mul hk2 h2
    rw [← Int.natCast_mul]
    omega
  have hw : IntKind.i64.wrap (k : Int) = k := by rw [IntKind.wrap_i64]; omega
  have hneg : ¬ ((k : Int) < 0) := by omega
  have hns : ¬ (k * info.size = 0) := Nat.mul_ne_zero (by omega) (by omega)
  refine ⟨(Question.appendCap (n + k) c e).cut (w.tape w.drawn (.appendCap (n + k) c e)), by simp [Question.cut], ?_⟩
  simp [Builtin.append_, run_underlying ht, run_underlying hx, sizeOf, typeInfo, zeroValue, hi, hzz, asInt, asIntOf, hw, hn, hneg, hns, h63, h48, h48i, Question.forced, hfo, newRow]
theorem exGrowZ_run (h : HR P w0 E m.H m.next w) {t tx ty elem : TypeId} {kn k0 : IntKind} {info : TypeInfo} {z : Value} {k n c : Nat} {A : Option Addr} {olds olds' : List Value}
    (ht : P.underlying t = some (.slice elem)) (hi : P.info? elem = some info) (hz : info.zero = some z) (hx : P.underlying tx = some (.int kn)) (hk : 0 < k) (hk2 : k ≤ 1048576) (hs : 0 < info.size) (hby : info.bytes ≤ 1048576)
    (hcl : cleanL (Builtin.zeroCells z.cells k).toList = true) (hlen : (Builtin.zeroCells z.cells k).toList.length = k * info.size) (hfo : (Builtin.firstCells info.size n (.slice A n c)).run P w.drew = .ok olds'.toArray w.drew)
    (ho : VRL E olds olds') (hlo : olds.length = n * info.size) (hc : c < n + k) {v : Value} {m' : Mem} (he : exGrow m elem info n k olds (Builtin.zeroCells z.cells k).toList = some (v, m')) (hlo2 : m.lo ≤ m.next) :
    Good P w0 E m w (Builtin.append_ #[t, tx] ty #[.slice A n c, .int k0 (k : Nat)]) v m' := by
  unfold exGrow at he
  rw [hz] at he
  simp only at he
  split at he
  · rename_i hcond
    obtain ⟨c1, c2, c3, c4⟩ := hcond
    simp only [Option.some.injEq, Prod.mk.injEq] at he
    obtain ⟨rfl, rfl⟩ := he
    obtain ⟨C, hC, hrun⟩ := run_app_growsZ (ty := ty) (k0 := k0) ht hi hz hx hk hk2 hs hfo hc c3 hby
    have hsum : olds.length + (Builtin.zeroCells z.cells k).toList.length = (n + k) * info.size := by rw [hlo, hlen, Nat.add_mul]
    refine ⟨_, _, _, hrun, Env.le_more h _ _, HR.grew h c2 ho (VRL.of_clean E _ hcl) (size := info.size) (k := n + k) (C := C) (tr := T.leaf.fill 0 (olds ++ (Builtin.zeroCells z.cells k).toList)) (fun j u hj hu => ?_) hsum hC c1 hs (by simp [Program.cellsOf, hi]), ?_, fun i hi => ?_, rfl, by simp⟩
    · rw [T.get_fill _ _ _ _ (by rw [List.length_append]; omega)] at hu
      rw [if_pos (by rw [List.length_append]; omega)] at hu
      simpa using hu
    · exact .slice 0 _ (by simp [Env.more]) (by simp [capOf, Env.more, hC])
    · show (m.H.set m.next _).get i = _
      rw [T.get_set _ _ _ c2, if_neg (by omega)]
  · cases he
theorem exAppendZ_run (h : HR P w0 E m.H m.next w) (hlo2 : m.lo ≤ m.next) {t tx ty : TypeId} {s s' x x' v : Value} {m' : Mem} (hs : VR E s s') (hx : VR E x x') (he : exAppendZ P m t tx s x = some (v, m')) :
    Good P w0 E m w (Builtin.append_ #[t, tx] ty #[s', x']) v m' := by
  unfold exAppendZ at he
  split at he
  · rename_i elem kn k0 k ht htx
    cases hx with
    | int _ _ =>
    split at he
    · rename_i info hi
      split at he
      · rename_i z hz
        split at he
        · rename_i hc
          obtain ⟨c1, c2, c3, c4, c5, c6⟩ := hc
          split at he
          · rename_i n c
            split at he
            · rename_i h0
              obtain ⟨rfl, rfl⟩ := h0
              cases hs with
              | slice0 _ _ => exact exGrowZ_run (A := none) (olds := []) (olds' := []) h ht hi hz htx c1 c2 c3 c4 c5 c6 rfl .nil (by simp) (by omega) he hlo2
            · cases he
          · rename_i i o n c
            cases hs with
            | @slice _ b _ _ _ c' hb hcp =>
            split at he
            · rename_i cs nb eb hg
              split at he
              · rename_i hlt
                split at he
                · rename_i n0 olds hro
                  obtain ⟨b', r, h1, h2, arr, ⟨fz, elem', hfz, hel, rfl⟩, hsok, hcell⟩ := h.obj hb hg
                  have hcap : E.cap i = none := by
                    unfold sizeOk at hsok
                    cases hcp : E.cap i with
                    | none => rfl
                    | some q => rw [hcp] at hsok; simp at hsok
                  obtain rfl : c' = c := by simpa [capOf, hcap] using hcp
                  obtain ⟨g1, g2, olds', g3, g4⟩ := exRow_run h (VR.slice o n hb hcp) hro
                  have hn0 : n = n0 := by
                    have := g1 w
                    simp only [Builtin.lenOf, Sem.run_pure] at this
                    injection this with this
                  subst hn0
                  exact exGrowZ_run h ht hi hz htx c1 c2 c3 c4 c5 c6 (g4 w.drew fun _ _ _ _ _ => rfl) g3 g2 (by omega) he hlo2
                · cases he
              · cases he
            · cases he
          · cases he
        · cases he
      · cases he
    · cases he
  · cases he
end Go.Proofs.YtkecgbcfkbafpaaDoor.Ev
