/-
  The functions on spans, walked: the program's and the document's.
-/
import Derived.Test.YtemippnhpejbkaaGreatDoorKE
import Derived.WalkKit
import Derived.Outline
import Derived.WalkLawsBesides
import Derived.Handy
import Derived.BigQuiet
import Derived.Deep.QuietTactic
namespace Go.Proofs.YtemippnhpejbkaaGreatDoor
open Go.RowKit Go.WideShapes
set_option linter.unusedVariables false
def Ret (v : Value) (w : World) (e : Ending) (w' : World) : Prop := e = .returned v ∧ Below w.heap.size w w'
theorem lt_at : ∀ (k : Nat) (x y : List UInt8), x.take k = y.take k → (hx : k < x.length) → (hy : k < y.length) → x[k] < y[k] → x < y
  | 0, [], _, _, hx, _, _ => absurd hx (by simp)
  | 0, _ :: _, [], _, _, hy, _ => absurd hy (by simp)
  | 0, a :: x, b :: y, _, _, _, h => List.cons_lt_cons_iff.2 (.inl (by simpa using h))
  | k + 1, [], _, _, hx, _, _ => absurd hx (by simp)
  | k + 1, _ :: _, [], _, _, hy, _ => absurd hy (by simp)
  | k + 1, a :: x, b :: y, e, hx, hy, h => by
    simp only [List.take_succ_cons, List.cons.injEq] at e
    obtain ⟨rfl, e⟩ := e
    exact List.cons_lt_cons_iff.2 (.inr ⟨rfl, lt_at k x y e (by simpa using hx) (by simpa using hy) (by simpa using h)⟩)
theorem lt_end : ∀ (x y : List UInt8), x.take x.length = y.take x.length → x.length < y.length → x < y
  | [], [], _, h => absurd h (by simp)
  | [], b :: y, _, _ => by simp
  | a :: x, [], _, h => absurd h (by simp)
  | a :: x, b :: y, e, h => by
    simp only [List.length_cons, List.take_succ_cons, List.cons.injEq] at e
    obtain ⟨rfl, e⟩ := e
    exact List.cons_lt_cons_iff.2 (.inr ⟨rfl, lt_end x y e (by simpa using h)⟩)
/-- Two texts begin alike. -/
def alike (a b : ByteArray) (k : Nat) : Prop := a.data.toList.take k = b.data.toList.take k
theorem alike.step {a b : ByteArray} {k : Nat} (h : alike a b k) (ha : k < a.size) (hb : k < b.size) (e : a[k] = b[k]) : alike a b (k + 1) := by
  unfold alike at *
  have ha' : k < a.data.toList.length := by simpa using ha
  have hb' : k < b.data.toList.length := by simpa using hb
  rw [List.take_add_one, List.take_add_one, h, List.getElem?_eq_getElem ha', List.getElem?_eq_getElem hb']
  have : a.data.toList[k] = b.data.toList[k] := by simpa using (show a.data[k] = b.data[k] from e)
  rw [this]
theorem alike.symm {a b : ByteArray} {k : Nat} (h : alike a b k) : alike b a k := Eq.symm h
theorem alike.lt {a b : ByteArray} {k : Nat} (h : alike a b k) (ha : k < a.size) (hb : k < b.size) (e : (a[k].toNat : Int) < b[k].toNat) : blt a b = true := by
  rw [blt_eq, decide_eq_true_eq]
  refine lt_at k _ _ h (by simpa using ha) (by simpa using hb) ?_
  have : a[k] < b[k] := UInt8.lt_iff_toNat_lt.2 (by omega)
  simpa using (show a.data[k] < b.data[k] from this)
theorem alike.short {a b : ByteArray} {k : Nat} (h : alike a b k) (hk : k = a.size) (hb : a.size < b.size) : blt a b = true := by
  subst hk
  rw [blt_eq, decide_eq_true_eq]
  have hl : a.data.toList.length = a.size := by simp
  refine lt_end _ _ (by rw [hl]; exact h) (by rw [hl]; simpa using hb)
theorem alike.same {a b : ByteArray} {k : Nat} (h : alike a b k) (hk : k = a.size) (hb : a.size = b.size) : a = b := by
  subst hk
  have hl : a.data.toList.length = a.size := by simp
  have hl2 : b.data.toList.length = b.size := by simp
  unfold alike at h
  rw [List.take_of_length_le (by omega), List.take_of_length_le (by omega)] at h
  exact data_inj h
/-- The document's comparison. -/
def cmpI (a b : ByteArray) : Int := if blt a b then -1 else if blt b a then 1 else 0
theorem cmpI_lt {a b : ByteArray} (h : blt a b = true) : cmpI a b = -1 := by unfold cmpI; rw [h]; rfl
theorem cmpI_gt {a b : ByteArray} (h : blt b a = true) : cmpI a b = 1 := by unfold cmpI; rw [blt_asymm h, h]; rfl
theorem cmpI_self (a : ByteArray) : cmpI a a = 0 := by unfold cmpI; rw [blt_irrefl]; rfl
theorem cmpI_neg (a b : ByteArray) : decide (cmpI a b < 0) = blt a b := by
  unfold cmpI; cases blt a b <;> cases blt b a <;> rfl
theorem cmpI_pos (a b : ByteArray) : decide (0 < cmpI a b) = blt b a := by
  unfold cmpI
  cases h : blt a b with
  | true => rw [blt_asymm h]; rfl
  | false => cases blt b a <;> rfl
theorem ret_int2 {k : IntKind} {a b : Int} (h : a = b) : Ending.returned (.int k a) = .returned (.int k b) := by rw [h]
theorem ret_i {w w' : World} {a b : Int} (h : a = b) (hb : Below w.heap.size w w') : Ret (.int .i64 b) w (.returned (.int .i64 a)) w' := ⟨by rw [h], hb⟩
theorem drewN_below {B : Nat} {w w' : World} (h : Below B w w') (n : Nat) : Below B w (w'.drewN n) := below_drewN h n
set_option maxHeartbeats 1000000 in
theorem refCmp_any (a b : ByteArray) (w : World) (ha : a.size ≤ maxLen) (hb : b.size ≤ maxLen) : Calls Tryz.prog 12 #[.string a, .string b] w fun e w' => e = .returned (.int .i64 (cmpI a b)) ∧ ∃ n, w' = w.drewN n := by
  unfold maxLen at ha hb
  go_enter Tryz.func12, Tryz.ntmps12
  go_wp2_with fail
  go_loopw [5] (fun i wr => ∃ k : Nat, i = .int .i64 k ∧ k ≤ a.size ∧ k ≤ b.size ∧ Hid (alike a b k) ∧ ∃ q, wr = w.drewN q) (fun i _ => a.size - (intOf i).toNat)
  case atStart => exact ⟨0, rfl, Nat.zero_le _, Nat.zero_le _, Lib.hid (by simp [alike]), 0, rfl⟩
  case round =>
    obtain ⟨k, rfl, hka, hkb, HA, q, rfl⟩ := hrel
    by_cases h1 : k < a.size
    · by_cases h2 : k < b.size
      · by_cases h3 : (a[k].toNat : Int) < b[k].toNat
        · have HF := Lib.hid (cmpI_lt (HA.out.lt h1 h2 h3))
          go_wp2_with fail
          go_quiet (fail)
          go_wp2_with fail
          go_ret
          exact ⟨ret_int2 HF.out.symm, _, by simp only [World.drewN_drewN]; rfl⟩
        · by_cases h4 : (b[k].toNat : Int) < a[k].toNat
          · have HF := Lib.hid (cmpI_gt (HA.out.symm.lt h2 h1 h4))
            go_wp2_with fail
            go_quiet (fail)
            go_wp2_with fail
            go_quiet (fail)
            go_wp2_with fail
            go_ret
            exact ⟨ret_int2 HF.out.symm, _, by simp only [World.drewN_drewN]; rfl⟩
          · have HS := Lib.hid (HA.out.step h1 h2 (UInt8.toNat_inj.1 (by omega)))
            go_wp2_with fail
            go_quiet (fail)
            go_wp2_with fail
            go_quiet (fail)
            go_wp2_with fail
            go_roundw
            case rel => exact ⟨k + 1, by go_num, by omega, by omega, HS, _, rfl⟩
            case measure => simp [intOf]; omega
      · have hk : k = b.size := by omega
        have HF := Lib.hid (cmpI_gt (HA.out.symm.short hk (by omega)))
        have hlt : ¬ (a.size : Int) < b.size := by omega
        have hgt : (b.size : Int) < a.size := by omega
        clear hk
        go_wp2_with fail
        go_ret
        exact ⟨ret_int2 HF.out.symm, q, rfl⟩
    · have hk : k = a.size := by omega
      by_cases h2 : a.size < b.size
      · have HF := Lib.hid (cmpI_lt (HA.out.short hk h2))
        clear hk
        go_wp2_with fail
        go_ret
        exact ⟨ret_int2 HF.out.symm, q, rfl⟩
      · have HF := Lib.hid (show cmpI a b = 0 by rw [HA.out.same hk (by omega), cmpI_self])
        have hgt : ¬ (b.size : Int) < a.size := by omega
        clear hk
        go_wp2_with fail
        go_ret
        exact ⟨ret_int2 HF.out.symm, q, rfl⟩
def spV (a : Sp) : Value := .agg #[.string a.from_, .string a.to, .bool a.open_]
theorem below_b1 (w : World) (o : Obj) : Below w.heap.size w (w.alloc o) := (Below.refl _ _).alloc (Nat.le_refl _) _
theorem ret_b {w w' : World} {a b : Bool} (h : a = b) (hb : Below w.heap.size w w') : Ret (.bool b) w (.returned (.bool a)) w' := ⟨by rw [h], hb⟩
theorem blt_def (a b : ByteArray) : Op.bytesLess a.toList b.toList = blt a b := rfl
set_option maxHeartbeats 1000000 in
theorem spanHas_any (a : Sp) (k : ByteArray) (w : World) : Calls Tryz.prog 9 #[spV a, .string k] w (Ret (.bool (a.has k)) w) := by
  obtain ⟨f, t, o⟩ := a
  have HB := Lib.hid (below_b1 w (.cells #[.string f, .string t, .bool o] 23))
  have HF := Lib.hid (show Sp.has ⟨f, t, o⟩ k = (!Op.bytesLess k.toList f.toList && (o || Op.bytesLess k.toList t.toList)) from rfl)
  cases h1 : Op.bytesLess k.toList f.toList <;> cases h2 : Op.bytesLess k.toList t.toList <;> cases o
  all_goals (
    unfold spV
    go_enter Tryz.func9, Tryz.ntmps9
    go_wp2_with fail
    go_ret
    refine ret_b ?_ HB.out
    rw [HF.out, h1, h2]
    rfl)
set_option maxHeartbeats 1000000 in
theorem spanEmpty_any (a : Sp) (w : World) : Calls Tryz.prog 7 #[spV a] w (Ret (.bool a.empty) w) := by
  obtain ⟨f, t, o⟩ := a
  have HB := Lib.hid (below_b1 w (.cells #[.string f, .string t, .bool o] 23))
  have HL := Lib.hid (leq_blt t f)
  have HF := Lib.hid (show Sp.empty ⟨f, t, o⟩ = (!o && !blt f t) from rfl)
  cases o
  all_goals (
    unfold spV
    go_enter Tryz.func7, Tryz.ntmps7
    go_wp2_with fail
    go_ret
    refine ret_b ?_ HB.out
    rw [HF.out]
    first | rfl | (rw [← HL.out]; rfl))
set_option maxHeartbeats 1000000 in
theorem refHas_any (a : Sp) (k : ByteArray) (w : World) (hf : a.from_.size ≤ maxLen) (ht : a.to.size ≤ maxLen) (hk : k.size ≤ maxLen) : Calls Tryz.prog 10 #[spV a, .string k] w (Ret (.bool (a.has k)) w) := by
  obtain ⟨f, t, o⟩ := a
  have HB := Lib.hid (below_b1 w (.cells #[.string f, .string t, .bool o] 23))
  have HC := Lib.hid (fun w => refCmp_any k f w hk hf)
  have HD := Lib.hid (fun w => refCmp_any k t w hk ht)
  have HF := Lib.hid (show Sp.has ⟨f, t, o⟩ k = (!decide (cmpI k f < 0) && (o || decide (cmpI k t < 0))) by rw [cmpI_neg, cmpI_neg]; rfl)
  clear hf ht hk
  generalize cmpI k f = p at HC HF
  generalize cmpI k t = q at HD HF
  by_cases h1 : p < 0 <;> by_cases h2 : q < 0 <;> cases o
  all_goals (
    unfold spV
    go_enter Tryz.func10, Tryz.ntmps10
    go_wp2_with (first
      | (with_reducible refine (HC.out _).mono ?_; rintro e w1 ⟨rfl, n1, rfl⟩)
      | (with_reducible refine (HD.out _).mono ?_; rintro e w1 ⟨rfl, n1, rfl⟩))
    go_ret
    refine ret_b ?_ (by first | exact HB.out | exact drewN_below HB.out _ | exact drewN_below (drewN_below HB.out _) _)
    rw [HF.out]
    simp [h1, h2])
set_option maxHeartbeats 1000000 in
theorem refEmpty_any (a : Sp) (w : World) (hf : a.from_.size ≤ maxLen) (ht : a.to.size ≤ maxLen) : Calls Tryz.prog 8 #[spV a] w (Ret (.bool a.empty) w) := by
  obtain ⟨f, t, o⟩ := a
  have HB := Lib.hid (below_b1 w (.cells #[.string f, .string t, .bool o] 23))
  have HC := Lib.hid (fun w => refCmp_any t f w ht hf)
  have HF := Lib.hid (show Sp.empty ⟨f, t, o⟩ = (!o && !decide (0 < cmpI t f)) by rw [cmpI_pos]; rfl)
  clear hf ht
  generalize cmpI t f = p at HC HF
  by_cases h1 : 0 < p <;> cases o
  all_goals (
    unfold spV
    go_enter Tryz.func8, Tryz.ntmps8
    go_wp2_with (with_reducible refine (HC.out _).mono ?_; rintro e w1 ⟨rfl, n1, rfl⟩)
    go_ret
    refine ret_b ?_ (by first | exact HB.out | exact drewN_below HB.out _)
    rw [HF.out]
    simp [h1])
theorem below_more {B : Nat} {w w' : World} (h : Below B w w') (hB : B ≤ w'.heap.size) (o : Obj) : Below B w (w'.alloc o) := h.alloc hB o
set_option maxHeartbeats 2000000 in
theorem spanMeet_any (a b : Sp) (w : World) : Calls Tryz.prog 5 #[spV a, spV b] w (Ret (spV (a.meet b)) w) := by
  obtain ⟨f, t, o⟩ := a
  obtain ⟨g, u, p⟩ := b
  have hmx := fun (w : World) (ts : Array TypeId) (x y : ByteArray) => Lib.run_max_strs (P := Tryz.prog) w ts 9 x y
  have hmn := fun (w : World) (ts : Array TypeId) (x y : ByteArray) => Lib.run_min_strs (P := Tryz.prog) w ts 9 x y
  obtain ⟨v, hv⟩ : ∃ v, spV (Sp.meet ⟨f, t, o⟩ ⟨g, u, p⟩) = v := ⟨_, rfl⟩
  rw [hv]
  have HV := Lib.hid hv
  clear hv
  cases o <;> cases p
  all_goals (
    unfold spV
    go_enter Tryz.func5, Tryz.ntmps5
    go_wp2_with fail
    refine bodyPost_ret (v := v) (by rw [← HV.out]; simp [results, Tryz.results5, go_sem, spV, Sp.meet]; try rfl) rfl ⟨rfl, ?_⟩
    exact below_more (below_more (below_more (below_more (Below.refl _ _) (Nat.le_refl _) _) (by simp) _) (by simp; omega) _) (by simp; omega) _)
set_option maxHeartbeats 4000000 in
theorem refMeet_any (a b : Sp) (w : World) (hf : a.from_.size ≤ maxLen) (ht : a.to.size ≤ maxLen) (hg : b.from_.size ≤ maxLen) (hu : b.to.size ≤ maxLen) : Calls Tryz.prog 6 #[spV a, spV b] w (Ret (spV (a.meet b)) w) := by
  obtain ⟨f, t, o⟩ := a
  obtain ⟨g, u, p⟩ := b
  have HC := Lib.hid (fun w => refCmp_any g f w hg hf)
  have HD := Lib.hid (fun w => refCmp_any t u w ht hu)
  have e1 : blt f g = decide (0 < cmpI g f) := (cmpI_pos g f).symm
  have e2 : blt u t = decide (0 < cmpI t u) := (cmpI_pos t u).symm
  have hmx := maxS_blt f g
  have hmn := minS_blt t u
  rw [e1] at hmx
  rw [e2] at hmn
  clear hf ht hg hu e1 e2
  generalize cmpI g f = x at HC hmx
  generalize cmpI t u = y at HD hmn
  have hX : (0 < x ∧ Hid (Lib.maxS f g = g)) ∨ (¬ 0 < x ∧ Hid (Lib.maxS f g = f)) := by
    by_cases h : 0 < x
    · exact .inl ⟨h, Lib.hid (by rw [hmx, if_pos (by simpa using h)])⟩
    · exact .inr ⟨h, Lib.hid (by rw [hmx, if_neg (by simpa using h)])⟩
  have hN : (0 < y ∧ Hid (Lib.minS t u = u)) ∨ (¬ 0 < y ∧ Hid (Lib.minS t u = t)) := by
    by_cases h : 0 < y
    · exact .inl ⟨h, Lib.hid (by rw [hmn, if_pos (by simpa using h)])⟩
    · exact .inr ⟨h, Lib.hid (by rw [hmn, if_neg (by simpa using h)])⟩
  clear hmx hmn
  obtain ⟨v, hv⟩ : ∃ v, spV (Sp.meet ⟨f, t, o⟩ ⟨g, u, p⟩) = v := ⟨_, rfl⟩
  rw [hv]
  have HV := Lib.hid hv
  clear hv
  rcases hX with ⟨h1, HE1⟩ | ⟨h1, HE1⟩ <;> rcases hN with ⟨h2, HE2⟩ | ⟨h2, HE2⟩ <;> cases o <;> cases p
  all_goals (
    unfold spV
    go_enter Tryz.func6, Tryz.ntmps6
    go_wp2_with (first
      | (with_reducible refine (HC.out _).mono ?_; rintro e w1 ⟨rfl, n1, rfl⟩)
      | (with_reducible refine (HD.out _).mono ?_; rintro e w1 ⟨rfl, n1, rfl⟩))
    refine bodyPost_ret (v := v) (by rw [← HV.out]; simp [results, Tryz.results6, go_sem, spV, Sp.meet, HE1.out, HE2.out]; try rfl) rfl ⟨rfl, ?_⟩
    (repeat (first | refine Below.setCell ?_ (by simp only; omega) _ | refine drewN_below ?_ _ | refine below_more ?_ (by simp; try omega) _))
    exact Below.refl _ _)
end Go.Proofs.YtemippnhpejbkaaGreatDoor
