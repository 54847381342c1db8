/-
  Does a field say what may not be: the document's answer.
-/
import Derived.Test.YtcjllhdbepchnaaGreatDoorMG
namespace Go.Proofs.YtcjllhdbepchnaaGreatDoor
open Go.RowKit Go.WideShapes
set_option linter.unusedVariables false
theorem size_nil (m : ByteArray) : m.size = 0 ↔ m.toList = [] := by
  rw [ByteArray.toList_eq, ← len_toList]
  exact List.length_eq_zero_iff
theorem size_nil' (m : ByteArray) : (m.size != 0) = !(m.toList == []) := by
  have h := size_nil m
  by_cases e : m.size = 0
  · rw [h.1 e, e]; rfl
  · have e2 : ¬ m.toList = [] := fun e2 => e (h.2 e2)
    have e3 : (m.size != 0) = true := by rw [bne_iff_ne]; exact e
    have e4 : (m.toList == []) = false := by rw [beq_eq_false_iff_ne]; exact e2
    rw [e3, e4]; rfl
theorem odd_mk (nm : ByteArray) (k : Nat) (dn : Bool) (nl : Nat) (bd lb : Bool) (lm : ByteArray) (hb : Bool) (hm : ByteArray) (ms st : Int) (sh ba : Bool) (l : List FT) : (FT.mk ⟨nm, k, dn, nl, bd, lb, lm, hb, hm, ms, st, sh, ba⟩ l).odd =
    (if k < 1 || 7 < k || 2 < nl then true
    else if (k != 2 && (bd || lb || lm.size != 0 || hb || hm.size != 0)) || (k != 3 && k != 5 && ms != 0) || (k != 6 && (st != 0 || sh || ba)) || (k != 7 && l.length != 0) then true
    else if k = 2 then
      if bd then decide (numWhy2 lb lm hb hm ≠ 0) || decide (0 < numCmp lb lm hb hm)
      else lb || lm.size != 0 || hb || hm.size != 0
    else if k = 6 then decide (st < 1) || decide (4 < st) || (st == 4 && !sh)
    else decide (ms < 0) || decide (65536 < ms)) := rfl
def isOdd (w : World) (t : FT) (e : Ending) (w' : World) : Prop := Ret (.bool t.odd) w e w'
theorem isOdd.of {w w' : World} {t : FT} {b : Bool} (h : b = t.odd) (hb : Below w.heap.size w w') : isOdd w t (.returned (.bool b)) w' := ⟨by rw [h], hb⟩
theorem below_a1 (w : World) (o : Obj) : Below w.heap.size w (w.alloc o) := (Below.refl _ _).alloc (Nat.le_refl _) _
theorem below_a2 (w : World) (o o2 : Obj) : Below w.heap.size w ((w.alloc o).alloc o2) := (below_a1 w o).alloc (by simp) _
theorem below_a3 (w : World) (o o2 o3 : Obj) : Below w.heap.size w (((w.alloc o).alloc o2).alloc o3) := (below_a2 w o o2).alloc (by simp; omega) _
set_option maxRecDepth 100000 in
set_option maxHeartbeats 2000000 in
theorem refOdd1 (nm : ByteArray) (dn : Bool) (nl : Nat) (bd lb : Bool) (lm : ByteArray) (hb : Bool) (hm : ByteArray) (ms st : Int) (sh ba : Bool) (l : List FT) (a : Option Addr) (c : Nat) (w : World) (hok : (⟨nm, 1, dn, nl, bd, lb, lm, hb, hm, ms, st, sh, ba⟩ : FS).ok) (hl : l.length ≤ 140737488351232) :
    Calls Tryz.prog 88 #[.agg #[.string nm, .int .u8 (1 : Nat), .bool dn, .int .u8 nl, .bool bd, .bool lb, .string lm, .bool hb, .string hm, .int .i64 ms, .int .i64 st, .bool sh, .bool ba, .slice a l.length c]] w (isOdd w (.mk ⟨nm, 1, dn, nl, bd, lb, lm, hb, hm, ms, st, sh, ba⟩ l)) := by
  obtain ⟨h1, h2, h3, h4, h5, h6, h7, h8, h9⟩ := hok
  simp only at *
  clear h1 h2 h4 h5
  by_cases hn : 2 < nl
  · have hnI : (2 : Int) < (nl : Int) := by omega
    have HE := Lib.hid (show (FT.mk ⟨nm, 1, dn, nl, bd, lb, lm, hb, hm, ms, st, sh, ba⟩ l).odd = true by simp [FT.odd, FT.s, hn])
    clear hn
    go_enter Tryz.func88, Tryz.ntmps88
    go_wp2_with fail
    go_ret
    exact isOdd.of HE.out.symm (by first | exact below_a1 _ _ | exact below_a2 _ _ _ | exact below_a3 _ _ _ _)
  · have hnI : ¬ (2 : Int) < (nl : Int) := by omega
    have HN := Lib.hid (show decide (2 < nl) = false by simp; omega)
    clear hn
    cases l with
    | nil =>
      go_enter Tryz.func88, Tryz.ntmps88
      go_wp2_with fail
      all_goals (
        go_ret
        refine isOdd.of ?_ (by first | exact below_a1 _ _ | exact below_a2 _ _ _ | exact below_a3 _ _ _ _)
        have hn := HN.out
        clear HN hnI
        simp only [odd_mk, size_nil', hn, Bool.or_false]
        clear hn
        simp_all)
    | cons x r =>
      go_enter Tryz.func88, Tryz.ntmps88
      go_wp2_with fail
      all_goals (
        go_ret
        refine isOdd.of ?_ (by first | exact below_a1 _ _ | exact below_a2 _ _ _ | exact below_a3 _ _ _ _)
        have hn := HN.out
        clear HN hnI
        simp only [odd_mk, size_nil', hn, Bool.or_false]
        clear hn
        simp_all)
set_option maxRecDepth 100000 in
set_option maxHeartbeats 2000000 in
theorem refOdd3 (nm : ByteArray) (dn : Bool) (nl : Nat) (bd lb : Bool) (lm : ByteArray) (hb : Bool) (hm : ByteArray) (ms st : Int) (sh ba : Bool) (l : List FT) (a : Option Addr) (c : Nat) (w : World) (hok : (⟨nm, 3, dn, nl, bd, lb, lm, hb, hm, ms, st, sh, ba⟩ : FS).ok) (hl : l.length ≤ 140737488351232) :
    Calls Tryz.prog 88 #[.agg #[.string nm, .int .u8 (3 : Nat), .bool dn, .int .u8 nl, .bool bd, .bool lb, .string lm, .bool hb, .string hm, .int .i64 ms, .int .i64 st, .bool sh, .bool ba, .slice a l.length c]] w (isOdd w (.mk ⟨nm, 3, dn, nl, bd, lb, lm, hb, hm, ms, st, sh, ba⟩ l)) := by
  obtain ⟨h1, h2, h3, h4, h5, h6, h7, h8, h9⟩ := hok
  simp only at *
  clear h1 h2 h4 h5
  by_cases hn : 2 < nl
  · have hnI : (2 : Int) < (nl : Int) := by omega
    have HE := Lib.hid (show (FT.mk ⟨nm, 3, dn, nl, bd, lb, lm, hb, hm, ms, st, sh, ba⟩ l).odd = true by simp [FT.odd, FT.s, hn])
    clear hn
    go_enter Tryz.func88, Tryz.ntmps88
    go_wp2_with fail
    go_ret
    exact isOdd.of HE.out.symm (by first | exact below_a1 _ _ | exact below_a2 _ _ _ | exact below_a3 _ _ _ _)
  · have hnI : ¬ (2 : Int) < (nl : Int) := by omega
    have HN := Lib.hid (show decide (2 < nl) = false by simp; omega)
    clear hn
    cases l with
    | nil =>
      go_enter Tryz.func88, Tryz.ntmps88
      go_wp2_with fail
      all_goals (
        go_ret
        refine isOdd.of ?_ (by first | exact below_a1 _ _ | exact below_a2 _ _ _ | exact below_a3 _ _ _ _)
        have hn := HN.out
        clear HN hnI
        simp only [odd_mk, size_nil', hn, Bool.or_false]
        clear hn
        simp_all)
    | cons x r =>
      go_enter Tryz.func88, Tryz.ntmps88
      go_wp2_with fail
      all_goals (
        go_ret
        refine isOdd.of ?_ (by first | exact below_a1 _ _ | exact below_a2 _ _ _ | exact below_a3 _ _ _ _)
        have hn := HN.out
        clear HN hnI
        simp only [odd_mk, size_nil', hn, Bool.or_false]
        clear hn
        simp_all)
set_option maxRecDepth 100000 in
set_option maxHeartbeats 2000000 in
theorem refOdd4 (nm : ByteArray) (dn : Bool) (nl : Nat) (bd lb : Bool) (lm : ByteArray) (hb : Bool) (hm : ByteArray) (ms st : Int) (sh ba : Bool) (l : List FT) (a : Option Addr) (c : Nat) (w : World) (hok : (⟨nm, 4, dn, nl, bd, lb, lm, hb, hm, ms, st, sh, ba⟩ : FS).ok) (hl : l.length ≤ 140737488351232) :
    Calls Tryz.prog 88 #[.agg #[.string nm, .int .u8 (4 : Nat), .bool dn, .int .u8 nl, .bool bd, .bool lb, .string lm, .bool hb, .string hm, .int .i64 ms, .int .i64 st, .bool sh, .bool ba, .slice a l.length c]] w (isOdd w (.mk ⟨nm, 4, dn, nl, bd, lb, lm, hb, hm, ms, st, sh, ba⟩ l)) := by
  obtain ⟨h1, h2, h3, h4, h5, h6, h7, h8, h9⟩ := hok
  simp only at *
  clear h1 h2 h4 h5
  by_cases hn : 2 < nl
  · have hnI : (2 : Int) < (nl : Int) := by omega
    have HE := Lib.hid (show (FT.mk ⟨nm, 4, dn, nl, bd, lb, lm, hb, hm, ms, st, sh, ba⟩ l).odd = true by simp [FT.odd, FT.s, hn])
    clear hn
    go_enter Tryz.func88, Tryz.ntmps88
    go_wp2_with fail
    go_ret
    exact isOdd.of HE.out.symm (by first | exact below_a1 _ _ | exact below_a2 _ _ _ | exact below_a3 _ _ _ _)
  · have hnI : ¬ (2 : Int) < (nl : Int) := by omega
    have HN := Lib.hid (show decide (2 < nl) = false by simp; omega)
    clear hn
    cases l with
    | nil =>
      go_enter Tryz.func88, Tryz.ntmps88
      go_wp2_with fail
      all_goals (
        go_ret
        refine isOdd.of ?_ (by first | exact below_a1 _ _ | exact below_a2 _ _ _ | exact below_a3 _ _ _ _)
        have hn := HN.out
        clear HN hnI
        simp only [odd_mk, size_nil', hn, Bool.or_false]
        clear hn
        simp_all)
    | cons x r =>
      go_enter Tryz.func88, Tryz.ntmps88
      go_wp2_with fail
      all_goals (
        go_ret
        refine isOdd.of ?_ (by first | exact below_a1 _ _ | exact below_a2 _ _ _ | exact below_a3 _ _ _ _)
        have hn := HN.out
        clear HN hnI
        simp only [odd_mk, size_nil', hn, Bool.or_false]
        clear hn
        simp_all)
set_option maxRecDepth 100000 in
set_option maxHeartbeats 2000000 in
theorem refOdd5 (nm : ByteArray) (dn : Bool) (nl : Nat) (bd lb : Bool) (lm : ByteArray) (hb : Bool) (hm : ByteArray) (ms st : Int) (sh ba : Bool) (l : List FT) (a : Option Addr) (c : Nat) (w : World) (hok : (⟨nm, 5, dn, nl, bd, lb, lm, hb, hm, ms, st, sh, ba⟩ : FS).ok) (hl : l.length ≤ 140737488351232) :
    Calls Tryz.prog 88 #[.agg #[.string nm, .int .u8 (5 : Nat), .bool dn, .int .u8 nl, .bool bd, .bool lb, .string lm, .bool hb, .string hm, .int .i64 ms, .int .i64 st, .bool sh, .bool ba, .slice a l.length c]] w (isOdd w (.mk ⟨nm, 5, dn, nl, bd, lb, lm, hb, hm, ms, st, sh, ba⟩ l)) := by
  obtain ⟨h1, h2, h3, h4, h5, h6, h7, h8, h9⟩ := hok
  simp only at *
  clear h1 h2 h4 h5
  by_cases hn : 2 < nl
  · have hnI : (2 : Int) < (nl : Int) := by omega
    have HE := Lib.hid (show (FT.mk ⟨nm, 5, dn, nl, bd, lb, lm, hb, hm, ms, st, sh, ba⟩ l).odd = true by simp [FT.odd, FT.s, hn])
    clear hn
    go_enter Tryz.func88, Tryz.ntmps88
    go_wp2_with fail
    go_ret
    exact isOdd.of HE.out.symm (by first | exact below_a1 _ _ | exact below_a2 _ _ _ | exact below_a3 _ _ _ _)
  · have hnI : ¬ (2 : Int) < (nl : Int) := by omega
    have HN := Lib.hid (show decide (2 < nl) = false by simp; omega)
    clear hn
    cases l with
    | nil =>
      go_enter Tryz.func88, Tryz.ntmps88
      go_wp2_with fail
      all_goals (
        go_ret
        refine isOdd.of ?_ (by first | exact below_a1 _ _ | exact below_a2 _ _ _ | exact below_a3 _ _ _ _)
        have hn := HN.out
        clear HN hnI
        simp only [odd_mk, size_nil', hn, Bool.or_false]
        clear hn
        simp_all)
    | cons x r =>
      go_enter Tryz.func88, Tryz.ntmps88
      go_wp2_with fail
      all_goals (
        go_ret
        refine isOdd.of ?_ (by first | exact below_a1 _ _ | exact below_a2 _ _ _ | exact below_a3 _ _ _ _)
        have hn := HN.out
        clear HN hnI
        simp only [odd_mk, size_nil', hn, Bool.or_false]
        clear hn
        simp_all)
set_option maxRecDepth 100000 in
set_option maxHeartbeats 2000000 in
theorem refOdd6 (nm : ByteArray) (dn : Bool) (nl : Nat) (bd lb : Bool) (lm : ByteArray) (hb : Bool) (hm : ByteArray) (ms st : Int) (sh ba : Bool) (l : List FT) (a : Option Addr) (c : Nat) (w : World) (hok : (⟨nm, 6, dn, nl, bd, lb, lm, hb, hm, ms, st, sh, ba⟩ : FS).ok) (hl : l.length ≤ 140737488351232) :
    Calls Tryz.prog 88 #[.agg #[.string nm, .int .u8 (6 : Nat), .bool dn, .int .u8 nl, .bool bd, .bool lb, .string lm, .bool hb, .string hm, .int .i64 ms, .int .i64 st, .bool sh, .bool ba, .slice a l.length c]] w (isOdd w (.mk ⟨nm, 6, dn, nl, bd, lb, lm, hb, hm, ms, st, sh, ba⟩ l)) := by
  obtain ⟨h1, h2, h3, h4, h5, h6, h7, h8, h9⟩ := hok
  simp only at *
  clear h1 h2 h4 h5
  by_cases hn : 2 < nl
  · have hnI : (2 : Int) < (nl : Int) := by omega
    have HE := Lib.hid (show (FT.mk ⟨nm, 6, dn, nl, bd, lb, lm, hb, hm, ms, st, sh, ba⟩ l).odd = true by simp [FT.odd, FT.s, hn])
    clear hn
    go_enter Tryz.func88, Tryz.ntmps88
    go_wp2_with fail
    go_ret
    exact isOdd.of HE.out.symm (by first | exact below_a1 _ _ | exact below_a2 _ _ _ | exact below_a3 _ _ _ _)
  · have hnI : ¬ (2 : Int) < (nl : Int) := by omega
    have HN := Lib.hid (show decide (2 < nl) = false by simp; omega)
    clear hn
    cases l with
    | nil =>
      go_enter Tryz.func88, Tryz.ntmps88
      go_wp2_with fail
      all_goals (
        go_ret
        refine isOdd.of ?_ (by first | exact below_a1 _ _ | exact below_a2 _ _ _ | exact below_a3 _ _ _ _)
        have hn := HN.out
        clear HN hnI
        simp only [odd_mk, size_nil', hn, Bool.or_false]
        clear hn
        simp_all)
    | cons x r =>
      go_enter Tryz.func88, Tryz.ntmps88
      go_wp2_with fail
      all_goals (
        go_ret
        refine isOdd.of ?_ (by first | exact below_a1 _ _ | exact below_a2 _ _ _ | exact below_a3 _ _ _ _)
        have hn := HN.out
        clear HN hnI
        simp only [odd_mk, size_nil', hn, Bool.or_false]
        clear hn
        simp_all)
set_option maxRecDepth 100000 in
set_option maxHeartbeats 2000000 in
theorem refOdd7 (nm : ByteArray) (dn : Bool) (nl : Nat) (bd lb : Bool) (lm : ByteArray) (hb : Bool) (hm : ByteArray) (ms st : Int) (sh ba : Bool) (l : List FT) (a : Option Addr) (c : Nat) (w : World) (hok : (⟨nm, 7, dn, nl, bd, lb, lm, hb, hm, ms, st, sh, ba⟩ : FS).ok) (hl : l.length ≤ 140737488351232) :
    Calls Tryz.prog 88 #[.agg #[.string nm, .int .u8 (7 : Nat), .bool dn, .int .u8 nl, .bool bd, .bool lb, .string lm, .bool hb, .string hm, .int .i64 ms, .int .i64 st, .bool sh, .bool ba, .slice a l.length c]] w (isOdd w (.mk ⟨nm, 7, dn, nl, bd, lb, lm, hb, hm, ms, st, sh, ba⟩ l)) := by
  obtain ⟨h1, h2, h3, h4, h5, h6, h7, h8, h9⟩ := hok
  simp only at *
  clear h1 h2 h4 h5
  by_cases hn : 2 < nl
  · have hnI : (2 : Int) < (nl : Int) := by omega
    have HE := Lib.hid (show (FT.mk ⟨nm, 7, dn, nl, bd, lb, lm, hb, hm, ms, st, sh, ba⟩ l).odd = true by simp [FT.odd, FT.s, hn])
    clear hn
    go_enter Tryz.func88, Tryz.ntmps88
    go_wp2_with fail
    go_ret
    exact isOdd.of HE.out.symm (by first | exact below_a1 _ _ | exact below_a2 _ _ _ | exact below_a3 _ _ _ _)
  · have hnI : ¬ (2 : Int) < (nl : Int) := by omega
    have HN := Lib.hid (show decide (2 < nl) = false by simp; omega)
    clear hn
    cases l with
    | nil =>
      go_enter Tryz.func88, Tryz.ntmps88
      go_wp2_with fail
      all_goals (
        go_ret
        refine isOdd.of ?_ (by first | exact below_a1 _ _ | exact below_a2 _ _ _ | exact below_a3 _ _ _ _)
        have hn := HN.out
        clear HN hnI
        simp only [odd_mk, size_nil', hn, Bool.or_false]
        clear hn
        simp_all)
    | cons x r =>
      go_enter Tryz.func88, Tryz.ntmps88
      go_wp2_with fail
      all_goals (
        go_ret
        refine isOdd.of ?_ (by first | exact below_a1 _ _ | exact below_a2 _ _ _ | exact below_a3 _ _ _ _)
        have hn := HN.out
        clear HN hnI
        simp only [odd_mk, size_nil', hn, Bool.or_false]
        clear hn
        simp_all)
set_option maxRecDepth 100000 in
set_option maxHeartbeats 4000000 in
theorem refOdd2 (nm : ByteArray) (dn : Bool) (nl : Nat) (bd lb : Bool) (lm : ByteArray) (hb : Bool) (hm : ByteArray) (ms st : Int) (sh ba : Bool) (l : List FT) (a : Option Addr) (c : Nat) (w : World) (hok : (⟨nm, 2, dn, nl, bd, lb, lm, hb, hm, ms, st, sh, ba⟩ : FS).ok) (hl : l.length ≤ 140737488351232) :
    Calls Tryz.prog 88 #[.agg #[.string nm, .int .u8 (2 : Nat), .bool dn, .int .u8 nl, .bool bd, .bool lb, .string lm, .bool hb, .string hm, .int .i64 ms, .int .i64 st, .bool sh, .bool ba, .slice a l.length c]] w (isOdd w (.mk ⟨nm, 2, dn, nl, bd, lb, lm, hb, hm, ms, st, sh, ba⟩ l)) := by
  obtain ⟨h1, h2, h3, h4, h5, h6, h7, h8, h9⟩ := hok
  simp only at *
  have HC := Lib.hid (fun w => refCmp_any lb lm hb hm w (by omega) (by omega))
  unfold CmpPost at HC
  obtain ⟨m, hme⟩ : ∃ m, m = numWhy2 lb lm hb hm := ⟨_, rfl⟩
  obtain ⟨n, hne⟩ : ∃ n, n = numCmp lb lm hb hm := ⟨_, rfl⟩
  rw [← hme, ← hne] at HC
  have HM := Lib.hid hme
  have HNn := Lib.hid hne
  clear h1 h2 h4 h5 hme hne
  by_cases hn : 2 < nl
  · have hnI : (2 : Int) < (nl : Int) := by omega
    have HE := Lib.hid (show (FT.mk ⟨nm, 2, dn, nl, bd, lb, lm, hb, hm, ms, st, sh, ba⟩ l).odd = true by simp [FT.odd, FT.s, hn])
    clear hn
    go_enter Tryz.func88, Tryz.ntmps88
    go_wp2_with fail
    go_ret
    exact isOdd.of HE.out.symm (by first | exact below_a1 _ _ | exact below_a2 _ _ _ | exact below_a3 _ _ _ _)
  · have hnI : ¬ (2 : Int) < (nl : Int) := by omega
    have HN := Lib.hid (show decide (2 < nl) = false by simp; omega)
    clear hn
    cases l with
    | nil =>
      cases bd with
      | false =>
        clear HC
        go_enter Tryz.func88, Tryz.ntmps88
        go_wp2_with fail
        all_goals (
          go_ret
          refine isOdd.of ?_ (by first | exact below_a1 _ _ | exact below_a2 _ _ _ | exact below_a3 _ _ _ _)
          have hn := HN.out
          clear HN hnI HM HNn
          simp only [odd_mk, size_nil', hn, Bool.or_false]
          clear hn
          simp_all)
      | true =>
        go_enter Tryz.func88, Tryz.ntmps88
        go_wp2_with (go_at_call 72; refine (HC.out _).mono ?_; rintro e w2 ⟨rfl, hb2⟩; have HB2 := Lib.hid ((below_a3 _ _ _ _).trans (hb2.mono (below_a3 _ _ _ _).size)); clear hb2)
        all_goals (
          go_ret
          refine isOdd.of ?_ (by first | exact below_a1 _ _ | exact below_a2 _ _ _ | exact below_a3 _ _ _ _ | exact HB2.out)
          have hn := HN.out
          have hM := HM.out
          have hNn := HNn.out
          clear HN hnI HM HNn HC
          simp only [odd_mk, size_nil', hn, Bool.or_false, ← hM, ← hNn]
          clear hn hM hNn
          simp_all)
    | cons x r =>
      clear HC
      cases bd <;> (
        go_enter Tryz.func88, Tryz.ntmps88
        go_wp2_with fail
        all_goals (
          go_ret
          refine isOdd.of ?_ (by first | exact below_a1 _ _ | exact below_a2 _ _ _ | exact below_a3 _ _ _ _)
          have hn := HN.out
          clear HN hnI HM HNn
          simp only [odd_mk, size_nil', hn, Bool.or_false]
          clear hn
          simp_all))
set_option maxRecDepth 100000 in
set_option maxHeartbeats 1000000 in
theorem refOddBad (nm : ByteArray) (k : Nat) (dn : Bool) (nl : Nat) (bd lb : Bool) (lm : ByteArray) (hb : Bool) (hm : ByteArray) (ms st : Int) (sh ba : Bool) (l : List FT) (a : Option Addr) (c : Nat) (w : World) (hok : (⟨nm, k, dn, nl, bd, lb, lm, hb, hm, ms, st, sh, ba⟩ : FS).ok) (hk : k < 1 ∨ 7 < k) :
    Calls Tryz.prog 88 #[.agg #[.string nm, .int .u8 k, .bool dn, .int .u8 nl, .bool bd, .bool lb, .string lm, .bool hb, .string hm, .int .i64 ms, .int .i64 st, .bool sh, .bool ba, .slice a l.length c]] w (isOdd w (.mk ⟨nm, k, dn, nl, bd, lb, lm, hb, hm, ms, st, sh, ba⟩ l)) := by
  have hk2 := hok.2.1
  simp only at hk2
  clear hok
  have HE := Lib.hid (show (FT.mk ⟨nm, k, dn, nl, bd, lb, lm, hb, hm, ms, st, sh, ba⟩ l).odd = true by rcases hk with h | h <;> simp [FT.odd, FT.s, h])
  rcases hk with h | h
  · have hI : (k : Int) < 1 := by omega
    clear h
    go_enter Tryz.func88, Tryz.ntmps88
    go_wp2_with fail
    go_ret
    exact isOdd.of HE.out.symm (by first | exact below_a1 _ _ | exact below_a2 _ _ _ | exact below_a3 _ _ _ _)
  · have hI : (7 : Int) < (k : Int) := by omega
    have hI2 : ¬ (k : Int) < 1 := by omega
    clear h
    go_enter Tryz.func88, Tryz.ntmps88
    go_wp2_with fail
    go_ret
    exact isOdd.of HE.out.symm (by first | exact below_a1 _ _ | exact below_a2 _ _ _ | exact below_a3 _ _ _ _)
theorem refOdd_any (t : FT) (a : Option Addr) (c : Nat) (w : World) (hok : t.s.ok) (hl : t.fields.length ≤ 140737488351232) :
    Calls Tryz.prog 88 #[.agg (fieldCells t a c).toArray] w (isOdd w t) := by
  obtain ⟨⟨nm, k, dn, nl, bd, lb, lm, hb, hm, ms, st, sh, ba⟩, l⟩ := t
  by_cases hk : k < 1 ∨ 7 < k
  · exact refOddBad nm k dn nl bd lb lm hb hm ms st sh ba l a c w hok hk
  · have h : k = 1 ∨ k = 2 ∨ k = 3 ∨ k = 4 ∨ k = 5 ∨ k = 6 ∨ k = 7 := by omega
    rcases h with rfl | rfl | rfl | rfl | rfl | rfl | rfl
    · exact refOdd1 nm dn nl bd lb lm hb hm ms st sh ba l a c w hok hl
    · exact refOdd2 nm dn nl bd lb lm hb hm ms st sh ba l a c w hok hl
    · exact refOdd3 nm dn nl bd lb lm hb hm ms st sh ba l a c w hok hl
    · exact refOdd4 nm dn nl bd lb lm hb hm ms st sh ba l a c w hok hl
    · exact refOdd5 nm dn nl bd lb lm hb hm ms st sh ba l a c w hok hl
    · exact refOdd6 nm dn nl bd lb lm hb hm ms st sh ba l a c w hok hl
    · exact refOdd7 nm dn nl bd lb lm hb hm ms st sh ba l a c w hok hl
end Go.Proofs.YtcjllhdbepchnaaGreatDoor
