/-
  Worlds that differ in one old block at most; rows that lie behind it.
-/
import Derived.Test.YtcjllhdbepchnaaGreatDoorMAA
import Derived.Maps.AppendAt
import Derived.Test.YtcjllhdbepchnaaGreatDoorMX
/-! Worlds that differ in one old block at most; rows that lie behind it. -/
namespace Go.Proofs.YtcjllhdbepchnaaGreatDoor
open Go.RowKit Go.WideShapes
set_option linter.unusedVariables false
theorem below_grows {w w' : World} (h : Below w.heap.size w w') (row : Option Nat) : w.grownBy w' row := ⟨h.os, h.tape, h.output, h.size, fun i hi _ => h.block i hi⟩
theorem grows_set (w : World) (T i : Nat) (u : Value) : w.grownBy (w.setCell ⟨T, i, none⟩ u) (some T) :=
  ⟨rfl, rfl, rfl, by simp [World.setCell], fun k hk hne => Below.heap_setCell _ _ _ _ (fun e => hne (by rw [e]))⟩
theorem grows_drew {w w' : World} {row : Option Nat} (h : w.grownBy w' row) : w.grownBy w'.drew row := ⟨h.os, h.tape, h.output, h.size, h.block⟩
theorem grows_alloc {w w' : World} {row : Option Nat} (h : w.grownBy w' row) (o : Obj) : w.grownBy (w'.alloc o) row := h.trans (World.grownBy_alloc w' o row)
theorem grows_below {w w' w2 : World} {row : Option Nat} (h : w.grownBy w' row) (hb : Below w'.heap.size w' w2) : w.grownBy w2 row := h.trans (below_grows hb row)
theorem FieldsAt.grows {w w' : World} {B T : Nat} {l : List FT} {a : Option Addr} (h : FieldsAt w (· < B) l a) (hg : w.grownBy w' (some T)) (hB : B ≤ T) (hT : T ≤ w.heap.size) : FieldsAt w' (· < B) l a :=
  FieldsAt.keep (fun p hp => hg.cell_far p (by omega) (fun e => by injection e with e; omega)) l a h
/-- A row that lies behind block T. -/
def RowAfter (T : Nat) (w : World) (v : Value) (vs : List Value) : Prop :=
  ∃ A c, v = .slice A vs.length c ∧ vs.length ≤ c ∧ (0 < vs.length → ∃ b o, A = some ⟨b, o, none⟩ ∧ T < b ∧ b < w.heap.size ∧ CellsAt w b o vs)
theorem RowAfter.nil (T : Nat) (w : World) (c : Nat) : RowAfter T w (.slice none 0 c) [] := ⟨none, c, rfl, Nat.zero_le _, fun h => absurd h (by simp)⟩
theorem RowAfter.row {T : Nat} {w : World} {v : Value} {vs : List Value} (h : RowAfter T w v vs) : RowAt w w.heap.size v vs := by
  obtain ⟨A, c, e, hl, h⟩ := h
  refine ⟨A, c, e, hl, fun hp => ?_⟩
  obtain ⟨b, o, ea, _, hb, hc⟩ := h hp
  exact ⟨b, o, ea, hb, hc⟩
theorem RowAfter.grows {T : Nat} {w w' : World} {v : Value} {vs : List Value} (h : RowAfter T w v vs) (hg : w.grownBy w' (some T)) : RowAfter T w' v vs := by
  obtain ⟨A, c, e, hl, h⟩ := h
  refine ⟨A, c, e, hl, fun hp => ?_⟩
  obtain ⟨b, o, ea, ht, hb, hc⟩ := h hp
  exact ⟨b, o, ea, ht, Nat.lt_of_lt_of_le hb hg.size, hc.keep fun p hp => hg.cell_far p (by omega) (fun e => by injection e with e; omega)⟩
theorem PathAt.after {W : World} {lo g n cap T : Nat} {p : List Nat} (h : PathAt W lo g n cap p) (hT : T < lo) : RowAfter T W (.slice (some ⟨g, 0, none⟩) n cap) (pathVals p) := by
  obtain ⟨h1, h2, A, c, e, hl, h3⟩ := h
  refine ⟨A, c, e, hl, fun hp => ?_⟩
  obtain ⟨b, o, ea, hb, hc⟩ := h3 hp
  rw [ea] at e
  injection e with e1
  injection e1 with e1
  injection e1 with e1
  exact ⟨b, o, ea, by omega, hb, hc⟩
end Go.Proofs.YtcjllhdbepchnaaGreatDoor

/-! schema.check's function: one field's own faults, by a panic. -/
namespace Go.Proofs.YtcjllhdbepchnaaGreatDoor
open Go.RowKit Go.WideShapes
set_option linter.unusedVariables false
/-- What a call of it does. -/
def DoPost (T : Nat) (why : Option Int) (m : Nat) (v : Value) (w : World) (e : Ending) (w' : World) : Prop := w.grownBy w' (some T) ∧ IntCell w' T ((m : Int) + 1) ∧ match why with
  | none => e = .returned (.bool true)
  | some c => e = .panicked [{ v := .iface 115 (.agg #[.int .i64 c, v]), recovered := false }]
set_option maxRecDepth 100000 in
set_option maxHeartbeats 2000000 in
theorem do_any (l : List FT) (k : Nat) (hk : k < l.length) (A : Option Addr) (ca : Nat) (path : List Nat) (gg cap : Nat) (a : Option Addr) (c : Nat) (m T B : Nat) (w : World) (hf : FieldsAt w (· < B) l A) (hB : B ≤ T) (hT : IntCell w T m) (hm : m ≤ 64) (hok : l[k].s.ok) (hl : l[k].fields.length ≤ 140737488351232) (hp : path.length ≤ 16) (hca : k ≤ ca) (hc2 : ca ≤ 140737488351232) :
    Calls Tryz.prog 90 #[.slice (some ⟨gg, 0, none⟩) (path.length + 1) cap, .agg #[.string l[k].s.name, .int .u8 l[k].s.kind, .bool l[k].s.down, .int .u8 l[k].s.nulls, .bool l[k].s.bnd, .bool l[k].s.lb, .string l[k].s.lm, .bool l[k].s.hb, .string l[k].s.hm, .int .i64 l[k].s.most, .int .i64 l[k].s.st, .bool l[k].s.sh, .bool l[k].s.ba, .slice a l[k].fields.length c], .slice A k ca, .pointer (some ⟨T, 0, none⟩)] w (DoPost T (stepWhy (l.take k) path m l[k]) m (.slice (some ⟨gg, 0, none⟩) (path.length + 1) cap) w) := by
  have hTl : T < w.heap.size := (Array.getElem?_eq_some_iff.1 hT).1
  have HF := Lib.hid hf
  have HT := Lib.hid hT
  have HX := Lib.hid (FBox.new w #[.string l[k].s.name, .int .u8 l[k].s.kind, .bool l[k].s.down, .int .u8 l[k].s.nulls, .bool l[k].s.bnd, .bool l[k].s.lb, .string l[k].s.lm, .bool l[k].s.hb, .string l[k].s.hm, .int .i64 l[k].s.most, .int .i64 l[k].s.st, .bool l[k].s.sh, .bool l[k].s.ba, .slice a l[k].fields.length c])
  have HOK := Lib.hid hok
  have q0 := hT.at_
  have q1 := hT.free 0
  clear hf hT hok
  by_cases h1 : 64 < m + 1
  · have hs : stepWhy (l.take k) path m l[k] = some 116 := by unfold stepWhy; rw [if_pos h1]
    go_enter Tryz.func90, Tryz.ntmps90
    go_wp2_with fail
    rw [hs]
    refine ⟨rfl, ?_⟩
    exact ⟨grows_alloc (grows_set w T 0 _) _, (HT.out.set _).alloc _, rfl⟩
  by_cases h2 : 16 < path.length + 1
  · have hs : stepWhy (l.take k) path m l[k] = some 114 := by unfold stepWhy; rw [if_neg h1, if_pos h2]
    go_enter Tryz.func90, Tryz.ntmps90
    go_wp2_with fail
    rw [hs]
    refine ⟨rfl, ?_⟩
    exact ⟨grows_alloc (grows_set w T 0 _) _, (HT.out.set _).alloc _, rfl⟩
  · go_enter Tryz.func90, Tryz.ntmps90
    go_wp2_with fail
    obtain ⟨W1, hW1⟩ : ∃ W1, W1 = ((w.setCell ⟨T, 0, none⟩ (.int .i64 ((m : Int) + 1))).alloc (Obj.cells #[.string l[k].s.name, .int .u8 l[k].s.kind, .bool l[k].s.down, .int .u8 l[k].s.nulls, .bool l[k].s.bnd, .bool l[k].s.lb, .string l[k].s.lm, .bool l[k].s.hb, .string l[k].s.hm, .int .i64 l[k].s.most, .int .i64 l[k].s.st, .bool l[k].s.sh, .bool l[k].s.ba, .slice a l[k].fields.length c] 57)) := ⟨_, rfl⟩
    rw [← hW1]
    have hg1 : w.grownBy W1 (some T) := by rw [hW1]; exact grows_alloc (grows_set w T 0 _) _
    have ht1 : IntCell W1 T ((m : Int) + 1) := by rw [hW1]; exact (HT.out.set _).alloc _
    have hx1 : FBox W1 w.heap.size #[.string l[k].s.name, .int .u8 l[k].s.kind, .bool l[k].s.down, .int .u8 l[k].s.nulls, .bool l[k].s.bnd, .bool l[k].s.lb, .string l[k].s.lm, .bool l[k].s.hb, .string l[k].s.hm, .int .i64 l[k].s.most, .int .i64 l[k].s.st, .bool l[k].s.sh, .bool l[k].s.ba, .slice a l[k].fields.length c] := by
      have h := FBox.new (w.setCell ⟨T, 0, none⟩ (.int .i64 ((m : Int) + 1))) #[.string l[k].s.name, .int .u8 l[k].s.kind, .bool l[k].s.down, .int .u8 l[k].s.nulls, .bool l[k].s.bnd, .bool l[k].s.lb, .string l[k].s.lm, .bool l[k].s.hb, .string l[k].s.hm, .int .i64 l[k].s.most, .int .i64 l[k].s.st, .bool l[k].s.sh, .bool l[k].s.ba, .slice a l[k].fields.length c]
      rw [hW1]
      simpa using h
    have hz1 : W1.heap.size = w.heap.size + 1 := by rw [hW1]; simp
    refine (isName_any l[k].s.name W1 HOK.out.1).mono ?_
    rintro e w2 ⟨rfl, hb2⟩
    have hz2 := hb2.size
    have HG2 := Lib.hid (grows_below hg1 hb2)
    have HT2 := Lib.hid (show IntCell w2 T ((m : Int) + 1) from (hb2.block T (by omega)).trans ht1)
    have HX2 := Lib.hid (hx1.below hb2 (by omega))
    clear hb2 hg1 ht1 hx1 hW1 HX q0 q1
    by_cases hnm : nameOk l[k].s.name = true
    · rw [hnm]
      have HB3 := Lib.hid (Below.refl w2.heap.size w2)
      have HN3 := Lib.hid (show ∀ i (hi : i < 0), (l[i]'(by omega)).s.name ≠ l[k].s.name from fun i hi => absurd hi (Nat.not_lt_zero i))
      go_wp2_with fail
      go_loopw [35] (fun i wr => ∃ (j : Nat) (hj : j ≤ k), i = .int .i64 j ∧ Hid (Below w2.heap.size w2 wr) ∧ Hid (∀ i (hi : i < j), (l[i]'(by omega)).s.name ≠ l[k].s.name)) (fun i _ => k - (intOf i).toNat)
      case atStart => exact ⟨0, Nat.zero_le _, rfl, HB3, HN3⟩
      case round =>
        clear HB3 HN3
        obtain ⟨j, hj, rfl, HB3, HN3⟩ := hrel
        have hz3 := HB3.out.size
        by_cases hjk : j < k
        · obtain ⟨b, o, aj, cj, rfl, hbj, hcj, hfj⟩ := ((HF.out.grows HG2.out hB (by omega)).below (HB3.out.mono (by omega))).get (i := j) (by omega)
          obtain ⟨k0, k1, k2, k3, k4, k5, k6, k7, k8, k9, k10, k11, k12, k13⟩ := hcj.field
          have kx := (HX2.out.below HB3.out (by omega)).cells.1
          have hjl : j < l.length := by omega
          have hjI : (j : Int) < (k : Int) := by omega
          have hwr : w.heap.size < wr.heap.size := by omega
          have kx' := fun o => (World.cell?_alloc_lt wr o ⟨w.heap.size, 0, none⟩ hwr).trans kx
          have ky := kx' (Obj.cells #[.string l[j].s.name, .int .u8 l[j].s.kind, .bool l[j].s.down, .int .u8 l[j].s.nulls, .bool l[j].s.bnd, .bool l[j].s.lb, .string l[j].s.lm, .bool l[j].s.hb, .string l[j].s.hm, .int .i64 l[j].s.most, .int .i64 l[j].s.st, .bool l[j].s.sh, .bool l[j].s.ba, .slice aj l[j].fields.length cj] 57)
          clear kx'
          clear hcj hfj
          by_cases hen : l[j].s.name = l[k].s.name
          · have hel : (l[j].s.name.toList == l[k].s.name.toList) = true := by rw [hen]; simp
            have hany : (l.take k).any (fun x => x.s.name == l[k].s.name) = true := (any_take (by omega)).2 ⟨j, hjk, hen⟩
            have hs : stepWhy (l.take k) path m l[k] = some 112 := by unfold stepWhy; rw [if_neg h1, if_neg h2, hnm, if_neg (by simp), if_pos hany]
            go_wp2_with fail
            rw [hs]
            refine ⟨rfl, ?_⟩
            exact ⟨grows_alloc (grows_below HG2.out HB3.out) _, IntCell.alloc (show IntCell wr T ((m : Int) + 1) from (HB3.out.block T (by omega)).trans HT2.out) _, rfl⟩
          · have hel : (l[j].s.name.toList == l[k].s.name.toList) = false := by
              rw [beq_eq_false_iff_ne]
              intro h
              exact hen (bytes_list h)
            have HBd := Lib.hid (HB3.out.alloc hz3 (Obj.cells #[.string l[j].s.name, .int .u8 l[j].s.kind, .bool l[j].s.down, .int .u8 l[j].s.nulls, .bool l[j].s.bnd, .bool l[j].s.lb, .string l[j].s.lm, .bool l[j].s.hb, .string l[j].s.hm, .int .i64 l[j].s.most, .int .i64 l[j].s.st, .bool l[j].s.sh, .bool l[j].s.ba, .slice aj l[j].fields.length cj] 57))
            have HNd := Lib.hid (show ∀ i (hi : i < j + 1), (l[i]'(by omega)).s.name ≠ l[k].s.name from fun i hi => by
              by_cases e : i = j
              · subst e; exact hen
              · exact HN3.out i (by omega))
            go_wp2_with fail
            go_roundw
            case rel => exact ⟨j + 1, by omega, by go_num, HBd, HNd⟩
            case measure => simp [intOf]; omega
        · obtain rfl : k = j := by omega
          have hany : (l.take k).any (fun x => x.s.name == l[k].s.name) = false := by
            rw [Bool.eq_false_iff]
            intro h
            obtain ⟨i, hi, h⟩ := (any_take (by omega)).1 h
            exact HN3.out i hi h
          have HX3 := Lib.hid (HX2.out.below HB3.out (by omega))
          obtain ⟨x0, x1, x2, x3, x4, x5, x6, x7, x8, x9, x10, x11, x12, x13⟩ := HX3.out.cells
          have HRO := Lib.hid (fun W => odd_any l[k] a c W HOK.out hl)
          unfold fieldCells at HRO
          have HG3 := Lib.hid (grows_below HG2.out HB3.out)
          have HT3 := Lib.hid (show IntCell wr T ((m : Int) + 1) from (HB3.out.block T (by omega)).trans HT2.out)
          clear HB3 HN3
          go_wp2_with fail
          refine (HRO.out _).mono ?_
          rintro e w6 ⟨rfl, hb6⟩
          have HX6 := Lib.hid (HX3.out.below hb6 (by omega))
          obtain ⟨y0, y1, y2, y3, y4, y5, y6, y7, y8, y9, y10, y11, y12, y13⟩ := HX6.out.cells
          have HT6 := Lib.hid (show IntCell w6 T ((m : Int) + 1) from (hb6.block T (by omega)).trans HT3.out)
          have HG6 := Lib.hid (grows_below HG3.out hb6)
          clear HX3 hb6 HRO x0 x1 x2 x3 x4 x5 x6 x7 x8 x9 x10 x11 x12 x13
          by_cases hod : l[k].odd = true
          · rw [hod]
            have hs : stepWhy (l.take k) path m l[k] = some 113 := by unfold stepWhy; rw [if_neg h1, if_neg h2, hnm, if_neg (by simp), hany, if_neg (by simp), if_pos hod]
            go_wp2_with fail
            rw [hs]
            exact ⟨rfl, HG6.out, HT6.out, rfl⟩
          · rw [Bool.not_eq_true] at hod
            rw [hod]
            by_cases he7 : l[k].s.kind = 7 ∧ l[k].fields.length = 0
            · have e1 : ((l[k].s.kind : Int) == 7) = true := by rw [he7.1]; rfl
              have e2 : ((l[k].fields.length : Int) == 0) = true := by rw [he7.2]; rfl
              have hs : stepWhy (l.take k) path m l[k] = some 115 := by unfold stepWhy; rw [if_neg h1, if_neg h2, hnm, if_neg (by simp), hany, if_neg (by simp), hod, if_neg (by simp), if_pos he7]
              go_wp2_with fail
              rw [hs]
              exact ⟨rfl, HG6.out, HT6.out, rfl⟩
            · have hs : stepWhy (l.take k) path m l[k] = none := by unfold stepWhy; rw [if_neg h1, if_neg h2, hnm, if_neg (by simp), hany, if_neg (by simp), hod, if_neg (by simp), if_neg he7]
              go_wp2_with fail
              all_goals (
                go_ret
                rw [hs]
                exact ⟨HG6.out, HT6.out, rfl⟩)
    · rw [Bool.not_eq_true] at hnm
      rw [hnm]
      have hs : stepWhy (l.take k) path m l[k] = some 111 := by unfold stepWhy; rw [if_neg h1, if_neg h2, hnm]; rfl
      go_wp2_with fail
      rw [hs]
      refine ⟨rfl, ?_⟩
      exact ⟨HG2.out, HT2.out, rfl⟩
end Go.Proofs.YtcjllhdbepchnaaGreatDoor
