/-
  schema.walk with schema.check's function: goes through fields.
-/
import Derived.Test.YtcjllhdbepchnaaGreatDoorMAB
import Derived.Laws.AppendOwnNone
import Derived.Deep.RegionHeld3
import Derived.RegionDies
namespace Go
theorem wpList_append_row {P : Program} {w : World} {ops : Array Oper} {rest : List Oper} {o : Oper} {a : Act} {Q : Exit → Act → World → Prop} (hgd : o.guard = none) (s x : Operand) (t : TypeId)
    (ho : o.op = .call { callee := .builtin .append, args := #[s, x], argTypes := #[t, t] })
    (base : Nat) (e : TypeId) (i : TypeInfo) (z : Value) (size bytes : Nat) (ht : P.underlying t = some (.slice e)) (hi : P.info? e = some i) (hz : i.zero = some z)
    (hsize : i.size = size) (hby : i.bytes = bytes) (hzs : z.cells.size = size) (hsz : 0 < size)
    (v : Value) (n : Nat) (xs : List Value) (hs : a.eval s = v) (hown : w.ownsRow base e size v n xs)
    (vx : Value) (b2 m : Nat) (news : List Value) (hx : a.eval x = vx) (hxo : w.ownsRow b2 e size vx m news) (h1 : ∀ u ∈ news, u.oneCell' = true)
    (h63 : n + m ≤ maxLen) (hbytes : (n + m) * bytes ≤ 140737488355328) (hbase : base ≤ w.heap.size)
    (h : ∀ v' w', w'.ownsRow base e size v' (n + m) (xs ++ news) → w.grownBy w' v.ownBlock → wpList P ops Q rest (a.put o.dst v') w') : wpList P ops Q (o :: rest) a w := by
  obtain ⟨hl, hv | ⟨g, cap, cur, hv, _, hg, hc, _, hs2, htk⟩⟩ := hxo
  · obtain ⟨rfl, rfl⟩ := hv
    obtain rfl : news = [] := List.eq_nil_of_length_eq_zero (by simpa using hl)
    exact wpList_append_own_none hgd s x t ho base e i size ht hi v n xs hs hown hx (h v w (by simpa using hown) ⟨rfl, rfl, rfl, Nat.le_refl _, fun _ _ _ => rfl⟩)
  · subst hv
    refine wpList_append_own w hgd s x t ho base e i z size bytes ht hi hz hsize hby hzs hsz v n xs hs hown ⟨g, 0, none⟩ m cap news hx hl (fun j u hj => ?_) h1 h63 hbytes hbase (fun v' w' k1 k2 _ => h v' w' k1 k2)
    have hj2 : j < news.length := (List.getElem?_eq_some_iff.1 hj).1
    have hj3 : j < cur.toList.length := by rw [← htk, List.length_take] at hj2; omega
    rw [Addr.add_lit, Nat.zero_add]
    rw [← htk, List.getElem?_take_of_lt (by omega)] at hj
    simp only [World.cell?, hg]
    simpa using hj
end Go
namespace Go.Proofs.YtcjllhdbepchnaaGreatDoor
open Go.RowKit Go.WideShapes
set_option linter.unusedVariables false
/-- What a call of it does. -/
def WalkPost (T : Nat) (r : Nat × Option (Int × List Nat)) (w : World) (e : Ending) (w' : World) : Prop := w.grownBy w' (some T) ∧ match r with
  | (m, none) => e = .returned (.bool true) ∧ IntCell w' T m
  | (_, some (c, p)) => ∃ v, e = .panicked [{ v := .iface 115 (.agg #[.int .i64 c, v]), recovered := false }] ∧ w'.ownsRow (T + 1) 3 1 v p.length (pathVals p)
theorem pathVals_one (p : List Nat) : ∀ u ∈ pathVals p, u.oneCell' = true := by
  intro u hu
  unfold pathVals at hu
  obtain ⟨n, _, rfl⟩ := List.mem_map.1 hu
  rfl
theorem ownsRow_low {w : World} {b b' size n : Nat} {e : TypeId} {v : Value} {xs : List Value} (h : w.ownsRow b e size v n xs) (hb : b' ≤ b) : w.ownsRow b' e size v n xs :=
  ⟨h.1, h.2.imp id fun ⟨g, cap, cur, h1, h2, h3⟩ => ⟨g, cap, cur, h1, Nat.le_trans hb h2, h3⟩⟩
theorem FBox.grownT {w w' : World} {T b : Nat} {cs : Array Value} (h : FBox w b cs) (hg : w.grownBy w' (some T)) (hb : b ≠ T) : FBox w' b cs :=
  (hg.block b (Array.getElem?_eq_some_iff.1 h).1 (fun e => hb (by injection e))).trans h
def SchWalk (l : List FT) : Prop := ∀ (a : Option Addr) (c : Nat) (path : List Nat) (vp : Value) (m T B : Nat) (w : World), FieldsAt w (· < B) l a → B ≤ T → IntCell w T m → l.length ≤ c → c ≤ 140737488351232 → path.length ≤ 16 → m ≤ 64 → w.ownsRow (T + 1) 3 1 vp path.length (pathVals path) →
  Calls Tryz.prog 83 #[.slice a l.length c, vp, .func (.func 90) #[] #[.pointer (some ⟨T, 0, none⟩)]] w (WalkPost T (FT.walkL [] path 0 m l) w)
set_option maxRecDepth 100000 in
set_option maxHeartbeats 4000000 in
theorem schWalk_step (l : List FT) (ih : ∀ x ∈ l, SchWalk x.fields) : SchWalk l := by
  intro a c path vp n T B w hf hBT hT hlc hc hpl hn hrow
  have hTl : T < w.heap.size := (Array.getElem?_eq_some_iff.1 hT).1
  obtain ⟨i0, hi, hz0, hz1, hz2⟩ := info_parts int_info
  have HF := Lib.hid hf
  have HR := Lib.hid hrow
  have HT0 := Lib.hid hT
  have HG0 := Lib.hid (below_grows (Below.refl w.heap.size w) (some T))
  have HI := Lib.hid ih
  have HE0 := Lib.hid (show FT.walkL [] path 0 n l = FT.walkL (l.take 0) path 0 n (l.drop 0) by simp)
  clear hf hrow ih hT
  go_enter Tryz.func83, Tryz.ntmps83
  go_wp2_with fail
  go_loopw [12] (fun i wr => ∃ (k m : Nat), i = .int .i64 k ∧ k ≤ l.length ∧ m ≤ 64 ∧ Hid (w.grownBy wr (some T)) ∧ Hid (IntCell wr T m) ∧ Hid (FT.walkL [] path 0 n l = FT.walkL (l.take k) path k m (l.drop k))) (fun i _ => l.length - (intOf i).toNat)
  case atStart => exact ⟨0, n, rfl, by omega, hn, HG0, HT0, HE0⟩
  case round =>
    clear HG0 HT0 HE0
    obtain ⟨k, m, rfl, hk, hm, HG, HT, HE⟩ := hrel
    have hwz := HG.out.size
    by_cases hlt : k < l.length
    · obtain ⟨b, o, a3, c3, rfl, hb3, hc3, hf3⟩ := (HF.out.grows HG.out hBT (by omega)).get hlt
      have HF3 := Lib.hid hf3
      obtain ⟨k0, k1, k2, k3, k4, k5, k6, k7, k8, k9, k10, k11, k12, k13⟩ := hc3.field
      obtain ⟨a', c', ee, hok3, hl3, hc3', hff⟩ := hf3.open
      obtain ⟨rfl, rfl⟩ : a3 = a' ∧ c3 = c' := fieldCells_inj ee
      have HFF := Lib.hid hff
      clear ee hff hf3 hc3
      have HRw := Lib.hid (fun (o o2 : Obj) => ((HR.out.kept HG.out (by right; intro e; have := HR.out.lt T e; omega)).alloc o).alloc o2)
      go_wp2_with (first
        | (at_builtin; refine wpList_append_row rfl _ _ 45 rfl (wr.heap.size + 1) 3 i0 (.int .i64 0) 1 8 Tryz.underlying45 hi hz0 hz1 hz2 rfl (by decide) _ 0 [] rfl (by have h9 := World.ownsRow_made (base := wr.heap.size + 1) (e := 3) (size := 1) (wr.alloc (Obj.cells #[.string l[k].s.name, .int .u8 l[k].s.kind, .bool l[k].s.down, .int .u8 l[k].s.nulls, .bool l[k].s.bnd, .bool l[k].s.lb, .string l[k].s.lm, .bool l[k].s.hb, .string l[k].s.hm, .int .i64 l[k].s.most, .int .i64 l[k].s.st, .bool l[k].s.sh, .bool l[k].s.ba, .slice a3 l[k].fields.length c3] 57)) #[] 0 (by simp) (by simp [maxLen]) rfl; rw [World.size_alloc] at h9; exact h9) vp (T + 1) path.length (pathVals path) rfl (HRw.out _ _) (pathVals_one path) (by unfold maxLen; omega) (by omega) (by simp) ?_; intro v1 w1 hown1 hgrow1; rw [Nat.zero_add, List.nil_append] at hown1; have HO1 := Lib.hid hown1; have HG1 := Lib.hid hgrow1; clear hown1 hgrow1)
        | (at_builtin; refine wpList_append_own _ rfl _ _ 45 rfl (wr.heap.size + 1) 3 i0 (.int .i64 0) 1 8 Tryz.underlying45 hi hz0 hz1 hz2 rfl (by decide) _ _ _ rfl (HO1.out.alloc _) ⟨w1.heap.size, 0, none⟩ 1 1 [.int .i64 k] rfl rfl (World.news_of_block (cs := #[.int .i64 k]) (t := 3) (fr := (0, 0)) (heap_alloc_new w1 _)) (by simp [Value.oneCell']) (by unfold maxLen; omega) (by omega) (by have := HG1.out.size; simp at this ⊢; omega) ?_; intro v2 w2 hown2 hgrow2 hne2; obtain ⟨gg, cap2, rfl⟩ := ownsRow_succ hown2; rw [← pathVals_snoc] at hown2; have HO2 := Lib.hid hown2; have HG2 := Lib.hid hgrow2; clear hown2 hgrow2 hne2))
      have hB2 : Below (wr.heap.size + 1) (wr.alloc (Obj.cells #[.string l[k].s.name, .int .u8 l[k].s.kind, .bool l[k].s.down, .int .u8 l[k].s.nulls, .bool l[k].s.bnd, .bool l[k].s.lb, .string l[k].s.lm, .bool l[k].s.hb, .string l[k].s.hm, .int .i64 l[k].s.most, .int .i64 l[k].s.st, .bool l[k].s.sh, .bool l[k].s.ba, .slice a3 l[k].fields.length c3] 57)) w2 := by
        have hg1 : ((wr.alloc (Obj.cells #[.string l[k].s.name, .int .u8 l[k].s.kind, .bool l[k].s.down, .int .u8 l[k].s.nulls, .bool l[k].s.bnd, .bool l[k].s.lb, .string l[k].s.lm, .bool l[k].s.hb, .string l[k].s.hm, .int .i64 l[k].s.most, .int .i64 l[k].s.st, .bool l[k].s.sh, .bool l[k].s.ba, .slice a3 l[k].fields.length c3] 57)).alloc (Obj.cells #[] 3)).grownBy w1 (some (wr.heap.size + 1)) := HG1.out
        have h1 := (((Below.refl (wr.heap.size + 1) (wr.alloc (Obj.cells #[.string l[k].s.name, .int .u8 l[k].s.kind, .bool l[k].s.down, .int .u8 l[k].s.nulls, .bool l[k].s.bnd, .bool l[k].s.lb, .string l[k].s.lm, .bool l[k].s.hb, .string l[k].s.hm, .int .i64 l[k].s.most, .int .i64 l[k].s.st, .bool l[k].s.sh, .bool l[k].s.ba, .slice a3 l[k].fields.length c3] 57))).alloc (by simp) _).grown hg1 (by simp) (fun j ej => by injection ej with ej; omega))
        refine (h1.alloc (by have := h1.size; simp at this; omega) _).grown (row := v1.ownBlock) HG2.out (by have := h1.size; simp at this ⊢; omega) (fun j ej => (HO1.out.lt j ej).1)
      have hX2 : FBox w2 wr.heap.size #[.string l[k].s.name, .int .u8 l[k].s.kind, .bool l[k].s.down, .int .u8 l[k].s.nulls, .bool l[k].s.bnd, .bool l[k].s.lb, .string l[k].s.lm, .bool l[k].s.hb, .string l[k].s.hm, .int .i64 l[k].s.most, .int .i64 l[k].s.st, .bool l[k].s.sh, .bool l[k].s.ba, .slice a3 l[k].fields.length c3] := (FBox.new wr _).below hB2 (by omega)
      have hb2 : Below wr.heap.size wr w2 := (below_a1 _ _).trans (hB2.mono (by omega))
      have hz2 := hB2.size
      rw [World.size_alloc] at hz2
      have HGd := Lib.hid (show w.grownBy w2.drew (some T) from grows_drew (grows_below HG.out hb2))
      have HOd := Lib.hid (show w2.drew.ownsRow (T + 1) 3 1 (Value.slice (some ⟨gg, 0, none⟩) (path.length + 1) cap2) (path.length + 1) (pathVals (path ++ [k])) from ownsRow_low HO2.out (by omega))
      have hXd : FBox w2.drew wr.heap.size #[.string l[k].s.name, .int .u8 l[k].s.kind, .bool l[k].s.down, .int .u8 l[k].s.nulls, .bool l[k].s.bnd, .bool l[k].s.lb, .string l[k].s.lm, .bool l[k].s.hb, .string l[k].s.hm, .int .i64 l[k].s.most, .int .i64 l[k].s.st, .bool l[k].s.sh, .bool l[k].s.ba, .slice a3 l[k].fields.length c3] := hX2
      have HFFd := Lib.hid (HFF.out.below (hb2.drew.mono (by omega : B ≤ wr.heap.size)))
      have HD := Lib.hid (do_any l k hlt (some ⟨b, o, none⟩) c path gg cap2 a3 c3 m T B w2.drew (HF.out.grows HGd.out hBT (by omega)) hBT (show IntCell w2.drew T m from (hb2.drew.block T (by omega)).trans HT.out) hm hok3 (by omega) hpl (by omega) hc)
      have hgg : T < gg := (HOd.out.lt gg rfl).1
      obtain ⟨x0, x1, x2, x3, x4, x5, x6, x7, x8, x9, x10, x11, x12, x13⟩ := hXd.cells
      have HXd := Lib.hid hXd
      clear HO1 HG1 HO2 HG2 hB2 hX2 hb2 hXd HF3 HRw k0 k1 k2 k3 k4 k5 k6 k7 k8 k9 k10 k11 k12 k13
      have hkc : k ≤ c := by omega
      have hkI : (k : Int) ≤ (c : Int) := by omega
      obtain ⟨sw, hsw⟩ : ∃ sw, sw = stepWhy (l.take k) path m l[k] := ⟨_, rfl⟩
      rw [← hsw] at HD
      cases sw with
      | some code =>
        have hwk := (FT.walkL_some hlt (by rw [FT.walk_step, ← hsw]) : FT.walkL (l.take k) path k m (l.drop k) = (m + 1, some (code, path ++ [k])))
        have HP := Lib.hid (fun w3 (h3 : w2.drew.grownBy w3 (some T)) => (show WalkPost T (FT.walkL [] path 0 n l) w (.panicked [{ v := .iface 115 (.agg #[.int .i64 code, .slice (some ⟨gg, 0, none⟩) (path.length + 1) cap2]), recovered := false }]) w3 from by
          rw [HE.out, hwk]
          refine ⟨HGd.out.trans h3, _, rfl, ?_⟩
          have h9 := HOd.out.kept h3 (.inr (by simp [Value.ownBlock]; omega))
          simpa using h9))
        clear HE hwk
        go_region_dies
        refine HD.out.mono ?_
        rintro e w3 ⟨hg3, ht3, rfl⟩
        go_simp
        refine ⟨rfl, ?_⟩
        exact HP.out w3 hg3
      | none =>
        obtain ⟨hm64, hpl16⟩ := stepWhy_ok hsw.symm
        have hwalk : FT.walk (l.take k) path k m l[k] = FT.walkL [] (path ++ [k]) 0 (m + 1) l[k].fields := by rw [FT.walk_step, ← hsw]
        have htold := FT.walkL_told [] (path ++ [k]) 0 (m + 1) (by simp; omega) (by omega) l[k].fields
        have HW := Lib.hid (fun (w3 : World) (h3 : w2.drew.grownBy w3 (some T)) (ht : IntCell w3 T ((m : Int) + 1)) => HI.out l[k] (List.getElem_mem hlt) a3 c3 (path ++ [k]) (.slice (some ⟨gg, 0, none⟩) (path.length + 1) cap2) (m + 1) T B w3 (HFFd.out.grows h3 hBT (by have : w2.drew.heap.size = w2.heap.size := rfl; omega)) hBT (by push_cast; exact ht) hl3 hc3' (by simp; omega) (by omega) (by have h9 := HOd.out.kept h3 (.inr (by simp [Value.ownBlock]; omega)); simpa using h9))
        have hx3 := fun (w3 : World) (h3 : w2.drew.grownBy w3 (some T)) => (HXd.out.grownT h3 (by omega)).cells.2.2.2.2.2.2.2.2.2.2.2.2.2
        obtain ⟨r, hr⟩ : ∃ r, r = FT.walkL [] (path ++ [k]) 0 (m + 1) l[k].fields := ⟨_, rfl⟩
        rw [← hr] at hwalk htold HW
        obtain ⟨m', ro⟩ := r
        cases ro with
        | none =>
          have hm' : m' ≤ 64 := htold
          have hE' := Lib.hid (HE.out.trans (FT.walkL_none hlt hwalk))
          have hkl0 : (0 : Int) ≤ (k : Int) := by omega
          have hX3 := fun (w3 : World) (h3 : w2.drew.grownBy w3 (some T)) => HXd.out.grownT h3 (by omega)
          go_region_held3 (fun W => W.cell? ⟨wr.heap.size, 0, none⟩ = some (.string l[k].s.name) ∧ W.cell? ⟨wr.heap.size, 1, none⟩ = some (.int .u8 l[k].s.kind) ∧ W.cell? ⟨wr.heap.size, 2, none⟩ = some (.bool l[k].s.down) ∧ W.cell? ⟨wr.heap.size, 3, none⟩ = some (.int .u8 l[k].s.nulls) ∧ W.cell? ⟨wr.heap.size, 4, none⟩ = some (.bool l[k].s.bnd) ∧ W.cell? ⟨wr.heap.size, 5, none⟩ = some (.bool l[k].s.lb) ∧ W.cell? ⟨wr.heap.size, 6, none⟩ = some (.string l[k].s.lm) ∧ W.cell? ⟨wr.heap.size, 7, none⟩ = some (.bool l[k].s.hb) ∧ W.cell? ⟨wr.heap.size, 8, none⟩ = some (.string l[k].s.hm) ∧ W.cell? ⟨wr.heap.size, 9, none⟩ = some (.int .i64 l[k].s.most) ∧ W.cell? ⟨wr.heap.size, 10, none⟩ = some (.int .i64 l[k].s.st) ∧ W.cell? ⟨wr.heap.size, 11, none⟩ = some (.bool l[k].s.sh) ∧ W.cell? ⟨wr.heap.size, 12, none⟩ = some (.bool l[k].s.ba) ∧ W.cell? ⟨wr.heap.size, 13, none⟩ = some (.slice a3 l[k].fields.length c3))
            (first | exact ⟨x0, x1, x2, x3, x4, x5, x6, x7, x8, x9, x10, x11, x12, x13⟩ | exact (hX3 _ hg3).cells | exact (hX3 _ (hg3.trans hg4)).cells)
            (first
              | (go_at_call 90; refine HD.out.mono ?_; rintro e w3 ⟨hg3, ht3, rfl⟩)
              | (go_at_call 83; refine (HW.out _ hg3 ht3).mono ?_; rintro e w4 ⟨hg4, rfl, ht4⟩))
          clear x0 x1 x2 x3 x4 x5 x6 x7 x8 x9 x10 x11 x12 x13 hX3 hx3
          go_wp2_with fail
          go_roundw
          case rel => exact ⟨k + 1, m', by go_num, by omega, hm', Lib.hid (HGd.out.trans (hg3.trans hg4)), Lib.hid ht4, hE'⟩
          case measure => simp [intOf]; omega
        | some ce =>
          obtain ⟨code, p⟩ := ce
          have hwk := (FT.walkL_some hlt hwalk : FT.walkL (l.take k) path k m (l.drop k) = (m', some (code, p)))
          have HP := Lib.hid (fun (v : Value) (w4 : World) (h4 : w2.drew.grownBy w4 (some T)) (ho : w4.ownsRow (T + 1) 3 1 v p.length (pathVals p)) => (show WalkPost T (FT.walkL [] path 0 n l) w (.panicked [{ v := .iface 115 (.agg #[.int .i64 code, v]), recovered := false }]) w4 from by
            rw [HE.out, hwk]
            exact ⟨HGd.out.trans h4, _, rfl, ho⟩))
          clear hwk
          go_region_dies
          refine HD.out.mono ?_
          rintro e w3 ⟨hg3, ht3, rfl⟩
          rename_i K hK
          go_simp
          refine hK _ _ ?_
          clear hK K
          have x13' := hx3 w3 hg3
          refine wpAny_take (i := 7) (v := ?_) rfl (by kernel_rfl) (by kernel_rfl) (by kernel_rfl) (fun _ _ _ h => h) (Or.inl ⟨by rfl, ?_⟩) ?_
          rotate_left
          · intro w9; go_simp; (try with_reducible rfl)
          (try simp only [Act.put, List.setIfInBounds_toArray])
          refine wpAny_take (i := 8) (v := ?_) rfl (by kernel_rfl) (by kernel_rfl) (by kernel_rfl) (fun _ _ _ h => h) (Or.inl ⟨by rfl, ?_⟩) ?_
          rotate_left
          · intro w9; go_simp; (try with_reducible rfl)
          (try simp only [Act.put])
          refine wpAny_take (i := 9) (v := ?_) rfl (by kernel_rfl) (by kernel_rfl) (by kernel_rfl) (fun _ _ _ h => h) (Or.inl ⟨by rfl, ?_⟩) ?_
          rotate_left
          · intro w9; go_simp; (try with_reducible rfl)
          (try simp only [Act.put])
          refine wpAny_take (i := 11) (v := ?_) rfl (by kernel_rfl) (by kernel_rfl) (by kernel_rfl) (fun _ _ _ h => h) (Or.inl ⟨by rfl, ?_⟩) ?_
          rotate_left
          · intro w9; go_simp; (try with_reducible rfl)
          (try simp only [Act.put])
          refine wpAny_take (i := 12) (v := ?_) rfl (by kernel_rfl) (by kernel_rfl) (by kernel_rfl) (fun _ _ _ h => h) (Or.inl ⟨by rfl, ?_⟩) ?_
          rotate_left
          · intro w9; go_simp; (try with_reducible rfl)
          (try simp only [Act.put])
          refine wpAny_ready (rs := [10]) (by kernel_rfl) (by simp) ?_
          refine AllReady.cons rfl (fun K hK => ?_) AllReady.nil
          go_simp
          refine hK _ _ ?_
          clear hK K
          refine wpAny_ready (rs := [13]) (by kernel_rfl) (by simp) ?_
          refine AllReady.cons rfl (fun K hK => ?_) AllReady.nil
          go_simp
          go_at_call 83
          refine (HW.out w3 hg3 ht3).mono ?_
          rintro e w4 ⟨hg4, v, rfl, hov⟩
          go_simp
          refine ⟨rfl, ?_⟩
          exact HP.out v w4 (hg3.trans hg4) hov
    · obtain rfl : k = l.length := by omega
      go_wp2_with fail
      go_ret
      rw [HE.out, FT.walkL_end _ _ _ _ (Nat.le_refl _)]
      exact ⟨HG.out, rfl, HT.out⟩
theorem schWalk_any (l : List FT) : SchWalk l := schWalk_step l (fun x hx => FT.allL (M := fun t => SchWalk t.fields) (fun t h => schWalk_step t.fields h) l x hx)
end Go.Proofs.YtcjllhdbepchnaaGreatDoor
