/-
  (*ucd.Data).leads: false only where no point leads to itself.
-/
import Derived.Test.YtlkdjdcnbcegeaaGreatDoorKO
import Derived.Test.YtlkdjdcnbcegeaaGreatDoorKQ
import Derived.Carry
import Derived.Laws.AppendOwnNone
/-! (*ucd.Data).leads: false only where no point leads to itself. -/
namespace Go.Proofs.YtlkdjdcnbcegeaaGreatDoor
open Go.RowKit Go.WideShapes
set_option linter.unusedVariables false
set_option linter.unusedSimpArgs false
theorem cloneParts_ok {Q : Nat → Prop} (v : Value) (l : List Int) (w : World) (h : PartsM w Q v l) (hn : l.length ≤ 1000000) :
    Calls Tryz.prog 43 #[v] w fun e w' => ∃ v', e = .returned v' ∧ w'.ownsRow w.heap.size 3 1 v' l.length (intCells l) ∧ Below w.heap.size w w' := by
  rcases h with ⟨rfl, rfl⟩ | ⟨g, c, rfl, hc, hg, hcs⟩
  · refine (AnyE.slices_Clone_nil lays30c 0 0 w).mono ?_
    rintro e w' ⟨rfl, rfl⟩
    exact ⟨_, rfl, World.ownsRow_nil _ _ _ _, Below.refl _ _⟩
  · obtain ⟨i, hi, h0, h1, h2⟩ := info_parts int_info
    refine (AnyE.slices_Clone lays30c i (.int .i64 0) 1 8 hi h0 h1 h2 rfl (by decide) Tryz.sizeOf3 g 0 l.length c (intCells l) w (by simp [intCells]) (by unfold maxLen; omega) (by omega) (fun j u hu => hcs j u hu) (intCells_one l)).mono ?_
    rintro e w' ⟨v', he, ho, _, hb⟩
    exact ⟨v', he, ho, hb⟩
def mets (met : List Int) : List (Value × Value) := met.map fun x => (.int .i64 x, .bool true)
/-- The points met, read off the map. -/
def metOf (w : World) (M : Nat) : List Int := match w.heap[M]? with
  | some (.map es _) => es.toList.map fun x => intOf x.key
  | _ => []
theorem metOf_at {w : World} {M : Nat} {met : List Int} (h : MapAt w M IntKey (mets met)) : metOf w M = met := by
  obtain ⟨es, c, h1, _, _, h4⟩ := h
  unfold metOf
  rw [h1]
  have h5 := congrArg (List.map fun p : Value × Value => intOf p.1) h4
  simp only [mets, List.map_map] at h5
  simpa [Function.comp_def, intOf] using h5
def lenOf : Value → Nat
  | .slice _ n _ => n
  | _ => 0
/-- What holds while the search goes on. -/
structure LInv (w wr : World) (M : Nat) (l : List MK) (p0 : Int) (left met : List Int) (vo : Value) : Prop where
  b : Below w.heap.size w wr
  m : MapAt wr M IntKey (mets met)
  nM : w.heap.size = M
  o : wr.ownsRow (M + 1) 3 1 vo left.length (intCells left)
  s : Dfs (partsOf l) p0 left met
  k : unmet (partsOf l) met (l.map MK.pt) + left.length ≤ 200000
theorem LInv.len {w wr : World} {M : Nat} {l : List MK} {p0 : Int} {left met : List Int} {vo : Value} (h : LInv w wr M l p0 left met vo) : lenOf vo = left.length := by
  rcases h.o.2 with ⟨rfl, h0⟩ | ⟨g, cap, cur, rfl, _⟩
  · exact h0.symm
  · rfl
theorem intCells_append (a b : List Int) : intCells (a ++ b) = intCells a ++ intCells b := by simp [intCells]
/-- The head of a row. -/
theorem own_head {w : World} {base g cap n : Nat} {a : List Int} {p : Int} (h : w.ownsRow base 3 1 (.slice (some ⟨g, 0, none⟩) (n + 1) cap) (n + 1) (intCells (a ++ [p]))) : w.ownsRow base 3 1 (.slice (some ⟨g, 0, none⟩) n cap) n (intCells a) := by
  have hl := h.1
  simp [intCells] at hl
  refine ⟨by simp [intCells]; omega, ?_⟩
  rcases h.2 with ⟨e, _⟩ | ⟨g', cap', cur, e, h1, h2, h3, h4, h5, h6⟩
  · cases e
  · injection e with e1 _ e3
    subst e3
    refine Or.inr ⟨g, cap, cur, rfl, ?_, ?_, by omega, h4, h5, ?_⟩
    · injection e1 with e1; injection e1 with e1; omega
    · injection e1 with e1; injection e1 with e1; rw [e1]; exact h2
    · have hal : (intCells a).length = n := by simp [intCells]; omega
      rw [intCells_append, Nat.mul_one] at h6
      have h7 := congrArg (List.take n) h6
      have e9 : List.take n (intCells a ++ intCells [p]) = intCells a := List.take_left' hal
      rw [List.take_take, Nat.min_eq_left (Nat.le_succ n), e9] at h7
      rw [Nat.mul_one]
      exact h7
theorem field_parts (a c : Int) (A : Option Addr) (n m : Nat) (W : World) : (Instr.field 75 (.agg #[.int .i64 a, .int .i64 c, .slice A n m]) 2).run Tryz.prog W = .ok (.slice A n m) W := by
  simp [Instr.field, run_underlying Tryz.underlying75, Result.andThen, part, asAgg, Tryz.isAgg24, go_sem]
theorem mets_look {w : World} {M : Nat} {met : List Int} (h : MapAt w M IntKey (mets met)) (p : Int) : (Instr.lookup 135 (.map (some M)) (.int .i64 p) false).run Tryz.prog w = .ok (.bool (decide (p ∈ met))) w := by
  rcases h.run_look (P := Tryz.prog) (keyOk_int Tryz.underlying3) Tryz.underlying135 (Tryz.zeroValue4 w) (key := .int .i64 p) ⟨p, rfl⟩ false with ⟨hr, hno⟩ | ⟨u, hr, hu⟩
  · have : p ∉ met := fun hp => hno (.bool true) (List.mem_map.2 ⟨p, hp, rfl⟩)
    rw [hr, decide_eq_false this]; rfl
  · obtain ⟨x, hx, e⟩ := List.mem_map.1 hu
    have e1 : x = p := by have := congrArg Prod.fst e; simpa using this
    have e2 : u = .bool true := (congrArg Prod.snd e).symm
    subst e1
    rw [hr, e2, decide_eq_true hx]; rfl
theorem mets_put {w : World} {M : Nat} {met : List Int} (h : MapAt w M IntKey (mets met)) {p : Int} (hp : p ∉ met) : ∃ w', (Instr.mapUpdate 135 (.map (some M)) (.int .i64 p) (.bool true)).run Tryz.prog w = .ok () w' ∧ MapAt w' M IntKey (mets (met ++ [p])) ∧ w.grownBy w' (some M) ∧ w'.heap.size = w.heap.size := by
  obtain ⟨w', l', r1, r2, r3, r4, _, r6, _⟩ := h.run_put (P := Tryz.prog) (keyOk_int Tryz.underlying3) Tryz.underlying135 (key := .int .i64 p) (val := .bool true) ⟨p, rfl⟩
  rw [r6 (fun v hv => by
    obtain ⟨x, hx, e⟩ := List.mem_map.1 hv
    have e1 : x = p := by have := congrArg Prod.fst e; simpa using this
    exact hp (e1 ▸ hx))] at r2
  exact ⟨w', r1, by simpa [mets] using r2, r3, r4⟩
set_option maxRecDepth 100000 in
set_option maxHeartbeats 8000000 in
theorem leads_ok (Q : Nat → Prop) (D b : Nat) (l : List MK) (p0 : Int) (w : World) (hd : DataM w Q D b l) (hQ : ∀ g, Q g → g < w.heap.size) (hK : unmet (partsOf l) [] (l.map MK.pt) ≤ 100000) (hP : ∀ p, (partsOf l p).length ≤ 100000) :
    Calls Tryz.prog 55 #[.pointer (some ⟨D, 0, none⟩), .int .i64 p0] w fun e w' => ∃ r : Bool, e = .returned (.bool r) ∧ (r = false → ¬ Leads (partsOf l) p0 p0) ∧ Below w.heap.size w w' := by
  have hmk : ∀ (t : TypeId) (w : World), (Instr.makeMap t none).run Tryz.prog w = .ok (.map (some w.heap.size)) (w.alloc (.map #[] 0)) := fun t w => rfl
  have HD := Lib.hid hd
  have HP := Lib.hid hP
  have hND := Lib.hid hd.nodup
  have hb1 : Below w.heap.size w (w.alloc (.map #[] 0)) := (Below.refl _ w).alloc (Nat.le_refl _) _
  have hd1 : DataM (w.alloc (.map #[] 0)) Q D b l := hd.below hb1 hd.D_lt hd.b_lt hQ
  have hM1 := MapAt.made w IntKey
  have hcd : (w.alloc (.map #[] 0)).cell? ⟨D, 0, none⟩ = some (.map (some b)) := by simp [World.cell?, hd1.d]
  obtain ⟨a, c, v, hlk, hv⟩ := hd1.look p0 (w.alloc (.map #[] 0)) rfl
  obtain ⟨A0, c0, rfl⟩ : ∃ A0 c0, v = .slice A0 (partsOf l p0).length c0 := by
    rcases hv with ⟨rfl, e⟩ | ⟨g, c, e, _⟩
    · exact ⟨none, 0, by rw [e]; rfl⟩
    · exact ⟨_, _, e⟩
  have HC := Lib.hid (cloneParts_ok _ (partsOf l p0) (w.alloc (.map #[] 0)) hv (by have := hP p0; omega))
  have HM1 := Lib.hid hM1
  have HB1 := Lib.hid hb1
  have hK1 := Lib.hid hK
  have hfd := field_parts
  clear hd hP hd1 hM1 hb1 hK hv
  go_enter Tryz.func55, Tryz.ntmps55
  go_wp2_with fail
  refine HC.out.mono ?_
  rintro e w2 ⟨v2, rfl, ho2, hb2⟩
  have HI0 := Lib.hid (show LInv w w2 w.heap.size l p0 (partsOf l p0) [] v2 from ⟨HB1.out.trans (hb2.mono (by simp)), HM1.out.keep (hb2.block _ (by simp)), rfl, by simpa using ho2, dfs_start _ _, by have := HP.out p0; have := hK1.out; omega⟩)
  clear HC ho2 hb2 HM1 HB1 hlk hcd
  go_wp2_with fail
  go_loopw [6] (fun t6 wr => ∃ left met : List Int, Hid (LInv w wr w.heap.size l p0 left met t6)) (fun t6 wr => unmet (partsOf l) (metOf wr w.heap.size) (l.map MK.pt) + lenOf t6)
  case atStart => exact ⟨_, _, HI0⟩
  case round =>
    clear HI0
    obtain ⟨left, met, HI⟩ := hrel
    have HLn := Lib.hid HI.out.len
    have HMt := Lib.hid (metOf_at HI.out.m)
    have hlb : left.length ≤ 200000 := by have := HI.out.k; omega
    cases hrv : left.reverse with
    | nil =>
      have hl0 : left = [] := by simpa using hrv
      subst hl0
      obtain ⟨A, c1, rfl⟩ : ∃ A c1, u6 = .slice A 0 c1 := by
        rcases HI.out.o.2 with ⟨e, _⟩ | ⟨g, cap, cur, e, _⟩
        · exact ⟨_, _, e⟩
        · exact ⟨_, _, e⟩
      go_wp2_with fail
      go_ret
      exact ⟨false, rfl, fun _ => dfs_done HI.out.s, HI.out.b⟩
    | cons p r =>
      obtain ⟨init, rfl⟩ : ∃ init, left = init ++ [p] := ⟨r.reverse, by have := congrArg List.reverse hrv; simpa using this⟩
      have hlen : (init ++ [p]).length = init.length + 1 := by simp
      have HO := HI.out.o
      rw [hlen] at HO
      obtain ⟨g, cap, rfl, hcap, hcell⟩ : ∃ g cap, u6 = .slice (some ⟨g, 0, none⟩) (init.length + 1) cap ∧ init.length + 1 ≤ cap ∧ wr.cell? ⟨g, init.length, none⟩ = some (.int .i64 p) := by
        rcases HO.2 with ⟨_, e⟩ | ⟨g, cap, cur, e, h1, h2, h3, h4, h5, h6⟩
        · exact absurd e (by omega)
        · refine ⟨g, cap, e, h3, ?_⟩
          simp only [World.cell?, h2]
          have h7 := congrArg (fun z => z[init.length]?) h6
          simp only [List.getElem?_take, intCells_append] at h7
          rw [if_pos (by omega), List.getElem?_append_right (by simp [intCells])] at h7
          rw [← Array.getElem?_toList, h7]
          simp [intCells]
      have HOh := Lib.hid (own_head HO)
      have hcapI : (init.length : Int) ≤ (cap : Int) := by omega
      by_cases hpp : p = p0
      · subst hpp
        go_wp2_with fail
        go_ret
        exact ⟨true, rfl, (fun h => absurd h (by decide)), HI.out.b⟩
      · have hpb : (p == p0) = false := by rw [beq_eq_false_iff_ne]; exact hpp
        have hlm := mets_look HI.out.m p
        by_cases hpm : p ∈ met
        · rw [decide_eq_true hpm] at hlm
          go_wp2_with fail
          go_roundw
          case rel => exact ⟨init, met, Lib.hid ⟨HI.out.b, HI.out.m, rfl, HOh.out, dfs_old HI.out.s hpm, by have := HI.out.k; simp at this; omega⟩⟩
          case measure => simp only [lenOf]; omega
        · rw [decide_eq_false hpm] at hlm
          obtain ⟨w3, hup, hm3, hg3, hs3⟩ := mets_put HI.out.m hpm
          have hb3 : Below w.heap.size w w3 := HI.out.b.grown hg3 HI.out.b.size (fun j e => by cases e; exact Nat.le_refl _)
          have hd3 : DataM w3 Q D b l := HD.out.below hb3 HD.out.D_lt HD.out.b_lt hQ
          have hcd3 : w3.cell? ⟨D, 0, none⟩ = some (.map (some b)) := by simp [World.cell?, hd3.d]
          obtain ⟨a3, c3, v3, hlk3, hv3⟩ := hd3.look p w3 rfl
          have ho3 : w3.ownsRow (w.heap.size + 1) 3 1 (.slice (some ⟨g, 0, none⟩) init.length cap) init.length (intCells init) := HOh.out.kept hg3 (Or.inr (by
            have := (HOh.out.lt g rfl).1
            simp [Value.ownBlock]; omega))
          have hun : unmet (partsOf l) (met ++ [p]) (l.map MK.pt) + (partsOf l p).length = unmet (partsOf l) met (l.map MK.pt) := unmet_new (fun x => by simp) hpm _ hND.out (fun h => partsOf_none h)
          have HUN := Lib.hid hun
          have hpl := HP.out p
          have HB3 := Lib.hid hb3
          have HM3 := Lib.hid hm3
          have HO3 := Lib.hid ho3
          have hk3 := HI.out.k
          have hz3 := hb3.size
          have hsz3 : w.heap.size < w3.heap.size := by have := hm3.lt; omega
          have HS3 := Lib.hid (dfs_new HI.out.s hpp (met' := met ++ [p]) (fun x => by simp))
          simp only [List.length_append, List.length_cons, List.length_nil] at hk3
          rcases hv3 with ⟨rfl, e3⟩ | ⟨g3, c4, rfl, hc4, hg4, hcs4⟩
          · clear hun hb3 hm3 ho3 hd3 hg3
            obtain ⟨i6, ihi, ihz0, ihz1, ihz2⟩ := info_parts int_info
            go_wp2_with (at_builtin; refine wpList_append_own_none rfl _ _ 24 rfl (w.heap.size + 1) 3 i6 1 Tryz.underlying24 ihi _ _ _ rfl HO3.out rfl ?_)
            go_roundw
            case rel =>
              refine ⟨init ++ partsOf l p, met ++ [p], Lib.hid ⟨HB3.out, HM3.out, rfl, ?_, HS3.out, ?_⟩⟩
              · rw [e3, List.append_nil]; exact HO3.out
              · have := HUN.out; rw [List.length_append]; omega
            case measure =>
              rw [metOf_at HM3.out, HMt.out]
              have := HUN.out
              rw [e3] at this
              simp only [lenOf]
              simp at this
              omega
          · clear hun hb3 hm3 ho3 hd3 hg3
            obtain ⟨i6, ihi, ihz0, ihz1, ihz2⟩ := info_parts int_info
            go_wp2_with (at_builtin; refine wpList_append_own _ rfl _ _ 24 rfl (w.heap.size + 1) 3 i6 (.int .i64 0) 1 8 Tryz.underlying24 ihi ihz0 ihz1 ihz2 rfl (by decide) _ _ _ rfl HO3.out ⟨g3, 0, none⟩ (partsOf l p).length c4 (intCells (partsOf l p)) rfl (by simp [intCells]) (fun j u hu => by rw [Addr.add_lit]; exact hcs4 j u hu) (intCells_one _) (by unfold maxLen; omega) (by omega) (by omega) ?_; intro v6 w6 hown6 hgrow6 hnil6)
            go_roundw
            case rel =>
              refine ⟨init ++ partsOf l p, met ++ [p], Lib.hid ⟨HB3.out.grown hgrow6 hz3 (fun j e => by have := (HO3.out.lt j e).1; omega), HM3.out.keep (hgrow6.block _ hsz3 (fun e => by have := (HO3.out.lt _ e.symm).1; omega)), rfl, ?_, HS3.out, ?_⟩⟩
              · rw [intCells_append, List.length_append]; exact hown6
              · have := HUN.out; rw [List.length_append]; omega
            case measure =>
              have hm6 := HM3.out.keep (hgrow6.block _ hsz3 (fun e => by have := (HO3.out.lt _ e.symm).1; omega))
              rw [metOf_at hm6, HMt.out]
              have := HUN.out
              have hl6 : lenOf v6 = init.length + (partsOf l p).length := by
                rcases hown6.2 with ⟨rfl, h0⟩ | ⟨g, cap, cur, rfl, _⟩
                · exact h0.symm
                · rfl
              rw [hl6]
              simp only [lenOf]
              omega
end Go.Proofs.YtlkdjdcnbcegeaaGreatDoor

/-! (*ucd.Data).size: some number from 1 to 19, where no point leads to itself. -/
namespace Go.Proofs.YtlkdjdcnbcegeaaGreatDoor
open Go.RowKit Go.WideShapes
set_option linter.unusedVariables false
set_option linter.unusedSimpArgs false
/-- Where only a map has turned, no cell has. -/
theorem cell_map {w w' : World} {b : Nat} {K K' : Value → Prop} {m m' : List (Value × Value)} (hg : w.grownBy w' (some b)) (h : MapAt w b K m) (h' : MapAt w' b K' m') (p : Addr) (hp : p.block < w.heap.size) : w'.cell? p = w.cell? p := by
  by_cases e : p.block = b
  · obtain ⟨es, c, h1, _⟩ := h
    obtain ⟨es', c', h1', _⟩ := h'
    unfold World.cell?
    rw [e, h1, h1']
  · exact World.cell?_of_block (hg.block p.block hp (by simp [e]))
/-- The sizes known so far. -/
def Known (w : World) (N : Nat) : Prop := ∃ kn : List (Value × Value), MapAt w N IntKey kn ∧ ∀ q ∈ kn, ∃ a : Int, q.2 = .int .i64 a ∧ 0 ≤ a ∧ a ≤ 19
theorem Known.lt {w : World} {N : Nat} (h : Known w N) : N < w.heap.size := by obtain ⟨kn, h1, _⟩ := h; exact h1.lt
theorem Known.look {w : World} {N : Nat} (h : Known w N) (p : Int) : ∃ (a : Int) (r : Bool), (Instr.lookup 99 (.map (some N)) (.int .i64 p) true).run Tryz.prog w = .ok (.tuple #[.int .i64 a, .bool r]) w ∧ 0 ≤ a ∧ a ≤ 19 := by
  obtain ⟨kn, h1, h2⟩ := h
  rcases h1.run_look (P := Tryz.prog) (keyOk_int Tryz.underlying3) Tryz.underlying99 (Tryz.zeroValue3 w) (key := .int .i64 p) ⟨p, rfl⟩ true with ⟨hr, hno⟩ | ⟨u, hr, hu⟩
  · exact ⟨0, false, hr, by omega, by omega⟩
  · obtain ⟨a, ha, h0, h9⟩ := h2 _ hu
    simp only at ha
    subst ha
    exact ⟨a, true, hr, h0, h9⟩
theorem Known.put {w : World} {N : Nat} (h : Known w N) (p n : Int) (h0 : 0 ≤ n) (h9 : n ≤ 19) : ∃ w', (Instr.mapUpdate 99 (.map (some N)) (.int .i64 p) (.int .i64 n)).run Tryz.prog w = .ok () w' ∧ Known w' N ∧ w.grownBy w' (some N) ∧ w'.heap.size = w.heap.size := by
  obtain ⟨kn, h1, h2⟩ := h
  obtain ⟨w', l', r1, r2, r3, r4, r5, _, _⟩ := h1.run_put (P := Tryz.prog) (keyOk_int Tryz.underlying3) Tryz.underlying99 (key := .int .i64 p) (val := .int .i64 n) ⟨p, rfl⟩
  refine ⟨w', r1, ⟨l', r2, fun q hq => ?_⟩, r3, r4⟩
  rcases r5 q hq with hq | rfl
  · exact h2 q hq
  · exact ⟨n, rfl, h0, h9⟩
/-- From one world to another one in which only the known sizes have turned. -/
structure Knew (w w' : World) (N : Nat) : Prop where
  g : w.grownBy w' (some N)
  z : w'.heap.size = w.heap.size
  k : Known w' N
theorem Knew.trans {a b c : World} {N : Nat} (h : Knew a b N) (k : Knew b c N) : Knew a c N := ⟨h.g.trans k.g, k.z.trans h.z, k.k⟩
theorem Knew.data {w w' : World} {N D b : Nat} {Q : Nat → Prop} {l : List MK} (h : Knew w w' N) (hk : Known w N) (hd : DataM w Q D b l) (h1 : D ≠ N) (h2 : b ≠ N) (hQ : ∀ g, Q g → g < w.heap.size) : DataM w' Q D b l := by
  obtain ⟨kn, a1, _⟩ := hk
  obtain ⟨kn', a1', _⟩ := h.k
  exact hd.keep (h.g.block D hd.D_lt (by simp [h1])) (h.g.block b hd.b_lt (by simp [h2])) (fun p hp => cell_map h.g a1 a1' p (hQ _ hp)) (fun _ h => h)
def SizePost (N : Nat) (w : World) (e : Ending) (w' : World) : Prop := ∃ n : Int, e = .returned (.int .i64 n) ∧ 0 ≤ n ∧ n ≤ 19 ∧ Knew w w' N
set_option maxRecDepth 100000 in
set_option maxHeartbeats 8000000 in
theorem size_ok (Q : Nat → Prop) (D b N : Nat) (l : List MK) (hac : ∀ x ∈ l, ¬ Leads (partsOf l) x.pt x.pt) (h1 : D ≠ N) (h2 : b ≠ N) (hP : ∀ p, (partsOf l p).length ≤ 100000) (p : Int) :
    ∀ w : World, DataM w Q D b l → (∀ g, Q g → g < w.heap.size) → Known w N → Calls Tryz.prog 56 #[.pointer (some ⟨D, 0, none⟩), .int .i64 p, .map (some N)] w (SizePost N w) := by
  refine ring_ind (l.map MK.pt) (fun q hq => partsOf_none hq) (fun q hq => by obtain ⟨x, hx, rfl⟩ := List.mem_map.1 hq; exact hac x hx) (fun p => ∀ w : World, DataM w Q D b l → (∀ g, Q g → g < w.heap.size) → Known w N → Calls Tryz.prog 56 #[.pointer (some ⟨D, 0, none⟩), .int .i64 p, .map (some N)] w (SizePost N w)) ?_ p
  clear p
  intro p ih w hd hQ hk
  have HIH := Lib.hid ih
  have HD := Lib.hid hd
  have HK := Lib.hid hk
  have HP := Lib.hid (hP p)
  obtain ⟨a0, r0, hl0, ha0, ha9⟩ := hk.look p
  have hcd : w.cell? ⟨D, 0, none⟩ = some (.map (some b)) := by simp [World.cell?, hd.d]
  obtain ⟨a, c, v, hlk, hv⟩ := hd.look p w rfl
  have HV := Lib.hid hv
  obtain ⟨A0, c0, rfl⟩ : ∃ A0 c0, v = .slice A0 (partsOf l p).length c0 := by
    rcases hv with ⟨rfl, e⟩ | ⟨g, c, e, _⟩
    · exact ⟨none, 0, by rw [e]; rfl⟩
    · exact ⟨_, _, e⟩
  have hfd := field_parts
  have HK0 := Lib.hid (show Knew w w N from ⟨⟨rfl, rfl, rfl, Nat.le_refl _, fun _ _ _ => rfl⟩, rfl, hk⟩)
  clear ih hd hk hv hac hP
  cases r0 with
  | true =>
    go_enter Tryz.func56, Tryz.ntmps56
    go_wp2_with fail
    go_ret
    exact ⟨a0, rfl, ha0, ha9, HK0.out⟩
  | false =>
    go_enter Tryz.func56, Tryz.ntmps56
    go_wp2_with fail
    go_loopw [9, 28] (fun t9 t28 wr => ∃ (n : Int) (j : Nat), t9 = .int .i64 n ∧ t28 = .int .i64 j ∧ j ≤ (partsOf l p).length ∧ 0 ≤ n ∧ n ≤ 19 ∧ Hid (Knew w wr N)) (fun _ t28 _ => (partsOf l p).length - (intOf t28).toNat)
    case atStart => exact ⟨0, 0, rfl, rfl, by omega, by omega, by omega, HK0⟩
    case round =>
      clear HK0
      obtain ⟨n, j, rfl, rfl, hj, hn0, hn9, HKw⟩ := hrel
      have hkw := HKw.out.data HK.out HD.out h1 h2 hQ
      have hjb : (partsOf l p).length ≤ 100000 := HP.out
      have hjI : (j : Int) ≤ 100000 := by omega
      by_cases hjl : j < (partsOf l p).length
      · obtain ⟨g, c9, ev, hc9, hg9, hcs9⟩ : ∃ g c9, Value.slice A0 (partsOf l p).length c0 = .slice (some ⟨g, 0, none⟩) (partsOf l p).length c9 ∧ (partsOf l p).length ≤ c9 ∧ Q g ∧ CellsAt w g 0 (intCells (partsOf l p)) := by
          rcases HV.out with ⟨_, e⟩ | h
          · rw [e] at hjl; exact absurd hjl (by simp)
          · exact h
        injection ev with ea _ ec
        subst ea ec
        have hcell : wr.cell? ⟨g, j, none⟩ = some (.int .i64 (partsOf l p)[j]) := by
          obtain ⟨kn, k1, _⟩ := HK.out
          obtain ⟨kn', k1', _⟩ := HKw.out.k
          rw [cell_map HKw.out.g k1 k1' ⟨g, j, none⟩ (hQ g hg9)]
          have := hcs9 j (.int .i64 (partsOf l p)[j]) (by simp [intCells, hjl])
          rwa [Nat.zero_add] at this
        have HI := Lib.hid (HIH.out (partsOf l p)[j] (List.getElem_mem hjl) wr hkw (fun g hg => by have := HKw.out.z; have := hQ g hg; omega) HKw.out.k)
        generalize (partsOf l p)[j] = q at hcell HI
        clear hkw hcs9
        go_wp2_with fail
        refine HI.out.mono ?_
        rintro e w5 ⟨n5, rfl, hn50, hn59, hk5⟩
        have HK5 := Lib.hid (HKw.out.trans hk5)
        have hmin : 0 ≤ min (n + n5) 19 ∧ min (n + n5) 19 ≤ 19 := by omega
        clear hk5 HI hcell
        go_wp2_with fail
        go_roundw
        case rel => exact ⟨min (n + n5) 19, j + 1, by go_num, by go_num, by omega, hmin.1, hmin.2, HK5⟩
        case measure => simp [intOf]; omega
      · have hjj : j = (partsOf l p).length := by omega
        clear hkw
        subst hjj
        by_cases hz : n = 0
        · subst hz
          obtain ⟨w5, hup, hk5, hg5, hs5⟩ := HKw.out.k.put p 1 (by omega) (by omega)
          have HK5 := Lib.hid (HKw.out.trans ⟨hg5, hs5, hk5⟩)
          clear hk5 hg5 hs5
          go_wp2_with fail
          go_ret
          exact ⟨1, rfl, by omega, by omega, HK5.out⟩
        · obtain ⟨w5, hup, hk5, hg5, hs5⟩ := HKw.out.k.put p n hn0 hn9
          have HK5 := Lib.hid (HKw.out.trans ⟨hg5, hs5, hk5⟩)
          have hzb : (n == 0) = false := by rw [beq_eq_false_iff_ne]; exact hz
          clear hk5 hg5 hs5
          go_wp2_with fail
          go_ret
          exact ⟨n, rfl, hn0, hn9, HK5.out⟩
end Go.Proofs.YtlkdjdcnbcegeaaGreatDoor
