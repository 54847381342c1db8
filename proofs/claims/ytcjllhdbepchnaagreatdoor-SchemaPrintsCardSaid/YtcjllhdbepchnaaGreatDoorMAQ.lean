/-
  schema.write: fields' lines, written.
-/
import Derived.Test.YtcjllhdbepchnaaGreatDoorMAN
import Derived.Test.YtcjllhdbepchnaaGreatDoorMAO
import Derived.Test.YtcjllhdbepchnaaGreatDoorMAP
import Derived.Lib.OthersKept
import Derived.Laws.EntriesVeiled
namespace Go.Proofs.YtcjllhdbepchnaaGreatDoor
open Go.RowKit Go.WideShapes
set_option linter.unusedVariables false
def oddF : Nat → FuncId
  | 1 => 134
  | 2 => 137
  | 3 => 140
  | 4 => 134
  | 5 => 140
  | 6 => 143
  | 7 => 134
  | _ => 0
def readF : Nat → FuncId
  | 1 => 135
  | 2 => 138
  | 3 => 141
  | 4 => 135
  | 5 => 141
  | 6 => 144
  | 7 => 135
  | _ => 0
def wrF : Nat → FuncId
  | 1 => 136
  | 2 => 139
  | 3 => 142
  | 4 => 136
  | 5 => 142
  | 6 => 145
  | 7 => 136
  | _ => 0

/-- A builder that holds these bytes. -/
def Bld (B b : Nat) (L : List UInt8) (w : World) : Prop := Lib.IsBuilderF 177 5 B b (Lib.byteCells L) w
theorem bldAt_keep {T e : TypeId} {B b : Nat} {p : Value} {bs : List Value} {w w' : World} (h : Lib.BuilderAtF T e B b p bs w) (hk : ∀ k, k < w.heap.size → w'.heap[k]? = w.heap[k]?) : Lib.BuilderAtF T e B b p bs w' := by
  obtain ⟨hB, v, hb, hown, hne⟩ := h
  refine ⟨hB, v, (hk b (Array.getElem?_eq_some_iff.1 hb).1).trans hb, ⟨hown.1, ?_⟩, hne⟩
  rcases hown.2 with h0 | ⟨g, cap, cur, fz, h1, h2, h3, h4⟩
  · exact .inl h0
  · exact .inr ⟨g, cap, cur, fz, h1, h2, (hk g (Array.getElem?_eq_some_iff.1 h3).1).trans h3, h4⟩
theorem Bld.keep {B b : Nat} {L : List UInt8} {w w' : World} (h : Bld B b L w) (hk : ∀ k, k < w.heap.size → w'.heap[k]? = w.heap[k]?) : Bld B b L w' :=
  h.elim (fun x => .inl (bldAt_keep x hk)) (fun x => .inr (bldAt_keep x hk))
theorem Bld.below {B b : Nat} {L : List UInt8} {w w' : World} (h : Bld B b L w) (hb : Below w.heap.size w w') : Bld B b L w' := h.keep fun k hk => hb.block k hk
theorem Bld.drew {B b : Nat} {L : List UInt8} {w : World} (h : Bld B b L w) : Bld B b L w.drew := h.keep fun _ _ => rfl
theorem Bld.lt {B b : Nat} {L : List UInt8} {w : World} (h : Bld B b L w) : b < w.heap.size := by
  rcases h with ⟨_, v, hb, _⟩ | ⟨_, v, hb, _⟩ <;> exact (Array.getElem?_eq_some_iff.1 hb).1
theorem Bld.le {B b : Nat} {L : List UInt8} {w : World} (h : Bld B b L w) : B ≤ b := by
  rcases h with h | h <;> exact h.1
/-- (*strings.Builder).WriteString, in these words. -/
theorem wstr_any (B b : Nat) (L s : List UInt8) (w : World) (h : Bld B b L w) (hlen : L.length + s.length ≤ 1099511627776) (hB : B ≤ w.heap.size) :
    Calls Tryz.prog 96 #[.pointer (some ⟨b, 0, none⟩), .string (txt s)] w fun e w' => e = .returned (.tuple #[.int .i64 s.length, .nilIface]) ∧ Bld B b (L ++ s) w' ∧ Below B w w' ∧ Lib.OthersKept 5 (some b) w w' := by
  refine (Any.Builder_WriteString_k lays166 extra166 B b _ (txt s) w h (by rw [Lib.byteCells_length, txt_size]; omega) hB).mono ?_
  rintro e w' ⟨rfl, h1, h2, h3⟩
  refine ⟨by rw [txt_size], ?_, h2, h3⟩
  have e1 : Lib.strCells (txt s) = Lib.byteCells s := by rw [Lib.strCells_eq]; rfl
  rw [e1, ← Lib.byteCells_append] at h1
  exact .inr h1
theorem take_le (ind : List UInt8) (l : List FT) (k : Nat) : (FT.linesL ind (l.take k)).length ≤ (FT.linesL ind l).length := by
  have h2 : FT.linesL ind l = FT.linesL ind (l.take k) ++ FT.linesL ind (l.drop k) := by rw [← linesL_append, List.take_append_drop]
  rw [h2, List.length_append]; omega
theorem list_cell (W : World) {T : TypeId} (X : Array Value) (i : Nat) : ((W.alloc (.cells X T)).drew).cell? ⟨W.heap.size, i, none⟩ = X[i]? := by
  have h : ((W.alloc (.cells X T)).drew).heap[W.heap.size]? = some (.cells X T (0, 0)) := World.alloc_heap_new W (.cells X T)
  simp only [World.cell?, h]
  rfl
theorem two_allocs (W : World) (X Y : Obj) : ((W.alloc X).alloc Y).heap[W.heap.size]? = some X := by
  rw [Below.heap_alloc _ _ _ (by simp)]; exact World.alloc_heap_new W X
/-- A kind's box, empty. -/
def KZero (w : World) (T : Nat) : Prop := w.heap[T]? = some (.cells #[.string ⟨#[]⟩, .nilFunc, .nilFunc, .nilFunc] 211 (0, 0))
theorem KZero.cells {w : World} {T : Nat} (h : KZero w T) : w.cell? ⟨T, 0, none⟩ = some (.string ⟨#[]⟩) ∧ w.cell? ⟨T, 1, none⟩ = some .nilFunc ∧ w.cell? ⟨T, 2, none⟩ = some .nilFunc ∧ w.cell? ⟨T, 3, none⟩ = some .nilFunc ∧ w.frozen? ⟨T, 0, none⟩ = false ∧ w.frozen? ⟨T, 1, none⟩ = false ∧ w.frozen? ⟨T, 2, none⟩ = false ∧ w.frozen? ⟨T, 3, none⟩ = false := by simp [World.cell?, World.frozen?, show w.heap[T]? = _ from h]
theorem KZero.of {w W : World} {T : Nat} (hW : W.heap.size = T) (h : w = (W.drew.alloc (.cells #[.string ⟨#[]⟩, .nilFunc, .nilFunc, .nilFunc] 211)).alloc (.cells kindCells 211)) : KZero w T := by
  subst h hW; exact two_allocs W.drew _ _
/-- A kind's box. -/
def KBox (w : World) (T k : Nat) : Prop := w.heap[T]? = some (.cells #[.string (txt (kindW k)), .func (.func (oddF k)) #[] #[], .func (.func (readF k)) #[] #[], .func (.func (wrF k)) #[] #[]] 211 (0, 0))
theorem KBox.cells {w : World} {T k : Nat} (h : KBox w T k) : w.cell? ⟨T, 0, none⟩ = some (.string (txt (kindW k))) ∧ w.cell? ⟨T, 3, none⟩ = some (.func (.func (wrF k)) #[] #[]) := by simp [World.cell?, show w.heap[T]? = _ from h]
theorem KBox.below {w w' : World} {B T k : Nat} (h : KBox w T k) (hb : Below B w w') (hT : T < B) : KBox w' T k := (hb.block T hT).trans h
theorem KBox.lt {w : World} {T k : Nat} (h : KBox w T k) : T < w.heap.size := (Array.getElem?_eq_some_iff.1 h).1
theorem KBox.kept {w w' : World} {b T k : Nat} (h : KBox w T k) (ho : Lib.OthersKept 5 (some b) w w') (hT : T ≠ b) : KBox w' T k := ho T _ h (fun e => hT (by injection e)) (fun c fz e => by injection e with _ e2 _; exact absurd e2 (by decide))
theorem FBox.kept {w w' : World} {b T : Nat} {cs : Array Value} (h : FBox w T cs) (ho : Lib.OthersKept 5 (some b) w w') (hT : T ≠ b) : FBox w' T cs := ho T _ h (fun e => hT (by injection e)) (fun c fz e => by injection e with _ e2 _; exact absurd e2 (by decide))
theorem kinds_cells {w w2 : World} (h : w2 = w.alloc (.cells kindCells 211)) (i : Nat) : w2.cell? ⟨w.heap.size, i, none⟩ = kindCells[i]? := by subst h; exact kind_at w i
theorem FBox.lt {w : World} {T : Nat} {cs : Array Value} (h : FBox w T cs) : T < w.heap.size := (Array.getElem?_eq_some_iff.1 h).1
theorem kinds_row {w w2 : World} (h : w2 = w.alloc (.cells kindCells 211)) {k j : Nat} (hk : k = j + 1) (hj : j < 7) : w2.cell? ⟨w.heap.size, j * 4, none⟩ = some (.string (txt (kindW k))) ∧ w2.cell? ⟨w.heap.size, j * 4 + 1, none⟩ = some (.func (.func (oddF k)) #[] #[]) ∧ w2.cell? ⟨w.heap.size, j * 4 + 2, none⟩ = some (.func (.func (readF k)) #[] #[]) ∧ w2.cell? ⟨w.heap.size, j * 4 + 3, none⟩ = some (.func (.func (wrF k)) #[] #[]) := by
  have hc : j = 0 ∨ j = 1 ∨ j = 2 ∨ j = 3 ∨ j = 4 ∨ j = 5 ∨ j = 6 := by omega
  subst hk
  rcases hc with rfl | rfl | rfl | rfl | rfl | rfl | rfl <;> exact ⟨(kinds_cells h _).trans rfl, (kinds_cells h _).trans rfl, (kinds_cells h _).trans rfl, (kinds_cells h _).trans rfl⟩
theorem kset {w : World} {T k : Nat} (h : KZero w T) : KBox ((((w.setCell ⟨T, 0, none⟩ (.string (txt (kindW k)))).setCell ⟨T, 1, none⟩ (.func (.func (oddF k)) #[] #[])).setCell ⟨T, 2, none⟩ (.func (.func (readF k)) #[] #[])).setCell ⟨T, 3, none⟩ (.func (.func (wrF k)) #[] #[])) T k := by
  unfold KBox
  simp [World.setCell, Array.getElem?_modify, show w.heap[T]? = _ from h]
theorem cut3 {B b T7 T8 k : Nat} {W1 X w : World} {L : List UInt8} {CS : Array Value} (hK : KBox X T8 k) (hT : T7 < T8) (hs1 : W1.heap.size = T7 + 1) (HF1 : FBox W1 T7 CS) (HI1 : Bld B b L W1) (HB1 : Below B w W1) (hBz : B ≤ T7) (hX : Below W1.heap.size W1 X) :
    ∃ T, (Value.pointer (some ⟨T8, 0, none⟩)) = .pointer (some ⟨T, 0, none⟩) ∧ T7 < T ∧ Hid (KBox X T k) ∧ Hid (FBox X T7 CS) ∧ Hid (Bld B b L X) ∧ Hid (Below B w X) :=
  ⟨T8, rfl, hT, Lib.hid hK, Lib.hid (HF1.below hX (by omega)), Lib.hid (HI1.below hX), Lib.hid (HB1.trans (hX.mono (by omega)))⟩
def WPost (B b : Nat) (L : List UInt8) (w : World) (e : Ending) (w' : World) : Prop := e = .returned (.tuple #[]) ∧ Bld B b L w' ∧ Below B w w'
def WriteAny (w0 : World) (l : List FT) : Prop := ∀ (ind L : List UInt8) (a : Option Addr) (c B b : Nat) (w : World), Below w0.heap.size w0 w → l.length ≤ c → c ≤ 140737488351232 → w0.heap.size ≤ B → B ≤ w.heap.size → FieldsAt w (· < B) l a → FT.allFineL l → FT.countL l ≤ 64 → ind.length + 2 * FT.countL l ≤ 1000 → L.length + (FT.linesL ind l).length ≤ 1000000000 → Bld B b L w →
  Calls Tryz.prog 98 #[.pointer (some ⟨b, 0, none⟩), .slice a l.length c, .string (txt ind)] w (WPost B b (L ++ FT.linesL ind l) w)
theorem tail_any {w0 : World} (h0 : laidMetH Tryz.prog Rows.schemaChecksRow.laid w0) (t : FT) (hf : t.fine) (aa : Option Addr) (cc : Nat) (W : World) (hb : Below w0.heap.size w0 W) :
    Calls Tryz.prog (wrF t.s.kind) #[.agg #[.string t.s.name, .int .u8 t.s.kind, .bool t.s.down, .int .u8 t.s.nulls, .bool t.s.bnd, .bool t.s.lb, .string t.s.lm, .bool t.s.hb, .string t.s.hm, .int .i64 t.s.most, .int .i64 t.s.st, .bool t.s.sh, .bool t.s.ba, .slice aa t.fields.length cc]] W (Ret (.string (txt (tailW t.s))) W) := by
  obtain ⟨q1, q2, q3, q4, q5, q6, q7, q8⟩ := fine_line hf
  obtain ⟨o1, o2, o3, o4, o5, o6, o7, o8, o9⟩ := hf.1
  have hc : t.s.kind = 1 ∨ t.s.kind = 2 ∨ t.s.kind = 3 ∨ t.s.kind = 4 ∨ t.s.kind = 5 ∨ t.s.kind = 6 ∨ t.s.kind = 7 := by omega
  obtain ⟨mn, hmn⟩ := Int.eq_ofNat_of_zero_le q5
  rcases hc with h | h | h | h | h | h | h
  · rw [show wrF t.s.kind = 136 by rw [h]; rfl, show tailW t.s = [] by simp [tailW, h]]
    exact empty_any _ _ _ _ _ _ _ _ _ _ _ _ _ _ _ _ _
  · rw [show wrF t.s.kind = 139 by rw [h]; rfl, show tailW t.s = (if t.s.bnd then wFrom ++ numText t.s.lb t.s.lm ++ wTo ++ numText t.s.hb t.s.hm else []) by simp [tailW, h]]
    exact writeInt_any _ _ _ _ _ _ _ _ _ _ _ _ _ _ _ _ _ (fun e => (q4 e).2)
  · rw [show wrF t.s.kind = 142 by rw [h]; rfl, show tailW t.s = wMost ++ Lib.decDigits mn by simp [tailW, h, hmn], hmn]
    exact writeMost_any _ _ _ _ _ _ _ _ _ _ _ _ _ _ _ _ (by omega) h0 hb
  · rw [show wrF t.s.kind = 136 by rw [h]; rfl, show tailW t.s = [] by simp [tailW, h]]
    exact empty_any _ _ _ _ _ _ _ _ _ _ _ _ _ _ _ _ _
  · rw [show wrF t.s.kind = 142 by rw [h]; rfl, show tailW t.s = wMost ++ Lib.decDigits mn by simp [tailW, h, hmn], hmn]
    exact writeMost_any _ _ _ _ _ _ _ _ _ _ _ _ _ _ _ _ (by omega) h0 hb
  · obtain ⟨sn, hsn⟩ := Int.eq_ofNat_of_zero_le (q6 h)
    rw [show wrF t.s.kind = 145 by rw [h]; rfl, show tailW t.s = wStr ++ Lib.decDigits sn ++ (if t.s.sh then wShift else []) ++ (if t.s.ba then wBack else []) by simp [tailW, h, hsn], hsn]
    exact writeText_any _ _ _ _ _ _ _ _ _ _ _ _ _ _ _ _ (by omega) h0 hb
  · rw [show wrF t.s.kind = 136 by rw [h]; rfl, show tailW t.s = [] by simp [tailW, h]]
    exact empty_any _ _ _ _ _ _ _ _ _ _ _ _ _ _ _ _ _
theorem wrF_cases {k : Nat} (h1 : 1 ≤ k) (h7 : k ≤ 7) : wrF k = 136 ∨ wrF k = 139 ∨ wrF k = 142 ∨ wrF k = 145 := by
  have hc : k = 1 ∨ k = 2 ∨ k = 3 ∨ k = 4 ∨ k = 5 ∨ k = 6 ∨ k = 7 := by omega
  rcases hc with rfl | rfl | rfl | rfl | rfl | rfl | rfl <;> simp [wrF]
set_option maxRecDepth 100000 in
set_option linter.unusedSimpArgs false in
set_option maxHeartbeats 40000000 in
theorem write_step {w0 : World} (h0 : laidMetH Tryz.prog Rows.schemaChecksRow.laid w0) (l : List FT) (ih : ∀ x ∈ l, WriteAny w0 x.fields) : WriteAny w0 l := by
  intro ind L a c B b w hb0 hlc hc hwB hBw hf hfine hcnt hind hlen hbld
  have H0 := Lib.hid h0
  have HB0w := Lib.hid hb0
  have HL := Lib.hid hf
  have HIH := Lib.hid ih
  have HFi := Lib.hid hfine
  have HTk := Lib.hid (take_few (ind := ind) hfine hcnt (by omega))
  have HCm := Lib.hid (fun k (hk : k < l.length) => FT.count_mem (List.getElem_mem hk))
  have HBr := Lib.hid (Below.refl B w)
  have HI0 := Lib.hid hbld
  have hLL : L.length ≤ 1000000000 := by omega
  clear h0 hb0 hf ih hfine hbld
  go_enter Tryz.func98, Tryz.ntmps98
  go_wp2_with fail
  go_loopw [11] (fun i wr => ∃ (k : Nat) (M : List UInt8), i = .int .i64 k ∧ k ≤ l.length ∧ Hid (M = FT.linesL ind (l.take k)) ∧ Hid (Bld B b (L ++ M) wr) ∧ Hid (Below B w wr)) (fun i _ => l.length - (intOf i).toNat)
  case atStart => exact ⟨0, [], rfl, by omega, Lib.hid (by simp [FT.linesL]), by simpa using HI0, HBr⟩
  case round =>
    clear HBr HI0
    obtain ⟨k, M, rfl, hk, HM, HI, HB⟩ := hrel
    have hwz := HB.out.size
    by_cases hlt : k < l.length
    · obtain ⟨bk, o, aa, cc, rfl, hbk, hca, hfa⟩ := (HL.out.below HB.out).get hlt
      obtain ⟨k0, k1, k2, k3, k4, k5, k6, k7, k8, k9, k10, k11, k12, k13⟩ := hca.field
      obtain ⟨_, _, ee, hok, hfl, hfc, hff⟩ := hfa.open
      obtain ⟨rfl, rfl⟩ := fieldCells_inj ee
      have HFF := Lib.hid hff
      have hall := (FT.allFine_eq l[k]).1 (FT.allFineL_get hlt HFi.out)
      have HFs := Lib.hid hall.2
      have HFine := Lib.hid hall.1
      have hcm := HCm.out k hlt
      have hceq := FT.count_eq l[k]
      have hMl : M.length ≤ 272384 := by rw [HM.out]; exact HTk.out k
      have HNx := Lib.hid (show FT.linesL ind (l.take (k + 1)) = M ++ l[k].lines ind by rw [linesL_take ind hlt, HM.out])
      have HIH' := Lib.hid (HIH.out l[k] (List.getElem_mem hlt))
      clear hff hfa hca ee hok hall
      obtain ⟨t, ht⟩ : ∃ t, t = l[k] := ⟨_, rfl⟩
      rw [← ht] at k0 k1 k2 k3 k4 k5 k6 k7 k8 k9 k10 k11 k12 k13 hfl HFF HFs HFine hcm hceq HNx HIH'
      clear ht
      obtain ⟨q1, q2, q3, q4, q5, q6, q7, q8⟩ := fine_line HFine.out
      have hkl0 : (0 : Int) ≤ (k : Int) := by omega
      have hkl1 : (k : Int) < (l.length : Int) := by omega
      go_upto_region 3 with fail
      have hbT := HI.out.lt
      have HF1 := Lib.hid (FBox.new wr #[.string t.s.name, .int .u8 t.s.kind, .bool t.s.down, .int .u8 t.s.nulls, .bool t.s.bnd, .bool t.s.lb, .string t.s.lm, .bool t.s.hb, .string t.s.hm, .int .i64 t.s.most, .int .i64 t.s.st, .bool t.s.sh, .bool t.s.ba, .slice aa t.fields.length cc])
      have HI1 := Lib.hid (HI.out.below (below_a1 wr (.cells #[.string t.s.name, .int .u8 t.s.kind, .bool t.s.down, .int .u8 t.s.nulls, .bool t.s.bnd, .bool t.s.lb, .string t.s.lm, .bool t.s.hb, .string t.s.hm, .int .i64 t.s.most, .int .i64 t.s.st, .bool t.s.sh, .bool t.s.ba, .slice aa t.fields.length cc] 57)))
      have HB1 := Lib.hid (HB.out.alloc (by omega) (.cells #[.string t.s.name, .int .u8 t.s.kind, .bool t.s.down, .int .u8 t.s.nulls, .bool t.s.bnd, .bool t.s.lb, .string t.s.lm, .bool t.s.hb, .string t.s.hm, .int .i64 t.s.most, .int .i64 t.s.st, .bool t.s.sh, .bool t.s.ba, .slice aa t.fields.length cc] 57))
      have hs1 : (wr.alloc (.cells #[.string t.s.name, .int .u8 t.s.kind, .bool t.s.down, .int .u8 t.s.nulls, .bool t.s.bnd, .bool t.s.lb, .string t.s.lm, .bool t.s.hb, .string t.s.hm, .int .i64 t.s.most, .int .i64 t.s.st, .bool t.s.sh, .bool t.s.ba, .slice aa t.fields.length cc] 57)).heap.size = wr.heap.size + 1 := by simp
      have HFF1 := Lib.hid (HFF.out.below ((Below.refl B wr).alloc (by omega) (.cells #[.string t.s.name, .int .u8 t.s.kind, .bool t.s.down, .int .u8 t.s.nulls, .bool t.s.bnd, .bool t.s.lb, .string t.s.lm, .bool t.s.hb, .string t.s.hm, .int .i64 t.s.most, .int .i64 t.s.st, .bool t.s.sh, .bool t.s.ba, .slice aa t.fields.length cc] 57)))
      have hBz : B ≤ wr.heap.size := by omega
      clear k0 k1 k2 k3 k4 k5 k6 k7 k8 k9 k10 k11 k12 k13 HFF HI
      generalize hW1 : wr.alloc (.cells #[.string t.s.name, .int .u8 t.s.kind, .bool t.s.down, .int .u8 t.s.nulls, .bool t.s.bnd, .bool t.s.lb, .string t.s.lm, .bool t.s.hb, .string t.s.hm, .int .i64 t.s.most, .int .i64 t.s.st, .bool t.s.sh, .bool t.s.ba, .slice aa t.fields.length cc] 57) = W1 at HF1 HI1 HB1 HFF1 hs1 ⊢
      generalize hT7 : wr.heap.size = T7 at HF1 hbT hs1 hBz ⊢
      clear hW1 hT7
      obtain ⟨j, hkj, hj7⟩ : ∃ j, t.s.kind = j + 1 ∧ j < 7 := ⟨t.s.kind - 1, by omega, by omega⟩
      have HKj := Lib.hid hkj
      go_cut [8] (fun s8 wx => ∃ T8, s8 = .pointer (some ⟨T8, 0, none⟩) ∧ T7 < T8 ∧ Hid (KBox wx T8 t.s.kind) ∧ Hid (FBox wx T7 #[.string t.s.name, .int .u8 t.s.kind, .bool t.s.down, .int .u8 t.s.nulls, .bool t.s.bnd, .bool t.s.lb, .string t.s.lm, .bool t.s.hb, .string t.s.hm, .int .i64 t.s.most, .int .i64 t.s.st, .bool t.s.sh, .bool t.s.ba, .slice aa t.fields.length cc]) ∧ Hid (Bld B b (L ++ M) wx) ∧ Hid (Below B w wx))
      case first => as_aux_lemma =>
        obtain ⟨c0, c1, c2, c3, c4, c5, c6, c7, c8, c9, c10, c11, c12, c13⟩ := HF1.out.cells
        rw [hkj] at c1
        clear hkj c0 c2 c3 c4 c5 c6 c7 c8 c9 c10 c11 c12 c13 q1 q2 q3 q4 q5 q6 q7 q8
        have hwr : IntKind.u8.wrap (j : Int) = (j : Int) := by simp [IntKind.wrap_u8]; omega
        have zj : ((j : Int) < 7) = True := eq_true (by omega)
        go_region_law (first
          | (go_simp; go_at_call 112; refine (kinds_any _).mono ?_; rintro e w2 ⟨rfl, hw2⟩; have hkz := KZero.of hs1 hw2; obtain ⟨y0, y1, y2, y3, y4, y5, y6, y7⟩ := hkz.cells; have HKZ := Lib.hid hkz; clear hkz; obtain ⟨p0, p1, p2, p3⟩ := kinds_row hw2 HKj.out hj7; simp only [World.size_drew, World.size_alloc, hs1] at p0 p1 p2 p3; have HW2 := Lib.hid (show Below W1.heap.size W1 w2 from by (rw [hw2]; first | exact below_a1 _ _ | exact ((Below.refl _ _).drew).alloc (by simp) _ | exact (((Below.refl _ _).drew).alloc (by simp) _).alloc (by simp) _)); have hz2 : T7 + 1 < w2.heap.size := (by rw [hw2, World.size_alloc]; (simp only [World.size_drew, World.size_alloc, hs1]; omega)); have hz3 : T7 < w2.heap.size := (by omega); clear hw2; have c1 := (HW2.out.cell (p := ⟨T7, 1, none⟩) (by simp only; omega)).trans c1)
          | (go_simp; go_at_call 112; refine (kinds_any _).mono ?_; rintro e w2 ⟨rfl, hw2⟩; obtain ⟨p0, p1, p2, p3⟩ := kinds_row hw2 HKj.out hj7; simp only [World.size_drew, hs1] at p0 p1 p2 p3; have HW2 := Lib.hid (show Below W1.heap.size W1 w2 from by (rw [hw2]; first | exact below_a1 _ _ | exact ((Below.refl _ _).drew).alloc (by simp) _ | exact (((Below.refl _ _).drew).alloc (by simp) _).alloc (by simp) _)); have hz2 : T7 + 1 < w2.heap.size := (by rw [hw2, World.size_alloc]; (simp only [World.size_drew, hs1]; omega)); have hz3 : T7 < w2.heap.size := (by omega); clear hw2; have c1 := (HW2.out.cell (p := ⟨T7, 1, none⟩) (by simp only; omega)).trans c1))
        all_goals (
          go_wp2_with fail
          go_meet
          first
          | exact cut3 (World.alloc_heap_new w2 _) hz3 hs1 HF1.out HI1.out HB1.out hBz (by (repeat (first | refine Below.drew ?_ | refine Below.alloc ?_ (by omega) _)); exact HW2.out)
          | exact cut3 (kset HKZ.out) (Nat.lt_succ_self _) hs1 HF1.out HI1.out HB1.out hBz (by (repeat (first | refine Below.drew ?_ | refine Below.setCell ?_ (by simp only; omega) _)); exact HW2.out))
      case rest =>
        clear HF1 HI1 hs1 hkj
        obtain ⟨T8, rfl, hT8, HK, HF, HI, HB⟩ := hcut
        obtain ⟨c0, c1, c2, c3, c4, c5, c6, c7, c8, c9, c10, c11, c12, c13⟩ := HF.out.cells
        obtain ⟨e0, e3⟩ := HK.out.cells
        have hwz := HB.out.size
        have hkw : (txt (kindW t.s.kind)).size ≤ 5 := by rw [txt_size]; exact kindW_few _
        have hnm := HFine.out.2.2
        have hil : (txt ind).size = ind.length := txt_size ind
        have HS := Lib.hid (show txt ind ++ txt wField ++ t.s.name ++ txt [32] ++ txt (kindW t.s.kind) = txt (ind ++ headW t.s) by
          conv => lhs; rw [txt_data t.s.name]
          simp only [txt_append, headW, List.append_assoc])
        have hhw := headW_few HFine.out
        have z1 : (9223372036854775807 < (txt ind).size + 6) = False := eq_false (by omega)
        have z2 : (9223372036854775807 < (txt ind).size + 6 + t.s.name.size) = False := eq_false (by omega)
        have z3 : (9223372036854775807 < (txt ind).size + 6 + t.s.name.size + 1) = False := eq_false (by omega)
        have z4 : (9223372036854775807 < (txt ind).size + 6 + t.s.name.size + 1 + (txt (kindW t.s.kind)).size) = False := eq_false (by omega)
        clear hil
        go_wp2_with fail
        rw [show (txt ind ++ ⟨#[102, 105, 101, 108, 100, 32]⟩ ++ t.s.name ++ ⟨#[32]⟩ ++ txt (kindW t.s.kind) : ByteArray) = txt (ind ++ headW t.s) from HS.out]
        refine (wstr_any B b (L ++ M) (ind ++ headW t.s) _ HI.out (by simp only [List.length_append]; omega) (by omega)).mono ?_
        rintro e w5 ⟨rfl, hI5, hb5, ho5⟩
        obtain ⟨L1, hL1⟩ : ∃ L1, L1 = L ++ M ++ (ind ++ headW t.s) := ⟨_, rfl⟩
        rw [← hL1] at hI5
        have hl1 : L1.length ≤ 1000300000 := by rw [hL1]; simp only [List.length_append]; omega
        have HL1 := Lib.hid hL1
        have HI5 := Lib.hid hI5
        have HB5 := Lib.hid (HB.out.trans hb5)
        have HF5 := Lib.hid (HF.out.kept ho5 (by omega))
        have HK5 := Lib.hid (HK.out.kept ho5 (by omega))
        clear hL1 hI5 hb5 ho5 c0 c1 c2 c3 c4 c5 c6 c7 c8 c9 c10 c11 c12 c13 e0 e3 z1 z2 z3 z4 HI HB HF HK hwz hkw hnm HS hhw
        obtain ⟨c0, c1, c2, c3, c4, c5, c6, c7, c8, c9, c10, c11, c12, c13⟩ := HF5.out.cells
        have hwz := HB5.out.size
        go_upto_if 33 with fail
        go_cut [] (fun wx => Hid (Bld B b (L1 ++ (if t.s.down then wDown else [])) wx) ∧ Hid (FBox wx T7 #[.string t.s.name, .int .u8 t.s.kind, .bool t.s.down, .int .u8 t.s.nulls, .bool t.s.bnd, .bool t.s.lb, .string t.s.lm, .bool t.s.hb, .string t.s.hm, .int .i64 t.s.most, .int .i64 t.s.st, .bool t.s.sh, .bool t.s.ba, .slice aa t.fields.length cc]) ∧ Hid (KBox wx T8 t.s.kind) ∧ Hid (Below B w wx))
        case first =>
          cases hd : t.s.down with
          | false =>
            rw [hd] at c2
            have HD := Lib.hid hd
            clear hd
            go_wp2_with fail
            go_meet
            exact ⟨by rw [HD.out]; simpa using HI5, HF5, HK5, HB5⟩
          | true =>
            rw [hd] at c2
            have HD := Lib.hid hd
            clear hd
            go_wp2_with fail
            refine (wstr_any B b L1 wDown _ HI5.out (by simp only [wDown, List.length_cons, List.length_nil]; omega) (by omega)).mono ?_
            rintro e w6 ⟨rfl, hI6, hb6, ho6⟩
            have hI6 := Lib.hid hI6
            have hb6 := Lib.hid hb6
            have ho6 := Lib.hid ho6
            go_wp2_with fail
            go_meet
            exact ⟨by rw [HD.out]; exact hI6, Lib.hid (HF5.out.kept ho6.out (by omega)), Lib.hid (HK5.out.kept ho6.out (by omega)), Lib.hid (HB5.out.trans hb6.out)⟩
        case rest =>
          clear HI5 HF5 HK5 HB5 c0 c1 c2 c3 c4 c5 c6 c7 c8 c9 c10 c11 c12 c13
          obtain ⟨HI, HF, HK, HB⟩ := hcut
          obtain ⟨L2, hL2⟩ : ∃ L2, L2 = L1 ++ (if t.s.down then wDown else []) := ⟨_, rfl⟩
          rw [← hL2] at HI
          have hl2 : L2.length ≤ 1000400000 := by rw [hL2, List.length_append]; cases t.s.down <;> simp [wDown] <;> omega
          have HL2 := Lib.hid hL2
          have hwz := HB.out.size
          have htl := tailW_few HFine.out
          have hnw := nullW_few t.s.nulls
          clear hL2
          go_upto_region 7 with fail
          go_cut [] (fun wx => Hid (Bld B b (L2 ++ (nullW t.s.nulls ++ tailW t.s ++ [10])) wx) ∧ Hid (FBox wx T7 #[.string t.s.name, .int .u8 t.s.kind, .bool t.s.down, .int .u8 t.s.nulls, .bool t.s.bnd, .bool t.s.lb, .string t.s.lm, .bool t.s.hb, .string t.s.hm, .int .i64 t.s.most, .int .i64 t.s.st, .bool t.s.sh, .bool t.s.ba, .slice aa t.fields.length cc]) ∧ Hid (Below B w wx))
          case first =>
            have HT := Lib.hid (fun W (hb : Below w0.heap.size w0 W) => tail_any H0.out t HFine.out aa cc W hb)
            have HBw0 := Lib.hid (HB0w.out.trans (HB.out.mono hwB))
            obtain ⟨TL, hTL⟩ : ∃ TL, TL = tailW t.s := ⟨_, rfl⟩
            rw [← hTL] at HT htl
            have HTL := Lib.hid hTL
            clear hTL
            have hwf := wrF_cases q1 q2
            have hnc : t.s.nulls = 0 ∨ t.s.nulls = 1 ∨ t.s.nulls = 2 := by omega
            clear q1 q2 q3 q4 q5 q6 q7 q8
            rcases hnc with hn | hn | hn
            · have HTn := Lib.hid (show ∀ W, Below w0.heap.size w0 W → Calls Tryz.prog (wrF t.s.kind) #[.agg #[.string t.s.name, .int .u8 t.s.kind, .bool t.s.down, .int .u8 0, .bool t.s.bnd, .bool t.s.lb, .string t.s.lm, .bool t.s.hb, .string t.s.hm, .int .i64 t.s.most, .int .i64 t.s.st, .bool t.s.sh, .bool t.s.ba, .slice aa t.fields.length cc]] W (Ret (.string (txt TL)) W) from fun W hb => by have h9 := HT.out W hb; rw [hn] at h9; exact h9)
              have KS := Lib.hid (show ∀ W, Below (T8 + 1) wc W → W.cell? ⟨T7, 0, none⟩ = some (.string t.s.name) ∧ W.cell? ⟨T7, 1, none⟩ = some (.int .u8 t.s.kind) ∧ W.cell? ⟨T7, 2, none⟩ = some (.bool t.s.down) ∧ W.cell? ⟨T7, 3, none⟩ = some (.int .u8 0) ∧ W.cell? ⟨T7, 4, none⟩ = some (.bool t.s.bnd) ∧ W.cell? ⟨T7, 5, none⟩ = some (.bool t.s.lb) ∧ W.cell? ⟨T7, 6, none⟩ = some (.string t.s.lm) ∧ W.cell? ⟨T7, 7, none⟩ = some (.bool t.s.hb) ∧ W.cell? ⟨T7, 8, none⟩ = some (.string t.s.hm) ∧ W.cell? ⟨T7, 9, none⟩ = some (.int .i64 t.s.most) ∧ W.cell? ⟨T7, 10, none⟩ = some (.int .i64 t.s.st) ∧ W.cell? ⟨T7, 11, none⟩ = some (.bool t.s.sh) ∧ W.cell? ⟨T7, 12, none⟩ = some (.bool t.s.ba) ∧ W.cell? ⟨T7, 13, none⟩ = some (.slice aa t.fields.length cc) ∧ W.cell? ⟨T8, 3, none⟩ = some (.func (.func (wrF t.s.kind)) #[] #[]) from fun W hb => by
                obtain ⟨d0, d1, d2, d3, d4, d5, d6, d7, d8, d9, d10, d11, d12, d13⟩ := (HF.out.below hb (by omega)).cells
                obtain ⟨_, f3⟩ := (HK.out.below hb (by omega)).cells
                rw [hn] at d3
                exact ⟨d0, d1, d2, d3, d4, d5, d6, d7, d8, d9, d10, d11, d12, d13, f3⟩)
              have KS7 := Lib.hid (show ∀ W, FBox W T7 #[.string t.s.name, .int .u8 t.s.kind, .bool t.s.down, .int .u8 t.s.nulls, .bool t.s.bnd, .bool t.s.lb, .string t.s.lm, .bool t.s.hb, .string t.s.hm, .int .i64 t.s.most, .int .i64 t.s.st, .bool t.s.sh, .bool t.s.ba, .slice aa t.fields.length cc] → KBox W T8 t.s.kind → W.cell? ⟨T7, 0, none⟩ = some (.string t.s.name) ∧ W.cell? ⟨T7, 1, none⟩ = some (.int .u8 t.s.kind) ∧ W.cell? ⟨T7, 2, none⟩ = some (.bool t.s.down) ∧ W.cell? ⟨T7, 3, none⟩ = some (.int .u8 0) ∧ W.cell? ⟨T7, 4, none⟩ = some (.bool t.s.bnd) ∧ W.cell? ⟨T7, 5, none⟩ = some (.bool t.s.lb) ∧ W.cell? ⟨T7, 6, none⟩ = some (.string t.s.lm) ∧ W.cell? ⟨T7, 7, none⟩ = some (.bool t.s.hb) ∧ W.cell? ⟨T7, 8, none⟩ = some (.string t.s.hm) ∧ W.cell? ⟨T7, 9, none⟩ = some (.int .i64 t.s.most) ∧ W.cell? ⟨T7, 10, none⟩ = some (.int .i64 t.s.st) ∧ W.cell? ⟨T7, 11, none⟩ = some (.bool t.s.sh) ∧ W.cell? ⟨T7, 12, none⟩ = some (.bool t.s.ba) ∧ W.cell? ⟨T7, 13, none⟩ = some (.slice aa t.fields.length cc) ∧ W.cell? ⟨T8, 3, none⟩ = some (.func (.func (wrF t.s.kind)) #[] #[]) from fun W hf hk => by
                obtain ⟨d0, d1, d2, d3, d4, d5, d6, d7, d8, d9, d10, d11, d12, d13⟩ := hf.cells
                obtain ⟨_, f3⟩ := hk.cells
                rw [hn] at d3
                exact ⟨d0, d1, d2, d3, d4, d5, d6, d7, d8, d9, d10, d11, d12, d13, f3⟩)
              have HNW := Lib.hid (show nullW t.s.nulls = [] by rw [hn]; rfl)
              have hT8z := HK.out.lt
              clear hn HT
              rcases hwf with hwf | hwf | hwf | hwf
              all_goals as_aux_lemma => (
                rw [hwf] at HTn
                have z1 : (9223372036854775807 < 0 + (txt TL).size) = False := by rw [txt_size]; exact eq_false (by omega)
                have z1b : (9223372036854775807 < (txt TL).size) = False := by rw [txt_size]; exact eq_false (by omega)
                have z2 : (9223372036854775807 < 0 + (txt TL).size + 1) = False := by rw [txt_size]; exact eq_false (by omega)
                have z2b : (9223372036854775807 < (txt TL).size + 1) = False := by rw [txt_size]; exact eq_false (by omega)
                have HC := Lib.hid (Below.refl (T8 + 1) wc)
                have hc0 := KS.out _ HC.out
                obtain ⟨c0, c1, c2, c3, c4, c5, c6, c7, c8, c9, c10, c11, c12, c13, e3⟩ := hc0
                have HSE := Lib.hid (show (⟨#[]⟩ ++ txt TL ++ ⟨#[10]⟩ : ByteArray) = txt ([] ++ TL ++ [10]) from by rw [show (⟨#[]⟩ : ByteArray) = txt [] from rfl, show (⟨#[10]⟩ : ByteArray) = txt [10] from rfl, txt_append, txt_append])
                have HSE2 := Lib.hid (show (txt TL ++ ⟨#[10]⟩ : ByteArray) = txt ([] ++ TL ++ [10]) from by rw [show (⟨#[10]⟩ : ByteArray) = txt [10] from rfl, txt_append]; rfl)
                have HLen := Lib.hid (show L2.length + ([] ++ TL ++ [10] : List UInt8).length ≤ 1099511627776 by simp only [List.length_append, List.length_cons, List.length_nil]; omega)
                have HIc := Lib.hid (show Bld B b L2 wc from HI.out)
                refine wp_region_noPanic ?_
                refine wp_region_held_drew (S := fun W => W.cell? ⟨T7, 0, none⟩ = some (.string t.s.name) ∧ W.cell? ⟨T7, 1, none⟩ = some (.int .u8 t.s.kind) ∧ W.cell? ⟨T7, 2, none⟩ = some (.bool t.s.down) ∧ W.cell? ⟨T7, 3, none⟩ = some (.int .u8 0) ∧ W.cell? ⟨T7, 4, none⟩ = some (.bool t.s.bnd) ∧ W.cell? ⟨T7, 5, none⟩ = some (.bool t.s.lb) ∧ W.cell? ⟨T7, 6, none⟩ = some (.string t.s.lm) ∧ W.cell? ⟨T7, 7, none⟩ = some (.bool t.s.hb) ∧ W.cell? ⟨T7, 8, none⟩ = some (.string t.s.hm) ∧ W.cell? ⟨T7, 9, none⟩ = some (.int .i64 t.s.most) ∧ W.cell? ⟨T7, 10, none⟩ = some (.int .i64 t.s.st) ∧ W.cell? ⟨T7, 11, none⟩ = some (.bool t.s.sh) ∧ W.cell? ⟨T7, 12, none⟩ = some (.bool t.s.ba) ∧ W.cell? ⟨T7, 13, none⟩ = some (.slice aa t.fields.length cc) ∧ W.cell? ⟨T8, 3, none⟩ = some (.func (.func (wrF t.s.kind)) #[] #[])) (by kernel_rfl) (KS.out _ HC.out.drew) (fun hHeld => ?_)
                (try simp only [Act.put, List.setIfInBounds_toArray, List.set_cons_zero, List.set_cons_succ])
                refine wpAnyH_take (i := 0) (oi := ?_) (v := ?_) ?_ (by kernel_rfl) (by kernel_rfl) (by kernel_rfl) (fun _ _ _ h => h) (Or.inl ⟨?_, ?_⟩) hHeld ?_
                rotate_left 2
                · (simp only [List.getElem?_toArray, List.getElem?_cons_succ, List.getElem?_cons_zero]; rfl)
                · rfl
                · (intro w hSw; (try dsimp only at hSw); go_simp; (try with_reducible rfl))
                (try simp only [Act.put, List.setIfInBounds_toArray, List.set_cons_zero, List.set_cons_succ])
                refine wpAnyH_take (i := 2) (oi := ?_) (v := ?_) ?_ (by kernel_rfl) (by kernel_rfl) (by kernel_rfl) (fun _ _ _ h => h) (Or.inl ⟨?_, ?_⟩) hHeld ?_
                rotate_left 2
                · (simp only [List.getElem?_toArray, List.getElem?_cons_succ, List.getElem?_cons_zero]; rfl)
                · rfl
                · (intro w hSw; (try dsimp only at hSw); go_simp; (try with_reducible rfl))
                (try simp only [Act.put, List.setIfInBounds_toArray, List.set_cons_zero, List.set_cons_succ])
                refine wpAnyH_take (i := 3) (oi := ?_) (v := ?_) ?_ (by kernel_rfl) (by kernel_rfl) (by kernel_rfl) (fun _ _ _ h => h) (Or.inl ⟨?_, ?_⟩) hHeld ?_
                rotate_left 2
                · (simp only [List.getElem?_toArray, List.getElem?_cons_succ, List.getElem?_cons_zero]; rfl)
                · rfl
                · (intro w hSw; (try dsimp only at hSw); go_simp; (try with_reducible rfl))
                (try simp only [Act.put, List.setIfInBounds_toArray, List.set_cons_zero, List.set_cons_succ])
                refine wpAnyH_take (i := 6) (oi := ?_) (v := ?_) ?_ (by kernel_rfl) (by kernel_rfl) (by kernel_rfl) (fun _ _ _ h => h) (Or.inl ⟨?_, ?_⟩) hHeld ?_
                rotate_left 2
                · (simp only [List.getElem?_toArray, List.getElem?_cons_succ, List.getElem?_cons_zero]; rfl)
                · rfl
                · (intro w hSw; (try dsimp only at hSw); go_simp; (try with_reducible rfl))
                (try simp only [Act.put, List.setIfInBounds_toArray, List.set_cons_zero, List.set_cons_succ])
                refine wpAnyH_take (i := 7) (oi := ?_) (v := ?_) ?_ (by kernel_rfl) (by kernel_rfl) (by kernel_rfl) (fun _ _ _ h => h) (Or.inl ⟨?_, ?_⟩) hHeld ?_
                rotate_left 2
                · (simp only [List.getElem?_toArray, List.getElem?_cons_succ, List.getElem?_cons_zero]; rfl)
                · rfl
                · (intro w hSw; (try dsimp only at hSw); go_simp; (try with_reducible rfl))
                (try simp only [Act.put, List.setIfInBounds_toArray, List.set_cons_zero, List.set_cons_succ])
                refine wpAnyH_take (i := 8) (oi := ?_) (v := ?_) ?_ (by kernel_rfl) (by kernel_rfl) (by kernel_rfl) (fun _ _ _ h => h) (Or.inl ⟨?_, ?_⟩) hHeld ?_
                rotate_left 2
                · (simp only [List.getElem?_toArray, List.getElem?_cons_succ, List.getElem?_cons_zero]; rfl)
                · rfl
                · (intro w hSw; (try dsimp only at hSw); go_simp; (try with_reducible rfl))
                (try simp only [Act.put, List.setIfInBounds_toArray, List.set_cons_zero, List.set_cons_succ])
                refine wpAnyH_ready (rs := [1, 9]) (by kernel_rfl) (by simp) ?_
                refine AllReadyH.cons (by rfl) (fun K hK => ?_) ?_
                case refine_1 =>
                  go_simp
                  refine hK.out _ _ (by first | exact KS.out _ HC.out | exact KS.out _ HC.out.drew | exact KS.out _ (HC.out.alloc (by omega) _) | exact KS.out _ (HC.out.drew.alloc (by simp only [World.size_drew]; omega) _) | exact KS.out _ (HC.out.alloc (by omega) _).drew) (fun hHeld1 => ?_)
                  clear hK K
                  (try simp only [Act.put, List.setIfInBounds_toArray, List.set_cons_zero, List.set_cons_succ])
                  refine wpAnyH_take (i := 4) (oi := ?_) (v := ?_) ?_ (by kernel_rfl) (by kernel_rfl) (by kernel_rfl) (fun _ _ _ h => h) (Or.inl ⟨?_, ?_⟩) hHeld1 ?_
                  rotate_left 2
                  · (simp only [List.getElem?_toArray, List.getElem?_cons_succ, List.getElem?_cons_zero]; rfl)
                  · rfl
                  · (intro w hSw; (try dsimp only at hSw); go_simp; (try with_reducible rfl))
                  (try simp only [Act.put, List.setIfInBounds_toArray, List.set_cons_zero, List.set_cons_succ])
                  refine wpAnyH_ready (rs := [5, 9]) (by kernel_rfl) (by simp) ?_
                  refine AllReadyH.cons (by rfl) (fun K hK => ?_) ?_
                  case refine_1 =>
                    go_simp
                    refine hK.out _ _ (by first | exact KS.out _ HC.out | exact KS.out _ HC.out.drew | exact KS.out _ (HC.out.alloc (by omega) _) | exact KS.out _ (HC.out.drew.alloc (by simp only [World.size_drew]; omega) _) | exact KS.out _ (HC.out.alloc (by omega) _).drew) (fun hHeld2 => ?_)
                    clear hK K
                    (try simp only [Act.put, List.setIfInBounds_toArray, List.set_cons_zero, List.set_cons_succ])
                    refine wpAnyH_ready (rs := [9]) (by kernel_rfl) (by simp) ?_
                    refine AllReadyH.cons (by rfl) (fun K hK => ?_) AllReadyH.nil
                    go_simp
                    ((with_reducible refine (HTn.out _ (HBw0.out.alloc (by omega) _).drew).mono ?_); rintro e w9 ⟨rfl, hb9⟩; have yy := (hb9.cell (p := ⟨wc.heap.size, 0, none⟩) (by simp)).trans (list_cell wc _ 0); have HIc := Lib.hid ((HI.out.below (below_a1 _ _)).drew.below hb9); have HC := Lib.hid ((HC.out.alloc (by omega) _).drew.trans (hb9.mono (by simp only [World.size_alloc, World.size_drew]; omega))); have hz9 : T8 + 1 ≤ w9.heap.size := (by have := hb9.size; simp only [World.size_alloc, World.size_drew] at this; omega); clear hb9)
                    refine hK.out _ _ (by first | exact KS.out _ HC.out | exact KS.out _ HC.out.drew | exact KS.out _ (HC.out.alloc (by omega) _) | exact KS.out _ (HC.out.drew.alloc (by simp only [World.size_drew]; omega) _) | exact KS.out _ (HC.out.alloc (by omega) _).drew) (fun hHeld3 => ?_)
                    clear hK K
                    (try simp only [Act.put, List.setIfInBounds_toArray, List.set_cons_zero, List.set_cons_succ])
                    refine wpAnyH_take (i := 10) (oi := ?_) (v := ?_) ?_ (by kernel_rfl) (by kernel_rfl) (by kernel_rfl) (fun _ _ _ h => h) (Or.inl ⟨?_, ?_⟩) hHeld3 ?_
                    rotate_left 2
                    · (simp only [List.getElem?_toArray, List.getElem?_cons_succ, List.getElem?_cons_zero]; rfl)
                    · rfl
                    · (intro w hSw; (try dsimp only at hSw); go_simp; (try with_reducible rfl))
                    (try simp only [Act.put, List.setIfInBounds_toArray, List.set_cons_zero, List.set_cons_succ])
                    refine wpAnyH_take (i := 11) (oi := ?_) (v := ?_) ?_ (by kernel_rfl) (by kernel_rfl) (by kernel_rfl) (fun _ _ _ h => h) (Or.inl ⟨?_, ?_⟩) hHeld3 ?_
                    rotate_left 2
                    · (simp only [List.getElem?_toArray, List.getElem?_cons_succ, List.getElem?_cons_zero]; rfl)
                    · rfl
                    · (intro w hSw; (try dsimp only at hSw); go_simp; (try with_reducible rfl))
                    (try simp only [Act.put, List.setIfInBounds_toArray, List.set_cons_zero, List.set_cons_succ])
                    refine wpAnyH_ready (rs := [12]) (by kernel_rfl) (by simp) ?_
                    refine AllReadyH.cons (by rfl) (fun K hK => ?_) AllReadyH.nil
                    go_simp
                    (go_at_call 96; (first | rw [HSE.out] | rw [HSE2.out]); refine (wstr_any B b L2 _ _ ?hI HLen.out ?hz).mono ?_; (case hI => first | exact HIc.out | exact HIc.out.drew | exact HIc.out.below (below_a1 _ _) | exact (HIc.out.below (below_a1 _ _)).drew); (case hz => first | omega | (simp only [World.size_drew, World.size_alloc]; omega)); rintro e w7 ⟨rfl, hI7, hb7, ho7⟩; have HI7 := Lib.hid hI7; have HF7 := Lib.hid (FBox.kept (HF.out.below (B := T8 + 1) (by first | exact HC.out | exact HC.out.drew | exact HC.out.alloc (by omega) _ | exact (HC.out.alloc (by omega) _).drew | exact HC.out.drew.alloc (by simp only [World.size_drew]; omega) _) (by omega)) ho7 (by omega)); have HK7 := Lib.hid (KBox.kept (HK.out.below (B := T8 + 1) (by first | exact HC.out | exact HC.out.drew | exact HC.out.alloc (by omega) _ | exact (HC.out.alloc (by omega) _).drew | exact HC.out.drew.alloc (by simp only [World.size_drew]; omega) _) (by omega)) ho7 (by omega)); have HB7 := Lib.hid (HB.out.trans (Below.trans (Below.mono (B := T8 + 1) (by first | exact HC.out | exact HC.out.drew | exact HC.out.alloc (by omega) _ | exact (HC.out.alloc (by omega) _).drew | exact HC.out.drew.alloc (by simp only [World.size_drew]; omega) _) (by omega)) hb7)); clear hI7 hb7 ho7)
                    refine hK.out _ _ (KS7.out _ HF7.out HK7.out) (fun hHeld9 => ?_)
                    clear hK K
                    (try simp only [Act.put, List.setIfInBounds_toArray, List.set_cons_zero, List.set_cons_succ])
                    refine wpAnyH_done (by kernel_rfl) ?_ _
                    refine NoPanic.normal ?_
                    go_wp2_with fail
                    go_meet
                    exact ⟨by rw [HNW.out, ← HTL.out]; exact HI7, HF7, HB7⟩
                  case refine_2 =>
                    refine AllReadyH.cons (by rfl) (fun K hK => ?_) AllReadyH.nil
                    go_simp
                    ((with_reducible refine (HTn.out _ (HBw0.out.alloc (by omega) _).drew).mono ?_); rintro e w9 ⟨rfl, hb9⟩; have yy := (hb9.cell (p := ⟨wc.heap.size, 0, none⟩) (by simp)).trans (list_cell wc _ 0); have HIc := Lib.hid ((HI.out.below (below_a1 _ _)).drew.below hb9); have HC := Lib.hid ((HC.out.alloc (by omega) _).drew.trans (hb9.mono (by simp only [World.size_alloc, World.size_drew]; omega))); have hz9 : T8 + 1 ≤ w9.heap.size := (by have := hb9.size; simp only [World.size_alloc, World.size_drew] at this; omega); clear hb9)
                    refine hK.out _ _ (by first | exact KS.out _ HC.out | exact KS.out _ HC.out.drew | exact KS.out _ (HC.out.alloc (by omega) _) | exact KS.out _ (HC.out.drew.alloc (by simp only [World.size_drew]; omega) _) | exact KS.out _ (HC.out.alloc (by omega) _).drew) (fun hHeld2 => ?_)
                    clear hK K
                    (try simp only [Act.put, List.setIfInBounds_toArray, List.set_cons_zero, List.set_cons_succ])
                    refine wpAnyH_ready (rs := [5]) (by kernel_rfl) (by simp) ?_
                    refine AllReadyH.cons (by rfl) (fun K hK => ?_) AllReadyH.nil
                    go_simp
                    refine hK.out _ _ (by first | exact KS.out _ HC.out | exact KS.out _ HC.out.drew | exact KS.out _ (HC.out.alloc (by omega) _) | exact KS.out _ (HC.out.drew.alloc (by simp only [World.size_drew]; omega) _) | exact KS.out _ (HC.out.alloc (by omega) _).drew) (fun hHeld3 => ?_)
                    clear hK K
                    (try simp only [Act.put, List.setIfInBounds_toArray, List.set_cons_zero, List.set_cons_succ])
                    refine wpAnyH_take (i := 10) (oi := ?_) (v := ?_) ?_ (by kernel_rfl) (by kernel_rfl) (by kernel_rfl) (fun _ _ _ h => h) (Or.inl ⟨?_, ?_⟩) hHeld3 ?_
                    rotate_left 2
                    · (simp only [List.getElem?_toArray, List.getElem?_cons_succ, List.getElem?_cons_zero]; rfl)
                    · rfl
                    · (intro w hSw; (try dsimp only at hSw); go_simp; (try with_reducible rfl))
                    (try simp only [Act.put, List.setIfInBounds_toArray, List.set_cons_zero, List.set_cons_succ])
                    refine wpAnyH_take (i := 11) (oi := ?_) (v := ?_) ?_ (by kernel_rfl) (by kernel_rfl) (by kernel_rfl) (fun _ _ _ h => h) (Or.inl ⟨?_, ?_⟩) hHeld3 ?_
                    rotate_left 2
                    · (simp only [List.getElem?_toArray, List.getElem?_cons_succ, List.getElem?_cons_zero]; rfl)
                    · rfl
                    · (intro w hSw; (try dsimp only at hSw); go_simp; (try with_reducible rfl))
                    (try simp only [Act.put, List.setIfInBounds_toArray, List.set_cons_zero, List.set_cons_succ])
                    refine wpAnyH_ready (rs := [12]) (by kernel_rfl) (by simp) ?_
                    refine AllReadyH.cons (by rfl) (fun K hK => ?_) AllReadyH.nil
                    go_simp
                    (go_at_call 96; (first | rw [HSE.out] | rw [HSE2.out]); refine (wstr_any B b L2 _ _ ?hI HLen.out ?hz).mono ?_; (case hI => first | exact HIc.out | exact HIc.out.drew | exact HIc.out.below (below_a1 _ _) | exact (HIc.out.below (below_a1 _ _)).drew); (case hz => first | omega | (simp only [World.size_drew, World.size_alloc]; omega)); rintro e w7 ⟨rfl, hI7, hb7, ho7⟩; have HI7 := Lib.hid hI7; have HF7 := Lib.hid (FBox.kept (HF.out.below (B := T8 + 1) (by first | exact HC.out | exact HC.out.drew | exact HC.out.alloc (by omega) _ | exact (HC.out.alloc (by omega) _).drew | exact HC.out.drew.alloc (by simp only [World.size_drew]; omega) _) (by omega)) ho7 (by omega)); have HK7 := Lib.hid (KBox.kept (HK.out.below (B := T8 + 1) (by first | exact HC.out | exact HC.out.drew | exact HC.out.alloc (by omega) _ | exact (HC.out.alloc (by omega) _).drew | exact HC.out.drew.alloc (by simp only [World.size_drew]; omega) _) (by omega)) ho7 (by omega)); have HB7 := Lib.hid (HB.out.trans (Below.trans (Below.mono (B := T8 + 1) (by first | exact HC.out | exact HC.out.drew | exact HC.out.alloc (by omega) _ | exact (HC.out.alloc (by omega) _).drew | exact HC.out.drew.alloc (by simp only [World.size_drew]; omega) _) (by omega)) hb7)); clear hI7 hb7 ho7)
                    refine hK.out _ _ (KS7.out _ HF7.out HK7.out) (fun hHeld9 => ?_)
                    clear hK K
                    (try simp only [Act.put, List.setIfInBounds_toArray, List.set_cons_zero, List.set_cons_succ])
                    refine wpAnyH_done (by kernel_rfl) ?_ _
                    refine NoPanic.normal ?_
                    go_wp2_with fail
                    go_meet
                    exact ⟨by rw [HNW.out, ← HTL.out]; exact HI7, HF7, HB7⟩
                case refine_2 =>
                  refine AllReadyH.cons (by rfl) (fun K hK => ?_) AllReadyH.nil
                  go_simp
                  ((with_reducible refine (HTn.out _ HBw0.out.drew).mono ?_); rintro e w9 ⟨rfl, hb9⟩; have HIc := Lib.hid (HI.out.drew.below hb9); have HC := Lib.hid (HC.out.drew.trans (hb9.mono (by simp only [World.size_drew]; omega))); have hz9 : T8 + 1 ≤ w9.heap.size := (by have := hb9.size; simp only [World.size_drew] at this; omega); clear hb9)
                  refine hK.out _ _ (by first | exact KS.out _ HC.out | exact KS.out _ HC.out.drew | exact KS.out _ (HC.out.alloc (by omega) _) | exact KS.out _ (HC.out.drew.alloc (by simp only [World.size_drew]; omega) _) | exact KS.out _ (HC.out.alloc (by omega) _).drew) (fun hHeld1 => ?_)
                  clear hK K
                  (try simp only [Act.put, List.setIfInBounds_toArray, List.set_cons_zero, List.set_cons_succ])
                  refine wpAnyH_ready (rs := [1]) (by kernel_rfl) (by simp) ?_
                  refine AllReadyH.cons (by rfl) (fun K hK => ?_) AllReadyH.nil
                  go_simp
                  refine hK.out _ _ (by first | exact KS.out _ HC.out | exact KS.out _ HC.out.drew | exact KS.out _ (HC.out.alloc (by omega) _) | exact KS.out _ (HC.out.drew.alloc (by simp only [World.size_drew]; omega) _) | exact KS.out _ (HC.out.alloc (by omega) _).drew) (fun hHeld2 => ?_)
                  clear hK K
                  (try simp only [Act.put, List.setIfInBounds_toArray, List.set_cons_zero, List.set_cons_succ])
                  refine wpAnyH_take (i := 4) (oi := ?_) (v := ?_) ?_ (by kernel_rfl) (by kernel_rfl) (by kernel_rfl) (fun _ _ _ h => h) (Or.inl ⟨?_, ?_⟩) hHeld2 ?_
                  rotate_left 2
                  · (simp only [List.getElem?_toArray, List.getElem?_cons_succ, List.getElem?_cons_zero]; rfl)
                  · rfl
                  · (intro w hSw; (try dsimp only at hSw); go_simp; (try with_reducible rfl))
                  (try simp only [Act.put, List.setIfInBounds_toArray, List.set_cons_zero, List.set_cons_succ])
                  refine wpAnyH_ready (rs := [5]) (by kernel_rfl) (by simp) ?_
                  refine AllReadyH.cons (by rfl) (fun K hK => ?_) AllReadyH.nil
                  go_simp
                  refine hK.out _ _ (by first | exact KS.out _ HC.out | exact KS.out _ HC.out.drew | exact KS.out _ (HC.out.alloc (by omega) _) | exact KS.out _ (HC.out.drew.alloc (by simp only [World.size_drew]; omega) _) | exact KS.out _ (HC.out.alloc (by omega) _).drew) (fun hHeld3 => ?_)
                  clear hK K
                  (try simp only [Act.put, List.setIfInBounds_toArray, List.set_cons_zero, List.set_cons_succ])
                  refine wpAnyH_take (i := 10) (oi := ?_) (v := ?_) ?_ (by kernel_rfl) (by kernel_rfl) (by kernel_rfl) (fun _ _ _ h => h) (Or.inl ⟨?_, ?_⟩) hHeld3 ?_
                  rotate_left 2
                  · (simp only [List.getElem?_toArray, List.getElem?_cons_succ, List.getElem?_cons_zero]; rfl)
                  · rfl
                  · (intro w hSw; (try dsimp only at hSw); go_simp; (try with_reducible rfl))
                  (try simp only [Act.put, List.setIfInBounds_toArray, List.set_cons_zero, List.set_cons_succ])
                  refine wpAnyH_take (i := 11) (oi := ?_) (v := ?_) ?_ (by kernel_rfl) (by kernel_rfl) (by kernel_rfl) (fun _ _ _ h => h) (Or.inl ⟨?_, ?_⟩) hHeld3 ?_
                  rotate_left 2
                  · (simp only [List.getElem?_toArray, List.getElem?_cons_succ, List.getElem?_cons_zero]; rfl)
                  · rfl
                  · (intro w hSw; (try dsimp only at hSw); go_simp; (try with_reducible rfl))
                  (try simp only [Act.put, List.setIfInBounds_toArray, List.set_cons_zero, List.set_cons_succ])
                  refine wpAnyH_ready (rs := [12]) (by kernel_rfl) (by simp) ?_
                  refine AllReadyH.cons (by rfl) (fun K hK => ?_) AllReadyH.nil
                  go_simp
                  (go_at_call 96; (first | rw [HSE.out] | rw [HSE2.out]); refine (wstr_any B b L2 _ _ ?hI HLen.out ?hz).mono ?_; (case hI => first | exact HIc.out | exact HIc.out.drew | exact HIc.out.below (below_a1 _ _) | exact (HIc.out.below (below_a1 _ _)).drew); (case hz => first | omega | (simp only [World.size_drew, World.size_alloc]; omega)); rintro e w7 ⟨rfl, hI7, hb7, ho7⟩; have HI7 := Lib.hid hI7; have HF7 := Lib.hid (FBox.kept (HF.out.below (B := T8 + 1) (by first | exact HC.out | exact HC.out.drew | exact HC.out.alloc (by omega) _ | exact (HC.out.alloc (by omega) _).drew | exact HC.out.drew.alloc (by simp only [World.size_drew]; omega) _) (by omega)) ho7 (by omega)); have HK7 := Lib.hid (KBox.kept (HK.out.below (B := T8 + 1) (by first | exact HC.out | exact HC.out.drew | exact HC.out.alloc (by omega) _ | exact (HC.out.alloc (by omega) _).drew | exact HC.out.drew.alloc (by simp only [World.size_drew]; omega) _) (by omega)) ho7 (by omega)); have HB7 := Lib.hid (HB.out.trans (Below.trans (Below.mono (B := T8 + 1) (by first | exact HC.out | exact HC.out.drew | exact HC.out.alloc (by omega) _ | exact (HC.out.alloc (by omega) _).drew | exact HC.out.drew.alloc (by simp only [World.size_drew]; omega) _) (by omega)) hb7)); clear hI7 hb7 ho7)
                  refine hK.out _ _ (KS7.out _ HF7.out HK7.out) (fun hHeld9 => ?_)
                  clear hK K
                  (try simp only [Act.put, List.setIfInBounds_toArray, List.set_cons_zero, List.set_cons_succ])
                  refine wpAnyH_done (by kernel_rfl) ?_ _
                  refine NoPanic.normal ?_
                  go_wp2_with fail
                  go_meet
                  exact ⟨by rw [HNW.out, ← HTL.out]; exact HI7, HF7, HB7⟩
                )
            · have HTn := Lib.hid (show ∀ W, Below w0.heap.size w0 W → Calls Tryz.prog (wrF t.s.kind) #[.agg #[.string t.s.name, .int .u8 t.s.kind, .bool t.s.down, .int .u8 1, .bool t.s.bnd, .bool t.s.lb, .string t.s.lm, .bool t.s.hb, .string t.s.hm, .int .i64 t.s.most, .int .i64 t.s.st, .bool t.s.sh, .bool t.s.ba, .slice aa t.fields.length cc]] W (Ret (.string (txt TL)) W) from fun W hb => by have h9 := HT.out W hb; rw [hn] at h9; exact h9)
              have KS := Lib.hid (show ∀ W, Below (T8 + 1) wc W → W.cell? ⟨T7, 0, none⟩ = some (.string t.s.name) ∧ W.cell? ⟨T7, 1, none⟩ = some (.int .u8 t.s.kind) ∧ W.cell? ⟨T7, 2, none⟩ = some (.bool t.s.down) ∧ W.cell? ⟨T7, 3, none⟩ = some (.int .u8 1) ∧ W.cell? ⟨T7, 4, none⟩ = some (.bool t.s.bnd) ∧ W.cell? ⟨T7, 5, none⟩ = some (.bool t.s.lb) ∧ W.cell? ⟨T7, 6, none⟩ = some (.string t.s.lm) ∧ W.cell? ⟨T7, 7, none⟩ = some (.bool t.s.hb) ∧ W.cell? ⟨T7, 8, none⟩ = some (.string t.s.hm) ∧ W.cell? ⟨T7, 9, none⟩ = some (.int .i64 t.s.most) ∧ W.cell? ⟨T7, 10, none⟩ = some (.int .i64 t.s.st) ∧ W.cell? ⟨T7, 11, none⟩ = some (.bool t.s.sh) ∧ W.cell? ⟨T7, 12, none⟩ = some (.bool t.s.ba) ∧ W.cell? ⟨T7, 13, none⟩ = some (.slice aa t.fields.length cc) ∧ W.cell? ⟨T8, 3, none⟩ = some (.func (.func (wrF t.s.kind)) #[] #[]) from fun W hb => by
                obtain ⟨d0, d1, d2, d3, d4, d5, d6, d7, d8, d9, d10, d11, d12, d13⟩ := (HF.out.below hb (by omega)).cells
                obtain ⟨_, f3⟩ := (HK.out.below hb (by omega)).cells
                rw [hn] at d3
                exact ⟨d0, d1, d2, d3, d4, d5, d6, d7, d8, d9, d10, d11, d12, d13, f3⟩)
              have KS7 := Lib.hid (show ∀ W, FBox W T7 #[.string t.s.name, .int .u8 t.s.kind, .bool t.s.down, .int .u8 t.s.nulls, .bool t.s.bnd, .bool t.s.lb, .string t.s.lm, .bool t.s.hb, .string t.s.hm, .int .i64 t.s.most, .int .i64 t.s.st, .bool t.s.sh, .bool t.s.ba, .slice aa t.fields.length cc] → KBox W T8 t.s.kind → W.cell? ⟨T7, 0, none⟩ = some (.string t.s.name) ∧ W.cell? ⟨T7, 1, none⟩ = some (.int .u8 t.s.kind) ∧ W.cell? ⟨T7, 2, none⟩ = some (.bool t.s.down) ∧ W.cell? ⟨T7, 3, none⟩ = some (.int .u8 1) ∧ W.cell? ⟨T7, 4, none⟩ = some (.bool t.s.bnd) ∧ W.cell? ⟨T7, 5, none⟩ = some (.bool t.s.lb) ∧ W.cell? ⟨T7, 6, none⟩ = some (.string t.s.lm) ∧ W.cell? ⟨T7, 7, none⟩ = some (.bool t.s.hb) ∧ W.cell? ⟨T7, 8, none⟩ = some (.string t.s.hm) ∧ W.cell? ⟨T7, 9, none⟩ = some (.int .i64 t.s.most) ∧ W.cell? ⟨T7, 10, none⟩ = some (.int .i64 t.s.st) ∧ W.cell? ⟨T7, 11, none⟩ = some (.bool t.s.sh) ∧ W.cell? ⟨T7, 12, none⟩ = some (.bool t.s.ba) ∧ W.cell? ⟨T7, 13, none⟩ = some (.slice aa t.fields.length cc) ∧ W.cell? ⟨T8, 3, none⟩ = some (.func (.func (wrF t.s.kind)) #[] #[]) from fun W hf hk => by
                obtain ⟨d0, d1, d2, d3, d4, d5, d6, d7, d8, d9, d10, d11, d12, d13⟩ := hf.cells
                obtain ⟨_, f3⟩ := hk.cells
                rw [hn] at d3
                exact ⟨d0, d1, d2, d3, d4, d5, d6, d7, d8, d9, d10, d11, d12, d13, f3⟩)
              have HNW := Lib.hid (show nullW t.s.nulls = [32, 110, 117, 108, 108, 45, 102, 105, 114, 115, 116] by rw [hn]; rfl)
              have hT8z := HK.out.lt
              clear hn HT
              rcases hwf with hwf | hwf | hwf | hwf
              all_goals as_aux_lemma => (
                rw [hwf] at HTn
                have z1 : (9223372036854775807 < 11 + (txt TL).size) = False := by rw [txt_size]; exact eq_false (by omega)
                have z1b : (9223372036854775807 < (txt TL).size) = False := by rw [txt_size]; exact eq_false (by omega)
                have z2 : (9223372036854775807 < 11 + (txt TL).size + 1) = False := by rw [txt_size]; exact eq_false (by omega)
                have z2b : (9223372036854775807 < (txt TL).size + 1) = False := by rw [txt_size]; exact eq_false (by omega)
                have HC := Lib.hid (Below.refl (T8 + 1) wc)
                have hc0 := KS.out _ HC.out
                obtain ⟨c0, c1, c2, c3, c4, c5, c6, c7, c8, c9, c10, c11, c12, c13, e3⟩ := hc0
                have HSE := Lib.hid (show (⟨#[32, 110, 117, 108, 108, 45, 102, 105, 114, 115, 116]⟩ ++ txt TL ++ ⟨#[10]⟩ : ByteArray) = txt ([32, 110, 117, 108, 108, 45, 102, 105, 114, 115, 116] ++ TL ++ [10]) from by rw [show (⟨#[32, 110, 117, 108, 108, 45, 102, 105, 114, 115, 116]⟩ : ByteArray) = txt [32, 110, 117, 108, 108, 45, 102, 105, 114, 115, 116] from rfl, show (⟨#[10]⟩ : ByteArray) = txt [10] from rfl, txt_append, txt_append])
                have HSE2 := Lib.hid (show (txt TL ++ ⟨#[10]⟩ : ByteArray) = txt ([] ++ TL ++ [10]) from by rw [show (⟨#[10]⟩ : ByteArray) = txt [10] from rfl, txt_append]; rfl)
                have HLen := Lib.hid (show L2.length + ([32, 110, 117, 108, 108, 45, 102, 105, 114, 115, 116] ++ TL ++ [10] : List UInt8).length ≤ 1099511627776 by simp only [List.length_append, List.length_cons, List.length_nil]; omega)
                have HIc := Lib.hid (show Bld B b L2 wc from HI.out)
                refine wp_region_noPanic ?_
                refine wp_region_held_drew (S := fun W => W.cell? ⟨T7, 0, none⟩ = some (.string t.s.name) ∧ W.cell? ⟨T7, 1, none⟩ = some (.int .u8 t.s.kind) ∧ W.cell? ⟨T7, 2, none⟩ = some (.bool t.s.down) ∧ W.cell? ⟨T7, 3, none⟩ = some (.int .u8 1) ∧ W.cell? ⟨T7, 4, none⟩ = some (.bool t.s.bnd) ∧ W.cell? ⟨T7, 5, none⟩ = some (.bool t.s.lb) ∧ W.cell? ⟨T7, 6, none⟩ = some (.string t.s.lm) ∧ W.cell? ⟨T7, 7, none⟩ = some (.bool t.s.hb) ∧ W.cell? ⟨T7, 8, none⟩ = some (.string t.s.hm) ∧ W.cell? ⟨T7, 9, none⟩ = some (.int .i64 t.s.most) ∧ W.cell? ⟨T7, 10, none⟩ = some (.int .i64 t.s.st) ∧ W.cell? ⟨T7, 11, none⟩ = some (.bool t.s.sh) ∧ W.cell? ⟨T7, 12, none⟩ = some (.bool t.s.ba) ∧ W.cell? ⟨T7, 13, none⟩ = some (.slice aa t.fields.length cc) ∧ W.cell? ⟨T8, 3, none⟩ = some (.func (.func (wrF t.s.kind)) #[] #[])) (by kernel_rfl) (KS.out _ HC.out.drew) (fun hHeld => ?_)
                (try simp only [Act.put, List.setIfInBounds_toArray, List.set_cons_zero, List.set_cons_succ])
                refine wpAnyH_take (i := 0) (oi := ?_) (v := ?_) ?_ (by kernel_rfl) (by kernel_rfl) (by kernel_rfl) (fun _ _ _ h => h) (Or.inl ⟨?_, ?_⟩) hHeld ?_
                rotate_left 2
                · (simp only [List.getElem?_toArray, List.getElem?_cons_succ, List.getElem?_cons_zero]; rfl)
                · rfl
                · (intro w hSw; (try dsimp only at hSw); go_simp; (try with_reducible rfl))
                (try simp only [Act.put, List.setIfInBounds_toArray, List.set_cons_zero, List.set_cons_succ])
                refine wpAnyH_take (i := 2) (oi := ?_) (v := ?_) ?_ (by kernel_rfl) (by kernel_rfl) (by kernel_rfl) (fun _ _ _ h => h) (Or.inl ⟨?_, ?_⟩) hHeld ?_
                rotate_left 2
                · (simp only [List.getElem?_toArray, List.getElem?_cons_succ, List.getElem?_cons_zero]; rfl)
                · rfl
                · (intro w hSw; (try dsimp only at hSw); go_simp; (try with_reducible rfl))
                (try simp only [Act.put, List.setIfInBounds_toArray, List.set_cons_zero, List.set_cons_succ])
                refine wpAnyH_take (i := 3) (oi := ?_) (v := ?_) ?_ (by kernel_rfl) (by kernel_rfl) (by kernel_rfl) (fun _ _ _ h => h) (Or.inl ⟨?_, ?_⟩) hHeld ?_
                rotate_left 2
                · (simp only [List.getElem?_toArray, List.getElem?_cons_succ, List.getElem?_cons_zero]; rfl)
                · rfl
                · (intro w hSw; (try dsimp only at hSw); go_simp; (try with_reducible rfl))
                (try simp only [Act.put, List.setIfInBounds_toArray, List.set_cons_zero, List.set_cons_succ])
                refine wpAnyH_take (i := 6) (oi := ?_) (v := ?_) ?_ (by kernel_rfl) (by kernel_rfl) (by kernel_rfl) (fun _ _ _ h => h) (Or.inl ⟨?_, ?_⟩) hHeld ?_
                rotate_left 2
                · (simp only [List.getElem?_toArray, List.getElem?_cons_succ, List.getElem?_cons_zero]; rfl)
                · rfl
                · (intro w hSw; (try dsimp only at hSw); go_simp; (try with_reducible rfl))
                (try simp only [Act.put, List.setIfInBounds_toArray, List.set_cons_zero, List.set_cons_succ])
                refine wpAnyH_take (i := 7) (oi := ?_) (v := ?_) ?_ (by kernel_rfl) (by kernel_rfl) (by kernel_rfl) (fun _ _ _ h => h) (Or.inl ⟨?_, ?_⟩) hHeld ?_
                rotate_left 2
                · (simp only [List.getElem?_toArray, List.getElem?_cons_succ, List.getElem?_cons_zero]; rfl)
                · rfl
                · (intro w hSw; (try dsimp only at hSw); go_simp; (try with_reducible rfl))
                (try simp only [Act.put, List.setIfInBounds_toArray, List.set_cons_zero, List.set_cons_succ])
                refine wpAnyH_take (i := 8) (oi := ?_) (v := ?_) ?_ (by kernel_rfl) (by kernel_rfl) (by kernel_rfl) (fun _ _ _ h => h) (Or.inl ⟨?_, ?_⟩) hHeld ?_
                rotate_left 2
                · (simp only [List.getElem?_toArray, List.getElem?_cons_succ, List.getElem?_cons_zero]; rfl)
                · rfl
                · (intro w hSw; (try dsimp only at hSw); go_simp; (try with_reducible rfl))
                (try simp only [Act.put, List.setIfInBounds_toArray, List.set_cons_zero, List.set_cons_succ])
                refine wpAnyH_ready (rs := [1, 9]) (by kernel_rfl) (by simp) ?_
                refine AllReadyH.cons (by rfl) (fun K hK => ?_) ?_
                case refine_1 =>
                  go_simp
                  refine hK.out _ _ (by first | exact KS.out _ HC.out | exact KS.out _ HC.out.drew | exact KS.out _ (HC.out.alloc (by omega) _) | exact KS.out _ (HC.out.drew.alloc (by simp only [World.size_drew]; omega) _) | exact KS.out _ (HC.out.alloc (by omega) _).drew) (fun hHeld1 => ?_)
                  clear hK K
                  (try simp only [Act.put, List.setIfInBounds_toArray, List.set_cons_zero, List.set_cons_succ])
                  refine wpAnyH_take (i := 4) (oi := ?_) (v := ?_) ?_ (by kernel_rfl) (by kernel_rfl) (by kernel_rfl) (fun _ _ _ h => h) (Or.inl ⟨?_, ?_⟩) hHeld1 ?_
                  rotate_left 2
                  · (simp only [List.getElem?_toArray, List.getElem?_cons_succ, List.getElem?_cons_zero]; rfl)
                  · rfl
                  · (intro w hSw; (try dsimp only at hSw); go_simp; (try with_reducible rfl))
                  (try simp only [Act.put, List.setIfInBounds_toArray, List.set_cons_zero, List.set_cons_succ])
                  refine wpAnyH_ready (rs := [5, 9]) (by kernel_rfl) (by simp) ?_
                  refine AllReadyH.cons (by rfl) (fun K hK => ?_) ?_
                  case refine_1 =>
                    go_simp
                    refine hK.out _ _ (by first | exact KS.out _ HC.out | exact KS.out _ HC.out.drew | exact KS.out _ (HC.out.alloc (by omega) _) | exact KS.out _ (HC.out.drew.alloc (by simp only [World.size_drew]; omega) _) | exact KS.out _ (HC.out.alloc (by omega) _).drew) (fun hHeld2 => ?_)
                    clear hK K
                    (try simp only [Act.put, List.setIfInBounds_toArray, List.set_cons_zero, List.set_cons_succ])
                    refine wpAnyH_ready (rs := [9]) (by kernel_rfl) (by simp) ?_
                    refine AllReadyH.cons (by rfl) (fun K hK => ?_) AllReadyH.nil
                    go_simp
                    ((with_reducible refine (HTn.out _ (HBw0.out.alloc (by omega) _).drew).mono ?_); rintro e w9 ⟨rfl, hb9⟩; have yy := (hb9.cell (p := ⟨wc.heap.size, 1, none⟩) (by simp)).trans (list_cell wc _ 1); have HIc := Lib.hid ((HI.out.below (below_a1 _ _)).drew.below hb9); have HC := Lib.hid ((HC.out.alloc (by omega) _).drew.trans (hb9.mono (by simp only [World.size_alloc, World.size_drew]; omega))); have hz9 : T8 + 1 ≤ w9.heap.size := (by have := hb9.size; simp only [World.size_alloc, World.size_drew] at this; omega); clear hb9)
                    refine hK.out _ _ (by first | exact KS.out _ HC.out | exact KS.out _ HC.out.drew | exact KS.out _ (HC.out.alloc (by omega) _) | exact KS.out _ (HC.out.drew.alloc (by simp only [World.size_drew]; omega) _) | exact KS.out _ (HC.out.alloc (by omega) _).drew) (fun hHeld3 => ?_)
                    clear hK K
                    (try simp only [Act.put, List.setIfInBounds_toArray, List.set_cons_zero, List.set_cons_succ])
                    refine wpAnyH_take (i := 10) (oi := ?_) (v := ?_) ?_ (by kernel_rfl) (by kernel_rfl) (by kernel_rfl) (fun _ _ _ h => h) (Or.inl ⟨?_, ?_⟩) hHeld3 ?_
                    rotate_left 2
                    · (simp only [List.getElem?_toArray, List.getElem?_cons_succ, List.getElem?_cons_zero]; rfl)
                    · rfl
                    · (intro w hSw; (try dsimp only at hSw); go_simp; (try with_reducible rfl))
                    (try simp only [Act.put, List.setIfInBounds_toArray, List.set_cons_zero, List.set_cons_succ])
                    refine wpAnyH_take (i := 11) (oi := ?_) (v := ?_) ?_ (by kernel_rfl) (by kernel_rfl) (by kernel_rfl) (fun _ _ _ h => h) (Or.inl ⟨?_, ?_⟩) hHeld3 ?_
                    rotate_left 2
                    · (simp only [List.getElem?_toArray, List.getElem?_cons_succ, List.getElem?_cons_zero]; rfl)
                    · rfl
                    · (intro w hSw; (try dsimp only at hSw); go_simp; (try with_reducible rfl))
                    (try simp only [Act.put, List.setIfInBounds_toArray, List.set_cons_zero, List.set_cons_succ])
                    refine wpAnyH_ready (rs := [12]) (by kernel_rfl) (by simp) ?_
                    refine AllReadyH.cons (by rfl) (fun K hK => ?_) AllReadyH.nil
                    go_simp
                    (go_at_call 96; (first | rw [HSE.out] | rw [HSE2.out]); refine (wstr_any B b L2 _ _ ?hI HLen.out ?hz).mono ?_; (case hI => first | exact HIc.out | exact HIc.out.drew | exact HIc.out.below (below_a1 _ _) | exact (HIc.out.below (below_a1 _ _)).drew); (case hz => first | omega | (simp only [World.size_drew, World.size_alloc]; omega)); rintro e w7 ⟨rfl, hI7, hb7, ho7⟩; have HI7 := Lib.hid hI7; have HF7 := Lib.hid (FBox.kept (HF.out.below (B := T8 + 1) (by first | exact HC.out | exact HC.out.drew | exact HC.out.alloc (by omega) _ | exact (HC.out.alloc (by omega) _).drew | exact HC.out.drew.alloc (by simp only [World.size_drew]; omega) _) (by omega)) ho7 (by omega)); have HK7 := Lib.hid (KBox.kept (HK.out.below (B := T8 + 1) (by first | exact HC.out | exact HC.out.drew | exact HC.out.alloc (by omega) _ | exact (HC.out.alloc (by omega) _).drew | exact HC.out.drew.alloc (by simp only [World.size_drew]; omega) _) (by omega)) ho7 (by omega)); have HB7 := Lib.hid (HB.out.trans (Below.trans (Below.mono (B := T8 + 1) (by first | exact HC.out | exact HC.out.drew | exact HC.out.alloc (by omega) _ | exact (HC.out.alloc (by omega) _).drew | exact HC.out.drew.alloc (by simp only [World.size_drew]; omega) _) (by omega)) hb7)); clear hI7 hb7 ho7)
                    refine hK.out _ _ (KS7.out _ HF7.out HK7.out) (fun hHeld9 => ?_)
                    clear hK K
                    (try simp only [Act.put, List.setIfInBounds_toArray, List.set_cons_zero, List.set_cons_succ])
                    refine wpAnyH_done (by kernel_rfl) ?_ _
                    refine NoPanic.normal ?_
                    go_wp2_with fail
                    go_meet
                    exact ⟨by rw [HNW.out, ← HTL.out]; exact HI7, HF7, HB7⟩
                  case refine_2 =>
                    refine AllReadyH.cons (by rfl) (fun K hK => ?_) AllReadyH.nil
                    go_simp
                    ((with_reducible refine (HTn.out _ (HBw0.out.alloc (by omega) _).drew).mono ?_); rintro e w9 ⟨rfl, hb9⟩; have yy := (hb9.cell (p := ⟨wc.heap.size, 1, none⟩) (by simp)).trans (list_cell wc _ 1); have HIc := Lib.hid ((HI.out.below (below_a1 _ _)).drew.below hb9); have HC := Lib.hid ((HC.out.alloc (by omega) _).drew.trans (hb9.mono (by simp only [World.size_alloc, World.size_drew]; omega))); have hz9 : T8 + 1 ≤ w9.heap.size := (by have := hb9.size; simp only [World.size_alloc, World.size_drew] at this; omega); clear hb9)
                    refine hK.out _ _ (by first | exact KS.out _ HC.out | exact KS.out _ HC.out.drew | exact KS.out _ (HC.out.alloc (by omega) _) | exact KS.out _ (HC.out.drew.alloc (by simp only [World.size_drew]; omega) _) | exact KS.out _ (HC.out.alloc (by omega) _).drew) (fun hHeld2 => ?_)
                    clear hK K
                    (try simp only [Act.put, List.setIfInBounds_toArray, List.set_cons_zero, List.set_cons_succ])
                    refine wpAnyH_ready (rs := [5]) (by kernel_rfl) (by simp) ?_
                    refine AllReadyH.cons (by rfl) (fun K hK => ?_) AllReadyH.nil
                    go_simp
                    refine hK.out _ _ (by first | exact KS.out _ HC.out | exact KS.out _ HC.out.drew | exact KS.out _ (HC.out.alloc (by omega) _) | exact KS.out _ (HC.out.drew.alloc (by simp only [World.size_drew]; omega) _) | exact KS.out _ (HC.out.alloc (by omega) _).drew) (fun hHeld3 => ?_)
                    clear hK K
                    (try simp only [Act.put, List.setIfInBounds_toArray, List.set_cons_zero, List.set_cons_succ])
                    refine wpAnyH_take (i := 10) (oi := ?_) (v := ?_) ?_ (by kernel_rfl) (by kernel_rfl) (by kernel_rfl) (fun _ _ _ h => h) (Or.inl ⟨?_, ?_⟩) hHeld3 ?_
                    rotate_left 2
                    · (simp only [List.getElem?_toArray, List.getElem?_cons_succ, List.getElem?_cons_zero]; rfl)
                    · rfl
                    · (intro w hSw; (try dsimp only at hSw); go_simp; (try with_reducible rfl))
                    (try simp only [Act.put, List.setIfInBounds_toArray, List.set_cons_zero, List.set_cons_succ])
                    refine wpAnyH_take (i := 11) (oi := ?_) (v := ?_) ?_ (by kernel_rfl) (by kernel_rfl) (by kernel_rfl) (fun _ _ _ h => h) (Or.inl ⟨?_, ?_⟩) hHeld3 ?_
                    rotate_left 2
                    · (simp only [List.getElem?_toArray, List.getElem?_cons_succ, List.getElem?_cons_zero]; rfl)
                    · rfl
                    · (intro w hSw; (try dsimp only at hSw); go_simp; (try with_reducible rfl))
                    (try simp only [Act.put, List.setIfInBounds_toArray, List.set_cons_zero, List.set_cons_succ])
                    refine wpAnyH_ready (rs := [12]) (by kernel_rfl) (by simp) ?_
                    refine AllReadyH.cons (by rfl) (fun K hK => ?_) AllReadyH.nil
                    go_simp
                    (go_at_call 96; (first | rw [HSE.out] | rw [HSE2.out]); refine (wstr_any B b L2 _ _ ?hI HLen.out ?hz).mono ?_; (case hI => first | exact HIc.out | exact HIc.out.drew | exact HIc.out.below (below_a1 _ _) | exact (HIc.out.below (below_a1 _ _)).drew); (case hz => first | omega | (simp only [World.size_drew, World.size_alloc]; omega)); rintro e w7 ⟨rfl, hI7, hb7, ho7⟩; have HI7 := Lib.hid hI7; have HF7 := Lib.hid (FBox.kept (HF.out.below (B := T8 + 1) (by first | exact HC.out | exact HC.out.drew | exact HC.out.alloc (by omega) _ | exact (HC.out.alloc (by omega) _).drew | exact HC.out.drew.alloc (by simp only [World.size_drew]; omega) _) (by omega)) ho7 (by omega)); have HK7 := Lib.hid (KBox.kept (HK.out.below (B := T8 + 1) (by first | exact HC.out | exact HC.out.drew | exact HC.out.alloc (by omega) _ | exact (HC.out.alloc (by omega) _).drew | exact HC.out.drew.alloc (by simp only [World.size_drew]; omega) _) (by omega)) ho7 (by omega)); have HB7 := Lib.hid (HB.out.trans (Below.trans (Below.mono (B := T8 + 1) (by first | exact HC.out | exact HC.out.drew | exact HC.out.alloc (by omega) _ | exact (HC.out.alloc (by omega) _).drew | exact HC.out.drew.alloc (by simp only [World.size_drew]; omega) _) (by omega)) hb7)); clear hI7 hb7 ho7)
                    refine hK.out _ _ (KS7.out _ HF7.out HK7.out) (fun hHeld9 => ?_)
                    clear hK K
                    (try simp only [Act.put, List.setIfInBounds_toArray, List.set_cons_zero, List.set_cons_succ])
                    refine wpAnyH_done (by kernel_rfl) ?_ _
                    refine NoPanic.normal ?_
                    go_wp2_with fail
                    go_meet
                    exact ⟨by rw [HNW.out, ← HTL.out]; exact HI7, HF7, HB7⟩
                case refine_2 =>
                  refine AllReadyH.cons (by rfl) (fun K hK => ?_) AllReadyH.nil
                  go_simp
                  ((with_reducible refine (HTn.out _ HBw0.out.drew).mono ?_); rintro e w9 ⟨rfl, hb9⟩; have HIc := Lib.hid (HI.out.drew.below hb9); have HC := Lib.hid (HC.out.drew.trans (hb9.mono (by simp only [World.size_drew]; omega))); have hz9 : T8 + 1 ≤ w9.heap.size := (by have := hb9.size; simp only [World.size_drew] at this; omega); clear hb9)
                  refine hK.out _ _ (by first | exact KS.out _ HC.out | exact KS.out _ HC.out.drew | exact KS.out _ (HC.out.alloc (by omega) _) | exact KS.out _ (HC.out.drew.alloc (by simp only [World.size_drew]; omega) _) | exact KS.out _ (HC.out.alloc (by omega) _).drew) (fun hHeld1 => ?_)
                  clear hK K
                  (try simp only [Act.put, List.setIfInBounds_toArray, List.set_cons_zero, List.set_cons_succ])
                  refine wpAnyH_ready (rs := [1]) (by kernel_rfl) (by simp) ?_
                  refine AllReadyH.cons (by rfl) (fun K hK => ?_) AllReadyH.nil
                  go_simp
                  refine hK.out _ _ (by first | exact KS.out _ HC.out | exact KS.out _ HC.out.drew | exact KS.out _ (HC.out.alloc (by omega) _) | exact KS.out _ (HC.out.drew.alloc (by simp only [World.size_drew]; omega) _) | exact KS.out _ (HC.out.alloc (by omega) _).drew) (fun hHeld2 => ?_)
                  clear hK K
                  (try simp only [Act.put, List.setIfInBounds_toArray, List.set_cons_zero, List.set_cons_succ])
                  refine wpAnyH_take (i := 4) (oi := ?_) (v := ?_) ?_ (by kernel_rfl) (by kernel_rfl) (by kernel_rfl) (fun _ _ _ h => h) (Or.inl ⟨?_, ?_⟩) hHeld2 ?_
                  rotate_left 2
                  · (simp only [List.getElem?_toArray, List.getElem?_cons_succ, List.getElem?_cons_zero]; rfl)
                  · rfl
                  · (intro w hSw; (try dsimp only at hSw); go_simp; (try with_reducible rfl))
                  (try simp only [Act.put, List.setIfInBounds_toArray, List.set_cons_zero, List.set_cons_succ])
                  refine wpAnyH_ready (rs := [5]) (by kernel_rfl) (by simp) ?_
                  refine AllReadyH.cons (by rfl) (fun K hK => ?_) AllReadyH.nil
                  go_simp
                  refine hK.out _ _ (by first | exact KS.out _ HC.out | exact KS.out _ HC.out.drew | exact KS.out _ (HC.out.alloc (by omega) _) | exact KS.out _ (HC.out.drew.alloc (by simp only [World.size_drew]; omega) _) | exact KS.out _ (HC.out.alloc (by omega) _).drew) (fun hHeld3 => ?_)
                  clear hK K
                  (try simp only [Act.put, List.setIfInBounds_toArray, List.set_cons_zero, List.set_cons_succ])
                  refine wpAnyH_take (i := 10) (oi := ?_) (v := ?_) ?_ (by kernel_rfl) (by kernel_rfl) (by kernel_rfl) (fun _ _ _ h => h) (Or.inl ⟨?_, ?_⟩) hHeld3 ?_
                  rotate_left 2
                  · (simp only [List.getElem?_toArray, List.getElem?_cons_succ, List.getElem?_cons_zero]; rfl)
                  · rfl
                  · (intro w hSw; (try dsimp only at hSw); go_simp; (try with_reducible rfl))
                  (try simp only [Act.put, List.setIfInBounds_toArray, List.set_cons_zero, List.set_cons_succ])
                  refine wpAnyH_take (i := 11) (oi := ?_) (v := ?_) ?_ (by kernel_rfl) (by kernel_rfl) (by kernel_rfl) (fun _ _ _ h => h) (Or.inl ⟨?_, ?_⟩) hHeld3 ?_
                  rotate_left 2
                  · (simp only [List.getElem?_toArray, List.getElem?_cons_succ, List.getElem?_cons_zero]; rfl)
                  · rfl
                  · (intro w hSw; (try dsimp only at hSw); go_simp; (try with_reducible rfl))
                  (try simp only [Act.put, List.setIfInBounds_toArray, List.set_cons_zero, List.set_cons_succ])
                  refine wpAnyH_ready (rs := [12]) (by kernel_rfl) (by simp) ?_
                  refine AllReadyH.cons (by rfl) (fun K hK => ?_) AllReadyH.nil
                  go_simp
                  (go_at_call 96; (first | rw [HSE.out] | rw [HSE2.out]); refine (wstr_any B b L2 _ _ ?hI HLen.out ?hz).mono ?_; (case hI => first | exact HIc.out | exact HIc.out.drew | exact HIc.out.below (below_a1 _ _) | exact (HIc.out.below (below_a1 _ _)).drew); (case hz => first | omega | (simp only [World.size_drew, World.size_alloc]; omega)); rintro e w7 ⟨rfl, hI7, hb7, ho7⟩; have HI7 := Lib.hid hI7; have HF7 := Lib.hid (FBox.kept (HF.out.below (B := T8 + 1) (by first | exact HC.out | exact HC.out.drew | exact HC.out.alloc (by omega) _ | exact (HC.out.alloc (by omega) _).drew | exact HC.out.drew.alloc (by simp only [World.size_drew]; omega) _) (by omega)) ho7 (by omega)); have HK7 := Lib.hid (KBox.kept (HK.out.below (B := T8 + 1) (by first | exact HC.out | exact HC.out.drew | exact HC.out.alloc (by omega) _ | exact (HC.out.alloc (by omega) _).drew | exact HC.out.drew.alloc (by simp only [World.size_drew]; omega) _) (by omega)) ho7 (by omega)); have HB7 := Lib.hid (HB.out.trans (Below.trans (Below.mono (B := T8 + 1) (by first | exact HC.out | exact HC.out.drew | exact HC.out.alloc (by omega) _ | exact (HC.out.alloc (by omega) _).drew | exact HC.out.drew.alloc (by simp only [World.size_drew]; omega) _) (by omega)) hb7)); clear hI7 hb7 ho7)
                  refine hK.out _ _ (KS7.out _ HF7.out HK7.out) (fun hHeld9 => ?_)
                  clear hK K
                  (try simp only [Act.put, List.setIfInBounds_toArray, List.set_cons_zero, List.set_cons_succ])
                  refine wpAnyH_done (by kernel_rfl) ?_ _
                  refine NoPanic.normal ?_
                  go_wp2_with fail
                  go_meet
                  exact ⟨by rw [HNW.out, ← HTL.out]; exact HI7, HF7, HB7⟩
                )
            · have HTn := Lib.hid (show ∀ W, Below w0.heap.size w0 W → Calls Tryz.prog (wrF t.s.kind) #[.agg #[.string t.s.name, .int .u8 t.s.kind, .bool t.s.down, .int .u8 2, .bool t.s.bnd, .bool t.s.lb, .string t.s.lm, .bool t.s.hb, .string t.s.hm, .int .i64 t.s.most, .int .i64 t.s.st, .bool t.s.sh, .bool t.s.ba, .slice aa t.fields.length cc]] W (Ret (.string (txt TL)) W) from fun W hb => by have h9 := HT.out W hb; rw [hn] at h9; exact h9)
              have KS := Lib.hid (show ∀ W, Below (T8 + 1) wc W → W.cell? ⟨T7, 0, none⟩ = some (.string t.s.name) ∧ W.cell? ⟨T7, 1, none⟩ = some (.int .u8 t.s.kind) ∧ W.cell? ⟨T7, 2, none⟩ = some (.bool t.s.down) ∧ W.cell? ⟨T7, 3, none⟩ = some (.int .u8 2) ∧ W.cell? ⟨T7, 4, none⟩ = some (.bool t.s.bnd) ∧ W.cell? ⟨T7, 5, none⟩ = some (.bool t.s.lb) ∧ W.cell? ⟨T7, 6, none⟩ = some (.string t.s.lm) ∧ W.cell? ⟨T7, 7, none⟩ = some (.bool t.s.hb) ∧ W.cell? ⟨T7, 8, none⟩ = some (.string t.s.hm) ∧ W.cell? ⟨T7, 9, none⟩ = some (.int .i64 t.s.most) ∧ W.cell? ⟨T7, 10, none⟩ = some (.int .i64 t.s.st) ∧ W.cell? ⟨T7, 11, none⟩ = some (.bool t.s.sh) ∧ W.cell? ⟨T7, 12, none⟩ = some (.bool t.s.ba) ∧ W.cell? ⟨T7, 13, none⟩ = some (.slice aa t.fields.length cc) ∧ W.cell? ⟨T8, 3, none⟩ = some (.func (.func (wrF t.s.kind)) #[] #[]) from fun W hb => by
                obtain ⟨d0, d1, d2, d3, d4, d5, d6, d7, d8, d9, d10, d11, d12, d13⟩ := (HF.out.below hb (by omega)).cells
                obtain ⟨_, f3⟩ := (HK.out.below hb (by omega)).cells
                rw [hn] at d3
                exact ⟨d0, d1, d2, d3, d4, d5, d6, d7, d8, d9, d10, d11, d12, d13, f3⟩)
              have KS7 := Lib.hid (show ∀ W, FBox W T7 #[.string t.s.name, .int .u8 t.s.kind, .bool t.s.down, .int .u8 t.s.nulls, .bool t.s.bnd, .bool t.s.lb, .string t.s.lm, .bool t.s.hb, .string t.s.hm, .int .i64 t.s.most, .int .i64 t.s.st, .bool t.s.sh, .bool t.s.ba, .slice aa t.fields.length cc] → KBox W T8 t.s.kind → W.cell? ⟨T7, 0, none⟩ = some (.string t.s.name) ∧ W.cell? ⟨T7, 1, none⟩ = some (.int .u8 t.s.kind) ∧ W.cell? ⟨T7, 2, none⟩ = some (.bool t.s.down) ∧ W.cell? ⟨T7, 3, none⟩ = some (.int .u8 2) ∧ W.cell? ⟨T7, 4, none⟩ = some (.bool t.s.bnd) ∧ W.cell? ⟨T7, 5, none⟩ = some (.bool t.s.lb) ∧ W.cell? ⟨T7, 6, none⟩ = some (.string t.s.lm) ∧ W.cell? ⟨T7, 7, none⟩ = some (.bool t.s.hb) ∧ W.cell? ⟨T7, 8, none⟩ = some (.string t.s.hm) ∧ W.cell? ⟨T7, 9, none⟩ = some (.int .i64 t.s.most) ∧ W.cell? ⟨T7, 10, none⟩ = some (.int .i64 t.s.st) ∧ W.cell? ⟨T7, 11, none⟩ = some (.bool t.s.sh) ∧ W.cell? ⟨T7, 12, none⟩ = some (.bool t.s.ba) ∧ W.cell? ⟨T7, 13, none⟩ = some (.slice aa t.fields.length cc) ∧ W.cell? ⟨T8, 3, none⟩ = some (.func (.func (wrF t.s.kind)) #[] #[]) from fun W hf hk => by
                obtain ⟨d0, d1, d2, d3, d4, d5, d6, d7, d8, d9, d10, d11, d12, d13⟩ := hf.cells
                obtain ⟨_, f3⟩ := hk.cells
                rw [hn] at d3
                exact ⟨d0, d1, d2, d3, d4, d5, d6, d7, d8, d9, d10, d11, d12, d13, f3⟩)
              have HNW := Lib.hid (show nullW t.s.nulls = [32, 110, 117, 108, 108, 45, 108, 97, 115, 116] by rw [hn]; rfl)
              have hT8z := HK.out.lt
              clear hn HT
              rcases hwf with hwf | hwf | hwf | hwf
              all_goals as_aux_lemma => (
                rw [hwf] at HTn
                have z1 : (9223372036854775807 < 10 + (txt TL).size) = False := by rw [txt_size]; exact eq_false (by omega)
                have z1b : (9223372036854775807 < (txt TL).size) = False := by rw [txt_size]; exact eq_false (by omega)
                have z2 : (9223372036854775807 < 10 + (txt TL).size + 1) = False := by rw [txt_size]; exact eq_false (by omega)
                have z2b : (9223372036854775807 < (txt TL).size + 1) = False := by rw [txt_size]; exact eq_false (by omega)
                have HC := Lib.hid (Below.refl (T8 + 1) wc)
                have hc0 := KS.out _ HC.out
                obtain ⟨c0, c1, c2, c3, c4, c5, c6, c7, c8, c9, c10, c11, c12, c13, e3⟩ := hc0
                have HSE := Lib.hid (show (⟨#[32, 110, 117, 108, 108, 45, 108, 97, 115, 116]⟩ ++ txt TL ++ ⟨#[10]⟩ : ByteArray) = txt ([32, 110, 117, 108, 108, 45, 108, 97, 115, 116] ++ TL ++ [10]) from by rw [show (⟨#[32, 110, 117, 108, 108, 45, 108, 97, 115, 116]⟩ : ByteArray) = txt [32, 110, 117, 108, 108, 45, 108, 97, 115, 116] from rfl, show (⟨#[10]⟩ : ByteArray) = txt [10] from rfl, txt_append, txt_append])
                have HSE2 := Lib.hid (show (txt TL ++ ⟨#[10]⟩ : ByteArray) = txt ([] ++ TL ++ [10]) from by rw [show (⟨#[10]⟩ : ByteArray) = txt [10] from rfl, txt_append]; rfl)
                have HLen := Lib.hid (show L2.length + ([32, 110, 117, 108, 108, 45, 108, 97, 115, 116] ++ TL ++ [10] : List UInt8).length ≤ 1099511627776 by simp only [List.length_append, List.length_cons, List.length_nil]; omega)
                have HIc := Lib.hid (show Bld B b L2 wc from HI.out)
                refine wp_region_noPanic ?_
                refine wp_region_held_drew (S := fun W => W.cell? ⟨T7, 0, none⟩ = some (.string t.s.name) ∧ W.cell? ⟨T7, 1, none⟩ = some (.int .u8 t.s.kind) ∧ W.cell? ⟨T7, 2, none⟩ = some (.bool t.s.down) ∧ W.cell? ⟨T7, 3, none⟩ = some (.int .u8 2) ∧ W.cell? ⟨T7, 4, none⟩ = some (.bool t.s.bnd) ∧ W.cell? ⟨T7, 5, none⟩ = some (.bool t.s.lb) ∧ W.cell? ⟨T7, 6, none⟩ = some (.string t.s.lm) ∧ W.cell? ⟨T7, 7, none⟩ = some (.bool t.s.hb) ∧ W.cell? ⟨T7, 8, none⟩ = some (.string t.s.hm) ∧ W.cell? ⟨T7, 9, none⟩ = some (.int .i64 t.s.most) ∧ W.cell? ⟨T7, 10, none⟩ = some (.int .i64 t.s.st) ∧ W.cell? ⟨T7, 11, none⟩ = some (.bool t.s.sh) ∧ W.cell? ⟨T7, 12, none⟩ = some (.bool t.s.ba) ∧ W.cell? ⟨T7, 13, none⟩ = some (.slice aa t.fields.length cc) ∧ W.cell? ⟨T8, 3, none⟩ = some (.func (.func (wrF t.s.kind)) #[] #[])) (by kernel_rfl) (KS.out _ HC.out.drew) (fun hHeld => ?_)
                (try simp only [Act.put, List.setIfInBounds_toArray, List.set_cons_zero, List.set_cons_succ])
                refine wpAnyH_take (i := 0) (oi := ?_) (v := ?_) ?_ (by kernel_rfl) (by kernel_rfl) (by kernel_rfl) (fun _ _ _ h => h) (Or.inl ⟨?_, ?_⟩) hHeld ?_
                rotate_left 2
                · (simp only [List.getElem?_toArray, List.getElem?_cons_succ, List.getElem?_cons_zero]; rfl)
                · rfl
                · (intro w hSw; (try dsimp only at hSw); go_simp; (try with_reducible rfl))
                (try simp only [Act.put, List.setIfInBounds_toArray, List.set_cons_zero, List.set_cons_succ])
                refine wpAnyH_take (i := 2) (oi := ?_) (v := ?_) ?_ (by kernel_rfl) (by kernel_rfl) (by kernel_rfl) (fun _ _ _ h => h) (Or.inl ⟨?_, ?_⟩) hHeld ?_
                rotate_left 2
                · (simp only [List.getElem?_toArray, List.getElem?_cons_succ, List.getElem?_cons_zero]; rfl)
                · rfl
                · (intro w hSw; (try dsimp only at hSw); go_simp; (try with_reducible rfl))
                (try simp only [Act.put, List.setIfInBounds_toArray, List.set_cons_zero, List.set_cons_succ])
                refine wpAnyH_take (i := 3) (oi := ?_) (v := ?_) ?_ (by kernel_rfl) (by kernel_rfl) (by kernel_rfl) (fun _ _ _ h => h) (Or.inl ⟨?_, ?_⟩) hHeld ?_
                rotate_left 2
                · (simp only [List.getElem?_toArray, List.getElem?_cons_succ, List.getElem?_cons_zero]; rfl)
                · rfl
                · (intro w hSw; (try dsimp only at hSw); go_simp; (try with_reducible rfl))
                (try simp only [Act.put, List.setIfInBounds_toArray, List.set_cons_zero, List.set_cons_succ])
                refine wpAnyH_take (i := 6) (oi := ?_) (v := ?_) ?_ (by kernel_rfl) (by kernel_rfl) (by kernel_rfl) (fun _ _ _ h => h) (Or.inl ⟨?_, ?_⟩) hHeld ?_
                rotate_left 2
                · (simp only [List.getElem?_toArray, List.getElem?_cons_succ, List.getElem?_cons_zero]; rfl)
                · rfl
                · (intro w hSw; (try dsimp only at hSw); go_simp; (try with_reducible rfl))
                (try simp only [Act.put, List.setIfInBounds_toArray, List.set_cons_zero, List.set_cons_succ])
                refine wpAnyH_take (i := 7) (oi := ?_) (v := ?_) ?_ (by kernel_rfl) (by kernel_rfl) (by kernel_rfl) (fun _ _ _ h => h) (Or.inl ⟨?_, ?_⟩) hHeld ?_
                rotate_left 2
                · (simp only [List.getElem?_toArray, List.getElem?_cons_succ, List.getElem?_cons_zero]; rfl)
                · rfl
                · (intro w hSw; (try dsimp only at hSw); go_simp; (try with_reducible rfl))
                (try simp only [Act.put, List.setIfInBounds_toArray, List.set_cons_zero, List.set_cons_succ])
                refine wpAnyH_take (i := 8) (oi := ?_) (v := ?_) ?_ (by kernel_rfl) (by kernel_rfl) (by kernel_rfl) (fun _ _ _ h => h) (Or.inl ⟨?_, ?_⟩) hHeld ?_
                rotate_left 2
                · (simp only [List.getElem?_toArray, List.getElem?_cons_succ, List.getElem?_cons_zero]; rfl)
                · rfl
                · (intro w hSw; (try dsimp only at hSw); go_simp; (try with_reducible rfl))
                (try simp only [Act.put, List.setIfInBounds_toArray, List.set_cons_zero, List.set_cons_succ])
                refine wpAnyH_ready (rs := [1, 9]) (by kernel_rfl) (by simp) ?_
                refine AllReadyH.cons (by rfl) (fun K hK => ?_) ?_
                case refine_1 =>
                  go_simp
                  refine hK.out _ _ (by first | exact KS.out _ HC.out | exact KS.out _ HC.out.drew | exact KS.out _ (HC.out.alloc (by omega) _) | exact KS.out _ (HC.out.drew.alloc (by simp only [World.size_drew]; omega) _) | exact KS.out _ (HC.out.alloc (by omega) _).drew) (fun hHeld1 => ?_)
                  clear hK K
                  (try simp only [Act.put, List.setIfInBounds_toArray, List.set_cons_zero, List.set_cons_succ])
                  refine wpAnyH_take (i := 4) (oi := ?_) (v := ?_) ?_ (by kernel_rfl) (by kernel_rfl) (by kernel_rfl) (fun _ _ _ h => h) (Or.inl ⟨?_, ?_⟩) hHeld1 ?_
                  rotate_left 2
                  · (simp only [List.getElem?_toArray, List.getElem?_cons_succ, List.getElem?_cons_zero]; rfl)
                  · rfl
                  · (intro w hSw; (try dsimp only at hSw); go_simp; (try with_reducible rfl))
                  (try simp only [Act.put, List.setIfInBounds_toArray, List.set_cons_zero, List.set_cons_succ])
                  refine wpAnyH_ready (rs := [5, 9]) (by kernel_rfl) (by simp) ?_
                  refine AllReadyH.cons (by rfl) (fun K hK => ?_) ?_
                  case refine_1 =>
                    go_simp
                    refine hK.out _ _ (by first | exact KS.out _ HC.out | exact KS.out _ HC.out.drew | exact KS.out _ (HC.out.alloc (by omega) _) | exact KS.out _ (HC.out.drew.alloc (by simp only [World.size_drew]; omega) _) | exact KS.out _ (HC.out.alloc (by omega) _).drew) (fun hHeld2 => ?_)
                    clear hK K
                    (try simp only [Act.put, List.setIfInBounds_toArray, List.set_cons_zero, List.set_cons_succ])
                    refine wpAnyH_ready (rs := [9]) (by kernel_rfl) (by simp) ?_
                    refine AllReadyH.cons (by rfl) (fun K hK => ?_) AllReadyH.nil
                    go_simp
                    ((with_reducible refine (HTn.out _ (HBw0.out.alloc (by omega) _).drew).mono ?_); rintro e w9 ⟨rfl, hb9⟩; have yy := (hb9.cell (p := ⟨wc.heap.size, 2, none⟩) (by simp)).trans (list_cell wc _ 2); have HIc := Lib.hid ((HI.out.below (below_a1 _ _)).drew.below hb9); have HC := Lib.hid ((HC.out.alloc (by omega) _).drew.trans (hb9.mono (by simp only [World.size_alloc, World.size_drew]; omega))); have hz9 : T8 + 1 ≤ w9.heap.size := (by have := hb9.size; simp only [World.size_alloc, World.size_drew] at this; omega); clear hb9)
                    refine hK.out _ _ (by first | exact KS.out _ HC.out | exact KS.out _ HC.out.drew | exact KS.out _ (HC.out.alloc (by omega) _) | exact KS.out _ (HC.out.drew.alloc (by simp only [World.size_drew]; omega) _) | exact KS.out _ (HC.out.alloc (by omega) _).drew) (fun hHeld3 => ?_)
                    clear hK K
                    (try simp only [Act.put, List.setIfInBounds_toArray, List.set_cons_zero, List.set_cons_succ])
                    refine wpAnyH_take (i := 10) (oi := ?_) (v := ?_) ?_ (by kernel_rfl) (by kernel_rfl) (by kernel_rfl) (fun _ _ _ h => h) (Or.inl ⟨?_, ?_⟩) hHeld3 ?_
                    rotate_left 2
                    · (simp only [List.getElem?_toArray, List.getElem?_cons_succ, List.getElem?_cons_zero]; rfl)
                    · rfl
                    · (intro w hSw; (try dsimp only at hSw); go_simp; (try with_reducible rfl))
                    (try simp only [Act.put, List.setIfInBounds_toArray, List.set_cons_zero, List.set_cons_succ])
                    refine wpAnyH_take (i := 11) (oi := ?_) (v := ?_) ?_ (by kernel_rfl) (by kernel_rfl) (by kernel_rfl) (fun _ _ _ h => h) (Or.inl ⟨?_, ?_⟩) hHeld3 ?_
                    rotate_left 2
                    · (simp only [List.getElem?_toArray, List.getElem?_cons_succ, List.getElem?_cons_zero]; rfl)
                    · rfl
                    · (intro w hSw; (try dsimp only at hSw); go_simp; (try with_reducible rfl))
                    (try simp only [Act.put, List.setIfInBounds_toArray, List.set_cons_zero, List.set_cons_succ])
                    refine wpAnyH_ready (rs := [12]) (by kernel_rfl) (by simp) ?_
                    refine AllReadyH.cons (by rfl) (fun K hK => ?_) AllReadyH.nil
                    go_simp
                    (go_at_call 96; (first | rw [HSE.out] | rw [HSE2.out]); refine (wstr_any B b L2 _ _ ?hI HLen.out ?hz).mono ?_; (case hI => first | exact HIc.out | exact HIc.out.drew | exact HIc.out.below (below_a1 _ _) | exact (HIc.out.below (below_a1 _ _)).drew); (case hz => first | omega | (simp only [World.size_drew, World.size_alloc]; omega)); rintro e w7 ⟨rfl, hI7, hb7, ho7⟩; have HI7 := Lib.hid hI7; have HF7 := Lib.hid (FBox.kept (HF.out.below (B := T8 + 1) (by first | exact HC.out | exact HC.out.drew | exact HC.out.alloc (by omega) _ | exact (HC.out.alloc (by omega) _).drew | exact HC.out.drew.alloc (by simp only [World.size_drew]; omega) _) (by omega)) ho7 (by omega)); have HK7 := Lib.hid (KBox.kept (HK.out.below (B := T8 + 1) (by first | exact HC.out | exact HC.out.drew | exact HC.out.alloc (by omega) _ | exact (HC.out.alloc (by omega) _).drew | exact HC.out.drew.alloc (by simp only [World.size_drew]; omega) _) (by omega)) ho7 (by omega)); have HB7 := Lib.hid (HB.out.trans (Below.trans (Below.mono (B := T8 + 1) (by first | exact HC.out | exact HC.out.drew | exact HC.out.alloc (by omega) _ | exact (HC.out.alloc (by omega) _).drew | exact HC.out.drew.alloc (by simp only [World.size_drew]; omega) _) (by omega)) hb7)); clear hI7 hb7 ho7)
                    refine hK.out _ _ (KS7.out _ HF7.out HK7.out) (fun hHeld9 => ?_)
                    clear hK K
                    (try simp only [Act.put, List.setIfInBounds_toArray, List.set_cons_zero, List.set_cons_succ])
                    refine wpAnyH_done (by kernel_rfl) ?_ _
                    refine NoPanic.normal ?_
                    go_wp2_with fail
                    go_meet
                    exact ⟨by rw [HNW.out, ← HTL.out]; exact HI7, HF7, HB7⟩
                  case refine_2 =>
                    refine AllReadyH.cons (by rfl) (fun K hK => ?_) AllReadyH.nil
                    go_simp
                    ((with_reducible refine (HTn.out _ (HBw0.out.alloc (by omega) _).drew).mono ?_); rintro e w9 ⟨rfl, hb9⟩; have yy := (hb9.cell (p := ⟨wc.heap.size, 2, none⟩) (by simp)).trans (list_cell wc _ 2); have HIc := Lib.hid ((HI.out.below (below_a1 _ _)).drew.below hb9); have HC := Lib.hid ((HC.out.alloc (by omega) _).drew.trans (hb9.mono (by simp only [World.size_alloc, World.size_drew]; omega))); have hz9 : T8 + 1 ≤ w9.heap.size := (by have := hb9.size; simp only [World.size_alloc, World.size_drew] at this; omega); clear hb9)
                    refine hK.out _ _ (by first | exact KS.out _ HC.out | exact KS.out _ HC.out.drew | exact KS.out _ (HC.out.alloc (by omega) _) | exact KS.out _ (HC.out.drew.alloc (by simp only [World.size_drew]; omega) _) | exact KS.out _ (HC.out.alloc (by omega) _).drew) (fun hHeld2 => ?_)
                    clear hK K
                    (try simp only [Act.put, List.setIfInBounds_toArray, List.set_cons_zero, List.set_cons_succ])
                    refine wpAnyH_ready (rs := [5]) (by kernel_rfl) (by simp) ?_
                    refine AllReadyH.cons (by rfl) (fun K hK => ?_) AllReadyH.nil
                    go_simp
                    refine hK.out _ _ (by first | exact KS.out _ HC.out | exact KS.out _ HC.out.drew | exact KS.out _ (HC.out.alloc (by omega) _) | exact KS.out _ (HC.out.drew.alloc (by simp only [World.size_drew]; omega) _) | exact KS.out _ (HC.out.alloc (by omega) _).drew) (fun hHeld3 => ?_)
                    clear hK K
                    (try simp only [Act.put, List.setIfInBounds_toArray, List.set_cons_zero, List.set_cons_succ])
                    refine wpAnyH_take (i := 10) (oi := ?_) (v := ?_) ?_ (by kernel_rfl) (by kernel_rfl) (by kernel_rfl) (fun _ _ _ h => h) (Or.inl ⟨?_, ?_⟩) hHeld3 ?_
                    rotate_left 2
                    · (simp only [List.getElem?_toArray, List.getElem?_cons_succ, List.getElem?_cons_zero]; rfl)
                    · rfl
                    · (intro w hSw; (try dsimp only at hSw); go_simp; (try with_reducible rfl))
                    (try simp only [Act.put, List.setIfInBounds_toArray, List.set_cons_zero, List.set_cons_succ])
                    refine wpAnyH_take (i := 11) (oi := ?_) (v := ?_) ?_ (by kernel_rfl) (by kernel_rfl) (by kernel_rfl) (fun _ _ _ h => h) (Or.inl ⟨?_, ?_⟩) hHeld3 ?_
                    rotate_left 2
                    · (simp only [List.getElem?_toArray, List.getElem?_cons_succ, List.getElem?_cons_zero]; rfl)
                    · rfl
                    · (intro w hSw; (try dsimp only at hSw); go_simp; (try with_reducible rfl))
                    (try simp only [Act.put, List.setIfInBounds_toArray, List.set_cons_zero, List.set_cons_succ])
                    refine wpAnyH_ready (rs := [12]) (by kernel_rfl) (by simp) ?_
                    refine AllReadyH.cons (by rfl) (fun K hK => ?_) AllReadyH.nil
                    go_simp
                    (go_at_call 96; (first | rw [HSE.out] | rw [HSE2.out]); refine (wstr_any B b L2 _ _ ?hI HLen.out ?hz).mono ?_; (case hI => first | exact HIc.out | exact HIc.out.drew | exact HIc.out.below (below_a1 _ _) | exact (HIc.out.below (below_a1 _ _)).drew); (case hz => first | omega | (simp only [World.size_drew, World.size_alloc]; omega)); rintro e w7 ⟨rfl, hI7, hb7, ho7⟩; have HI7 := Lib.hid hI7; have HF7 := Lib.hid (FBox.kept (HF.out.below (B := T8 + 1) (by first | exact HC.out | exact HC.out.drew | exact HC.out.alloc (by omega) _ | exact (HC.out.alloc (by omega) _).drew | exact HC.out.drew.alloc (by simp only [World.size_drew]; omega) _) (by omega)) ho7 (by omega)); have HK7 := Lib.hid (KBox.kept (HK.out.below (B := T8 + 1) (by first | exact HC.out | exact HC.out.drew | exact HC.out.alloc (by omega) _ | exact (HC.out.alloc (by omega) _).drew | exact HC.out.drew.alloc (by simp only [World.size_drew]; omega) _) (by omega)) ho7 (by omega)); have HB7 := Lib.hid (HB.out.trans (Below.trans (Below.mono (B := T8 + 1) (by first | exact HC.out | exact HC.out.drew | exact HC.out.alloc (by omega) _ | exact (HC.out.alloc (by omega) _).drew | exact HC.out.drew.alloc (by simp only [World.size_drew]; omega) _) (by omega)) hb7)); clear hI7 hb7 ho7)
                    refine hK.out _ _ (KS7.out _ HF7.out HK7.out) (fun hHeld9 => ?_)
                    clear hK K
                    (try simp only [Act.put, List.setIfInBounds_toArray, List.set_cons_zero, List.set_cons_succ])
                    refine wpAnyH_done (by kernel_rfl) ?_ _
                    refine NoPanic.normal ?_
                    go_wp2_with fail
                    go_meet
                    exact ⟨by rw [HNW.out, ← HTL.out]; exact HI7, HF7, HB7⟩
                case refine_2 =>
                  refine AllReadyH.cons (by rfl) (fun K hK => ?_) AllReadyH.nil
                  go_simp
                  ((with_reducible refine (HTn.out _ HBw0.out.drew).mono ?_); rintro e w9 ⟨rfl, hb9⟩; have HIc := Lib.hid (HI.out.drew.below hb9); have HC := Lib.hid (HC.out.drew.trans (hb9.mono (by simp only [World.size_drew]; omega))); have hz9 : T8 + 1 ≤ w9.heap.size := (by have := hb9.size; simp only [World.size_drew] at this; omega); clear hb9)
                  refine hK.out _ _ (by first | exact KS.out _ HC.out | exact KS.out _ HC.out.drew | exact KS.out _ (HC.out.alloc (by omega) _) | exact KS.out _ (HC.out.drew.alloc (by simp only [World.size_drew]; omega) _) | exact KS.out _ (HC.out.alloc (by omega) _).drew) (fun hHeld1 => ?_)
                  clear hK K
                  (try simp only [Act.put, List.setIfInBounds_toArray, List.set_cons_zero, List.set_cons_succ])
                  refine wpAnyH_ready (rs := [1]) (by kernel_rfl) (by simp) ?_
                  refine AllReadyH.cons (by rfl) (fun K hK => ?_) AllReadyH.nil
                  go_simp
                  refine hK.out _ _ (by first | exact KS.out _ HC.out | exact KS.out _ HC.out.drew | exact KS.out _ (HC.out.alloc (by omega) _) | exact KS.out _ (HC.out.drew.alloc (by simp only [World.size_drew]; omega) _) | exact KS.out _ (HC.out.alloc (by omega) _).drew) (fun hHeld2 => ?_)
                  clear hK K
                  (try simp only [Act.put, List.setIfInBounds_toArray, List.set_cons_zero, List.set_cons_succ])
                  refine wpAnyH_take (i := 4) (oi := ?_) (v := ?_) ?_ (by kernel_rfl) (by kernel_rfl) (by kernel_rfl) (fun _ _ _ h => h) (Or.inl ⟨?_, ?_⟩) hHeld2 ?_
                  rotate_left 2
                  · (simp only [List.getElem?_toArray, List.getElem?_cons_succ, List.getElem?_cons_zero]; rfl)
                  · rfl
                  · (intro w hSw; (try dsimp only at hSw); go_simp; (try with_reducible rfl))
                  (try simp only [Act.put, List.setIfInBounds_toArray, List.set_cons_zero, List.set_cons_succ])
                  refine wpAnyH_ready (rs := [5]) (by kernel_rfl) (by simp) ?_
                  refine AllReadyH.cons (by rfl) (fun K hK => ?_) AllReadyH.nil
                  go_simp
                  refine hK.out _ _ (by first | exact KS.out _ HC.out | exact KS.out _ HC.out.drew | exact KS.out _ (HC.out.alloc (by omega) _) | exact KS.out _ (HC.out.drew.alloc (by simp only [World.size_drew]; omega) _) | exact KS.out _ (HC.out.alloc (by omega) _).drew) (fun hHeld3 => ?_)
                  clear hK K
                  (try simp only [Act.put, List.setIfInBounds_toArray, List.set_cons_zero, List.set_cons_succ])
                  refine wpAnyH_take (i := 10) (oi := ?_) (v := ?_) ?_ (by kernel_rfl) (by kernel_rfl) (by kernel_rfl) (fun _ _ _ h => h) (Or.inl ⟨?_, ?_⟩) hHeld3 ?_
                  rotate_left 2
                  · (simp only [List.getElem?_toArray, List.getElem?_cons_succ, List.getElem?_cons_zero]; rfl)
                  · rfl
                  · (intro w hSw; (try dsimp only at hSw); go_simp; (try with_reducible rfl))
                  (try simp only [Act.put, List.setIfInBounds_toArray, List.set_cons_zero, List.set_cons_succ])
                  refine wpAnyH_take (i := 11) (oi := ?_) (v := ?_) ?_ (by kernel_rfl) (by kernel_rfl) (by kernel_rfl) (fun _ _ _ h => h) (Or.inl ⟨?_, ?_⟩) hHeld3 ?_
                  rotate_left 2
                  · (simp only [List.getElem?_toArray, List.getElem?_cons_succ, List.getElem?_cons_zero]; rfl)
                  · rfl
                  · (intro w hSw; (try dsimp only at hSw); go_simp; (try with_reducible rfl))
                  (try simp only [Act.put, List.setIfInBounds_toArray, List.set_cons_zero, List.set_cons_succ])
                  refine wpAnyH_ready (rs := [12]) (by kernel_rfl) (by simp) ?_
                  refine AllReadyH.cons (by rfl) (fun K hK => ?_) AllReadyH.nil
                  go_simp
                  (go_at_call 96; (first | rw [HSE.out] | rw [HSE2.out]); refine (wstr_any B b L2 _ _ ?hI HLen.out ?hz).mono ?_; (case hI => first | exact HIc.out | exact HIc.out.drew | exact HIc.out.below (below_a1 _ _) | exact (HIc.out.below (below_a1 _ _)).drew); (case hz => first | omega | (simp only [World.size_drew, World.size_alloc]; omega)); rintro e w7 ⟨rfl, hI7, hb7, ho7⟩; have HI7 := Lib.hid hI7; have HF7 := Lib.hid (FBox.kept (HF.out.below (B := T8 + 1) (by first | exact HC.out | exact HC.out.drew | exact HC.out.alloc (by omega) _ | exact (HC.out.alloc (by omega) _).drew | exact HC.out.drew.alloc (by simp only [World.size_drew]; omega) _) (by omega)) ho7 (by omega)); have HK7 := Lib.hid (KBox.kept (HK.out.below (B := T8 + 1) (by first | exact HC.out | exact HC.out.drew | exact HC.out.alloc (by omega) _ | exact (HC.out.alloc (by omega) _).drew | exact HC.out.drew.alloc (by simp only [World.size_drew]; omega) _) (by omega)) ho7 (by omega)); have HB7 := Lib.hid (HB.out.trans (Below.trans (Below.mono (B := T8 + 1) (by first | exact HC.out | exact HC.out.drew | exact HC.out.alloc (by omega) _ | exact (HC.out.alloc (by omega) _).drew | exact HC.out.drew.alloc (by simp only [World.size_drew]; omega) _) (by omega)) hb7)); clear hI7 hb7 ho7)
                  refine hK.out _ _ (KS7.out _ HF7.out HK7.out) (fun hHeld9 => ?_)
                  clear hK K
                  (try simp only [Act.put, List.setIfInBounds_toArray, List.set_cons_zero, List.set_cons_succ])
                  refine wpAnyH_done (by kernel_rfl) ?_ _
                  refine NoPanic.normal ?_
                  go_wp2_with fail
                  go_meet
                  exact ⟨by rw [HNW.out, ← HTL.out]; exact HI7, HF7, HB7⟩
                )
          case rest => as_aux_lemma =>
            clear HI HF HK HB
            obtain ⟨HI, HF, HB⟩ := hcut
            obtain ⟨c0, c1, c2, c3, c4, c5, c6, c7, c8, c9, c10, c11, c12, c13⟩ := HF.out.cells
            have hwz := HB.out.size
            obtain ⟨L3, hL3⟩ : ∃ L3, L3 = L2 ++ (nullW t.s.nulls ++ tailW t.s ++ [10]) := ⟨_, rfl⟩
            rw [← hL3] at HI
            have hl3 : L3.length ≤ 1000500000 := by rw [hL3]; simp only [List.length_append, List.length_cons, List.length_nil]; omega
            have HL3 := Lib.hid hL3
            clear hL3 c0 c2 c3 c4 c5 c6 c7 c8 c9 c10 c11 c12
            by_cases h7 : t.s.kind = 7
            · have ht7 : (((t.s.kind : Nat) : Int) == 7) = true := by rw [h7]; rfl
              have HX := Lib.hid (show L3 ++ FT.linesL (ind ++ [32, 32]) t.fields ++ (ind ++ wEnd) = L ++ FT.linesL ind (l.take (k + 1)) by
                rw [HNx.out, FT.lines_eq, if_pos h7, HL3.out, HL2.out, HL1.out]
                simp only [lineW, List.append_assoc])
              clear h7
              have hsub := lines_few1 (t := t) (ind := ind ++ [32, 32]) HFs.out (by omega) (by simp; omega)
              have hlx := congrArg List.length HX.out
              have hle := take_le ind l (k + 1)
              simp only [List.length_append] at hlx
              have hi2 : (ind ++ [32, 32] : List UInt8).length = ind.length + 2 := by simp
              have HCl := Lib.hid (HIH'.out (ind ++ [32, 32]) L3 aa cc B b wc (HB0w.out.trans (HB.out.mono hwB)) hfl hfc hwB (by omega) (FieldsAt.keep (fun p hp => (HB.out.cell hp).trans (HB1.out.cell hp).symm) _ _ HFF1.out) HFs.out (by omega) (by omega) (by omega) HI.out)
              clear hle
              obtain ⟨R, hR⟩ : ∃ R, R = FT.linesL (ind ++ [32, 32]) t.fields := ⟨_, rfl⟩
              rw [← hR] at HCl HX hsub hlx
              clear hR hi2
              have hind2 : txt ind ++ ⟨#[32, 32]⟩ = txt (ind ++ [32, 32]) := txt_append ind [32, 32]
              rw [← hind2] at HCl
              have HI2 := Lib.hid (show txt ind ++ ⟨#[101, 110, 100, 10]⟩ = txt (ind ++ wEnd) from txt_append ind wEnd)
              clear hind2
              have z4 : (9223372036854775807 < (txt ind).size + 2) = False := by rw [txt_size]; exact eq_false (by omega)
              have z5 : (9223372036854775807 < (txt ind).size + 4) = False := by rw [txt_size]; exact eq_false (by omega)
              go_wp2_with fail
              refine HCl.out.mono ?_
              rintro e w6 ⟨rfl, hI6, hb6⟩
              have hI6 := Lib.hid hI6
              have HB6 := Lib.hid (HB.out.trans hb6)
              have hwz6 := HB6.out.size
              clear hb6 c1 c13
              go_wp2_with fail
              rw [HI2.out]
              refine (wstr_any B b (L3 ++ R) (ind ++ wEnd) _ hI6.out (by simp only [List.length_append, wEnd, List.length_cons, List.length_nil]; omega) (by omega)).mono ?_
              rintro e w7 ⟨rfl, hI7, hb7, _⟩
              rw [HX.out] at hI7
              have hI7 := Lib.hid hI7
              have HB7 := Lib.hid (HB6.out.trans hb7)
              clear hb7
              go_wp2_with fail
              go_roundw
              case rel => exact ⟨k + 1, _, by go_num, by omega, Lib.hid rfl, hI7, HB7⟩
              case measure => simp [intOf]; omega
            · have ht7 : (((t.s.kind : Nat) : Int) == 7) = false := beq_eq_false_iff_ne.2 (by omega)
              have HX := Lib.hid (show L3 = L ++ FT.linesL ind (l.take (k + 1)) by
                rw [HNx.out, FT.lines_eq, if_neg h7, HL3.out, HL2.out, HL1.out]
                simp only [lineW, List.append_assoc, List.append_nil])
              clear h7
              rw [HX.out] at HI
              go_wp2_with fail
              go_roundw
              case rel => exact ⟨k + 1, _, by go_num, by omega, Lib.hid rfl, HI, HB⟩
              case measure => simp [intOf]; omega
    · obtain rfl : k = l.length := by omega
      have HX := Lib.hid (show M = FT.linesL ind l by rw [HM.out, List.take_length])
      rw [HX.out] at HI
      clear HX HM
      go_wp2_with fail
      go_returns
      exact ⟨rfl, HI.out, HB.out⟩
theorem write_any {w0 : World} (h0 : laidMetH Tryz.prog Rows.schemaChecksRow.laid w0) (l : List FT) : WriteAny w0 l := write_step h0 l (fun x hx => FT.allL (M := fun t => WriteAny w0 t.fields) (fun t h => write_step h0 t.fields h) l x hx)
end Go.Proofs.YtcjllhdbepchnaaGreatDoor
