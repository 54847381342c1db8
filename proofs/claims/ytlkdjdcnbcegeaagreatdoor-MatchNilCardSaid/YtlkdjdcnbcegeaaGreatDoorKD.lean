/-
  strconv.ParseUint(s, 16, 16), strconv.ParseInt(s, 16, 32), where the text is a number.
-/
import Derived.Test.YtlkdjdcnbcegeaaGreatDoorKC
import Derived.Test.YtlkdjdcnbcegeaaGreatDoorKA
import Derived.Lib.Join
import Derived.Below
/-! strconv.ParseUint(s, 16, 16), strconv.ParseInt(s, 16, 32), where the text is a number. -/
namespace Go.Proofs.YtlkdjdcnbcegeaaGreatDoor
open Go.RowKit Go.WideShapes Go.Lib
set_option linter.unusedVariables false
set_option linter.unusedSimpArgs false
theorem xuint16_ok {n : Nat} (t : ByteArray) (hne : t.size ≠ 0) (hmax : t.size ≤ 9223372036854775806) (h : parseX 65535 0 t.data.toList = .ok n) (w : World) :
    Calls Tryz.prog 134 #[.string t, .int .i64 16, .int .i64 16] w (Ret (.tuple #[.int .u64 n, .nilIface]) w) := by
  refine (xuint16_any t hne hmax w).mono ?_
  rintro e w' ⟨rfl, rfl⟩
  rw [h]
  exact ⟨rfl, Lib.bytesWorld_below w _ t⟩
theorem xuint32_ok {n : Nat} (t : ByteArray) (hne : t.size ≠ 0) (hmax : t.size ≤ 9223372036854775806) (h : parseX 4294967295 0 t.data.toList = .ok n) (w : World) :
    Calls Tryz.prog 134 #[.string t, .int .i64 16, .int .i64 32] w (Ret (.tuple #[.int .u64 n, .nilIface]) w) := by
  refine (xuint32_any t hne hmax w).mono ?_
  rintro e w' ⟨rfl, rfl⟩
  rw [h]
  exact ⟨rfl, Lib.bytesWorld_below w _ t⟩
set_option maxRecDepth 100000 in
/-- strconv.ParseUint(s, 16, 16), of a number. -/
theorem puint16_ok {n : Nat} (t : ByteArray) (hne : t.size ≠ 0) (hmax : t.size ≤ 9223372036854775806) (h : parseX 65535 0 t.data.toList = .ok n) (w : World) :
    Calls Tryz.prog 141 #[.string t, .int .i64 16, .int .i64 16] w (Ret (.tuple #[.int .u64 n, .nilIface]) w) := by
  have HC := Lib.hid (fun w => xuint16_ok t hne hmax h w)
  have HB := Lib.hid (Below.refl w.heap.size w)
  clear h
  go_enter Tryz.func141, Tryz.ntmps141
  go_wp2_with fail
  refine (HC.out _).mono ?_
  rintro e w2 ⟨rfl, hb2⟩
  have HB2 := Lib.hid (HB.out.trans (hb2.mono HB.out.size))
  clear hb2 HB
  go_wp2_with fail
  go_returns
  exact ⟨rfl, HB2.out⟩
set_option maxRecDepth 100000 in
/-- internal/strconv.ParseInt(s, 16, 32), of a number without a sign. -/
theorem xint32_ok {n : Nat} (t : ByteArray) (h0 : 0 < t.size) (hp : (t[0]'h0).toNat ≠ 43) (hm : (t[0]'h0).toNat ≠ 45) (hmax : t.size ≤ 9223372036854775806) (h : parseX 4294967295 0 t.data.toList = .ok n) (hn : n ≤ 2147483647) (w : World) :
    Calls Tryz.prog 115 #[.string t, .int .i64 16, .int .i64 32] w (Ret (.tuple #[.int .i64 n, .nilIface]) w) := by
  have HC := Lib.hid (fun w => xuint32_ok t (by omega) hmax h w)
  have HB := Lib.hid (Below.refl w.heap.size w)
  have hemp : t.toList.isEmpty = false := by
    rw [← decide_eq_emptyBytes]
    exact decide_eq_false (fun h => by rw [h] at h0; exact absurd h0 (by decide))
  have hpI : ¬ ((t[0]'h0).toNat : Int) = 43 := by omega
  have hmI : ¬ ((t[0]'h0).toNat : Int) = 45 := by omega
  clear h
  obtain ⟨a, ha⟩ : ∃ a : Int, a = (n : Int) := ⟨_, rfl⟩
  rw [← ha] at HC ⊢
  have a0 : 0 ≤ a := by omega
  have a1 : a < 2147483648 := by omega
  have HH := Lib.hid (And.intro ha hn)
  clear ha hn
  go_enter Tryz.func115, Tryz.ntmps115
  go_wp2_with fail
  refine (HC.out _).mono ?_
  rintro e w2 ⟨rfl, hb2⟩
  have HB2 := Lib.hid (HB.out.trans (hb2.mono HB.out.size))
  clear hb2 HB
  go_wp2_with fail
  go_returns
  exact ⟨rfl, HB2.out⟩
set_option maxRecDepth 100000 in
/-- strconv.ParseInt(s, 16, 32), of a number without a sign. -/
theorem pint32_ok {n : Nat} (t : ByteArray) (h0 : 0 < t.size) (hp : (t[0]'h0).toNat ≠ 43) (hm : (t[0]'h0).toNat ≠ 45) (hmax : t.size ≤ 9223372036854775806) (h : parseX 4294967295 0 t.data.toList = .ok n) (hn : n ≤ 2147483647) (w : World) :
    Calls Tryz.prog 87 #[.string t, .int .i64 16, .int .i64 32] w (Ret (.tuple #[.int .i64 n, .nilIface]) w) := by
  have HC := Lib.hid (fun w => xint32_ok t h0 hp hm hmax h hn w)
  have HB := Lib.hid (Below.refl w.heap.size w)
  clear h hp hm
  go_enter Tryz.func87, Tryz.ntmps87
  go_wp2_with fail
  refine (HC.out _).mono ?_
  rintro e w2 ⟨rfl, hb2⟩
  have HB2 := Lib.hid (HB.out.trans (hb2.mono HB.out.size))
  clear hb2 HB
  go_wp2_with fail
  go_returns
  exact ⟨rfl, HB2.out⟩
end Go.Proofs.YtlkdjdcnbcegeaaGreatDoor

/-! A table's entries and their text, in plain words. -/
namespace Go.Proofs.YtlkdjdcnbcegeaaGreatDoor
set_option linter.unusedVariables false
/-- An element. -/
structure EL where
  v : Bool
  p : Int
  s : Int
  t : Int
/-- An entry. -/
structure EN where
  pts : List Int
  els : List EL
def pointB (p : Int) : Bool := decide (0 ≤ p ∧ p ≤ 1114111 ∧ (p < 55296 ∨ 57343 < p))
def rightB (e : EL) : Bool := decide (0 ≤ e.p ∧ e.p ≤ 64319 ∧ 0 ≤ e.s ∧ e.s ≤ 65535 ∧ 0 ≤ e.t ∧ e.t ≤ 65535 ∧ (e.p = 0 ∨ e.s ≠ 0) ∧ (e.s = 0 ∨ e.t ≠ 0) ∧ (e.v = false ∨ e.p ≠ 0))
/-- How two rows of points stand. -/
def ahead : List Int → List Int → Int
  | [], [] => 0
  | [], _ :: _ => -1
  | _ :: _, [] => 1
  | a :: x, b :: y => if a < b then -1 else if b < a then 1 else ahead x y
theorem ahead_cases : ∀ a b, ahead a b = -1 ∨ ahead a b = 0 ∨ ahead a b = 1
  | [], [] => by simp [ahead]
  | [], _ :: _ => by simp [ahead]
  | _ :: _, [] => by simp [ahead]
  | a :: x, b :: y => by
    rw [ahead]
    split
    · exact .inl rfl
    · split
      · exact .inr (.inr rfl)
      · exact ahead_cases x y
/-- Behind a common beginning. -/
theorem ahead_drop : ∀ (k : Nat) (a b : List Int), (∀ j, j < k → ∃ v, a[j]? = some v ∧ b[j]? = some v) → ahead a b = ahead (a.drop k) (b.drop k)
  | 0, a, b, _ => rfl
  | k + 1, [], b, h => by obtain ⟨v, h1, _⟩ := h 0 (by omega); simp at h1
  | k + 1, a :: x, [], h => by obtain ⟨v, _, h1⟩ := h 0 (by omega); simp at h1
  | k + 1, a :: x, b :: y, h => by
    obtain ⟨v, h1, h2⟩ := h 0 (by omega)
    simp at h1 h2
    rw [ahead, if_neg (by omega), if_neg (by omega), List.drop_succ_cons, List.drop_succ_cons]
    exact ahead_drop k x y fun j hj => by
      obtain ⟨u, g1, g2⟩ := h (j + 1) (by omega)
      exact ⟨u, by simpa using g1, by simpa using g2⟩
def EL.text (e : EL) : List UInt8 := [91, if e.v then 42 else 46] ++ hexW e.p.toNat ++ [46] ++ hexW e.s.toNat ++ [46] ++ hexW e.t.toNat ++ [93]
def EN.text (x : EN) : List UInt8 := Lib.join (x.pts.map fun p => hexW p.toNat) [32] ++ [59] ++ (x.els.map EL.text).flatten
def EN.may (x : EN) : Bool := decide (1 ≤ x.pts.length ∧ x.pts.length ≤ 8 ∧ 1 ≤ x.els.length ∧ x.els.length ≤ 16) && x.pts.all pointB && x.els.all rightB
/-- May the entry with this number stand there? -/
def tabMay (l : List EN) (i : Nat) : Bool := match l[i]? with
  | none => true
  | some x => x.may && (decide (i = 0) || (match l[i - 1]? with
    | none => true
    | some y => decide (ahead y.pts x.pts < 0)))
def tabText (l : List EN) : List UInt8 := Lib.join (l.map EN.text) [10]
/-- What is wrong with entries' text. -/
def tabWhy (l : List EN) : Int := if 4096 < l.length then 2 else if (List.range l.length).all (tabMay l) then (if 65536 < (tabText l).length then 2 else 0) else 1
def tabOut (l : List EN) : List UInt8 := if tabWhy l = 0 then tabText l else []
theorem rightB_of {e : EL} (h : rightB e = true) : 0 ≤ e.p ∧ e.p ≤ 64319 ∧ 0 ≤ e.s ∧ e.s ≤ 65535 ∧ 0 ≤ e.t ∧ e.t ≤ 65535 := by
  unfold rightB at h
  have := of_decide_eq_true h
  exact ⟨this.1, this.2.1, this.2.2.1, this.2.2.2.1, this.2.2.2.2.1, this.2.2.2.2.2.1⟩
theorem hexW_word {n : Nat} (h : n ≤ 65535) : (hexW n).length = 4 := by
  rw [hexW_len]
  have : hexN n ≤ 4 := hexN_le (by omega) (Nat.div_eq_of_lt (by omega))
  omega
theorem elText_len {e : EL} (h : rightB e = true) : e.text.length = 17 := by
  obtain ⟨h1, h2, h3, h4, h5, h6⟩ := rightB_of h
  unfold EL.text
  simp only [List.length_append, List.length_cons, List.length_nil]
  rw [hexW_word (by omega), hexW_word (by omega), hexW_word (by omega)]
theorem join_len (sep : List UInt8) (m : Nat) : ∀ l : List (List UInt8), (∀ x ∈ l, x.length ≤ m) → (Lib.join l sep).length ≤ l.length * (m + sep.length)
  | [], _ => by simp [Lib.join_nil]
  | x :: r, h => by
    rw [Lib.join_cons, List.length_append]
    have h1 := h x (by simp)
    have h2 : (Lib.joinTail sep r).length ≤ r.length * (m + sep.length) := by
      have : ∀ r : List (List UInt8), (∀ x ∈ r, x.length ≤ m) → (Lib.joinTail sep r).length ≤ r.length * (m + sep.length) := by
        intro r
        induction r with
        | nil => intro _; simp [Lib.joinTail]
        | cons y r ih =>
          intro hr
          have g1 := ih fun x hx => hr x (by simp [hx])
          have g2 := hr y (by simp)
          simp only [Lib.joinTail, List.map_cons, List.flatten_cons, List.length_append] at g1 ⊢
          rw [List.length_cons, Nat.succ_mul]
          omega
      exact this r fun x hx => h x (by simp [hx])
    rw [List.length_cons, Nat.succ_mul]
    omega
theorem flat_len (m : Nat) : ∀ l : List (List UInt8), (∀ x ∈ l, x.length ≤ m) → l.flatten.length ≤ l.length * m
  | [], _ => by simp
  | x :: r, h => by
    have h1 := h x (by simp)
    have h2 := flat_len m r fun y hy => h y (by simp [hy])
    rw [List.flatten_cons, List.length_append, List.length_cons, Nat.succ_mul]
    omega
theorem pointB_of {p : Int} (h : pointB p = true) : 0 ≤ p ∧ p ≤ 1114111 := by
  unfold pointB at h
  have := of_decide_eq_true h
  exact ⟨this.1, this.2.1⟩
theorem enText_few {x : EN} (h : x.may = true) : x.text.length ≤ 329 := by
  unfold EN.may at h
  simp only [Bool.and_eq_true, decide_eq_true_eq, List.all_eq_true] at h
  obtain ⟨⟨⟨h1, h2, h3, h4⟩, h5⟩, h6⟩ := h
  have g1 := join_len [32] 6 (x.pts.map fun p => hexW p.toNat) fun y hy => by
    obtain ⟨p, hp, rfl⟩ := List.mem_map.1 hy
    obtain ⟨q1, q2⟩ := pointB_of (h5 p hp)
    exact hexW_few (by omega)
  have g2 := flat_len 17 (x.els.map EL.text) fun y hy => by
    obtain ⟨e, he, rfl⟩ := List.mem_map.1 hy
    exact Nat.le_of_eq (elText_len (h6 e he))
  rw [List.length_map] at g1 g2
  unfold EN.text
  simp only [List.length_append, List.length_cons, List.length_nil] at g1 ⊢
  omega
end Go.Proofs.YtlkdjdcnbcegeaaGreatDoor

/-! A table's entries in memory. -/
namespace Go.Proofs.YtlkdjdcnbcegeaaGreatDoor
open Go.RowKit Go.WideShapes
set_option linter.unusedVariables false
/-- Elements of m cells that a slice shows. -/
def RowM (w : World) (B : Nat) (v : Value) (n : Nat) (vs : List Value) : Prop :=
  ∃ A c, v = .slice A n c ∧ n ≤ c ∧ n ≤ 140737488351232 ∧ (0 < n → ∃ b o, A = some ⟨b, o, none⟩ ∧ b < B ∧ CellsAt w b o vs)
def EL.cells (e : EL) : List Value := [.bool e.v, .int .i64 e.p, .int .i64 e.s, .int .i64 e.t]
def elsCells (l : List EL) : List Value := l.flatMap EL.cells
def intCells (l : List Int) : List Value := l.map (.int .i64)
/-- Numbers that fit their kind. -/
def EL.ok (e : EL) : Prop := (-9223372036854775808 ≤ e.p ∧ e.p ≤ 9223372036854775807) ∧ (-9223372036854775808 ≤ e.s ∧ e.s ≤ 9223372036854775807) ∧ (-9223372036854775808 ≤ e.t ∧ e.t ≤ 9223372036854775807)
def ptOk (p : Int) : Prop := -9223372036854775808 ≤ p ∧ p ≤ 9223372036854775807
/-- An entry's two lists. -/
def EntAt (w : World) (B : Nat) (x : EN) (v1 v2 : Value) : Prop := RowM w B v1 x.pts.length (intCells x.pts) ∧ RowM w B v2 x.els.length (elsCells x.els)
def EntriesAt (w : World) (B : Nat) (l : List EN) (A : Option Addr) : Prop :=
  0 < l.length → ∃ b o, A = some ⟨b, o, none⟩ ∧ b < B ∧ ∀ i (h : i < l.length), ∃ v1 v2, w.cell? ⟨b, o + 2 * i, none⟩ = some v1 ∧ w.cell? ⟨b, o + 2 * i + 1, none⟩ = some v2 ∧ EntAt w B l[i] v1 v2
section
variable {w w' : World} {B B' n : Nat} {v v1 v2 : Value} {vs : List Value} {x : EN} {l : List EN} {A : Option Addr}
theorem RowM.keep (h : RowM w B v n vs) (hk : ∀ p : Addr, p.block < B → w'.cell? p = w.cell? p) : RowM w' B v n vs := by
  obtain ⟨A, c, e, h1, h2, h3⟩ := h
  refine ⟨A, c, e, h1, h2, fun h0 => ?_⟩
  obtain ⟨b, o, ea, hb, hc⟩ := h3 h0
  exact ⟨b, o, ea, hb, hc.keep fun p hp => hk p (by rw [hp]; exact hb)⟩
theorem RowM.more (h : RowM w B v n vs) (hB : B ≤ B') : RowM w B' v n vs := by
  obtain ⟨A, c, e, h1, h2, h3⟩ := h
  refine ⟨A, c, e, h1, h2, fun h0 => ?_⟩
  obtain ⟨b, o, ea, hb, hc⟩ := h3 h0
  exact ⟨b, o, ea, by omega, hc⟩
theorem RowM.below (h : RowM w B v n vs) (hb : Below B w w') : RowM w' B v n vs := h.keep fun _ hp => hb.cell hp
theorem EntAt.keep (h : EntAt w B x v1 v2) (hk : ∀ p : Addr, p.block < B → w'.cell? p = w.cell? p) : EntAt w' B x v1 v2 := ⟨h.1.keep hk, h.2.keep hk⟩
theorem EntAt.more (h : EntAt w B x v1 v2) (hB : B ≤ B') : EntAt w B' x v1 v2 := ⟨h.1.more hB, h.2.more hB⟩
theorem EntAt.below (h : EntAt w B x v1 v2) (hb : Below B w w') : EntAt w' B x v1 v2 := h.keep fun _ hp => hb.cell hp
theorem EntriesAt.keep (h : EntriesAt w B l A) (hk : ∀ p : Addr, p.block < B → w'.cell? p = w.cell? p) : EntriesAt w' B l A := fun h0 => by
  obtain ⟨b, o, ea, hb, h1⟩ := h h0
  refine ⟨b, o, ea, hb, fun i hi => ?_⟩
  obtain ⟨v1, v2, g1, g2, g3⟩ := h1 i hi
  exact ⟨v1, v2, (hk _ hb).trans g1, (hk _ hb).trans g2, g3.keep hk⟩
theorem EntriesAt.more (h : EntriesAt w B l A) (hB : B ≤ B') : EntriesAt w B' l A := fun h0 => by
  obtain ⟨b, o, ea, hb, h1⟩ := h h0
  refine ⟨b, o, ea, by omega, fun i hi => ?_⟩
  obtain ⟨v1, v2, g1, g2, g3⟩ := h1 i hi
  exact ⟨v1, v2, g1, g2, g3.more hB⟩
theorem EntriesAt.below (h : EntriesAt w B l A) (hb : Below B w w') : EntriesAt w' B l A := h.keep fun _ hp => hb.cell hp
theorem EntriesAt.get (h : EntriesAt w B l A) {i : Nat} (hi : i < l.length) : ∃ b o v1 v2, A = some ⟨b, o, none⟩ ∧ b < B ∧ w.cell? ⟨b, o + 2 * i, none⟩ = some v1 ∧ w.cell? ⟨b, o + 2 * i + 1, none⟩ = some v2 ∧ EntAt w B l[i] v1 v2 := by
  obtain ⟨b, o, ea, hb, h1⟩ := h (by omega)
  obtain ⟨v1, v2, g1, g2, g3⟩ := h1 i hi
  exact ⟨b, o, v1, v2, ea, hb, g1, g2, g3⟩
/-- A point. -/
theorem RowM.int {ps : List Int} (h : RowM w B v ps.length (intCells ps)) {k : Nat} (hk : k < ps.length) : ∃ b o c, v = .slice (some ⟨b, o, none⟩) ps.length c ∧ b < B ∧ w.cell? ⟨b, o + k, none⟩ = some (.int .i64 ps[k]) := by
  obtain ⟨A, c, e, h1, h2, h3⟩ := h
  obtain ⟨b, o, ea, hb, hc⟩ := h3 (by omega)
  exact ⟨b, o, c, by rw [e, ea], hb, hc k _ (by simp [intCells, hk])⟩
theorem elsCells_at : ∀ {l : List EL} {k j : Nat} (hk : k < l.length), j < 4 → (elsCells l)[4 * k + j]? = (l[k].cells)[j]?
  | e :: r, 0, j, hk, hj => by
    rw [elsCells, List.flatMap_cons, List.getElem?_append_left (by simp [EL.cells]; omega)]
    simp
  | e :: r, k + 1, j, hk, hj => by
    have hk' : k < r.length := by simpa using hk
    rw [elsCells, List.flatMap_cons, List.getElem?_append_right (by simp [EL.cells]; omega)]
    have : 4 * (k + 1) + j - e.cells.length = 4 * k + j := by simp [EL.cells]; omega
    rw [this]
    exact elsCells_at (l := r) hk' hj
/-- An element. -/
theorem RowM.el {es : List EL} (h : RowM w B v es.length (elsCells es)) {k : Nat} (hk : k < es.length) : ∃ b o c, v = .slice (some ⟨b, o, none⟩) es.length c ∧ b < B ∧ w.cell? ⟨b, o + k * 4, none⟩ = some (.bool es[k].v) ∧ w.cell? ⟨b, o + k * 4 + 1, none⟩ = some (.int .i64 es[k].p) ∧ w.cell? ⟨b, o + k * 4 + 2, none⟩ = some (.int .i64 es[k].s) ∧ w.cell? ⟨b, o + k * 4 + 3, none⟩ = some (.int .i64 es[k].t) := by
  obtain ⟨A, c, e, h1, h2, h3⟩ := h
  obtain ⟨b, o, ea, hb, hc⟩ := h3 (by omega)
  have h9 : ∀ j u, j < 4 → es[k].cells[j]? = some u → w.cell? ⟨b, o + k * 4 + j, none⟩ = some u := fun j u hj hu => by
    have := hc (4 * k + j) u (by rw [elsCells_at hk hj, hu])
    rwa [show o + (4 * k + j) = o + k * 4 + j by omega] at this
  exact ⟨b, o, c, by rw [e, ea], hb, h9 0 _ (by omega) rfl, h9 1 _ (by omega) rfl, h9 2 _ (by omega) rfl, h9 3 _ (by omega) rfl⟩
end
end Go.Proofs.YtlkdjdcnbcegeaaGreatDoor
