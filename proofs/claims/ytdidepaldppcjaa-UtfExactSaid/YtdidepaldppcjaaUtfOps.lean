/-
  The script of UtfExact, opened: what each call of it says.
-/
import Derived.ProofKit
import Derived.OpenShut
import Derived.Deep.Slices
import Derived.Deep.Strs
import Derived.Test.YtdidepaldppcjaaMem
namespace Go.Proofs.Ytdidepaldppcjaa
open Go.RowKit Go.ChangeShapes Go.WideShapes Go.ChangeAt
/-- Call i of a script of so many reads so. -/
def OpsAt (w : World) (a : Option Addr) (len : Nat) (K : Nat → Int) (S : Nat → ByteArray) (L : Nat → Value) (Z : Nat → List Int) : Prop :=
  ∀ i, i < len → ∃ b o, a = some ⟨b, o, none⟩ ∧ b < w.heap.size ∧ w.cell? ⟨b, o + i * 3, none⟩ = some (.int .i64 (K i)) ∧ w.cell? ⟨b, o + i * 3 + 1, none⟩ = some (.string (S i)) ∧
    w.cell? ⟨b, o + i * 3 + 2, none⟩ = some (L i) ∧ RowAt w w.heap.size (L i) (ints (Z i)) ∧ (S i).size ≤ maxLen ∧ (Z i).length ≤ maxLen
theorem OpsAt.below {w w' : World} {a : Option Addr} {len : Nat} {K : Nat → Int} {S : Nat → ByteArray} {L : Nat → Value} {Z : Nat → List Int} (h : OpsAt w a len K S L Z) (hb : Below w.heap.size w w') : OpsAt w' a len K S L Z := by
  intro i hi
  obtain ⟨b, o, e, h0, h1, h2, h3, h4, h5, h6⟩ := h i hi
  have hz := hb.size
  exact ⟨b, o, e, by omega, (hb.cell h0).trans h1, (hb.cell h0).trans h2, (hb.cell h0).trans h3, (h4.below hb).more hz, h5, h6⟩
theorem cellsOp : Try.prog.cellsOf 27 = 3 := by kernel_rfl
theorem cellsInt : Try.prog.cellsOf 3 = 1 := by kernel_rfl
theorem cellsString : Try.prog.cellsOf 9 = 1 := by kernel_rfl
theorem cellsInts : Try.prog.cellsOf 25 = 1 := by kernel_rfl
theorem cell_plain {w : World} {p : Addr} {v : Value} (h : w.cell? p = some v) : p = ⟨p.block, p.off, none⟩ := by
  have := World.cell?_spot h
  cases p with | mk b o s => simp only at this; subst this; rfl
theorem block_lt {w : World} {p : Addr} {u : Value} (h : w.cell? p = some u) : p.block < w.heap.size := by
  unfold World.cell? at h
  split at h
  · rename_i hh; exact (Array.getElem?_eq_some_iff.1 hh).1
  · cases h
section
variable {H : Type} {enc : TypeId × Value → H}
theorem ints_of {W : World} {n : Nat} {c : Value} {y : DataW H × List MemPlace} (h : DataW.trod enc Try.prog W 0 (fun _ => true) true n 25 [c] = some y) : ∃ l : List Int, RowAt W W.heap.size c (ints l) ∧ l.length ≤ maxLen := by
  rcases open_ints Try.underlying25 Try.underlying3 cellsInt h with ⟨hcs, _⟩ | ⟨x, l, cap, zs, hcs, _, hl, hm, hz, _, hcell, hwz⟩
  · simp at hcs
    subst hcs
    exact ⟨[], RowAt.nil _ _ _, by simp⟩
  · simp at hcs hz
    subst hcs
    have hlen : (zs.take l).length = l := by rw [List.length_take]; omega
    refine ⟨zs.take l, ⟨some x, cap, by rw [ints_len, hlen], by rw [ints_len, hlen]; exact hl, fun hp => ?_⟩, by omega⟩
    rw [ints_len, hlen] at hp
    have h0 := hcell 0 (by omega)
    have e0 : x.add 0 = x := by simp [Addr.add]
    rw [e0] at h0
    have hx := cell_plain h0
    refine ⟨x.block, x.off, congrArg some hx, block_lt h0, fun i u hu => ?_⟩
    have hi : i < (zs.take l).length := by have := (List.getElem?_eq_some_iff.1 hu).1; rwa [ints_len] at this
    have hi2 : i < zs.length := by rw [List.length_take] at hi; omega
    have h1 := hcell i hi2
    rw [hx, add_plain] at h1
    rw [h1, ← hu, ints_get hi]
    simp [List.getD_eq_getElem?_getD, List.getElem?_eq_getElem hi2]
theorem op_of {W : World} {n : Nat} {cs : List Value} {y : DataW H × List MemPlace} (h : DataW.trod enc Try.prog W 0 (fun _ => true) true n 27 cs = some y) :
    ∃ (k : Int) (s : ByteArray) (c : Value) (l : List Int), cs = [.int .i64 k, .string s, c] ∧ RowAt W W.heap.size c (ints l) ∧ s.size ≤ maxLen ∧ l.length ≤ maxLen := by
  obtain ⟨y0, y1, y2, m, rfl, hlen, t0, t1, t2⟩ := Deep.trod_struct3 Try.underlying27 h
  rw [cellsOp] at hlen
  match cs, hlen with
  | [c0, c1, c2], _ =>
    simp only [cellsInt, cellsString, cellsInts, List.drop, List.take] at t0 t1 t2
    obtain ⟨k, hk, _⟩ := DataW.trod_int Try.underlying3 t0
    obtain ⟨s, hs, _, hw⟩ := DataW.trod_string Try.underlying9 t1
    obtain ⟨l, hr, hl⟩ := ints_of t2
    simp only [List.cons.injEq, and_true] at hk hs
    subst hk hs
    exact ⟨k, s, c2, l, rfl, hr, hw, hl⟩
theorem open_ops {W : World} {a : Option Addr} {len cap : Nat} {d : DataW H} {ps : List MemPlace} (h : DataW.Trod enc Try.prog W 0 (fun _ => true) true 23 (.slice a len cap) d ps) :
    len ≤ maxLen ∧ ∃ K S L Z, OpsAt W a len K S L Z := by
  obtain ⟨fuel, hf⟩ := h
  rcases Deep.open_slice Try.underlying23 hf with ⟨hc, _⟩ | ⟨x, l, c, m, n, D, Pl, hc, _, hl, hm, hmm, _, hall⟩
  · simp [Value.cells] at hc
    obtain ⟨rfl, rfl, rfl⟩ := hc
    exact ⟨by omega, fun _ => 0, fun _ => ByteArray.empty, fun _ => .slice none 0 0, fun _ => [], fun i hi => absurd hi (Nat.not_lt_zero _)⟩
  · simp [Value.cells] at hc
    obtain ⟨rfl, rfl, rfl⟩ := hc
    simp only [if_true] at hmm
    subst hmm
    refine ⟨by omega, ?_⟩
    have hall' : ∀ i, i < len → ∃ q : Int × ByteArray × Value × List Int, ∃ b o, (some x : Option Addr) = some ⟨b, o, none⟩ ∧ b < W.heap.size ∧ W.cell? ⟨b, o + i * 3, none⟩ = some (.int .i64 q.1) ∧ W.cell? ⟨b, o + i * 3 + 1, none⟩ = some (.string q.2.1) ∧
        W.cell? ⟨b, o + i * 3 + 2, none⟩ = some q.2.2.1 ∧ RowAt W W.heap.size q.2.2.1 (ints q.2.2.2) ∧ q.2.1.size ≤ maxLen ∧ q.2.2.2.length ≤ maxLen := by
      intro i hi
      have hx : x = ⟨x.block, x.off, none⟩ := by
        obtain ⟨cs', h1, h2⟩ := hall 0 (by omega)
        obtain ⟨k, s, c, z, rfl, _⟩ := op_of h2
        rw [cellsOp] at h1
        obtain ⟨_, _, hget⟩ := World.cells?_some h1
        have g0 := hget 0 (by omega)
        have e0 : (x.add (0 * 3)).add 0 = x := by simp [Addr.add]
        rw [e0, List.getElem?_cons_zero] at g0
        exact cell_plain g0
      obtain ⟨cs', h1, h2⟩ := hall i (by omega)
      obtain ⟨k, s, c, z, rfl, hr, hs, hz⟩ := op_of h2
      rw [cellsOp] at h1
      obtain ⟨_, _, hget⟩ := World.cells?_some h1
      have g0 := hget 0 (by omega)
      have g1 := hget 1 (by omega)
      have g2 := hget 2 (by omega)
      simp only [List.getElem?_cons_zero, List.getElem?_cons_succ] at g0 g1 g2
      have e0 : (x.add (i * 3)).add 0 = x.add (i * 3) := by simp [Addr.add]
      rw [e0] at g0
      have hb := block_lt g0
      obtain ⟨b, o, hxb⟩ : ∃ b o, x = ⟨b, o, none⟩ := ⟨_, _, hx⟩
      subst hxb
      rw [add_plain] at g0 g1 g2 hb
      rw [add_plain] at g1 g2
      exact ⟨(k, s, c, z), b, o, rfl, hb, g0, g1, g2, hr, hs, hz⟩
    obtain ⟨q, hq⟩ : ∃ q : Nat → Int × ByteArray × Value × List Int, ∀ i, i < len → ∃ b o, (some x : Option Addr) = some ⟨b, o, none⟩ ∧ b < W.heap.size ∧ W.cell? ⟨b, o + i * 3, none⟩ = some (.int .i64 (q i).1) ∧ W.cell? ⟨b, o + i * 3 + 1, none⟩ = some (.string (q i).2.1) ∧
        W.cell? ⟨b, o + i * 3 + 2, none⟩ = some (q i).2.2.1 ∧ RowAt W W.heap.size (q i).2.2.1 (ints (q i).2.2.2) ∧ (q i).2.1.size ≤ maxLen ∧ (q i).2.2.2.length ≤ maxLen := by
      classical
      refine ⟨fun i => if hi : i < len then Classical.choose (hall' i hi) else (0, ByteArray.empty, .slice none 0 0, []), fun i hi => ?_⟩
      simp only [dif_pos hi]
      exact Classical.choose_spec (hall' i hi)
    exact ⟨fun i => (q i).1, fun i => (q i).2.1, fun i => (q i).2.2.1, fun i => (q i).2.2.2, hq⟩
end
end Go.Proofs.Ytdidepaldppcjaa
