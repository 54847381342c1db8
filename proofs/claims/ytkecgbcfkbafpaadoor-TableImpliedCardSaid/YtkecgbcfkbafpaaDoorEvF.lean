/-
  Our machine's append: the memory behind it.
-/
import Derived.Test.YtkecgbcfkbafpaaDoorEvE
namespace Go.Proofs.YtkecgbcfkbafpaaDoor.Ev
set_option linter.unusedSectionVars false
variable [Sig]
open Go.RowKit

variable {P : Program} {w0 w : World} {E : Env} {H : T AObj} {next : Nat}

theorem HR.grew (h : HR P w0 E H next w) (hn : next < 1073741824) {olds olds' news news' : List Value} (ho : VRL E olds olds') (hw : VRL E news news') {elem size k C : Nat} {z : Array Value} {tr : T Value} (htr : ∀ j v, j < k * size → tr.get j = some v → (olds ++ news)[j]? = some v)
    (hl : olds.length + news.length = k * size) (hC : k ≤ C) (hz : z.size = size) (hs : 0 < size) (hce : P.cellsOf elem = size) :
    HR P w0 (E.more next w.heap.size (some (C, size))) (H.set next (.cells tr (k * size) elem true)) (next + 1)
      (w.drew.alloc (.cells (olds'.toArray ++ news'.toArray ++ Builtin.zeroCells z (C - k)) elem)) := by
  have hx := ho.append hw
  have hol := ho.len
  have hwl := hw.len
  refine HR.new (w := w.drew) h.drew hn ⟨_, ⟨_, _, .inl rfl, fun _ => rfl, rfl⟩, ?_, fun j v hj hv => ?_⟩
  · simp only [sizeOk, Env.more, if_true]
    have e1 : (olds'.toArray ++ news'.toArray ++ Builtin.zeroCells z (C - k)).size = C * size := by
      simp only [Array.size_append, List.size_toArray, Builtin.zeroCells, Array.size_map, Array.size_range, hol, hwl, hl, hz]
      rw [← Nat.add_mul]; congr 1; omega
    rw [e1]
    exact ⟨Nat.mul_le_mul_right _ hC, rfl, hs, trivial, hce⟩
  · obtain ⟨v', h1, h2⟩ := hx.get (htr j v hj hv)
    refine ⟨v', ?_, h2.mono (Env.le_more (w := w.drew) h.drew _ _)⟩
    have hj2 : j < (olds' ++ news').length := (List.getElem?_eq_some_iff.1 (by simpa using h1)).1
    rw [Array.getElem?_append_left (by simpa using hj2)]
    simpa using h1

theorem run_storeCells_fz {one : Nat} (g o : Nat) (t : TypeId) {fz : Nat × Nat} : ∀ (vs : List Value) (i : Nat) (cur : Array Value) (w : World), w.heap[g]? = some (.cells cur t fz) → fzOK one fz cur.size → o + i + vs.length ≤ cur.size → (∀ v ∈ vs, v.oneCell' = true) →
    (storeCells ⟨g, o, none⟩ vs i).run P w = .ok () (w.setRow g (cur.toList.take (o + i) ++ vs ++ cur.toList.drop (o + i + vs.length)).toArray)
  | [], i, cur, w, hg, _, _, _ => by
    simp only [storeCells, List.append_nil, List.length_nil, Nat.add_zero, List.take_append_drop, Array.toArray_toList]
    rw [setRow_self w g cur t fz hg]
    rfl
  | v :: rest, i, cur, w, hg, hz, hl, h1 => by
    have hi : o + i < cur.size := by simp at hl; omega
    have hcell : w.cell? ⟨g, o + i, none⟩ = some cur[o + i] := by simp [World.cell?, hg, hi]
    have hfro : w.frozen? ⟨g, o + i, none⟩ = false := frozen_free hg hz hi
    have hst : (store ((⟨g, o, none⟩ : Addr).add i) v).run P w = .ok () (w.setRow g (cur.setIfInBounds (o + i) v)) := by
      rw [add_is, run_store P w _ v _ (h1 v (by simp)), hcell]
      simp [hfro, setCell_eq_setRow w g (o + i) cur t fz v hg]
    have ih := run_storeCells_fz g o t rest (i + 1) (cur.setIfInBounds (o + i) v) (w.setRow g (cur.setIfInBounds (o + i) v)) (setRow_heap w g cur _ t _ hg) (by simpa using hz) (by simp at hl ⊢; omega) (fun x hx => h1 x (by simp [hx]))
    simp only [storeCells, Sem.run_bind, hst, Result.andThen_ok, ih, setRow_setRow]
    congr 3
    have e := list_seg_step cur.toList (o + i) v rest (by simp at hl ⊢; omega)
    simpa [Array.toList_setIfInBounds, Nat.add_assoc] using e
theorem HR.regrow (h : HR P w0 E H next w) (hn : next < 1073741824) {i b nb elem C s : Nat} {cs : T Value} {arr : Array Value} (hb : E.blk i = some b) (hcap : E.cap i = some (C, s)) (hg : H.get i = some (.cells cs nb elem true))
    {fz : Nat × Nat} (hr : w.heap[b]? = some (.cells arr elem fz)) (hfz : fzOK (P.cellsOf elem) fz arr.size) {news news' : List Value} (hw : VRL E news news') (hfit : nb + news.length ≤ C * s) (hL : nb + news.length ≤ 1073741824) (h64 : 64 ≤ i) (hi : i < 1073741824) :
    HR P w0 (E.more next b (some (C, s))) ((H.del i).set next (.cells (cs.fill nb news) (nb + news.length) elem true)) (next + 1)
      (w.setRow b (arr.toList.take (nb + 0) ++ news' ++ arr.toList.drop (nb + 0 + news'.length)).toArray) := by
  have hd := h.dom i b hb
  have hwl := hw.len
  obtain ⟨b', r, h1, h2, arr', ⟨fz', elem', hz', hel, rfl⟩, hs, hc⟩ := h.obj hb hg
  obtain rfl : b = b' := by rw [hb] at h1; injection h1
  obtain rfl : arr = arr' := by rw [hr] at h2; injection h2 with h2; injection h2
  simp only [sizeOk, hcap] at hs
  obtain ⟨s1, s2, s3, _, s5⟩ := hs
  have hle : E.le (E.more next b (some (C, s))) := Env.le_more h b _
  have hbk : ∀ j c, (E.more next b (some (C, s))).blk j = some c → (j = next ∧ c = b) ∨ (j ≠ next ∧ E.blk j = some c) := by
    intro j c e
    simp only [Env.more] at e
    split at e
    · injection e with e; exact .inl ⟨‹_›, e.symm⟩
    · exact .inr ⟨‹_›, e⟩
  have hget : ∀ j o, j ≠ next → ((H.del i).set next (.cells (cs.fill nb news) (nb + news.length) elem true)).get j = some o → j ≠ i ∧ H.get j = some o := by
    intro j o hj e
    rw [T.get_set _ _ _ hn, if_neg hj, T.get_del _ _ hi] at e
    split at e
    · cases e
    · exact ⟨‹_›, e⟩
  refine ⟨h.below.trans ⟨rfl, rfl, rfl, by simp, fun k hk => setRow_other w b k _ (by have := (hd.2 h64).1; omega)⟩, ?_, fun g hg => (hle.to g g (h.glob g hg)).1, ?_, fun i hi => ?_, ?_⟩
  · intro j c e
    rw [setRow_size]
    rcases hbk j c e with ⟨rfl, rfl⟩ | ⟨_, e⟩
    · exact ⟨by omega, fun _ => hd.2 h64⟩
    · have := h.dom j c e; omega
  · intro j k o1 o2 c g1 g2 e1 e2
    rcases hbk j c e1 with ⟨rfl, rfl⟩ | ⟨hj, e1'⟩ <;> rcases hbk k _ e2 with ⟨rfl, hc2⟩ | ⟨hk, e2'⟩
    · rfl
    · obtain ⟨hki, gk⟩ := hget k o2 hk g2
      exact absurd (h.inj k i _ _ _ gk hg e2' hb) hki
    · subst hc2
      obtain ⟨hji, gj⟩ := hget j o1 hj g1
      exact absurd (h.inj j i _ _ _ gj hg e1' hb) hji
    · exact h.inj j k o1 o2 c (hget j o1 hj g1).2 (hget k o2 hk g2).2 e1' e2'
  · have := h.ph i hi
    refine ⟨by omega, ?_⟩
    simp only [Env.more]
    rw [if_neg (by omega)]
    exact this.2
  · intro j o g1 hp
    by_cases hj : j = next
    · subst hj
      rw [T.get_set _ _ _ hn, if_pos rfl] at g1
      injection g1 with g1
      subst g1
      refine ⟨b, _, by simp [Env.more], setRow_heap w b arr _ elem fz hr, _, ⟨fz, elem, ?_, fun _ => rfl, rfl⟩, ?_, fun q v hq hv => ?_⟩
      · have : (arr.toList.take (nb + 0) ++ news' ++ arr.toList.drop (nb + 0 + news'.length)).toArray.size = arr.size := by
          simp only [List.size_toArray, List.length_append, List.length_take, List.length_drop, Array.length_toList]; omega
        rw [this]; exact hfz
      · simp only [sizeOk, Env.more, if_true]
        refine ⟨?_, ?_, s3, trivial, s5⟩
        · simp only [List.size_toArray, List.length_append, List.length_take, List.length_drop, Array.length_toList]; omega
        · simp only [List.size_toArray, List.length_append, List.length_take, List.length_drop, Array.length_toList]; omega
      · rw [T.get_fill _ _ _ _ (by omega)] at hv
        by_cases hqn : nb ≤ q ∧ q < nb + news.length
        · rw [if_pos hqn] at hv
          obtain ⟨v', k1, k2⟩ := hw.get hv
          refine ⟨v', ?_, k2.mono hle⟩
          rw [List.getElem?_toArray, List.getElem?_append_left (by simp; omega), List.getElem?_append_right (by simp; omega)]
          rw [List.length_take, show min (nb + 0) arr.toList.length = nb by simp; omega]
          exact k1
        · rw [if_neg hqn] at hv
          obtain ⟨v', k1, k2⟩ := hc q v (by omega) hv
          refine ⟨v', ?_, k2.mono hle⟩
          rw [List.getElem?_toArray, List.append_assoc, List.getElem?_append_left (by simp; omega), List.getElem?_take, if_pos (by omega)]
          simpa using k1
    · obtain ⟨hji, gj⟩ := hget j o hj g1
      obtain ⟨c, r, k1, k2, k3⟩ := h.born j o gj hp
      refine ⟨c, r, (hle.to j c k1).1, ?_, k3.mono hle k1⟩
      rw [setRow_other w b c _ (fun e => hji (h.inj j i _ _ c gj hg k1 (e ▸ hb)))]
      exact k2
end Go.Proofs.YtkecgbcfkbafpaaDoor.Ev
