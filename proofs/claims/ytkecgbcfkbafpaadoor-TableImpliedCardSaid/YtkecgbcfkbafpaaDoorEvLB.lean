/-
  Strings as bytes, lengths of maps, addresses without a type: our machine's stand for the model's.
-/
import Derived.Lib.ConvBytes
import Derived.Lib.MakeNoZero
import Derived.Lib.UnsafeStr
import Derived.Lib.Builder
import Derived.Test.YtkecgbcfkbafpaaDoorEvL
namespace Go.Proofs.YtkecgbcfkbafpaaDoor.Ev
set_option linter.unusedSectionVars false
variable [Sig]
open Go.RowKit
set_option linter.unusedSimpArgs false

variable {P : Program} {w0 w : World} {E : Env} {m : Mem}

/-- A new row of bytes or the like, its capacity not known. -/
def rowMem (m : Mem) (e : TypeId) (cs : T Value) (n : Nat) : Mem := { m with H := m.H.set m.next (.cells cs n e true), next := m.next + 1 }
theorem rowMem_good (h : HR P w0 E m.H m.next w) (hlo : m.lo ≤ m.next) (hn : m.next < 1073741824) {e : TypeId} {cs : T Value} {n : Nat} {arr : Array Value} {fz : Nat × Nat} {w' : World} {s : Sem Value} (hce : P.cellsOf e = 1) (hfz : fzOK (P.cellsOf e) fz arr.size) (hna : n ≤ arr.size)
    (hcs : ∀ j v, j < n → cs.get j = some v → ∃ v', arr[j]? = some v' ∧ VR (E.more m.next w.heap.size (some (arr.size, 1))) v v')
    (hb : Below w.heap.size w w') (hnew : w'.heap[w.heap.size]? = some (.cells arr e fz)) (hrun : s.run P w = .ok (.slice (some ⟨w.heap.size, 0, none⟩) n arr.size) w') :
    Good P w0 E m w s (.slice (some ⟨m.next, 0, none⟩) n n) (rowMem m e cs n) := by
  have hnw := h.new hn (c := some (arr.size, 1)) (o := .cells cs n e true) (r := .cells arr e fz) ⟨arr, ⟨fz, e, hfz, fun _ => rfl, rfl⟩, by simp [sizeOk, Env.more, hna, hce], hcs⟩
  have hsz : w.heap.size < w'.heap.size := (Array.getElem?_eq_some_iff.1 hnew).1
  refine ⟨E.more m.next w.heap.size (some (arr.size, 1)), .slice (some ⟨w.heap.size, 0, none⟩) n arr.size, w', hrun, Env.le_more h _ _, ?_, .slice 0 n (by simp [Env.more]) (by simp [capOf, Env.more, hna]), fun i hi => by show (m.H.set m.next _).get i = _; rw [T.get_set _ _ _ hn, if_neg (by omega)], rfl, Nat.le_succ _⟩
  have hall : ∀ k o b, (m.H.set m.next (.cells cs n e true)).get k = some o → (E.more m.next w.heap.size (some (arr.size, 1))).blk k = some b → w'.heap[b]? = (w.alloc (.cells arr e fz)).heap[b]? := by
    intro k o b hk hbk
    by_cases e1 : b = w.heap.size
    · subst e1; rw [hnew, World.alloc_heap_new]
    · obtain ⟨b', r, k1, k2, _⟩ := hnw.obj hbk hk
      rw [hbk] at k1
      injection k1 with k1
      subst k1
      have hlt : b < w.heap.size := by
        have := (Array.getElem?_eq_some_iff.1 k2).1
        simp at this
        omega
      rw [hb.block b hlt, Below.heap_alloc w _ b hlt]
  exact ⟨h.below.trans ⟨hb.os, hb.tape, hb.output, hb.size, fun k hk => hb.block k (Nat.lt_of_lt_of_le hk h.below.size)⟩, fun i b hib => by
    have := hnw.dom i b hib
    simp at this
    exact ⟨this.1, fun k => ⟨(this.2 k).1, by have := (this.2 k).2; omega⟩⟩, hnw.glob, hnw.inj, hnw.ph, fun i o hi hp => by
    obtain ⟨b, r, k1, k2, k3⟩ := hnw.born i o hi hp
    exact ⟨b, r, k1, (hall i o b hi k1).trans k2, k3⟩⟩

/-- A string as a new row of bytes. -/
def exBytes (P : Program) (m : Mem) (src dst : TypeId) : Value → Option (Value × Mem)
  | .string s => match P.underlying src, P.underlying dst with
    | some .string, some (.slice e) => match P.underlying e with
      | some (.int .u8) => if m.next < 1073741824 ∧ s.size ≤ 1073741824 ∧ P.cellsOf e = 1 then
          some (.slice (some ⟨m.next, 0, none⟩) s.size s.size, rowMem m e (T.leaf.fill 0 (s.data.toList.map fun b => .int .u8 b.toNat)) s.size) else none
      | _ => none
    | _, _ => none
  | .slice (some ⟨i, o, none⟩) n c => match P.underlying src with
    | some (.slice e) => match P.underlying e, m.H.get i with
      | some (.int .u8), some (.cells _ _ el _) => if src = dst ∧ m.lo + 64 ≤ i ∧ i < 1073741824 ∧ P.cellsOf el = 1 then some (.slice (some ⟨i, o, none⟩) n c, m) else none
      | _, _ => none
    | _ => none
  | _ => none
theorem exBytes_run (h : HR P w0 E m.H m.next w) (hlo : m.lo ≤ m.next) {src dst : TypeId} {v v' u : Value} {m' : Mem} (hv : VR E v v') (he : exBytes P m src dst v = some (u, m')) : Good P w0 E m w (convert src dst v') u m' := by
  cases hv <;> try (simp [exBytes] at he; done)
  case slice i b o n c c' hb hc =>
    simp only [exBytes] at he
    split at he
    · rename_i e hs
      split at he
      · rename_i cs nb el g hu hg
        split at he
        · rename_i hcond
          obtain ⟨rfl, h64, hi, hone⟩ := hcond
          simp only [Option.some.injEq, Prod.mk.injEq] at he
          obtain ⟨rfl, rfl⟩ := he
          obtain ⟨b', r, h1, h2, arr, ⟨fz, elem', hz, hel, rfl⟩, hsz, hcell⟩ := h.obj hb hg
          obtain rfl : b = b' := by rw [hb] at h1; injection h1
          have hd := (h.dom i b hb).2 (by omega)
          have hsh : w.shape? b = some (elem', arr.size) := by simp [World.shape?, h2]
          have hfr : (w.freeze ⟨b, arr.size, none⟩ 1).heap[b]? = some (.cells arr elem' (arr.size, arr.size + 1)) := by
            simp only [World.freeze, if_neg (show ¬ (1 : Nat) = 0 by omega), Array.getElem?_modify, h2]
            rcases hz with rfl | ⟨rfl, _⟩ <;> simp
          have hother : ∀ k, k ≠ b → (w.freeze ⟨b, arr.size, none⟩ 1).heap[k]? = w.heap[k]? := fun k hk => by
            simp only [World.freeze, if_neg (show ¬ (1 : Nat) = 0 by omega), Array.getElem?_modify]
            rw [if_neg (fun e0 => hk e0.symm)]
          have hrun : (convert src src (.slice (some ⟨b, o, none⟩) n c')).run P w = .ok (.slice (some ⟨b, o, none⟩) n c') (w.freeze ⟨b, arr.size, none⟩ 1) := by
            simp [convert, run_underlying hs, run_underlying hu, markStringish, hsh, Sem.run_pure]
          have hn := h.turn hi hg hb (o' := .cells cs nb el g) (r' := .cells arr elem' (arr.size, arr.size + 1)) ⟨arr, ⟨_, elem', .inr ⟨rfl, by rw [hel (by omega)]; exact hone⟩, hel, rfl⟩, hsz, hcell⟩ (Lib.below_freeze (Below.refl _ w) hd.1 1) hfr hother
          exact ⟨E, _, _, hrun, E.le_refl, hn.congr fun j => by
            rw [T.get_set _ _ _ hi]
            split
            · rename_i e0; subst e0; exact hg
            · rfl, .slice o n hb hc, fun _ _ => rfl, rfl, Nat.le_refl _⟩
        · cases he
      · cases he
    · cases he
  rename_i s
  simp only [exBytes] at he
  split at he
  · rename_i e hs hd
    split at he
    · rename_i hu
      split at he
      · rename_i hc
        simp only [Option.some.injEq, Prod.mk.injEq] at he
        obtain ⟨rfl, rfl⟩ := he
        have hge := grownCap_ge w s.size 0 e
        have hsz : (Lib.bytesCells w e s).size = grownCap w s.size 0 e := by
          simp only [Lib.bytesCells, Array.size_append, Array.size_map, Array.size_replicate]
          have : s.data.size = s.size := rfl
          omega
        have hrun := Lib.run_convert_string_bytes (P := P) w src dst e s hs hd hu
        rw [← hsz] at hrun
        refine rowMem_good h hlo hc.1 hc.2.2 (.inr ⟨rfl, hc.2.2⟩) (by rw [hsz]; exact hge) (fun j v hj hv => ?_) ?_ (Lib.bytesWorld_at_new w e s) hrun
        · have hl : (s.data.toList.map fun b => Value.int .u8 b.toNat).length = s.size := by rw [List.length_map, Array.length_toList]; rfl
          rw [T.get_fill _ _ _ _ (by rw [hl]; omega), if_pos ⟨Nat.zero_le _, by rw [hl]; omega⟩] at hv
          simp only [Nat.sub_zero, List.getElem?_map] at hv
          cases hb : s.data.toList[j]? with
          | none => rw [hb] at hv; cases hv
          | some b =>
            rw [hb] at hv
            simp only [Option.map_some, Option.some.injEq] at hv
            subst hv
            refine ⟨_, ?_, .int _ _⟩
            rw [Lib.bytesCells, Array.getElem?_append_left (by rw [Array.size_map]; exact hj), Array.getElem?_map]
            rw [Array.getElem?_toList] at hb
            rw [hb]; rfl
        · exact ⟨rfl, rfl, rfl, by rw [Lib.bytesWorld_size]; omega, fun k hk => Lib.bytesWorld_at_old w e s k hk⟩
      · cases he
    · cases he
  · cases he

/-- How many entries a map has. -/
def exLenM (P : Program) (m : Mem) (t : TypeId) : Value → Option Value
  | .map none => match P.underlying t with
    | some (.map _ _) => some (goInt 0)
    | _ => none
  | .map (some i) => match P.underlying t, m.H.get i with
    | some (.map _ _), some (.map es _) => some (goInt es.length)
    | _, _ => none
  | _ => none
theorem exLenM_run (h : HR P w0 E m.H m.next w) {t ty : TypeId} {v v' u : Value} (hv : VR E v v') (he : exLenM P m t v = some u) : ∃ u', (Builtin.len_ #[t] ty #[v']).run P w = .ok u' w ∧ VR E u u' := by
  cases hv <;> try (simp [exLenM] at he; done)
  · simp only [exLenM] at he
    split at he
    · rename_i hu
      injection he with he
      subst he
      refine ⟨goInt 0, ?_, .int _ _⟩
      change ((underlying t >>= fun d => _) : Sem Value).run P w = _
      rw [Sem.run_bind, run_underlying hu]; rfl
    · cases he
  · rename_i i b hb
    simp only [exLenM] at he
    split at he
    · rename_i es clock hu hg
      injection he with he
      subst he
      obtain ⟨b', r, h1, h2, arr, rfl, hER⟩ := h.obj hb hg
      obtain rfl : b = b' := by rw [hb] at h1; injection h1
      refine ⟨goInt es.length, ?_, .int _ _⟩
      change ((underlying t >>= fun d => _) : Sem Value).run P w = _
      rw [Sem.run_bind, run_underlying hu]
      change ((getObj b >>= fun d => _) : Sem Value).run P w = _
      rw [Sem.run_bind, getObj_map h2]
      simp only [Result.andThen, Sem.run_pure]
      rw [← Array.length_toList, hER.len]
    · cases he

/-- The address of a slice's first element. -/
def exSData : Value → Option Value
  | .slice none _ _ => some (.pointer none)
  | .slice (some a) _ c => if c = 0 then none else some (.pointer (some a))
  | _ => none
theorem capOf_pos {i o c c' : Nat} (hc : capOf E i o c c') (h0 : c ≠ 0) : c' ≠ 0 := by
  unfold capOf at hc
  split at hc <;> omega
theorem exSData_run {ts : Array TypeId} {ty : TypeId} {v v' u : Value} (hv : VR E v v') (he : exSData v = some u) : ∃ u', (Builtin.unsafeSliceData_ ts ty #[v']).run P w = .ok u' w ∧ VR E u u' := by
  cases hv <;> try (simp [exSData] at he; done)
  · simp only [exSData, Option.some.injEq] at he
    subst he
    exact ⟨.pointer none, Lib.run_unsafeSliceData_nil w ts ty _ _, .ptr0⟩
  · rename_i i b o n c c' hb hc
    simp only [exSData] at he
    split at he
    · cases he
    · rename_i h0
      injection he with he
      subst he
      exact ⟨_, Lib.run_unsafeSliceData_row w ts ty _ n c' (capOf_pos hc h0), .ptr o hb⟩

/-- The bytes of values that are bytes. -/
def u8s : List Value → Option (List UInt8)
  | [] => some []
  | .int .u8 (.ofNat n) :: r => match u8s r with
    | some l => if n < 256 then some (UInt8.ofNat n :: l) else none
    | none => none
  | _ => none
theorem u8s_eq : ∀ (l l' : List Value) (bs : List UInt8), VRL E l l' → u8s l = some bs → l' = bs.map fun b => Value.int .u8 b.toNat := by
  intro l
  induction l with
  | nil => intro l' bs h e; cases h; simp [u8s] at e; subst e; rfl
  | cons v l ih =>
    intro l' bs h e
    cases h with
    | cons hv h =>
      cases hv <;> try (simp [u8s] at e; done)
      rename_i k n
      cases k <;> try (simp [u8s] at e; done)
      cases n <;> try (simp [u8s] at e; done)
      rename_i n
      simp only [u8s] at e
      cases hb : u8s l with
      | none => rw [hb] at e; cases e
      | some r =>
        rw [hb] at e
        simp only at e
        split at e
        · rename_i hn
          injection e with e
          subst e
          rw [List.map_cons, ih _ _ h hb]
          congr 1
          have : (UInt8.ofNat n).toNat = n := by simp [Nat.mod_eq_of_lt hn]
          rw [this]; rfl
        · cases e
/-- unsafe.String over a whole row's head; the row is forgotten. -/
def exUString (P : Program) (m : Mem) (pt : TypeId) : List Value → Option (Value × Mem)
  | [.pointer none, .int .i64 0] => some (.string .empty, m)
  | [.pointer (some ⟨i, 0, none⟩), .int .i64 (.ofNat n)] => match P.underlying pt, m.H.get i with
    | some (.pointer e), some (.cells cs nb e' _) => if e' = e ∧ P.cellsOf e = 1 ∧ n ≠ 0 ∧ n ≤ nb ∧ nb ≤ 1073741824 ∧ m.lo + 64 ≤ i ∧ i < 1073741824 then
        match cs.take 0 n with
        | some l => match u8s l with
          | some bs => some (.string ⟨bs.toArray⟩, { m with H := m.H.del i })
          | none => none
        | none => none
      else none
    | _, _ => none
  | _ => none
theorem freeze_other (w : World) (b n k : Nat) (hk : k ≠ b) : (w.freeze ⟨b, 0, none⟩ n).heap[k]? = w.heap[k]? := by
  unfold World.freeze
  split
  · rfl
  · simp only [Array.getElem?_modify]
    rw [if_neg (fun e => hk e.symm)]
theorem exUString_run (h : HR P w0 E m.H m.next w) {pt it ty : TypeId} {l l' : List Value} {u : Value} {m' : Mem} (hl : VRL E l l') (he : exUString P m pt l = some (u, m')) : Good P w0 E m w (Builtin.unsafeString_ #[pt, it] ty l'.toArray) u m' := by
  unfold exUString at he
  split at he
  · cases hl with
    | cons a hl =>
      cases hl with
      | cons b hl =>
        cases hl; cases a; cases b
        simp only [Option.some.injEq, Prod.mk.injEq] at he
        obtain ⟨rfl, rfl⟩ := he
        exact Good.same h (Lib.run_unsafeString_none w pt it ty none) (.string _)
  · rename_i i n
    cases hl with
    | cons a hl =>
      cases hl with
      | cons b hl =>
        cases hl; cases b
        cases a with
        | @ptr _ b _ hb =>
          split at he
          · rename_i e cs nb e' g hu hg
            split at he
            · rename_i hc
              obtain ⟨rfl, c1, c2, c3, c4, c5, c6⟩ := hc
              split at he
              · rename_i lc ht
                split at he
                · rename_i bs hbs
                  simp only [Option.some.injEq, Prod.mk.injEq] at he
                  obtain ⟨rfl, rfl⟩ := he
                  obtain ⟨t1, t2⟩ := T.take_spec _ _ _ _ ht
                  obtain ⟨b', r, h1, h2, arr, ⟨fz, elem', hz, hel, rfl⟩, hs, hcell⟩ := h.obj hb hg
                  obtain rfl := hel (by omega)
                  obtain rfl : b = b' := by rw [hb] at h1; injection h1
                  have hna := sizeOk_n hs
                  have hvl : ∀ (j : Nat) (v : Value), lc[j]? = some v → ∃ v', arr[j]? = some v' ∧ VR E v v' := fun j v hj => by
                    have hjn : j < n := by have := (List.getElem?_eq_some_iff.1 hj).1; omega
                    have := t2 j v hj
                    rw [Nat.zero_add] at this
                    exact hcell j v (by omega) this
                  have hVRL : VRL E lc (arr.toList.take n) := VRL.of_get (by simp; omega) fun j v hj => by
                    obtain ⟨v', k1, k2⟩ := hvl j v hj
                    have hjn : j < n := by have := (List.getElem?_eq_some_iff.1 hj).1; omega
                    exact ⟨v', by rw [List.getElem?_take_of_lt hjn, Array.getElem?_toList]; exact k1, k2⟩
                  have hbl := u8s_eq _ _ _ hVRL hbs
                  have hlen : bs.length = n := by
                    have := congrArg List.length hbl
                    simp at this
                    omega
                  have hsh : w.shape? b = some (elem', arr.size) := by simp [World.shape?, h2]
                  have hrun := Lib.run_unsafeString_row (P := P) w pt it ty elem' hu c1 b arr.size hsh bs (by intro e0; subst e0; simp at hlen; omega) (by omega) (by omega) fun j x hj => by
                    have h1 : (arr.toList.take n)[j]? = some (.int .u8 x.toNat) := by rw [hbl, List.getElem?_map, hj]; rfl
                    have hjn : j < n := by have := (List.getElem?_eq_some_iff.1 hj).1; omega
                    rw [List.getElem?_take_of_lt hjn, Array.getElem?_toList] at h1
                    rw [add_is]
                    simp [World.cell?, h2, h1]
                  rw [hlen] at hrun
                  have hd := (h.dom i b hb).2 (by omega)
                  refine ⟨E, _, _, hrun, E.le_refl, (h.forget c6).keep (Lib.below_freeze (Below.refl _ _) hd.1 n) fun j o c hj hcb => ?_, .string _, fun j hj => by show (m.H.del i).get j = _; rw [T.get_del _ _ c6, if_neg (by omega)], rfl, Nat.le_refl _⟩
                  rw [T.get_del _ _ c6] at hj
                  split at hj
                  · cases hj
                  · rename_i hji
                    exact freeze_other w b n c fun e0 => hji (h.inj j i o _ c hj hg hcb (e0 ▸ hb))
                · cases he
              · cases he
            · cases he
          · cases he
  · cases he

/-- A pointer turned into one without a type, and back. -/
def exUPtr (P : Program) (m : Mem) (src dst : TypeId) : Value → Option Value
  | .pointer (some ⟨i, o, none⟩) => match P.underlying src, P.underlying dst, m.H.get i with
    | some (.pointer t), some .unsafePointer, some (.cells _ nb _ _) => match P.info? t with
      | some j => if j.size ≠ 0 ∧ o < nb then some (.pointer (some ⟨i, o, none⟩)) else none
      | none => none
    | some .unsafePointer, some (.pointer t), some (.cells _ nb e false) => match P.info? t with
      | some _ => if 64 ≤ i ∧ liesAt P P.depth e (nb / P.cellsOf e) o t 1 = true then some (.pointer (some ⟨i, o, none⟩)) else none
      | none => none
    | _, _, _ => none
  | _ => none
theorem exUPtr_run (h : HR P w0 E m.H m.next w) {src dst : TypeId} {v v' u : Value} (hv : VR E v v') (he : exUPtr P m src dst v = some u) : ∃ u', (convert src dst v').run P w = .ok u' w ∧ VR E u u' := by
  cases hv <;> try (simp [exUPtr] at he; done)
  rename_i i b o hb
  simp only [exUPtr] at he
  split at he
  · rename_i t cs nb e g hs hd hg
    obtain ⟨b', r, h1, h2, arr, ⟨fz, elem', hz, hel, rfl⟩, hsz, hcell⟩ := h.obj hb hg
    obtain rfl : b = b' := by rw [hb] at h1; injection h1
    have hna := sizeOk_n hsz
    split at he
    · rename_i j hj
      split at he
      · rename_i hc
        injection he with he
        subst he
        exact ⟨_, Lib.run_to_unsafe w ⟨b, o, none⟩ hs hd hj hc.1 (e := elem') (cells := arr.size) (by simp [World.shape?, h2]) (by simp only; omega), .ptr o hb⟩
      · cases he
    · cases he
  · rename_i t cs nb e hs hd hg
    obtain ⟨b', r, h1, h2, arr, ⟨fz, elem', hz, hel, rfl⟩, hsz, hcell⟩ := h.obj hb hg
    obtain rfl : b = b' := by rw [hb] at h1; injection h1
    have hna : arr.size = nb := by
      unfold sizeOk at hsz
      split at hsz
      · exact hsz.1
      · simp at hsz
    split at he
    · rename_i j hj
      split at he
      · rename_i hc
        injection he with he
        subst he
        obtain rfl := hel hc.1
        exact ⟨_, Lib.run_from_unsafe w ⟨b, o, none⟩ hs hd hj (e := elem') (cells := nb) (by simp [World.shape?, h2, hna]) hc.2, .ptr o hb⟩
      · cases he
    · cases he
  · cases he
/-- One address, held against itself. -/
def exPtrNe (P : Program) (t : TypeId) : Value → Value → Option Bool
  | .pointer (some ⟨i, o, none⟩), .pointer (some ⟨j, q, none⟩) => match P.underlying t with
    | some (.pointer te) => match P.info? te with
      | some _ => if i = j ∧ o = q then some false else none
      | none => none
    | _ => none
  | _, _ => none
theorem exPtrNe_run {t : TypeId} {x x' y y' : Value} {b : Bool} (hx : VR E x x') (hy : VR E y y') (he : exPtrNe P t x y = some b) : (binOp .neq t x' y').run P w = .ok (.bool b) w ∧ ∀ xo yo, (eqGuard .neq t xo yo x' y').run P w = .ok () w := by
  cases hx <;> try (simp [exPtrNe] at he; done)
  rename_i i b1 o hb1
  cases hy <;> try (simp [exPtrNe] at he; done)
  rename_i j b2 q hb2
  simp only [exPtrNe] at he
  split at he
  · rename_i te hu
    split at he
    · rename_i info hi
      split at he
      · rename_i hc
        obtain ⟨rfl, rfl⟩ := hc
        injection he with he
        subst he
        obtain rfl : b1 = b2 := by rw [hb1] at hb2; injection hb2
        exact ⟨Lib.run_neq_ptr_same w _ hu hi, fun xo yo => by simp [eqGuard, Sem.run_pure]⟩
      · cases he
    · cases he
  · cases he
end Go.Proofs.YtkecgbcfkbafpaaDoor.Ev
