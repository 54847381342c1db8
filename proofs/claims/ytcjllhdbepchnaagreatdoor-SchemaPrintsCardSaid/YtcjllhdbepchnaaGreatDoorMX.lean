/-
  Does a field say what may not be: the program's answer.
-/
import Derived.Test.YtcjllhdbepchnaaGreatDoorMJ
import Derived.Test.YtcjllhdbepchnaaGreatDoorMR
import Derived.Test.YtcjllhdbepchnaaGreatDoorMS
import Derived.Test.YtcjllhdbepchnaaGreatDoorMT
import Derived.Test.YtcjllhdbepchnaaGreatDoorMU
import Derived.Test.YtcjllhdbepchnaaGreatDoorMV
import Derived.Test.YtcjllhdbepchnaaGreatDoorMW
import Derived.Test.YtcjllhdbepchnaaGreatDoorMG
import Derived.Test.YtcjllhdbepchnaaGreatDoorProg
import Derived.Shelf.Strings.SlTrimAscii
import Derived.KernelRfl
/-! Does a field say what may not be: the program's answer. -/
namespace Go.Proofs.YtcjllhdbepchnaaGreatDoor
open Go.RowKit Go.WideShapes
set_option linter.unusedVariables false
set_option maxRecDepth 100000 in
set_option maxHeartbeats 1000000 in
theorem oddPBad (nm : ByteArray) (k : Nat) (dn : Bool) (nl : Nat) (bd lb : Bool) (lm : ByteArray) (hb : Bool) (hm : ByteArray) (ms st : Int) (sh ba : Bool) (l : List FT) (a : Option Addr) (c : Nat) (w : World) (hok : (⟨nm, k, dn, nl, bd, lb, lm, hb, hm, ms, st, sh, ba⟩ : FS).ok) (hk : k < 1 ∨ 7 < k) :
    Calls Tryz.prog 92 #[.agg #[.string nm, .int .u8 (k : Nat), .bool dn, .int .u8 nl, .bool bd, .bool lb, .string lm, .bool hb, .string hm, .int .i64 ms, .int .i64 st, .bool sh, .bool ba, .slice a l.length c]] w (isOdd w (.mk ⟨nm, k, dn, nl, bd, lb, lm, hb, hm, ms, st, sh, ba⟩ l)) := by
  have hk2 := hok.2.1
  simp only at hk2
  clear hok
  have HE := Lib.hid (show (FT.mk ⟨nm, k, dn, nl, bd, lb, lm, hb, hm, ms, st, sh, ba⟩ l).odd = true by rcases hk with h | h <;> simp [FT.odd, FT.s, h])
  rcases hk with h | h
  · have hI : (k : Int) < 1 := by omega
    clear h
    go_enter Tryz.func92, Tryz.ntmps92
    go_wp2_with fail
    go_ret
    exact isOdd.of HE.out.symm (below_a1 _ _)
  · have hI : (7 : Int) < (k : Int) := by omega
    have hI2 : ¬ (k : Int) < 1 := by omega
    clear h
    go_enter Tryz.func92, Tryz.ntmps92
    go_wp2_with fail
    go_ret
    exact isOdd.of HE.out.symm (below_a1 _ _)
theorem odd_any (t : FT) (a : Option Addr) (c : Nat) (w : World) (hok : t.s.ok) (hl : t.fields.length ≤ 140737488351232) :
    Calls Tryz.prog 92 #[.agg (fieldCells t a c).toArray] w (isOdd w t) := by
  obtain ⟨⟨nm, k, dn, nl, bd, lb, lm, hb, hm, ms, st, sh, ba⟩, l⟩ := t
  by_cases hk : k < 1 ∨ 7 < k
  · exact oddPBad nm k dn nl bd lb lm hb hm ms st sh ba l a c w hok hk
  · have h : k = 1 ∨ k = 2 ∨ k = 3 ∨ k = 4 ∨ k = 5 ∨ k = 6 ∨ k = 7 := by omega
    rcases h with rfl | rfl | rfl | rfl | rfl | rfl | rfl
    · exact oddP1 nm dn nl bd lb lm hb hm ms st sh ba l a c w hok hl
    · exact oddP2 nm dn nl bd lb lm hb hm ms st sh ba l a c w hok hl
    · exact oddP3 nm dn nl bd lb lm hb hm ms st sh ba l a c w hok hl
    · exact oddP4 nm dn nl bd lb lm hb hm ms st sh ba l a c w hok hl
    · exact oddP5 nm dn nl bd lb lm hb hm ms st sh ba l a c w hok hl
    · exact oddP6 nm dn nl bd lb lm hb hm ms st sh ba l a c w hok hl
    · exact oddP7 nm dn nl bd lb lm hb hm ms st sh ba l a c w hok hl
end Go.Proofs.YtcjllhdbepchnaaGreatDoor

/-! What a walk through fields may tell. -/
namespace Go.Proofs.YtcjllhdbepchnaaGreatDoor
set_option linter.unusedVariables false
/-- What is told lies within bounds. -/
def Told (r : Nat × Option (Int × List Nat)) : Prop := match r.2 with
  | none => r.1 ≤ 64
  | some e => 111 ≤ e.1 ∧ e.1 ≤ 116 ∧ e.2.length ≤ 17 ∧ r.1 ≤ 65
mutual
theorem FT.walk_told (ahead : List FT) (path : List Nat) (i n : Nat) (hp : path.length ≤ 16) (hn : n ≤ 64) : ∀ t : FT, Told (FT.walk ahead path i n t)
  | .mk s l => by
    have hlen : (path ++ [i]).length ≤ 17 := by simp; omega
    unfold FT.walk
    by_cases h1 : 64 < n + 1
    · rw [if_pos h1]; exact ⟨by simp, by simp, hlen, by simp only; omega⟩
    rw [if_neg h1]
    by_cases h2 : 16 < path.length + 1
    · rw [if_pos h2]; exact ⟨by simp, by simp, hlen, by simp only; omega⟩
    rw [if_neg h2]
    split
    · exact ⟨by simp, by simp, hlen, by simp only; omega⟩
    split
    · exact ⟨by simp, by simp, hlen, by simp only; omega⟩
    split
    · exact ⟨by simp, by simp, hlen, by simp only; omega⟩
    split
    · exact ⟨by simp, by simp, hlen, by simp only; omega⟩
    exact FT.walkL_told [] (path ++ [i]) 0 (n + 1) (by simp; omega) (by omega) l
theorem FT.walkL_told (ahead : List FT) (path : List Nat) (i n : Nat) (hp : path.length ≤ 16) (hn : n ≤ 64) : ∀ l : List FT, Told (FT.walkL ahead path i n l)
  | [] => by unfold FT.walkL; exact hn
  | t :: r => by
    have h := FT.walk_told ahead path i n hp hn t
    unfold FT.walkL
    split
    · rename_i m e he; rw [he] at h; exact h
    · rename_i m he; rw [he] at h; exact FT.walkL_told (ahead ++ [t]) path (i + 1) m hp h r
end
/-- One field more. -/
theorem FT.walkL_at (path : List Nat) (n : Nat) (l : List FT) {k : Nat} (hk : k < l.length) : FT.walkL (l.take k) path k n (l.drop k) = match FT.walk (l.take k) path k n l[k] with
    | (m, some e) => (m, some e)
    | (m, none) => FT.walkL (l.take (k + 1)) path (k + 1) m (l.drop (k + 1)) := by
  rw [List.drop_eq_getElem_cons hk, FT.walkL, List.take_succ_eq_append_getElem hk]; rfl
theorem FT.walkL_end (path : List Nat) (n : Nat) (l : List FT) (k : Nat) (hk : l.length ≤ k) : FT.walkL (l.take k) path k n (l.drop k) = (n, none) := by
  rw [List.drop_eq_nil_of_le hk, FT.walkL]
theorem FT.walkL_some {path : List Nat} {n : Nat} {l : List FT} {k m : Nat} {e : Int × List Nat} (hk : k < l.length) (h : FT.walk (l.take k) path k n l[k] = (m, some e)) : FT.walkL (l.take k) path k n (l.drop k) = (m, some e) := by
  rw [FT.walkL_at path n l hk, h]
theorem FT.walkL_none {path : List Nat} {n : Nat} {l : List FT} {k m : Nat} (hk : k < l.length) (h : FT.walk (l.take k) path k n l[k] = (m, none)) : FT.walkL (l.take k) path k n (l.drop k) = FT.walkL (l.take (k + 1)) path (k + 1) m (l.drop (k + 1)) := by
  rw [FT.walkL_at path n l hk, h]
/-- A field, as it says it. -/
theorem FT.walk_eq (ahead : List FT) (path : List Nat) (i n : Nat) (t : FT) : FT.walk ahead path i n t =
    if 64 < n + 1 then (n + 1, some (116, path ++ [i]))
    else if 16 < path.length + 1 then (n + 1, some (114, path ++ [i]))
    else if !nameOk t.s.name then (n + 1, some (111, path ++ [i]))
    else if ahead.any fun x => x.s.name == t.s.name then (n + 1, some (112, path ++ [i]))
    else if t.odd then (n + 1, some (113, path ++ [i]))
    else if t.s.kind = 7 ∧ t.fields.length = 0 then (n + 1, some (115, path ++ [i]))
    else FT.walkL [] (path ++ [i]) 0 (n + 1) t.fields := by
  obtain ⟨s, l⟩ := t
  rw [FT.walk]; rfl
theorem bytes_beq (a b : ByteArray) : (a == b) = true ↔ a = b := by
  obtain ⟨a⟩ := a
  obtain ⟨b⟩ := b
  rw [ByteArray.mk.injEq]
  exact (beq_iff_eq (a := a) (b := b))
theorem any_take {l : List FT} {k : Nat} {nm : ByteArray} (hk : k ≤ l.length) : ((l.take k).any fun x => x.s.name == nm) = true ↔ ∃ (i : Nat) (hi : i < k), (l[i]'(by omega)).s.name = nm := by
  rw [List.any_eq_true]
  constructor
  · rintro ⟨x, hx, h⟩
    obtain ⟨i, hi, rfl⟩ := List.getElem_of_mem hx
    rw [List.length_take] at hi
    exact ⟨i, by omega, (bytes_beq _ _).1 (by rw [List.getElem_take] at h; exact h)⟩
  · rintro ⟨i, hi, h⟩
    exact ⟨l[i]'(by omega), by rw [List.mem_take_iff_getElem]; exact ⟨i, by omega, rfl⟩, (bytes_beq _ _).2 h⟩
end Go.Proofs.YtcjllhdbepchnaaGreatDoor

/-! One field's own faults, apart from those of the fields within it. -/
namespace Go.Proofs.YtcjllhdbepchnaaGreatDoor
set_option linter.unusedVariables false
/-- What is wrong with a field itself. -/
def stepWhy (ahead : List FT) (path : List Nat) (n : Nat) (t : FT) : Option Int :=
  if 64 < n + 1 then some 116
  else if 16 < path.length + 1 then some 114
  else if !nameOk t.s.name then some 111
  else if ahead.any fun x => x.s.name == t.s.name then some 112
  else if t.odd then some 113
  else if t.s.kind = 7 ∧ t.fields.length = 0 then some 115
  else none
theorem FT.walk_step (ahead : List FT) (path : List Nat) (i n : Nat) (t : FT) : FT.walk ahead path i n t = match stepWhy ahead path n t with
    | some c => (n + 1, some (c, path ++ [i]))
    | none => FT.walkL [] (path ++ [i]) 0 (n + 1) t.fields := by
  rw [FT.walk_eq]
  unfold stepWhy
  by_cases h1 : 64 < n + 1
  · rw [if_pos h1, if_pos h1]
  rw [if_neg h1, if_neg h1]
  by_cases h2 : 16 < path.length + 1
  · rw [if_pos h2, if_pos h2]
  rw [if_neg h2, if_neg h2]
  by_cases h3 : (!nameOk t.s.name) = true
  · rw [if_pos h3, if_pos h3]
  rw [if_neg h3, if_neg h3]
  by_cases h4 : (ahead.any fun x => x.s.name == t.s.name) = true
  · rw [if_pos h4, if_pos h4]
  rw [if_neg h4, if_neg h4]
  by_cases h5 : t.odd = true
  · rw [if_pos h5, if_pos h5]
  rw [if_neg h5, if_neg h5]
  by_cases h6 : t.s.kind = 7 ∧ t.fields.length = 0
  · rw [if_pos h6, if_pos h6]
  rw [if_neg h6, if_neg h6]
theorem stepWhy_ok {ahead : List FT} {path : List Nat} {n : Nat} {t : FT} (h : stepWhy ahead path n t = none) : n + 1 ≤ 64 ∧ path.length + 1 ≤ 16 := by
  unfold stepWhy at h
  by_cases h1 : 64 < n + 1
  · rw [if_pos h1] at h; cases h
  rw [if_neg h1] at h
  by_cases h2 : 16 < path.length + 1
  · rw [if_pos h2] at h; cases h
  omega
end Go.Proofs.YtcjllhdbepchnaaGreatDoor

/-! Where the text of strings.Trim stands in the program: the numbers of what it names. -/
namespace Go.Proofs.YtcjllhdbepchnaaGreatDoor
open Go.Shelf
def lays160_ren : Go.Shelf.Ren := ⟨fun | 160 => 111 | 232 => 128 | 231 => 127 | 227 => 129 | 234 => 131 | 233 => 130 | 236 => 133 | 235 => 132 | 228 => 157 | 271 => 160 | 151 => 159 | 197 => 158 | 120 => 180 | 152 => 179 | 260 => 178 | 137 => 194 | 119 => 195 | 224 => 169 | 225 => 168 | 217 => 167 | 266 => 189 | n => n, fun | 9 => 9 | 4 => 4 | 3 => 3 | 5 => 5 | 117 => 231 | 116 => 230 | 0 => 0 | 124 => 234 | 21 => 21 | 105 => 242 | 46 => 224 | 119 => 277 | 139 => 280 | 138 => 279 | n => n, fun | 3 => 5 | 4 => 6 | n => n⟩
theorem lays160 : Go.Proofs.Lays.n160 Tryz.prog lays160_ren := {
  mixed := by kernel_rfl
  f119 := Tryz.func195.trans (congrArg some (by kernel_rfl))
  f120 := Tryz.func180.trans (congrArg some (by kernel_rfl))
  f137 := Tryz.func194.trans (congrArg some (by kernel_rfl))
  f151 := Tryz.func159.trans (congrArg some (by kernel_rfl))
  f152 := Tryz.func179.trans (congrArg some (by kernel_rfl))
  f160 := Tryz.func111.trans (congrArg some (by kernel_rfl))
  f197 := Tryz.func158.trans (congrArg some (by kernel_rfl))
  f217 := Tryz.func167.trans (congrArg some (by kernel_rfl))
  f224 := Tryz.func169.trans (congrArg some (by kernel_rfl))
  f225 := Tryz.func168.trans (congrArg some (by kernel_rfl))
  f227 := Tryz.func129.trans (congrArg some (by kernel_rfl))
  f228 := Tryz.func157.trans (congrArg some (by kernel_rfl))
  f231 := Tryz.func127.trans (congrArg some (by kernel_rfl))
  f232 := Tryz.func128.trans (congrArg some (by kernel_rfl))
  f233 := Tryz.func130.trans (congrArg some (by kernel_rfl))
  f234 := Tryz.func131.trans (congrArg some (by kernel_rfl))
  f235 := Tryz.func132.trans (congrArg some (by kernel_rfl))
  f236 := Tryz.func133.trans (congrArg some (by kernel_rfl))
  f260 := Tryz.func178.trans (congrArg some (by kernel_rfl))
  f266 := Tryz.func189.trans (congrArg some (by kernel_rfl))
  f271 := Tryz.func160.trans (congrArg some (by kernel_rfl))
  t0 := Tryz.underlying0
  a0 := Tryz.isAgg0
  z0 := Tryz.sizeOf0
  v0 := Tryz.zeroValue0
  t3 := Tryz.underlying3
  a3 := Tryz.isAgg3
  z3 := Tryz.sizeOf3
  v3 := Tryz.zeroValue3
  t4 := Tryz.underlying4
  a4 := Tryz.isAgg4
  z4 := Tryz.sizeOf4
  v4 := Tryz.zeroValue4
  t5 := Tryz.underlying5
  a5 := Tryz.isAgg5
  z5 := Tryz.sizeOf5
  v5 := Tryz.zeroValue5
  t9 := Tryz.underlying9
  a9 := Tryz.isAgg9
  z9 := Tryz.sizeOf9
  v9 := Tryz.zeroValue9
  t21 := Tryz.underlying21
  a21 := Tryz.isAgg21
  z21 := Tryz.sizeOf21
  v21 := Tryz.zeroValue21
  t46 := Tryz.underlying224
  a46 := Tryz.isAgg224
  z46 := Tryz.sizeOf224
  v46 := Tryz.zeroValue224
  t105 := Tryz.underlying242
  a105 := Tryz.isAgg242
  z105 := Tryz.sizeOf242
  v105 := Tryz.zeroValue242
  t116 := Tryz.underlying230
  a116 := Tryz.isAgg230
  z116 := Tryz.sizeOf230
  t117 := Tryz.underlying231
  a117 := Tryz.isAgg231
  z117 := Tryz.sizeOf231
  v117 := Tryz.zeroValue231
  t119 := Tryz.underlying277
  a119 := Tryz.isAgg277
  z119 := Tryz.sizeOf277
  t124 := Tryz.underlying234
  a124 := Tryz.isAgg234
  z124 := Tryz.sizeOf234
  v124 := Tryz.zeroValue234
  t138 := Tryz.underlying279
  a138 := Tryz.isAgg279
  z138 := Tryz.sizeOf279
  v138 := Tryz.zeroValue279
  t139 := Tryz.underlying280
  a139 := Tryz.isAgg280
  z139 := Tryz.sizeOf280
  v139 := Tryz.zeroValue280
  g3 := by kernel_rfl
  g4 := by kernel_rfl }
end Go.Proofs.YtcjllhdbepchnaaGreatDoor
