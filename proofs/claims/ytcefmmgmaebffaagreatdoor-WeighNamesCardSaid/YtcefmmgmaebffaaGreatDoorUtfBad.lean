/-
  utf.characters, in a loop that stops at the first place that begins no character.
-/
import Derived.Maps.AppendAt
import Derived.Test.YtcefmmgmaebffaaGreatDoorUtfChars
namespace Go.Proofs.YtcefmmgmaebffaaGreatDoor
open Go.RowKit Go.Shelf
attribute [local go_sem] Oper.semAt_some

theorem characters_in (n : Nat) (s : ByteArray) (w : World) :
    CallsIn Fence.wide n Tryz.prog 52 #[.string s] w fun e w' => e = .returned (.func (.func 77) #[] #[.pointer (some ⟨w.heap.size, 0, none⟩)]) ∧ w' = w.alloc (.cells #[.string s] 9) := by
  refine callsIn_of_wp Tryz.func52 rfl trivial ?_ rfl
  simp only [Tryz.ntmps52, List.size_toArray, List.length_cons, List.length_nil, Nat.reduceAdd, Nat.reduceSub, Array.replicate_succ, Array.replicate_zero, List.push_toArray, List.append_toArray, List.nil_append, List.cons_append]
  gi_wp2
  go_ret
  exact ⟨rfl, rfl⟩
/-- What the iterator asks of a loop's body: its string's box stays. -/
def KeepBox (Bs : Nat) (A B : World) : Prop := B.cell? ⟨Bs, 0, none⟩ = A.cell? ⟨Bs, 0, none⟩
theorem keepBox_t {Bs : Nat} {A B C : World} (h : KeepBox Bs A B) (k : KeepBox Bs B C) : KeepBox Bs A C := Eq.trans k h
theorem keepBox_b {Bs n : Nat} (hn : Bs < n) (W : World) (l : Nat) (o o' : Obj) (hl : n ≤ l) (_ : W.heap[l]? = some o) (_ : o.isCells = false) (_ : o.isWalk = false) : KeepBox Bs W (W.putObj l o') :=
  ((Below.refl n W).grown (grownBy_putObj' W l o') (by have := (Array.getElem?_eq_some_iff.1 (by assumption : W.heap[l]? = some o)).1; omega) (fun k e => by cases e; omega)).cell (p := ⟨Bs, 0, none⟩) hn
theorem chars_stops (m : Nat) (hm : 1 ≤ m) (Bs : Nat) (s : ByteArray) (hs : s.size < 9223372036854775800) (w : World) (hBs : Bs < w.heap.size) (hc : w.cell? ⟨Bs, 0, none⟩ = some (.string s)) :
    SeqStopsK Fence.wide m Tryz.prog 77 #[.pointer (some ⟨Bs, 0, none⟩)] (fun x : Nat × Int => #[Value.int .i64 (x.1 : Int), Value.int .i64 x.2]) (KeepBox Bs) (fun ys => ys = chars s) (fun pre => pre <+: chars s) (chars s).length w := fun l J Jx W hW _ _ hY h0 =>
  chars1_in m hm l Bs s hs J Jx hY W ((hW.cell (p := ⟨Bs, 0, none⟩) hBs).trans hc) h0

/-- The place of the first character that is none. -/
def badAt : List (Nat × Int) → Option Nat
  | [] => none
  | x :: r => if x.2 < 0 then some x.1 else badAt r
theorem badAt_app (a b : List (Nat × Int)) (h : ∀ p ∈ a, 0 ≤ p.2) : badAt (a ++ b) = badAt b := by
  induction a with
  | nil => rfl
  | cons x r ih => simp only [List.cons_append, badAt]; rw [if_neg (by have := h x (by simp); omega)]; exact ih fun p hp => h p (by simp [hp])
theorem badAt_none (a : List (Nat × Int)) (h : ∀ p ∈ a, 0 ≤ p.2) : badAt a = none := by have := badAt_app a [] h; rwa [List.append_nil] at this
def checkV (s : ByteArray) : Int := match badAt (chars s) with | none => -1 | some k => k

end Go.Proofs.YtcefmmgmaebffaaGreatDoor
