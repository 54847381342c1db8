/-
  Words that the walks of tables share.
-/
import Derived.WalkKit
import Derived.Outline
import Derived.BigQuiet
import Derived.Deep.QuietTactic
import Derived.OwnWalk
import Derived.Maps.AppendAt
import Derived.Deep.AppendLies
import Derived.Handy
import Derived.Deep.RegionHeld3
import Derived.Deep.DeepCutAuto
import Derived.WalkLawsBesides
import Derived.Laws.AppendOwnNone
import Derived.Laws.Bits64b
import Derived.Test.YtlkdjdcnbcegeaaGreatDoorKA
namespace Go
theorem wpList_append_row {P : Program} {w : World} {ops : Array Oper} {rest : List Oper} {o : Oper} {a : Act} {Q : Exit → Act → World → Prop} (hgd : o.guard = none) (s x : Operand) (t : TypeId)
    (ho : o.op = .call { callee := .builtin .append, args := #[s, x], argTypes := #[t, t] })
    (base : Nat) (e : TypeId) (i : TypeInfo) (z : Value) (size bytes : Nat) (ht : P.underlying t = some (.slice e)) (hi : P.info? e = some i) (hz : i.zero = some z)
    (hsize : i.size = size) (hby : i.bytes = bytes) (hzs : z.cells.size = size) (hsz : 0 < size)
    (v : Value) (n : Nat) (xs : List Value) (hs : a.eval s = v) (hown : w.ownsRow base e size v n xs)
    (A : Option Addr) (m c : Nat) (news : List Value) (hx : a.eval x = .slice A m c) (hmc : m ≤ c) (hl : news.length = m * size) (hn : 0 < m → ∃ b o, A = some ⟨b, o, none⟩ ∧ Go.Proofs.YtlkdjdcnbcegeaaGreatDoor.CellsAt w b o news) (h1 : ∀ u ∈ news, u.oneCell' = true)
    (h63 : n + m ≤ maxLen) (hbytes : (n + m) * bytes ≤ 140737488355328) (hbase : base ≤ w.heap.size)
    (h : ∀ v' w', w'.ownsRow base e size v' (n + m) (xs ++ news) → w.grownBy w' v.ownBlock → wpList P ops Q rest (a.put o.dst v') w') : wpList P ops Q (o :: rest) a w := by
  have hnews : ∀ b o, A = some ⟨b, o, none⟩ → 0 < m → ∀ j u, news[j]? = some u → w.cell? ((⟨b, o, none⟩ : Addr).add j) = some u := fun b o e hm j u hj => by
    obtain ⟨b', o', e', hc⟩ := hn hm
    rw [e] at e'
    cases e'
    rw [Addr.add_lit]
    exact hc j u hj
  by_cases hm : m = 0
  · subst hm
    obtain rfl : news = [] := List.eq_nil_of_length_eq_zero (by simpa using hl)
    cases A with
    | none =>
      refine wpList_plain hgd fun K hK => ?_
      have hr : (Builtin.append_ #[t, t] o.type #[v, .slice none 0 c]).run P w = .ok v w := by
        rcases hown.2 with ⟨rfl, rfl⟩ | ⟨g, cap, cur, rfl, _, _, hnc, _⟩
        · simp [Builtin.append_, run_underlying ht, sizeOf, typeInfo, hi, Builtin.lenOf, Builtin.firstCells]
        · simp [Builtin.append_, run_underlying ht, sizeOf, typeInfo, hi, Builtin.lenOf, Builtin.firstCells, hnc, storeCells]
      unfold Oper.wp execOp
      simp only [ho, resolve, invoke, builtin, Sem.run_bind, Sem.run_pure, Result.andThen_ok, List.map_toArray, List.map_cons, List.map_nil, hs, hx, hr]
      exact hK _ _ (h v w (by simpa using hown) ⟨rfl, rfl, rfl, Nat.le_refl _, fun _ _ _ => rfl⟩)
    | some ad => exact wpList_append_own w hgd s x t ho base e i z size bytes ht hi hz hsize hby hzs hsz v n xs hs hown ad 0 c [] hx (by simp) (fun j u hj => by simp at hj) h1 h63 hbytes hbase (fun v' w' k1 k2 _ => h v' w' k1 k2)
  · obtain ⟨b, o, rfl, hc⟩ := hn (by omega)
    exact wpList_append_own w hgd s x t ho base e i z size bytes ht hi hz hsize hby hzs hsz v n xs hs hown ⟨b, o, none⟩ m c news hx hl (hnews b o rfl (by omega)) h1 h63 hbytes hbase (fun v' w' k1 k2 _ => h v' w' k1 k2)
end Go
namespace Go.Proofs.YtlkdjdcnbcegeaaGreatDoor
open Go.RowKit Go.WideShapes
set_option linter.unusedVariables false
def Ret (v : Value) (w : World) (e : Ending) (w' : World) : Prop := e = .returned v ∧ Below w.heap.size w w'
theorem ret_b {w w' : World} {a b : Bool} (h : a = b) (hb : Below w.heap.size w w') : Ret (.bool b) w (.returned (.bool a)) w' := ⟨by rw [h], hb⟩
theorem ret_i {w w' : World} {a b : Int} (h : a = b) (hb : Below w.heap.size w w') : Ret (.int .i64 b) w (.returned (.int .i64 a)) w' := ⟨by rw [h], hb⟩
theorem ret_s {w w' : World} {a b : ByteArray} (h : a = b) (hb : Below w.heap.size w w') : Ret (.string b) w (.returned (.string a)) w' := ⟨by rw [h], hb⟩
/-- Bytes as a text. -/
def txt (l : List UInt8) : ByteArray := ⟨l.toArray⟩
theorem txt_append (a b : List UInt8) : txt a ++ txt b = txt (a ++ b) := by
  apply ByteArray.ext
  simp [txt]
theorem txt_size (l : List UInt8) : (txt l).size = l.length := by simp [txt, ByteArray.size]
theorem txt_list (l : List UInt8) : (txt l).data.toList = l := by simp [txt]
theorem txt_inj {a b : List UInt8} (h : txt a = txt b) : a = b := by rw [← txt_list a, h, txt_list]
theorem below_a1 (w : World) (o : Obj) : Below w.heap.size w (w.alloc o) := (Below.refl _ _).alloc (Nat.le_refl _) _
theorem below_a2 (w : World) (o o2 : Obj) : Below w.heap.size w ((w.alloc o).alloc o2) := (below_a1 w o).alloc (by simp) _
theorem below_a3 (w : World) (o o2 o3 : Obj) : Below w.heap.size w (((w.alloc o).alloc o2).alloc o3) := (below_a2 w o o2).alloc (by simp; omega) _
theorem below_nq {B : Nat} {w w' : World} (h : Below B w w') (n : Nat) : Below B w (w'.drewN n) := ⟨h.os, h.tape, h.output, h.size, h.block⟩
end Go.Proofs.YtlkdjdcnbcegeaaGreatDoor
