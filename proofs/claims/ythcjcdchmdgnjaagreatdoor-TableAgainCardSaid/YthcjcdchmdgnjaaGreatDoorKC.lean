/-
  Words of our own on byte slices: bytes that a call owns, and their string.
-/
import Derived.Laws.BytesString
import Derived.Laws.Cells
import Derived.ProofKit
import Derived.Test.YthcjcdchmdgnjaaGreatDoorKA
namespace Go.Proofs.YthcjcdchmdgnjaaGreatDoor
open Go.RowKit
/-- Bytes as values. -/
def u8s (bs : List Nat) : List Value := bs.map fun b : Nat => Value.int .u8 (b : Int)
theorem u8s_len (bs : List Nat) : (u8s bs).length = bs.length := by simp [u8s]
theorem u8s_append (a b : List Nat) : u8s (a ++ b) = u8s a ++ u8s b := by simp [u8s]
/-- Bytes as a string. -/
def strOf (bs : List Nat) : ByteArray := ⟨(bs.map UInt8.ofNat).toArray⟩
theorem foldl_push (bs : List Nat) (r : ByteArray) : (bs.map fun b : Nat => (b : Int)).foldl (fun r n => r.push (UInt8.ofNat n.toNat)) r = ⟨r.data ++ (bs.map UInt8.ofNat).toArray⟩ := by
  induction bs generalizing r with
  | nil => simp
  | cons b bs ih =>
    simp only [List.map_cons, List.foldl_cons, Int.toNat_natCast]
    rw [ih]
    cases r with | mk d => show ByteArray.mk (d.push (UInt8.ofNat b) ++ (bs.map UInt8.ofNat).toArray) = _; simp
theorem u8_info : (Tryz.prog.info? 5).map (fun i => (i.zero, i.size, i.bytes)) = some (some (.int .u8 0), 1, 1) := by kernel_rfl
/-- string(v), v a byte slice that reads as bs. -/
theorem run_string_row {w : World} {B : Nat} {v : Value} {bs : List Nat} (h : RowAt w B v (u8s bs)) :
    (convert 70 9 v).run Tryz.prog w = .ok (.string (strOf bs)) w := by
  obtain ⟨A, c, rfl, hl, hc⟩ := h
  rw [run_convert_bytes_string w 70 9 5 _ _ _ Tryz.underlying70 Tryz.underlying5 Tryz.underlying9]
  cases bs with
  | nil =>
    cases A with
    | none => simp [Conv.bytesToString, strOf]; rfl
    | some a =>
      have := run_bytesToString (P := Tryz.prog) w a 0 c [] (by simp [loadCells, loadCellsFrom])
      exact this.trans (by simp [strOf]; rfl)
  | cons b bs =>
    obtain ⟨g, o, rfl, _, hcell⟩ := hc (by simp [u8s])
    have := run_bytesToString (P := Tryz.prog) w ⟨g, o, none⟩ (u8s (b :: bs)).length c ((b :: bs).map fun b : Nat => (b : Int)) (by
      have := run_loadCells_list (P := Tryz.prog) (w := w) ⟨g, o, none⟩ (u8s (b :: bs)) (fun j u hu => by
        have := hcell j u hu
        unfold Addr.add
        split
        · rename_i h0; subst h0; simpa using this
        · simpa using this)
      rw [show (List.map (Value.int IntKind.u8) (List.map (fun b : Nat => (b : Int)) (b :: bs))) = u8s (b :: bs) by simp [u8s]]
      exact this)
    rw [this, foldl_push]
    simp [strOf]
theorem cells_new (w : World) (cs : Array Value) (t : TypeId) : ∀ j u, cs.toList[j]? = some u → (w.alloc (.cells cs t)).cell? ((⟨w.heap.size, 0, none⟩ : Addr).add j) = some u := by
  intro j u hj
  rw [Go.WideShapes.add_plain]
  have h := World.alloc_heap_new w (.cells cs t)
  simp only [World.cell?, h, Option.isSome_none, Nat.zero_add]
  simpa using hj
end Go.Proofs.YthcjcdchmdgnjaaGreatDoor
