/-
  Numbers with four digits at least: the document's Digits.
-/
import Derived.Test.YthcjcdchmdgnjaaGreatDoorKA
import Derived.Laws.Strings2
import Derived.Laws.DeepStrings4
import Derived.Test.YthcjcdchmdgnjaaGreatDoorKD
namespace Go.Proofs.YthcjcdchmdgnjaaGreatDoor
open Go.RowKit Go.WideShapes
set_option linter.unusedVariables false
def hexTabU : ByteArray := ⟨#[48, 49, 50, 51, 52, 53, 54, 55, 56, 57, 65, 66, 67, 68, 69, 70]⟩
theorem hexSigns {d : Nat} (h : d < 16) : hexTabU.extract d (d + 1) = txt [hexU d] := by
  have hc : d = 0 ∨ d = 1 ∨ d = 2 ∨ d = 3 ∨ d = 4 ∨ d = 5 ∨ d = 6 ∨ d = 7 ∨ d = 8 ∨ d = 9 ∨ d = 10 ∨ d = 11 ∨ d = 12 ∨ d = 13 ∨ d = 14 ∨ d = 15 := by omega
  rcases hc with rfl | rfl | rfl | rfl | rfl | rfl | rfl | rfl | rfl | rfl | rfl | rfl | rfl | rfl | rfl | rfl <;> rfl
end Go.Proofs.YthcjcdchmdgnjaaGreatDoor
