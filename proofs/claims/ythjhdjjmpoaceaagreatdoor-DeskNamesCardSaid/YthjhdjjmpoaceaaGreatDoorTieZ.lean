/-
  The tie of DeskNames: the whole. No conditions.
-/
import Derived.Test.YthjhdjjmpoaceaaGreatDoorRows
import Derived.LaidByTextLater
import Derived.SevenTiedAt
import Derived.Test.YthjhdjjmpoaceaaGreatDoorTieA
import Derived.Test.YthjhdjjmpoaceaaGreatDoorTieB
import Derived.Test.YthjhdjjmpoaceaaGreatDoorTieC
import Derived.Test.YthjhdjjmpoaceaaGreatDoorTieD
import Derived.Test.YthjhdjjmpoaceaaGreatDoorTieE
namespace Go.Proofs.YthjhdjjmpoaceaaGreatDoor
open Go
theorem pin_laid_unicode_utf8_first : Tryz.pinned.checked.prog.pinnedFits "unicode/utf8.first" = true := by kernel_rfl
theorem pin_laid_unicode_CaseRanges : Tryz.pinned.checked.prog.pinnedFits "unicode.CaseRanges" = true := by kernel_rfl
theorem noOwnUnsafe : Tryz.pinned.checked.prog.headLifts.contains "ownunsafe" = false := by kernel_rfl
theorem fits1 : Tryz.pinned.checked.prog.listedFits [("unicode/utf8.first", Rows.laid_unicode_utf8_first), ("unicode/utf8.acceptRanges", Rows.laid_unicode_utf8_acceptRanges), ("strconv.ErrSyntax", Rows.laid_strconv_ErrSyntax), ("strconv.ErrRange", Rows.laid_strconv_ErrRange), ("internal/strconv.uint64pow10", Rows.laid_internal_strconv_uint64pow10), ("math/bits.deBruijn32tab", Rows.laid_math_bits_deBruijn32tab), ("math/bits.deBruijn64tab", Rows.laid_math_bits_deBruijn64tab), ("unicode.CaseRanges", Rows.laid_unicode_CaseRanges), ("errors.errorType", Rows.laid_errors_errorType), ("dovetail/space.all", Rows.laid_dovetail_space_all), ("dovetail/rekey.none", Rows.laid_dovetail_rekey_none)] = true := by
  unfold Program.listedFits
  rw [noOwnUnsafe]
  kernel_rfl
theorem tie : Tryz.prog.laidByTextLater tieL [.data, .sentinel, .sentinel, .data, .data, .data, .handle, .data, .sentinel] true :=
  Program.laidByTextLater_by_run_h 400 8 tie_hw tie_hw2 tie_root tie_hk tie_hg tie_hn tie_hd tie_h1 tie_h2 tie_h3
theorem deskNames_row_tie : Rows.deskNamesRow.laidByTextAt .later Tryz.pinned [.pinned, .data, .sentinel, .sentinel, .data, .data, .data, .pinned, .handle, .data, .sentinel] true :=
  OpenClaim.laidByTextAt_pinned rfl rfl tie rfl rfl rfl rfl (fun y hy _e => by
    simp only [Rows.deskNamesRow, List.zip_cons_cons, List.zip_nil_right, List.mem_cons, List.mem_nil_iff, or_false] at hy
    rcases hy with rfl | rfl | rfl | rfl | rfl | rfl | rfl | rfl | rfl | rfl | rfl
    · exact ⟨pin_laid_unicode_utf8_first, by kernel_rfl⟩
    · cases _e
    · cases _e
    · cases _e
    · cases _e
    · cases _e
    · cases _e
    · exact ⟨pin_laid_unicode_CaseRanges, by kernel_rfl⟩
    · cases _e
    · cases _e
    · cases _e) fits1
end Go.Proofs.YthjhdjjmpoaceaaGreatDoor
