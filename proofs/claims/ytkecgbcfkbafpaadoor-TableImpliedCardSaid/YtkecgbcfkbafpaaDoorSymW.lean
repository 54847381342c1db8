/-
  TableImplied: whatever the two numbers, its case answers true.
-/
import Derived.Test.YtkecgbcfkbafpaaDoorSymR0
import Derived.Test.YtkecgbcfkbafpaaDoorSymR1
import Derived.Test.YtkecgbcfkbafpaaDoorSymR2
import Derived.Test.YtkecgbcfkbafpaaDoorSymR3
import Derived.Test.YtkecgbcfkbafpaaDoorSymR4
import Derived.Test.YtkecgbcfkbafpaaDoorSymR5
import Derived.Test.YtkecgbcfkbafpaaDoorSymR6
import Derived.Test.YtkecgbcfkbafpaaDoorSymR7
import Derived.Test.YtkecgbcfkbafpaaDoorSymR8
import Derived.Test.YtkecgbcfkbafpaaDoorSymR9
import Derived.Test.YtkecgbcfkbafpaaDoorSymR10
import Derived.Test.YtkecgbcfkbafpaaDoorSymR11
namespace Go.Proofs.YtkecgbcfkbafpaaDoor.tableImplied
open Ev (SCase)
theorem g_0_0 {p q : Int} (h1 : -9223372036854775808 ≤ p ∧ p ≤ -1) (h2 : -9223372036854775808 ≤ q ∧ q ≤ -1) : Good p q := by
  exact good r_0_0_0 (validN h1 h2)
theorem g_0_1 {p q : Int} (h1 : -9223372036854775808 ≤ p ∧ p ≤ -1) (h2 : 0 ≤ q ∧ q ≤ 13311) : Good p q := by
  exact good r_0_1_0 (validN h1 h2)
theorem g_0_2 {p q : Int} (h1 : -9223372036854775808 ≤ p ∧ p ≤ -1) (h2 : 13312 ≤ q ∧ q ≤ 19903) : Good p q := by
  exact good r_0_2_0 (validN h1 h2)
theorem g_0_3 {p q : Int} (h1 : -9223372036854775808 ≤ p ∧ p ≤ -1) (h2 : 19904 ≤ q ∧ q ≤ 19967) : Good p q := by
  exact good r_0_3_0 (validN h1 h2)
theorem g_0_4 {p q : Int} (h1 : -9223372036854775808 ≤ p ∧ p ≤ -1) (h2 : 19968 ≤ q ∧ q ≤ 40959) : Good p q := by
  exact good r_0_4_0 (validN h1 h2)
theorem g_0_5 {p q : Int} (h1 : -9223372036854775808 ≤ p ∧ p ≤ -1) (h2 : 40960 ≤ q ∧ q ≤ 55295) : Good p q := by
  exact good r_0_5_0 (validN h1 h2)
theorem g_0_6 {p q : Int} (h1 : -9223372036854775808 ≤ p ∧ p ≤ -1) (h2 : 55296 ≤ q ∧ q ≤ 57343) : Good p q := by
  exact good r_0_6_0 (validN h1 h2)
theorem g_0_7 {p q : Int} (h1 : -9223372036854775808 ≤ p ∧ p ≤ -1) (h2 : 57344 ≤ q ∧ q ≤ 63743) : Good p q := by
  exact good r_0_7_0 (validN h1 h2)
theorem g_0_8 {p q : Int} (h1 : -9223372036854775808 ≤ p ∧ p ≤ -1) (h2 : 63744 ≤ q ∧ q ≤ 64255) : Good p q := by
  exact good r_0_8_0 (validN h1 h2)
theorem g_0_9 {p q : Int} (h1 : -9223372036854775808 ≤ p ∧ p ≤ -1) (h2 : 64256 ≤ q ∧ q ≤ 131071) : Good p q := by
  exact good r_0_9_0 (validN h1 h2)
theorem g_0_10 {p q : Int} (h1 : -9223372036854775808 ≤ p ∧ p ≤ -1) (h2 : 131072 ≤ q ∧ q ≤ 262143) : Good p q := by
  exact good r_0_10_0 (validN h1 h2)
theorem g_0_11 {p q : Int} (h1 : -9223372036854775808 ≤ p ∧ p ≤ -1) (h2 : 262144 ≤ q ∧ q ≤ 1114111) : Good p q := by
  exact good r_0_11_0 (validN h1 h2)
theorem g_0_12 {p q : Int} (h1 : -9223372036854775808 ≤ p ∧ p ≤ -1) (h2 : 1114112 ≤ q ∧ q ≤ 9223372036854775807) : Good p q := by
  exact good r_0_12_0 (validN h1 h2)
theorem g_1_0 {p q : Int} (h1 : 0 ≤ p ∧ p ≤ 13311) (h2 : -9223372036854775808 ≤ q ∧ q ≤ -1) : Good p q := by
  exact good r_1_0_0 (validN h1 h2)
theorem g_1_1 {p q : Int} (h1 : 0 ≤ p ∧ p ≤ 13311) (h2 : 0 ≤ q ∧ q ≤ 13311) : Good p q := by
  by_cases he : p = q
  · exact good r_1_1_2 (valid2 h1 h2 he)
  by_cases hl : p.tdiv 32768 + 64448 = q.tdiv 32768 + 64448
  · refine good r_1_1_1 (valid1 h1 h2 hl ?_ he)
    intro hm
    rw [Int.tdiv_eq_ediv_of_nonneg (by omega), Int.tdiv_eq_ediv_of_nonneg (by omega)] at hl
    rw [Int.tmod_eq_emod_of_nonneg (by omega), Int.tmod_eq_emod_of_nonneg (by omega)] at hm
    omega
  · exact good r_1_1_0 (valid0 h1 h2 hl he)
theorem g_1_2 {p q : Int} (h1 : 0 ≤ p ∧ p ≤ 13311) (h2 : 13312 ≤ q ∧ q ≤ 19903) : Good p q := by
  have he : ¬ p = q := by omega
  by_cases hl : p.tdiv 32768 + 64448 = q.tdiv 32768 + 64384
  · refine good r_1_2_1 (valid1 h1 h2 hl ?_ he)
    intro hm
    rw [Int.tdiv_eq_ediv_of_nonneg (by omega), Int.tdiv_eq_ediv_of_nonneg (by omega)] at hl
    rw [Int.tmod_eq_emod_of_nonneg (by omega), Int.tmod_eq_emod_of_nonneg (by omega)] at hm
    omega
  · exact good r_1_2_0 (valid0 h1 h2 hl he)
theorem g_1_3 {p q : Int} (h1 : 0 ≤ p ∧ p ≤ 13311) (h2 : 19904 ≤ q ∧ q ≤ 19967) : Good p q := by
  have he : ¬ p = q := by omega
  by_cases hl : p.tdiv 32768 + 64448 = q.tdiv 32768 + 64448
  · refine good r_1_3_1 (valid1 h1 h2 hl ?_ he)
    intro hm
    rw [Int.tdiv_eq_ediv_of_nonneg (by omega), Int.tdiv_eq_ediv_of_nonneg (by omega)] at hl
    rw [Int.tmod_eq_emod_of_nonneg (by omega), Int.tmod_eq_emod_of_nonneg (by omega)] at hm
    omega
  · exact good r_1_3_0 (valid0 h1 h2 hl he)
theorem g_1_4 {p q : Int} (h1 : 0 ≤ p ∧ p ≤ 13311) (h2 : 19968 ≤ q ∧ q ≤ 40959) : Good p q := by
  have he : ¬ p = q := by omega
  by_cases hl : p.tdiv 32768 + 64448 = q.tdiv 32768 + 64320
  · refine good r_1_4_1 (valid1 h1 h2 hl ?_ he)
    intro hm
    rw [Int.tdiv_eq_ediv_of_nonneg (by omega), Int.tdiv_eq_ediv_of_nonneg (by omega)] at hl
    rw [Int.tmod_eq_emod_of_nonneg (by omega), Int.tmod_eq_emod_of_nonneg (by omega)] at hm
    omega
  · exact good r_1_4_0 (valid0 h1 h2 hl he)
theorem g_1_5 {p q : Int} (h1 : 0 ≤ p ∧ p ≤ 13311) (h2 : 40960 ≤ q ∧ q ≤ 55295) : Good p q := by
  have he : ¬ p = q := by omega
  by_cases hl : p.tdiv 32768 + 64448 = q.tdiv 32768 + 64448
  · refine good r_1_5_1 (valid1 h1 h2 hl ?_ he)
    intro hm
    rw [Int.tdiv_eq_ediv_of_nonneg (by omega), Int.tdiv_eq_ediv_of_nonneg (by omega)] at hl
    rw [Int.tmod_eq_emod_of_nonneg (by omega), Int.tmod_eq_emod_of_nonneg (by omega)] at hm
    omega
  · exact good r_1_5_0 (valid0 h1 h2 hl he)
theorem g_1_6 {p q : Int} (h1 : 0 ≤ p ∧ p ≤ 13311) (h2 : 55296 ≤ q ∧ q ≤ 57343) : Good p q := by
  exact good r_1_6_0 (validN h1 h2)
theorem g_1_7 {p q : Int} (h1 : 0 ≤ p ∧ p ≤ 13311) (h2 : 57344 ≤ q ∧ q ≤ 63743) : Good p q := by
  have he : ¬ p = q := by omega
  by_cases hl : p.tdiv 32768 + 64448 = q.tdiv 32768 + 64448
  · refine good r_1_7_1 (valid1 h1 h2 hl ?_ he)
    intro hm
    rw [Int.tdiv_eq_ediv_of_nonneg (by omega), Int.tdiv_eq_ediv_of_nonneg (by omega)] at hl
    rw [Int.tmod_eq_emod_of_nonneg (by omega), Int.tmod_eq_emod_of_nonneg (by omega)] at hm
    omega
  · exact good r_1_7_0 (valid0 h1 h2 hl he)
theorem g_1_8 {p q : Int} (h1 : 0 ≤ p ∧ p ≤ 13311) (h2 : 63744 ≤ q ∧ q ≤ 64255) : Good p q := by
  have he : ¬ p = q := by omega
  by_cases hl : p.tdiv 32768 + 64448 = q.tdiv 32768 + 64320
  · refine good r_1_8_1 (valid1 h1 h2 hl ?_ he)
    intro hm
    rw [Int.tdiv_eq_ediv_of_nonneg (by omega), Int.tdiv_eq_ediv_of_nonneg (by omega)] at hl
    rw [Int.tmod_eq_emod_of_nonneg (by omega), Int.tmod_eq_emod_of_nonneg (by omega)] at hm
    omega
  · exact good r_1_8_0 (valid0 h1 h2 hl he)
theorem g_1_9 {p q : Int} (h1 : 0 ≤ p ∧ p ≤ 13311) (h2 : 64256 ≤ q ∧ q ≤ 131071) : Good p q := by
  have he : ¬ p = q := by omega
  by_cases hl : p.tdiv 32768 + 64448 = q.tdiv 32768 + 64448
  · refine good r_1_9_1 (valid1 h1 h2 hl ?_ he)
    intro hm
    rw [Int.tdiv_eq_ediv_of_nonneg (by omega), Int.tdiv_eq_ediv_of_nonneg (by omega)] at hl
    rw [Int.tmod_eq_emod_of_nonneg (by omega), Int.tmod_eq_emod_of_nonneg (by omega)] at hm
    omega
  · exact good r_1_9_0 (valid0 h1 h2 hl he)
theorem g_1_10 {p q : Int} (h1 : 0 ≤ p ∧ p ≤ 13311) (h2 : 131072 ≤ q ∧ q ≤ 262143) : Good p q := by
  have he : ¬ p = q := by omega
  by_cases hl : p.tdiv 32768 + 64448 = q.tdiv 32768 + 64384
  · refine good r_1_10_1 (valid1 h1 h2 hl ?_ he)
    intro hm
    rw [Int.tdiv_eq_ediv_of_nonneg (by omega), Int.tdiv_eq_ediv_of_nonneg (by omega)] at hl
    rw [Int.tmod_eq_emod_of_nonneg (by omega), Int.tmod_eq_emod_of_nonneg (by omega)] at hm
    omega
  · exact good r_1_10_0 (valid0 h1 h2 hl he)
theorem g_1_11 {p q : Int} (h1 : 0 ≤ p ∧ p ≤ 13311) (h2 : 262144 ≤ q ∧ q ≤ 1114111) : Good p q := by
  have he : ¬ p = q := by omega
  by_cases hl : p.tdiv 32768 + 64448 = q.tdiv 32768 + 64448
  · refine good r_1_11_1 (valid1 h1 h2 hl ?_ he)
    intro hm
    rw [Int.tdiv_eq_ediv_of_nonneg (by omega), Int.tdiv_eq_ediv_of_nonneg (by omega)] at hl
    rw [Int.tmod_eq_emod_of_nonneg (by omega), Int.tmod_eq_emod_of_nonneg (by omega)] at hm
    omega
  · exact good r_1_11_0 (valid0 h1 h2 hl he)
theorem g_1_12 {p q : Int} (h1 : 0 ≤ p ∧ p ≤ 13311) (h2 : 1114112 ≤ q ∧ q ≤ 9223372036854775807) : Good p q := by
  exact good r_1_12_0 (validN h1 h2)
theorem g_2_0 {p q : Int} (h1 : 13312 ≤ p ∧ p ≤ 19903) (h2 : -9223372036854775808 ≤ q ∧ q ≤ -1) : Good p q := by
  exact good r_2_0_0 (validN h1 h2)
theorem g_2_1 {p q : Int} (h1 : 13312 ≤ p ∧ p ≤ 19903) (h2 : 0 ≤ q ∧ q ≤ 13311) : Good p q := by
  have he : ¬ p = q := by omega
  by_cases hl : p.tdiv 32768 + 64384 = q.tdiv 32768 + 64448
  · refine good r_2_1_1 (valid1 h1 h2 hl ?_ he)
    intro hm
    rw [Int.tdiv_eq_ediv_of_nonneg (by omega), Int.tdiv_eq_ediv_of_nonneg (by omega)] at hl
    rw [Int.tmod_eq_emod_of_nonneg (by omega), Int.tmod_eq_emod_of_nonneg (by omega)] at hm
    omega
  · exact good r_2_1_0 (valid0 h1 h2 hl he)
theorem g_2_2 {p q : Int} (h1 : 13312 ≤ p ∧ p ≤ 19903) (h2 : 13312 ≤ q ∧ q ≤ 19903) : Good p q := by
  by_cases he : p = q
  · exact good r_2_2_2 (valid2 h1 h2 he)
  by_cases hl : p.tdiv 32768 + 64384 = q.tdiv 32768 + 64384
  · refine good r_2_2_1 (valid1 h1 h2 hl ?_ he)
    intro hm
    rw [Int.tdiv_eq_ediv_of_nonneg (by omega), Int.tdiv_eq_ediv_of_nonneg (by omega)] at hl
    rw [Int.tmod_eq_emod_of_nonneg (by omega), Int.tmod_eq_emod_of_nonneg (by omega)] at hm
    omega
  · exact good r_2_2_0 (valid0 h1 h2 hl he)
theorem g_2_3 {p q : Int} (h1 : 13312 ≤ p ∧ p ≤ 19903) (h2 : 19904 ≤ q ∧ q ≤ 19967) : Good p q := by
  have he : ¬ p = q := by omega
  by_cases hl : p.tdiv 32768 + 64384 = q.tdiv 32768 + 64448
  · refine good r_2_3_1 (valid1 h1 h2 hl ?_ he)
    intro hm
    rw [Int.tdiv_eq_ediv_of_nonneg (by omega), Int.tdiv_eq_ediv_of_nonneg (by omega)] at hl
    rw [Int.tmod_eq_emod_of_nonneg (by omega), Int.tmod_eq_emod_of_nonneg (by omega)] at hm
    omega
  · exact good r_2_3_0 (valid0 h1 h2 hl he)
theorem g_2_4 {p q : Int} (h1 : 13312 ≤ p ∧ p ≤ 19903) (h2 : 19968 ≤ q ∧ q ≤ 40959) : Good p q := by
  have he : ¬ p = q := by omega
  by_cases hl : p.tdiv 32768 + 64384 = q.tdiv 32768 + 64320
  · refine good r_2_4_1 (valid1 h1 h2 hl ?_ he)
    intro hm
    rw [Int.tdiv_eq_ediv_of_nonneg (by omega), Int.tdiv_eq_ediv_of_nonneg (by omega)] at hl
    rw [Int.tmod_eq_emod_of_nonneg (by omega), Int.tmod_eq_emod_of_nonneg (by omega)] at hm
    omega
  · exact good r_2_4_0 (valid0 h1 h2 hl he)
theorem g_2_5 {p q : Int} (h1 : 13312 ≤ p ∧ p ≤ 19903) (h2 : 40960 ≤ q ∧ q ≤ 55295) : Good p q := by
  have he : ¬ p = q := by omega
  by_cases hl : p.tdiv 32768 + 64384 = q.tdiv 32768 + 64448
  · refine good r_2_5_1 (valid1 h1 h2 hl ?_ he)
    intro hm
    rw [Int.tdiv_eq_ediv_of_nonneg (by omega), Int.tdiv_eq_ediv_of_nonneg (by omega)] at hl
    rw [Int.tmod_eq_emod_of_nonneg (by omega), Int.tmod_eq_emod_of_nonneg (by omega)] at hm
    omega
  · exact good r_2_5_0 (valid0 h1 h2 hl he)
theorem g_2_6 {p q : Int} (h1 : 13312 ≤ p ∧ p ≤ 19903) (h2 : 55296 ≤ q ∧ q ≤ 57343) : Good p q := by
  exact good r_2_6_0 (validN h1 h2)
theorem g_2_7 {p q : Int} (h1 : 13312 ≤ p ∧ p ≤ 19903) (h2 : 57344 ≤ q ∧ q ≤ 63743) : Good p q := by
  have he : ¬ p = q := by omega
  by_cases hl : p.tdiv 32768 + 64384 = q.tdiv 32768 + 64448
  · refine good r_2_7_1 (valid1 h1 h2 hl ?_ he)
    intro hm
    rw [Int.tdiv_eq_ediv_of_nonneg (by omega), Int.tdiv_eq_ediv_of_nonneg (by omega)] at hl
    rw [Int.tmod_eq_emod_of_nonneg (by omega), Int.tmod_eq_emod_of_nonneg (by omega)] at hm
    omega
  · exact good r_2_7_0 (valid0 h1 h2 hl he)
theorem g_2_8 {p q : Int} (h1 : 13312 ≤ p ∧ p ≤ 19903) (h2 : 63744 ≤ q ∧ q ≤ 64255) : Good p q := by
  have he : ¬ p = q := by omega
  by_cases hl : p.tdiv 32768 + 64384 = q.tdiv 32768 + 64320
  · refine good r_2_8_1 (valid1 h1 h2 hl ?_ he)
    intro hm
    rw [Int.tdiv_eq_ediv_of_nonneg (by omega), Int.tdiv_eq_ediv_of_nonneg (by omega)] at hl
    rw [Int.tmod_eq_emod_of_nonneg (by omega), Int.tmod_eq_emod_of_nonneg (by omega)] at hm
    omega
  · exact good r_2_8_0 (valid0 h1 h2 hl he)
theorem g_2_9 {p q : Int} (h1 : 13312 ≤ p ∧ p ≤ 19903) (h2 : 64256 ≤ q ∧ q ≤ 131071) : Good p q := by
  have he : ¬ p = q := by omega
  by_cases hl : p.tdiv 32768 + 64384 = q.tdiv 32768 + 64448
  · refine good r_2_9_1 (valid1 h1 h2 hl ?_ he)
    intro hm
    rw [Int.tdiv_eq_ediv_of_nonneg (by omega), Int.tdiv_eq_ediv_of_nonneg (by omega)] at hl
    rw [Int.tmod_eq_emod_of_nonneg (by omega), Int.tmod_eq_emod_of_nonneg (by omega)] at hm
    omega
  · exact good r_2_9_0 (valid0 h1 h2 hl he)
theorem g_2_10 {p q : Int} (h1 : 13312 ≤ p ∧ p ≤ 19903) (h2 : 131072 ≤ q ∧ q ≤ 262143) : Good p q := by
  have he : ¬ p = q := by omega
  by_cases hl : p.tdiv 32768 + 64384 = q.tdiv 32768 + 64384
  · refine good r_2_10_1 (valid1 h1 h2 hl ?_ he)
    intro hm
    rw [Int.tdiv_eq_ediv_of_nonneg (by omega), Int.tdiv_eq_ediv_of_nonneg (by omega)] at hl
    rw [Int.tmod_eq_emod_of_nonneg (by omega), Int.tmod_eq_emod_of_nonneg (by omega)] at hm
    omega
  · exact good r_2_10_0 (valid0 h1 h2 hl he)
theorem g_2_11 {p q : Int} (h1 : 13312 ≤ p ∧ p ≤ 19903) (h2 : 262144 ≤ q ∧ q ≤ 1114111) : Good p q := by
  have he : ¬ p = q := by omega
  by_cases hl : p.tdiv 32768 + 64384 = q.tdiv 32768 + 64448
  · refine good r_2_11_1 (valid1 h1 h2 hl ?_ he)
    intro hm
    rw [Int.tdiv_eq_ediv_of_nonneg (by omega), Int.tdiv_eq_ediv_of_nonneg (by omega)] at hl
    rw [Int.tmod_eq_emod_of_nonneg (by omega), Int.tmod_eq_emod_of_nonneg (by omega)] at hm
    omega
  · exact good r_2_11_0 (valid0 h1 h2 hl he)
theorem g_2_12 {p q : Int} (h1 : 13312 ≤ p ∧ p ≤ 19903) (h2 : 1114112 ≤ q ∧ q ≤ 9223372036854775807) : Good p q := by
  exact good r_2_12_0 (validN h1 h2)
theorem g_3_0 {p q : Int} (h1 : 19904 ≤ p ∧ p ≤ 19967) (h2 : -9223372036854775808 ≤ q ∧ q ≤ -1) : Good p q := by
  exact good r_3_0_0 (validN h1 h2)
theorem g_3_1 {p q : Int} (h1 : 19904 ≤ p ∧ p ≤ 19967) (h2 : 0 ≤ q ∧ q ≤ 13311) : Good p q := by
  have he : ¬ p = q := by omega
  by_cases hl : p.tdiv 32768 + 64448 = q.tdiv 32768 + 64448
  · refine good r_3_1_1 (valid1 h1 h2 hl ?_ he)
    intro hm
    rw [Int.tdiv_eq_ediv_of_nonneg (by omega), Int.tdiv_eq_ediv_of_nonneg (by omega)] at hl
    rw [Int.tmod_eq_emod_of_nonneg (by omega), Int.tmod_eq_emod_of_nonneg (by omega)] at hm
    omega
  · exact good r_3_1_0 (valid0 h1 h2 hl he)
theorem g_3_2 {p q : Int} (h1 : 19904 ≤ p ∧ p ≤ 19967) (h2 : 13312 ≤ q ∧ q ≤ 19903) : Good p q := by
  have he : ¬ p = q := by omega
  by_cases hl : p.tdiv 32768 + 64448 = q.tdiv 32768 + 64384
  · refine good r_3_2_1 (valid1 h1 h2 hl ?_ he)
    intro hm
    rw [Int.tdiv_eq_ediv_of_nonneg (by omega), Int.tdiv_eq_ediv_of_nonneg (by omega)] at hl
    rw [Int.tmod_eq_emod_of_nonneg (by omega), Int.tmod_eq_emod_of_nonneg (by omega)] at hm
    omega
  · exact good r_3_2_0 (valid0 h1 h2 hl he)
theorem g_3_3 {p q : Int} (h1 : 19904 ≤ p ∧ p ≤ 19967) (h2 : 19904 ≤ q ∧ q ≤ 19967) : Good p q := by
  by_cases he : p = q
  · exact good r_3_3_2 (valid2 h1 h2 he)
  by_cases hl : p.tdiv 32768 + 64448 = q.tdiv 32768 + 64448
  · refine good r_3_3_1 (valid1 h1 h2 hl ?_ he)
    intro hm
    rw [Int.tdiv_eq_ediv_of_nonneg (by omega), Int.tdiv_eq_ediv_of_nonneg (by omega)] at hl
    rw [Int.tmod_eq_emod_of_nonneg (by omega), Int.tmod_eq_emod_of_nonneg (by omega)] at hm
    omega
  · exact good r_3_3_0 (valid0 h1 h2 hl he)
theorem g_3_4 {p q : Int} (h1 : 19904 ≤ p ∧ p ≤ 19967) (h2 : 19968 ≤ q ∧ q ≤ 40959) : Good p q := by
  have he : ¬ p = q := by omega
  by_cases hl : p.tdiv 32768 + 64448 = q.tdiv 32768 + 64320
  · refine good r_3_4_1 (valid1 h1 h2 hl ?_ he)
    intro hm
    rw [Int.tdiv_eq_ediv_of_nonneg (by omega), Int.tdiv_eq_ediv_of_nonneg (by omega)] at hl
    rw [Int.tmod_eq_emod_of_nonneg (by omega), Int.tmod_eq_emod_of_nonneg (by omega)] at hm
    omega
  · exact good r_3_4_0 (valid0 h1 h2 hl he)
theorem g_3_5 {p q : Int} (h1 : 19904 ≤ p ∧ p ≤ 19967) (h2 : 40960 ≤ q ∧ q ≤ 55295) : Good p q := by
  have he : ¬ p = q := by omega
  by_cases hl : p.tdiv 32768 + 64448 = q.tdiv 32768 + 64448
  · refine good r_3_5_1 (valid1 h1 h2 hl ?_ he)
    intro hm
    rw [Int.tdiv_eq_ediv_of_nonneg (by omega), Int.tdiv_eq_ediv_of_nonneg (by omega)] at hl
    rw [Int.tmod_eq_emod_of_nonneg (by omega), Int.tmod_eq_emod_of_nonneg (by omega)] at hm
    omega
  · exact good r_3_5_0 (valid0 h1 h2 hl he)
theorem g_3_6 {p q : Int} (h1 : 19904 ≤ p ∧ p ≤ 19967) (h2 : 55296 ≤ q ∧ q ≤ 57343) : Good p q := by
  exact good r_3_6_0 (validN h1 h2)
theorem g_3_7 {p q : Int} (h1 : 19904 ≤ p ∧ p ≤ 19967) (h2 : 57344 ≤ q ∧ q ≤ 63743) : Good p q := by
  have he : ¬ p = q := by omega
  by_cases hl : p.tdiv 32768 + 64448 = q.tdiv 32768 + 64448
  · refine good r_3_7_1 (valid1 h1 h2 hl ?_ he)
    intro hm
    rw [Int.tdiv_eq_ediv_of_nonneg (by omega), Int.tdiv_eq_ediv_of_nonneg (by omega)] at hl
    rw [Int.tmod_eq_emod_of_nonneg (by omega), Int.tmod_eq_emod_of_nonneg (by omega)] at hm
    omega
  · exact good r_3_7_0 (valid0 h1 h2 hl he)
theorem g_3_8 {p q : Int} (h1 : 19904 ≤ p ∧ p ≤ 19967) (h2 : 63744 ≤ q ∧ q ≤ 64255) : Good p q := by
  have he : ¬ p = q := by omega
  by_cases hl : p.tdiv 32768 + 64448 = q.tdiv 32768 + 64320
  · refine good r_3_8_1 (valid1 h1 h2 hl ?_ he)
    intro hm
    rw [Int.tdiv_eq_ediv_of_nonneg (by omega), Int.tdiv_eq_ediv_of_nonneg (by omega)] at hl
    rw [Int.tmod_eq_emod_of_nonneg (by omega), Int.tmod_eq_emod_of_nonneg (by omega)] at hm
    omega
  · exact good r_3_8_0 (valid0 h1 h2 hl he)
theorem g_3_9 {p q : Int} (h1 : 19904 ≤ p ∧ p ≤ 19967) (h2 : 64256 ≤ q ∧ q ≤ 131071) : Good p q := by
  have he : ¬ p = q := by omega
  by_cases hl : p.tdiv 32768 + 64448 = q.tdiv 32768 + 64448
  · refine good r_3_9_1 (valid1 h1 h2 hl ?_ he)
    intro hm
    rw [Int.tdiv_eq_ediv_of_nonneg (by omega), Int.tdiv_eq_ediv_of_nonneg (by omega)] at hl
    rw [Int.tmod_eq_emod_of_nonneg (by omega), Int.tmod_eq_emod_of_nonneg (by omega)] at hm
    omega
  · exact good r_3_9_0 (valid0 h1 h2 hl he)
theorem g_3_10 {p q : Int} (h1 : 19904 ≤ p ∧ p ≤ 19967) (h2 : 131072 ≤ q ∧ q ≤ 262143) : Good p q := by
  have he : ¬ p = q := by omega
  by_cases hl : p.tdiv 32768 + 64448 = q.tdiv 32768 + 64384
  · refine good r_3_10_1 (valid1 h1 h2 hl ?_ he)
    intro hm
    rw [Int.tdiv_eq_ediv_of_nonneg (by omega), Int.tdiv_eq_ediv_of_nonneg (by omega)] at hl
    rw [Int.tmod_eq_emod_of_nonneg (by omega), Int.tmod_eq_emod_of_nonneg (by omega)] at hm
    omega
  · exact good r_3_10_0 (valid0 h1 h2 hl he)
theorem g_3_11 {p q : Int} (h1 : 19904 ≤ p ∧ p ≤ 19967) (h2 : 262144 ≤ q ∧ q ≤ 1114111) : Good p q := by
  have he : ¬ p = q := by omega
  by_cases hl : p.tdiv 32768 + 64448 = q.tdiv 32768 + 64448
  · refine good r_3_11_1 (valid1 h1 h2 hl ?_ he)
    intro hm
    rw [Int.tdiv_eq_ediv_of_nonneg (by omega), Int.tdiv_eq_ediv_of_nonneg (by omega)] at hl
    rw [Int.tmod_eq_emod_of_nonneg (by omega), Int.tmod_eq_emod_of_nonneg (by omega)] at hm
    omega
  · exact good r_3_11_0 (valid0 h1 h2 hl he)
theorem g_3_12 {p q : Int} (h1 : 19904 ≤ p ∧ p ≤ 19967) (h2 : 1114112 ≤ q ∧ q ≤ 9223372036854775807) : Good p q := by
  exact good r_3_12_0 (validN h1 h2)
theorem g_4_0 {p q : Int} (h1 : 19968 ≤ p ∧ p ≤ 40959) (h2 : -9223372036854775808 ≤ q ∧ q ≤ -1) : Good p q := by
  exact good r_4_0_0 (validN h1 h2)
theorem g_4_1 {p q : Int} (h1 : 19968 ≤ p ∧ p ≤ 40959) (h2 : 0 ≤ q ∧ q ≤ 13311) : Good p q := by
  have he : ¬ p = q := by omega
  by_cases hl : p.tdiv 32768 + 64320 = q.tdiv 32768 + 64448
  · refine good r_4_1_1 (valid1 h1 h2 hl ?_ he)
    intro hm
    rw [Int.tdiv_eq_ediv_of_nonneg (by omega), Int.tdiv_eq_ediv_of_nonneg (by omega)] at hl
    rw [Int.tmod_eq_emod_of_nonneg (by omega), Int.tmod_eq_emod_of_nonneg (by omega)] at hm
    omega
  · exact good r_4_1_0 (valid0 h1 h2 hl he)
theorem g_4_2 {p q : Int} (h1 : 19968 ≤ p ∧ p ≤ 40959) (h2 : 13312 ≤ q ∧ q ≤ 19903) : Good p q := by
  have he : ¬ p = q := by omega
  by_cases hl : p.tdiv 32768 + 64320 = q.tdiv 32768 + 64384
  · refine good r_4_2_1 (valid1 h1 h2 hl ?_ he)
    intro hm
    rw [Int.tdiv_eq_ediv_of_nonneg (by omega), Int.tdiv_eq_ediv_of_nonneg (by omega)] at hl
    rw [Int.tmod_eq_emod_of_nonneg (by omega), Int.tmod_eq_emod_of_nonneg (by omega)] at hm
    omega
  · exact good r_4_2_0 (valid0 h1 h2 hl he)
theorem g_4_3 {p q : Int} (h1 : 19968 ≤ p ∧ p ≤ 40959) (h2 : 19904 ≤ q ∧ q ≤ 19967) : Good p q := by
  have he : ¬ p = q := by omega
  by_cases hl : p.tdiv 32768 + 64320 = q.tdiv 32768 + 64448
  · refine good r_4_3_1 (valid1 h1 h2 hl ?_ he)
    intro hm
    rw [Int.tdiv_eq_ediv_of_nonneg (by omega), Int.tdiv_eq_ediv_of_nonneg (by omega)] at hl
    rw [Int.tmod_eq_emod_of_nonneg (by omega), Int.tmod_eq_emod_of_nonneg (by omega)] at hm
    omega
  · exact good r_4_3_0 (valid0 h1 h2 hl he)
theorem g_4_4 {p q : Int} (h1 : 19968 ≤ p ∧ p ≤ 40959) (h2 : 19968 ≤ q ∧ q ≤ 40959) : Good p q := by
  by_cases he : p = q
  · exact good r_4_4_2 (valid2 h1 h2 he)
  by_cases hl : p.tdiv 32768 + 64320 = q.tdiv 32768 + 64320
  · refine good r_4_4_1 (valid1 h1 h2 hl ?_ he)
    intro hm
    rw [Int.tdiv_eq_ediv_of_nonneg (by omega), Int.tdiv_eq_ediv_of_nonneg (by omega)] at hl
    rw [Int.tmod_eq_emod_of_nonneg (by omega), Int.tmod_eq_emod_of_nonneg (by omega)] at hm
    omega
  · exact good r_4_4_0 (valid0 h1 h2 hl he)
theorem g_4_5 {p q : Int} (h1 : 19968 ≤ p ∧ p ≤ 40959) (h2 : 40960 ≤ q ∧ q ≤ 55295) : Good p q := by
  have he : ¬ p = q := by omega
  by_cases hl : p.tdiv 32768 + 64320 = q.tdiv 32768 + 64448
  · refine good r_4_5_1 (valid1 h1 h2 hl ?_ he)
    intro hm
    rw [Int.tdiv_eq_ediv_of_nonneg (by omega), Int.tdiv_eq_ediv_of_nonneg (by omega)] at hl
    rw [Int.tmod_eq_emod_of_nonneg (by omega), Int.tmod_eq_emod_of_nonneg (by omega)] at hm
    omega
  · exact good r_4_5_0 (valid0 h1 h2 hl he)
theorem g_4_6 {p q : Int} (h1 : 19968 ≤ p ∧ p ≤ 40959) (h2 : 55296 ≤ q ∧ q ≤ 57343) : Good p q := by
  exact good r_4_6_0 (validN h1 h2)
theorem g_4_7 {p q : Int} (h1 : 19968 ≤ p ∧ p ≤ 40959) (h2 : 57344 ≤ q ∧ q ≤ 63743) : Good p q := by
  have he : ¬ p = q := by omega
  by_cases hl : p.tdiv 32768 + 64320 = q.tdiv 32768 + 64448
  · refine good r_4_7_1 (valid1 h1 h2 hl ?_ he)
    intro hm
    rw [Int.tdiv_eq_ediv_of_nonneg (by omega), Int.tdiv_eq_ediv_of_nonneg (by omega)] at hl
    rw [Int.tmod_eq_emod_of_nonneg (by omega), Int.tmod_eq_emod_of_nonneg (by omega)] at hm
    omega
  · exact good r_4_7_0 (valid0 h1 h2 hl he)
theorem g_4_8 {p q : Int} (h1 : 19968 ≤ p ∧ p ≤ 40959) (h2 : 63744 ≤ q ∧ q ≤ 64255) : Good p q := by
  have he : ¬ p = q := by omega
  by_cases hl : p.tdiv 32768 + 64320 = q.tdiv 32768 + 64320
  · refine good r_4_8_1 (valid1 h1 h2 hl ?_ he)
    intro hm
    rw [Int.tdiv_eq_ediv_of_nonneg (by omega), Int.tdiv_eq_ediv_of_nonneg (by omega)] at hl
    rw [Int.tmod_eq_emod_of_nonneg (by omega), Int.tmod_eq_emod_of_nonneg (by omega)] at hm
    omega
  · exact good r_4_8_0 (valid0 h1 h2 hl he)
theorem g_4_9 {p q : Int} (h1 : 19968 ≤ p ∧ p ≤ 40959) (h2 : 64256 ≤ q ∧ q ≤ 131071) : Good p q := by
  have he : ¬ p = q := by omega
  by_cases hl : p.tdiv 32768 + 64320 = q.tdiv 32768 + 64448
  · refine good r_4_9_1 (valid1 h1 h2 hl ?_ he)
    intro hm
    rw [Int.tdiv_eq_ediv_of_nonneg (by omega), Int.tdiv_eq_ediv_of_nonneg (by omega)] at hl
    rw [Int.tmod_eq_emod_of_nonneg (by omega), Int.tmod_eq_emod_of_nonneg (by omega)] at hm
    omega
  · exact good r_4_9_0 (valid0 h1 h2 hl he)
theorem g_4_10 {p q : Int} (h1 : 19968 ≤ p ∧ p ≤ 40959) (h2 : 131072 ≤ q ∧ q ≤ 262143) : Good p q := by
  have he : ¬ p = q := by omega
  by_cases hl : p.tdiv 32768 + 64320 = q.tdiv 32768 + 64384
  · refine good r_4_10_1 (valid1 h1 h2 hl ?_ he)
    intro hm
    rw [Int.tdiv_eq_ediv_of_nonneg (by omega), Int.tdiv_eq_ediv_of_nonneg (by omega)] at hl
    rw [Int.tmod_eq_emod_of_nonneg (by omega), Int.tmod_eq_emod_of_nonneg (by omega)] at hm
    omega
  · exact good r_4_10_0 (valid0 h1 h2 hl he)
theorem g_4_11 {p q : Int} (h1 : 19968 ≤ p ∧ p ≤ 40959) (h2 : 262144 ≤ q ∧ q ≤ 1114111) : Good p q := by
  have he : ¬ p = q := by omega
  by_cases hl : p.tdiv 32768 + 64320 = q.tdiv 32768 + 64448
  · refine good r_4_11_1 (valid1 h1 h2 hl ?_ he)
    intro hm
    rw [Int.tdiv_eq_ediv_of_nonneg (by omega), Int.tdiv_eq_ediv_of_nonneg (by omega)] at hl
    rw [Int.tmod_eq_emod_of_nonneg (by omega), Int.tmod_eq_emod_of_nonneg (by omega)] at hm
    omega
  · exact good r_4_11_0 (valid0 h1 h2 hl he)
theorem g_4_12 {p q : Int} (h1 : 19968 ≤ p ∧ p ≤ 40959) (h2 : 1114112 ≤ q ∧ q ≤ 9223372036854775807) : Good p q := by
  exact good r_4_12_0 (validN h1 h2)
theorem g_5_0 {p q : Int} (h1 : 40960 ≤ p ∧ p ≤ 55295) (h2 : -9223372036854775808 ≤ q ∧ q ≤ -1) : Good p q := by
  exact good r_5_0_0 (validN h1 h2)
theorem g_5_1 {p q : Int} (h1 : 40960 ≤ p ∧ p ≤ 55295) (h2 : 0 ≤ q ∧ q ≤ 13311) : Good p q := by
  have he : ¬ p = q := by omega
  by_cases hl : p.tdiv 32768 + 64448 = q.tdiv 32768 + 64448
  · refine good r_5_1_1 (valid1 h1 h2 hl ?_ he)
    intro hm
    rw [Int.tdiv_eq_ediv_of_nonneg (by omega), Int.tdiv_eq_ediv_of_nonneg (by omega)] at hl
    rw [Int.tmod_eq_emod_of_nonneg (by omega), Int.tmod_eq_emod_of_nonneg (by omega)] at hm
    omega
  · exact good r_5_1_0 (valid0 h1 h2 hl he)
theorem g_5_2 {p q : Int} (h1 : 40960 ≤ p ∧ p ≤ 55295) (h2 : 13312 ≤ q ∧ q ≤ 19903) : Good p q := by
  have he : ¬ p = q := by omega
  by_cases hl : p.tdiv 32768 + 64448 = q.tdiv 32768 + 64384
  · refine good r_5_2_1 (valid1 h1 h2 hl ?_ he)
    intro hm
    rw [Int.tdiv_eq_ediv_of_nonneg (by omega), Int.tdiv_eq_ediv_of_nonneg (by omega)] at hl
    rw [Int.tmod_eq_emod_of_nonneg (by omega), Int.tmod_eq_emod_of_nonneg (by omega)] at hm
    omega
  · exact good r_5_2_0 (valid0 h1 h2 hl he)
theorem g_5_3 {p q : Int} (h1 : 40960 ≤ p ∧ p ≤ 55295) (h2 : 19904 ≤ q ∧ q ≤ 19967) : Good p q := by
  have he : ¬ p = q := by omega
  by_cases hl : p.tdiv 32768 + 64448 = q.tdiv 32768 + 64448
  · refine good r_5_3_1 (valid1 h1 h2 hl ?_ he)
    intro hm
    rw [Int.tdiv_eq_ediv_of_nonneg (by omega), Int.tdiv_eq_ediv_of_nonneg (by omega)] at hl
    rw [Int.tmod_eq_emod_of_nonneg (by omega), Int.tmod_eq_emod_of_nonneg (by omega)] at hm
    omega
  · exact good r_5_3_0 (valid0 h1 h2 hl he)
theorem g_5_4 {p q : Int} (h1 : 40960 ≤ p ∧ p ≤ 55295) (h2 : 19968 ≤ q ∧ q ≤ 40959) : Good p q := by
  have he : ¬ p = q := by omega
  by_cases hl : p.tdiv 32768 + 64448 = q.tdiv 32768 + 64320
  · refine good r_5_4_1 (valid1 h1 h2 hl ?_ he)
    intro hm
    rw [Int.tdiv_eq_ediv_of_nonneg (by omega), Int.tdiv_eq_ediv_of_nonneg (by omega)] at hl
    rw [Int.tmod_eq_emod_of_nonneg (by omega), Int.tmod_eq_emod_of_nonneg (by omega)] at hm
    omega
  · exact good r_5_4_0 (valid0 h1 h2 hl he)
theorem g_5_5 {p q : Int} (h1 : 40960 ≤ p ∧ p ≤ 55295) (h2 : 40960 ≤ q ∧ q ≤ 55295) : Good p q := by
  by_cases he : p = q
  · exact good r_5_5_2 (valid2 h1 h2 he)
  by_cases hl : p.tdiv 32768 + 64448 = q.tdiv 32768 + 64448
  · refine good r_5_5_1 (valid1 h1 h2 hl ?_ he)
    intro hm
    rw [Int.tdiv_eq_ediv_of_nonneg (by omega), Int.tdiv_eq_ediv_of_nonneg (by omega)] at hl
    rw [Int.tmod_eq_emod_of_nonneg (by omega), Int.tmod_eq_emod_of_nonneg (by omega)] at hm
    omega
  · exact good r_5_5_0 (valid0 h1 h2 hl he)
theorem g_5_6 {p q : Int} (h1 : 40960 ≤ p ∧ p ≤ 55295) (h2 : 55296 ≤ q ∧ q ≤ 57343) : Good p q := by
  exact good r_5_6_0 (validN h1 h2)
theorem g_5_7 {p q : Int} (h1 : 40960 ≤ p ∧ p ≤ 55295) (h2 : 57344 ≤ q ∧ q ≤ 63743) : Good p q := by
  have he : ¬ p = q := by omega
  by_cases hl : p.tdiv 32768 + 64448 = q.tdiv 32768 + 64448
  · refine good r_5_7_1 (valid1 h1 h2 hl ?_ he)
    intro hm
    rw [Int.tdiv_eq_ediv_of_nonneg (by omega), Int.tdiv_eq_ediv_of_nonneg (by omega)] at hl
    rw [Int.tmod_eq_emod_of_nonneg (by omega), Int.tmod_eq_emod_of_nonneg (by omega)] at hm
    omega
  · exact good r_5_7_0 (valid0 h1 h2 hl he)
theorem g_5_8 {p q : Int} (h1 : 40960 ≤ p ∧ p ≤ 55295) (h2 : 63744 ≤ q ∧ q ≤ 64255) : Good p q := by
  have he : ¬ p = q := by omega
  by_cases hl : p.tdiv 32768 + 64448 = q.tdiv 32768 + 64320
  · refine good r_5_8_1 (valid1 h1 h2 hl ?_ he)
    intro hm
    rw [Int.tdiv_eq_ediv_of_nonneg (by omega), Int.tdiv_eq_ediv_of_nonneg (by omega)] at hl
    rw [Int.tmod_eq_emod_of_nonneg (by omega), Int.tmod_eq_emod_of_nonneg (by omega)] at hm
    omega
  · exact good r_5_8_0 (valid0 h1 h2 hl he)
theorem g_5_9 {p q : Int} (h1 : 40960 ≤ p ∧ p ≤ 55295) (h2 : 64256 ≤ q ∧ q ≤ 131071) : Good p q := by
  have he : ¬ p = q := by omega
  by_cases hl : p.tdiv 32768 + 64448 = q.tdiv 32768 + 64448
  · refine good r_5_9_1 (valid1 h1 h2 hl ?_ he)
    intro hm
    rw [Int.tdiv_eq_ediv_of_nonneg (by omega), Int.tdiv_eq_ediv_of_nonneg (by omega)] at hl
    rw [Int.tmod_eq_emod_of_nonneg (by omega), Int.tmod_eq_emod_of_nonneg (by omega)] at hm
    omega
  · exact good r_5_9_0 (valid0 h1 h2 hl he)
theorem g_5_10 {p q : Int} (h1 : 40960 ≤ p ∧ p ≤ 55295) (h2 : 131072 ≤ q ∧ q ≤ 262143) : Good p q := by
  have he : ¬ p = q := by omega
  by_cases hl : p.tdiv 32768 + 64448 = q.tdiv 32768 + 64384
  · refine good r_5_10_1 (valid1 h1 h2 hl ?_ he)
    intro hm
    rw [Int.tdiv_eq_ediv_of_nonneg (by omega), Int.tdiv_eq_ediv_of_nonneg (by omega)] at hl
    rw [Int.tmod_eq_emod_of_nonneg (by omega), Int.tmod_eq_emod_of_nonneg (by omega)] at hm
    omega
  · exact good r_5_10_0 (valid0 h1 h2 hl he)
theorem g_5_11 {p q : Int} (h1 : 40960 ≤ p ∧ p ≤ 55295) (h2 : 262144 ≤ q ∧ q ≤ 1114111) : Good p q := by
  have he : ¬ p = q := by omega
  by_cases hl : p.tdiv 32768 + 64448 = q.tdiv 32768 + 64448
  · refine good r_5_11_1 (valid1 h1 h2 hl ?_ he)
    intro hm
    rw [Int.tdiv_eq_ediv_of_nonneg (by omega), Int.tdiv_eq_ediv_of_nonneg (by omega)] at hl
    rw [Int.tmod_eq_emod_of_nonneg (by omega), Int.tmod_eq_emod_of_nonneg (by omega)] at hm
    omega
  · exact good r_5_11_0 (valid0 h1 h2 hl he)
theorem g_5_12 {p q : Int} (h1 : 40960 ≤ p ∧ p ≤ 55295) (h2 : 1114112 ≤ q ∧ q ≤ 9223372036854775807) : Good p q := by
  exact good r_5_12_0 (validN h1 h2)
theorem g_6_0 {p q : Int} (h1 : 55296 ≤ p ∧ p ≤ 57343) (h2 : -9223372036854775808 ≤ q ∧ q ≤ -1) : Good p q := by
  exact good r_6_0_0 (validN h1 h2)
theorem g_6_1 {p q : Int} (h1 : 55296 ≤ p ∧ p ≤ 57343) (h2 : 0 ≤ q ∧ q ≤ 13311) : Good p q := by
  exact good r_6_1_0 (validN h1 h2)
theorem g_6_2 {p q : Int} (h1 : 55296 ≤ p ∧ p ≤ 57343) (h2 : 13312 ≤ q ∧ q ≤ 19903) : Good p q := by
  exact good r_6_2_0 (validN h1 h2)
theorem g_6_3 {p q : Int} (h1 : 55296 ≤ p ∧ p ≤ 57343) (h2 : 19904 ≤ q ∧ q ≤ 19967) : Good p q := by
  exact good r_6_3_0 (validN h1 h2)
theorem g_6_4 {p q : Int} (h1 : 55296 ≤ p ∧ p ≤ 57343) (h2 : 19968 ≤ q ∧ q ≤ 40959) : Good p q := by
  exact good r_6_4_0 (validN h1 h2)
theorem g_6_5 {p q : Int} (h1 : 55296 ≤ p ∧ p ≤ 57343) (h2 : 40960 ≤ q ∧ q ≤ 55295) : Good p q := by
  exact good r_6_5_0 (validN h1 h2)
theorem g_6_6 {p q : Int} (h1 : 55296 ≤ p ∧ p ≤ 57343) (h2 : 55296 ≤ q ∧ q ≤ 57343) : Good p q := by
  exact good r_6_6_0 (validN h1 h2)
theorem g_6_7 {p q : Int} (h1 : 55296 ≤ p ∧ p ≤ 57343) (h2 : 57344 ≤ q ∧ q ≤ 63743) : Good p q := by
  exact good r_6_7_0 (validN h1 h2)
theorem g_6_8 {p q : Int} (h1 : 55296 ≤ p ∧ p ≤ 57343) (h2 : 63744 ≤ q ∧ q ≤ 64255) : Good p q := by
  exact good r_6_8_0 (validN h1 h2)
theorem g_6_9 {p q : Int} (h1 : 55296 ≤ p ∧ p ≤ 57343) (h2 : 64256 ≤ q ∧ q ≤ 131071) : Good p q := by
  exact good r_6_9_0 (validN h1 h2)
theorem g_6_10 {p q : Int} (h1 : 55296 ≤ p ∧ p ≤ 57343) (h2 : 131072 ≤ q ∧ q ≤ 262143) : Good p q := by
  exact good r_6_10_0 (validN h1 h2)
theorem g_6_11 {p q : Int} (h1 : 55296 ≤ p ∧ p ≤ 57343) (h2 : 262144 ≤ q ∧ q ≤ 1114111) : Good p q := by
  exact good r_6_11_0 (validN h1 h2)
theorem g_6_12 {p q : Int} (h1 : 55296 ≤ p ∧ p ≤ 57343) (h2 : 1114112 ≤ q ∧ q ≤ 9223372036854775807) : Good p q := by
  exact good r_6_12_0 (validN h1 h2)
theorem g_7_0 {p q : Int} (h1 : 57344 ≤ p ∧ p ≤ 63743) (h2 : -9223372036854775808 ≤ q ∧ q ≤ -1) : Good p q := by
  exact good r_7_0_0 (validN h1 h2)
theorem g_7_1 {p q : Int} (h1 : 57344 ≤ p ∧ p ≤ 63743) (h2 : 0 ≤ q ∧ q ≤ 13311) : Good p q := by
  have he : ¬ p = q := by omega
  by_cases hl : p.tdiv 32768 + 64448 = q.tdiv 32768 + 64448
  · refine good r_7_1_1 (valid1 h1 h2 hl ?_ he)
    intro hm
    rw [Int.tdiv_eq_ediv_of_nonneg (by omega), Int.tdiv_eq_ediv_of_nonneg (by omega)] at hl
    rw [Int.tmod_eq_emod_of_nonneg (by omega), Int.tmod_eq_emod_of_nonneg (by omega)] at hm
    omega
  · exact good r_7_1_0 (valid0 h1 h2 hl he)
theorem g_7_2 {p q : Int} (h1 : 57344 ≤ p ∧ p ≤ 63743) (h2 : 13312 ≤ q ∧ q ≤ 19903) : Good p q := by
  have he : ¬ p = q := by omega
  by_cases hl : p.tdiv 32768 + 64448 = q.tdiv 32768 + 64384
  · refine good r_7_2_1 (valid1 h1 h2 hl ?_ he)
    intro hm
    rw [Int.tdiv_eq_ediv_of_nonneg (by omega), Int.tdiv_eq_ediv_of_nonneg (by omega)] at hl
    rw [Int.tmod_eq_emod_of_nonneg (by omega), Int.tmod_eq_emod_of_nonneg (by omega)] at hm
    omega
  · exact good r_7_2_0 (valid0 h1 h2 hl he)
theorem g_7_3 {p q : Int} (h1 : 57344 ≤ p ∧ p ≤ 63743) (h2 : 19904 ≤ q ∧ q ≤ 19967) : Good p q := by
  have he : ¬ p = q := by omega
  by_cases hl : p.tdiv 32768 + 64448 = q.tdiv 32768 + 64448
  · refine good r_7_3_1 (valid1 h1 h2 hl ?_ he)
    intro hm
    rw [Int.tdiv_eq_ediv_of_nonneg (by omega), Int.tdiv_eq_ediv_of_nonneg (by omega)] at hl
    rw [Int.tmod_eq_emod_of_nonneg (by omega), Int.tmod_eq_emod_of_nonneg (by omega)] at hm
    omega
  · exact good r_7_3_0 (valid0 h1 h2 hl he)
theorem g_7_4 {p q : Int} (h1 : 57344 ≤ p ∧ p ≤ 63743) (h2 : 19968 ≤ q ∧ q ≤ 40959) : Good p q := by
  have he : ¬ p = q := by omega
  by_cases hl : p.tdiv 32768 + 64448 = q.tdiv 32768 + 64320
  · refine good r_7_4_1 (valid1 h1 h2 hl ?_ he)
    intro hm
    rw [Int.tdiv_eq_ediv_of_nonneg (by omega), Int.tdiv_eq_ediv_of_nonneg (by omega)] at hl
    rw [Int.tmod_eq_emod_of_nonneg (by omega), Int.tmod_eq_emod_of_nonneg (by omega)] at hm
    omega
  · exact good r_7_4_0 (valid0 h1 h2 hl he)
theorem g_7_5 {p q : Int} (h1 : 57344 ≤ p ∧ p ≤ 63743) (h2 : 40960 ≤ q ∧ q ≤ 55295) : Good p q := by
  have he : ¬ p = q := by omega
  by_cases hl : p.tdiv 32768 + 64448 = q.tdiv 32768 + 64448
  · refine good r_7_5_1 (valid1 h1 h2 hl ?_ he)
    intro hm
    rw [Int.tdiv_eq_ediv_of_nonneg (by omega), Int.tdiv_eq_ediv_of_nonneg (by omega)] at hl
    rw [Int.tmod_eq_emod_of_nonneg (by omega), Int.tmod_eq_emod_of_nonneg (by omega)] at hm
    omega
  · exact good r_7_5_0 (valid0 h1 h2 hl he)
theorem g_7_6 {p q : Int} (h1 : 57344 ≤ p ∧ p ≤ 63743) (h2 : 55296 ≤ q ∧ q ≤ 57343) : Good p q := by
  exact good r_7_6_0 (validN h1 h2)
theorem g_7_7 {p q : Int} (h1 : 57344 ≤ p ∧ p ≤ 63743) (h2 : 57344 ≤ q ∧ q ≤ 63743) : Good p q := by
  by_cases he : p = q
  · exact good r_7_7_2 (valid2 h1 h2 he)
  by_cases hl : p.tdiv 32768 + 64448 = q.tdiv 32768 + 64448
  · refine good r_7_7_1 (valid1 h1 h2 hl ?_ he)
    intro hm
    rw [Int.tdiv_eq_ediv_of_nonneg (by omega), Int.tdiv_eq_ediv_of_nonneg (by omega)] at hl
    rw [Int.tmod_eq_emod_of_nonneg (by omega), Int.tmod_eq_emod_of_nonneg (by omega)] at hm
    omega
  · exact good r_7_7_0 (valid0 h1 h2 hl he)
theorem g_7_8 {p q : Int} (h1 : 57344 ≤ p ∧ p ≤ 63743) (h2 : 63744 ≤ q ∧ q ≤ 64255) : Good p q := by
  have he : ¬ p = q := by omega
  by_cases hl : p.tdiv 32768 + 64448 = q.tdiv 32768 + 64320
  · refine good r_7_8_1 (valid1 h1 h2 hl ?_ he)
    intro hm
    rw [Int.tdiv_eq_ediv_of_nonneg (by omega), Int.tdiv_eq_ediv_of_nonneg (by omega)] at hl
    rw [Int.tmod_eq_emod_of_nonneg (by omega), Int.tmod_eq_emod_of_nonneg (by omega)] at hm
    omega
  · exact good r_7_8_0 (valid0 h1 h2 hl he)
theorem g_7_9 {p q : Int} (h1 : 57344 ≤ p ∧ p ≤ 63743) (h2 : 64256 ≤ q ∧ q ≤ 131071) : Good p q := by
  have he : ¬ p = q := by omega
  by_cases hl : p.tdiv 32768 + 64448 = q.tdiv 32768 + 64448
  · refine good r_7_9_1 (valid1 h1 h2 hl ?_ he)
    intro hm
    rw [Int.tdiv_eq_ediv_of_nonneg (by omega), Int.tdiv_eq_ediv_of_nonneg (by omega)] at hl
    rw [Int.tmod_eq_emod_of_nonneg (by omega), Int.tmod_eq_emod_of_nonneg (by omega)] at hm
    omega
  · exact good r_7_9_0 (valid0 h1 h2 hl he)
theorem g_7_10 {p q : Int} (h1 : 57344 ≤ p ∧ p ≤ 63743) (h2 : 131072 ≤ q ∧ q ≤ 262143) : Good p q := by
  have he : ¬ p = q := by omega
  by_cases hl : p.tdiv 32768 + 64448 = q.tdiv 32768 + 64384
  · refine good r_7_10_1 (valid1 h1 h2 hl ?_ he)
    intro hm
    rw [Int.tdiv_eq_ediv_of_nonneg (by omega), Int.tdiv_eq_ediv_of_nonneg (by omega)] at hl
    rw [Int.tmod_eq_emod_of_nonneg (by omega), Int.tmod_eq_emod_of_nonneg (by omega)] at hm
    omega
  · exact good r_7_10_0 (valid0 h1 h2 hl he)
theorem g_7_11 {p q : Int} (h1 : 57344 ≤ p ∧ p ≤ 63743) (h2 : 262144 ≤ q ∧ q ≤ 1114111) : Good p q := by
  have he : ¬ p = q := by omega
  by_cases hl : p.tdiv 32768 + 64448 = q.tdiv 32768 + 64448
  · refine good r_7_11_1 (valid1 h1 h2 hl ?_ he)
    intro hm
    rw [Int.tdiv_eq_ediv_of_nonneg (by omega), Int.tdiv_eq_ediv_of_nonneg (by omega)] at hl
    rw [Int.tmod_eq_emod_of_nonneg (by omega), Int.tmod_eq_emod_of_nonneg (by omega)] at hm
    omega
  · exact good r_7_11_0 (valid0 h1 h2 hl he)
theorem g_7_12 {p q : Int} (h1 : 57344 ≤ p ∧ p ≤ 63743) (h2 : 1114112 ≤ q ∧ q ≤ 9223372036854775807) : Good p q := by
  exact good r_7_12_0 (validN h1 h2)
theorem g_8_0 {p q : Int} (h1 : 63744 ≤ p ∧ p ≤ 64255) (h2 : -9223372036854775808 ≤ q ∧ q ≤ -1) : Good p q := by
  exact good r_8_0_0 (validN h1 h2)
theorem g_8_1 {p q : Int} (h1 : 63744 ≤ p ∧ p ≤ 64255) (h2 : 0 ≤ q ∧ q ≤ 13311) : Good p q := by
  have he : ¬ p = q := by omega
  by_cases hl : p.tdiv 32768 + 64320 = q.tdiv 32768 + 64448
  · refine good r_8_1_1 (valid1 h1 h2 hl ?_ he)
    intro hm
    rw [Int.tdiv_eq_ediv_of_nonneg (by omega), Int.tdiv_eq_ediv_of_nonneg (by omega)] at hl
    rw [Int.tmod_eq_emod_of_nonneg (by omega), Int.tmod_eq_emod_of_nonneg (by omega)] at hm
    omega
  · exact good r_8_1_0 (valid0 h1 h2 hl he)
theorem g_8_2 {p q : Int} (h1 : 63744 ≤ p ∧ p ≤ 64255) (h2 : 13312 ≤ q ∧ q ≤ 19903) : Good p q := by
  have he : ¬ p = q := by omega
  by_cases hl : p.tdiv 32768 + 64320 = q.tdiv 32768 + 64384
  · refine good r_8_2_1 (valid1 h1 h2 hl ?_ he)
    intro hm
    rw [Int.tdiv_eq_ediv_of_nonneg (by omega), Int.tdiv_eq_ediv_of_nonneg (by omega)] at hl
    rw [Int.tmod_eq_emod_of_nonneg (by omega), Int.tmod_eq_emod_of_nonneg (by omega)] at hm
    omega
  · exact good r_8_2_0 (valid0 h1 h2 hl he)
theorem g_8_3 {p q : Int} (h1 : 63744 ≤ p ∧ p ≤ 64255) (h2 : 19904 ≤ q ∧ q ≤ 19967) : Good p q := by
  have he : ¬ p = q := by omega
  by_cases hl : p.tdiv 32768 + 64320 = q.tdiv 32768 + 64448
  · refine good r_8_3_1 (valid1 h1 h2 hl ?_ he)
    intro hm
    rw [Int.tdiv_eq_ediv_of_nonneg (by omega), Int.tdiv_eq_ediv_of_nonneg (by omega)] at hl
    rw [Int.tmod_eq_emod_of_nonneg (by omega), Int.tmod_eq_emod_of_nonneg (by omega)] at hm
    omega
  · exact good r_8_3_0 (valid0 h1 h2 hl he)
theorem g_8_4 {p q : Int} (h1 : 63744 ≤ p ∧ p ≤ 64255) (h2 : 19968 ≤ q ∧ q ≤ 40959) : Good p q := by
  have he : ¬ p = q := by omega
  by_cases hl : p.tdiv 32768 + 64320 = q.tdiv 32768 + 64320
  · refine good r_8_4_1 (valid1 h1 h2 hl ?_ he)
    intro hm
    rw [Int.tdiv_eq_ediv_of_nonneg (by omega), Int.tdiv_eq_ediv_of_nonneg (by omega)] at hl
    rw [Int.tmod_eq_emod_of_nonneg (by omega), Int.tmod_eq_emod_of_nonneg (by omega)] at hm
    omega
  · exact good r_8_4_0 (valid0 h1 h2 hl he)
theorem g_8_5 {p q : Int} (h1 : 63744 ≤ p ∧ p ≤ 64255) (h2 : 40960 ≤ q ∧ q ≤ 55295) : Good p q := by
  have he : ¬ p = q := by omega
  by_cases hl : p.tdiv 32768 + 64320 = q.tdiv 32768 + 64448
  · refine good r_8_5_1 (valid1 h1 h2 hl ?_ he)
    intro hm
    rw [Int.tdiv_eq_ediv_of_nonneg (by omega), Int.tdiv_eq_ediv_of_nonneg (by omega)] at hl
    rw [Int.tmod_eq_emod_of_nonneg (by omega), Int.tmod_eq_emod_of_nonneg (by omega)] at hm
    omega
  · exact good r_8_5_0 (valid0 h1 h2 hl he)
theorem g_8_6 {p q : Int} (h1 : 63744 ≤ p ∧ p ≤ 64255) (h2 : 55296 ≤ q ∧ q ≤ 57343) : Good p q := by
  exact good r_8_6_0 (validN h1 h2)
theorem g_8_7 {p q : Int} (h1 : 63744 ≤ p ∧ p ≤ 64255) (h2 : 57344 ≤ q ∧ q ≤ 63743) : Good p q := by
  have he : ¬ p = q := by omega
  by_cases hl : p.tdiv 32768 + 64320 = q.tdiv 32768 + 64448
  · refine good r_8_7_1 (valid1 h1 h2 hl ?_ he)
    intro hm
    rw [Int.tdiv_eq_ediv_of_nonneg (by omega), Int.tdiv_eq_ediv_of_nonneg (by omega)] at hl
    rw [Int.tmod_eq_emod_of_nonneg (by omega), Int.tmod_eq_emod_of_nonneg (by omega)] at hm
    omega
  · exact good r_8_7_0 (valid0 h1 h2 hl he)
theorem g_8_8 {p q : Int} (h1 : 63744 ≤ p ∧ p ≤ 64255) (h2 : 63744 ≤ q ∧ q ≤ 64255) : Good p q := by
  by_cases he : p = q
  · exact good r_8_8_2 (valid2 h1 h2 he)
  by_cases hl : p.tdiv 32768 + 64320 = q.tdiv 32768 + 64320
  · refine good r_8_8_1 (valid1 h1 h2 hl ?_ he)
    intro hm
    rw [Int.tdiv_eq_ediv_of_nonneg (by omega), Int.tdiv_eq_ediv_of_nonneg (by omega)] at hl
    rw [Int.tmod_eq_emod_of_nonneg (by omega), Int.tmod_eq_emod_of_nonneg (by omega)] at hm
    omega
  · exact good r_8_8_0 (valid0 h1 h2 hl he)
theorem g_8_9 {p q : Int} (h1 : 63744 ≤ p ∧ p ≤ 64255) (h2 : 64256 ≤ q ∧ q ≤ 131071) : Good p q := by
  have he : ¬ p = q := by omega
  by_cases hl : p.tdiv 32768 + 64320 = q.tdiv 32768 + 64448
  · refine good r_8_9_1 (valid1 h1 h2 hl ?_ he)
    intro hm
    rw [Int.tdiv_eq_ediv_of_nonneg (by omega), Int.tdiv_eq_ediv_of_nonneg (by omega)] at hl
    rw [Int.tmod_eq_emod_of_nonneg (by omega), Int.tmod_eq_emod_of_nonneg (by omega)] at hm
    omega
  · exact good r_8_9_0 (valid0 h1 h2 hl he)
theorem g_8_10 {p q : Int} (h1 : 63744 ≤ p ∧ p ≤ 64255) (h2 : 131072 ≤ q ∧ q ≤ 262143) : Good p q := by
  have he : ¬ p = q := by omega
  by_cases hl : p.tdiv 32768 + 64320 = q.tdiv 32768 + 64384
  · refine good r_8_10_1 (valid1 h1 h2 hl ?_ he)
    intro hm
    rw [Int.tdiv_eq_ediv_of_nonneg (by omega), Int.tdiv_eq_ediv_of_nonneg (by omega)] at hl
    rw [Int.tmod_eq_emod_of_nonneg (by omega), Int.tmod_eq_emod_of_nonneg (by omega)] at hm
    omega
  · exact good r_8_10_0 (valid0 h1 h2 hl he)
theorem g_8_11 {p q : Int} (h1 : 63744 ≤ p ∧ p ≤ 64255) (h2 : 262144 ≤ q ∧ q ≤ 1114111) : Good p q := by
  have he : ¬ p = q := by omega
  by_cases hl : p.tdiv 32768 + 64320 = q.tdiv 32768 + 64448
  · refine good r_8_11_1 (valid1 h1 h2 hl ?_ he)
    intro hm
    rw [Int.tdiv_eq_ediv_of_nonneg (by omega), Int.tdiv_eq_ediv_of_nonneg (by omega)] at hl
    rw [Int.tmod_eq_emod_of_nonneg (by omega), Int.tmod_eq_emod_of_nonneg (by omega)] at hm
    omega
  · exact good r_8_11_0 (valid0 h1 h2 hl he)
theorem g_8_12 {p q : Int} (h1 : 63744 ≤ p ∧ p ≤ 64255) (h2 : 1114112 ≤ q ∧ q ≤ 9223372036854775807) : Good p q := by
  exact good r_8_12_0 (validN h1 h2)
theorem g_9_0 {p q : Int} (h1 : 64256 ≤ p ∧ p ≤ 131071) (h2 : -9223372036854775808 ≤ q ∧ q ≤ -1) : Good p q := by
  exact good r_9_0_0 (validN h1 h2)
theorem g_9_1 {p q : Int} (h1 : 64256 ≤ p ∧ p ≤ 131071) (h2 : 0 ≤ q ∧ q ≤ 13311) : Good p q := by
  have he : ¬ p = q := by omega
  by_cases hl : p.tdiv 32768 + 64448 = q.tdiv 32768 + 64448
  · refine good r_9_1_1 (valid1 h1 h2 hl ?_ he)
    intro hm
    rw [Int.tdiv_eq_ediv_of_nonneg (by omega), Int.tdiv_eq_ediv_of_nonneg (by omega)] at hl
    rw [Int.tmod_eq_emod_of_nonneg (by omega), Int.tmod_eq_emod_of_nonneg (by omega)] at hm
    omega
  · exact good r_9_1_0 (valid0 h1 h2 hl he)
theorem g_9_2 {p q : Int} (h1 : 64256 ≤ p ∧ p ≤ 131071) (h2 : 13312 ≤ q ∧ q ≤ 19903) : Good p q := by
  have he : ¬ p = q := by omega
  by_cases hl : p.tdiv 32768 + 64448 = q.tdiv 32768 + 64384
  · refine good r_9_2_1 (valid1 h1 h2 hl ?_ he)
    intro hm
    rw [Int.tdiv_eq_ediv_of_nonneg (by omega), Int.tdiv_eq_ediv_of_nonneg (by omega)] at hl
    rw [Int.tmod_eq_emod_of_nonneg (by omega), Int.tmod_eq_emod_of_nonneg (by omega)] at hm
    omega
  · exact good r_9_2_0 (valid0 h1 h2 hl he)
theorem g_9_3 {p q : Int} (h1 : 64256 ≤ p ∧ p ≤ 131071) (h2 : 19904 ≤ q ∧ q ≤ 19967) : Good p q := by
  have he : ¬ p = q := by omega
  by_cases hl : p.tdiv 32768 + 64448 = q.tdiv 32768 + 64448
  · refine good r_9_3_1 (valid1 h1 h2 hl ?_ he)
    intro hm
    rw [Int.tdiv_eq_ediv_of_nonneg (by omega), Int.tdiv_eq_ediv_of_nonneg (by omega)] at hl
    rw [Int.tmod_eq_emod_of_nonneg (by omega), Int.tmod_eq_emod_of_nonneg (by omega)] at hm
    omega
  · exact good r_9_3_0 (valid0 h1 h2 hl he)
theorem g_9_4 {p q : Int} (h1 : 64256 ≤ p ∧ p ≤ 131071) (h2 : 19968 ≤ q ∧ q ≤ 40959) : Good p q := by
  have he : ¬ p = q := by omega
  by_cases hl : p.tdiv 32768 + 64448 = q.tdiv 32768 + 64320
  · refine good r_9_4_1 (valid1 h1 h2 hl ?_ he)
    intro hm
    rw [Int.tdiv_eq_ediv_of_nonneg (by omega), Int.tdiv_eq_ediv_of_nonneg (by omega)] at hl
    rw [Int.tmod_eq_emod_of_nonneg (by omega), Int.tmod_eq_emod_of_nonneg (by omega)] at hm
    omega
  · exact good r_9_4_0 (valid0 h1 h2 hl he)
theorem g_9_5 {p q : Int} (h1 : 64256 ≤ p ∧ p ≤ 131071) (h2 : 40960 ≤ q ∧ q ≤ 55295) : Good p q := by
  have he : ¬ p = q := by omega
  by_cases hl : p.tdiv 32768 + 64448 = q.tdiv 32768 + 64448
  · refine good r_9_5_1 (valid1 h1 h2 hl ?_ he)
    intro hm
    rw [Int.tdiv_eq_ediv_of_nonneg (by omega), Int.tdiv_eq_ediv_of_nonneg (by omega)] at hl
    rw [Int.tmod_eq_emod_of_nonneg (by omega), Int.tmod_eq_emod_of_nonneg (by omega)] at hm
    omega
  · exact good r_9_5_0 (valid0 h1 h2 hl he)
theorem g_9_6 {p q : Int} (h1 : 64256 ≤ p ∧ p ≤ 131071) (h2 : 55296 ≤ q ∧ q ≤ 57343) : Good p q := by
  exact good r_9_6_0 (validN h1 h2)
theorem g_9_7 {p q : Int} (h1 : 64256 ≤ p ∧ p ≤ 131071) (h2 : 57344 ≤ q ∧ q ≤ 63743) : Good p q := by
  have he : ¬ p = q := by omega
  by_cases hl : p.tdiv 32768 + 64448 = q.tdiv 32768 + 64448
  · refine good r_9_7_1 (valid1 h1 h2 hl ?_ he)
    intro hm
    rw [Int.tdiv_eq_ediv_of_nonneg (by omega), Int.tdiv_eq_ediv_of_nonneg (by omega)] at hl
    rw [Int.tmod_eq_emod_of_nonneg (by omega), Int.tmod_eq_emod_of_nonneg (by omega)] at hm
    omega
  · exact good r_9_7_0 (valid0 h1 h2 hl he)
theorem g_9_8 {p q : Int} (h1 : 64256 ≤ p ∧ p ≤ 131071) (h2 : 63744 ≤ q ∧ q ≤ 64255) : Good p q := by
  have he : ¬ p = q := by omega
  by_cases hl : p.tdiv 32768 + 64448 = q.tdiv 32768 + 64320
  · refine good r_9_8_1 (valid1 h1 h2 hl ?_ he)
    intro hm
    rw [Int.tdiv_eq_ediv_of_nonneg (by omega), Int.tdiv_eq_ediv_of_nonneg (by omega)] at hl
    rw [Int.tmod_eq_emod_of_nonneg (by omega), Int.tmod_eq_emod_of_nonneg (by omega)] at hm
    omega
  · exact good r_9_8_0 (valid0 h1 h2 hl he)
theorem g_9_9 {p q : Int} (h1 : 64256 ≤ p ∧ p ≤ 131071) (h2 : 64256 ≤ q ∧ q ≤ 131071) : Good p q := by
  by_cases he : p = q
  · exact good r_9_9_2 (valid2 h1 h2 he)
  by_cases hl : p.tdiv 32768 + 64448 = q.tdiv 32768 + 64448
  · refine good r_9_9_1 (valid1 h1 h2 hl ?_ he)
    intro hm
    rw [Int.tdiv_eq_ediv_of_nonneg (by omega), Int.tdiv_eq_ediv_of_nonneg (by omega)] at hl
    rw [Int.tmod_eq_emod_of_nonneg (by omega), Int.tmod_eq_emod_of_nonneg (by omega)] at hm
    omega
  · exact good r_9_9_0 (valid0 h1 h2 hl he)
theorem g_9_10 {p q : Int} (h1 : 64256 ≤ p ∧ p ≤ 131071) (h2 : 131072 ≤ q ∧ q ≤ 262143) : Good p q := by
  have he : ¬ p = q := by omega
  by_cases hl : p.tdiv 32768 + 64448 = q.tdiv 32768 + 64384
  · refine good r_9_10_1 (valid1 h1 h2 hl ?_ he)
    intro hm
    rw [Int.tdiv_eq_ediv_of_nonneg (by omega), Int.tdiv_eq_ediv_of_nonneg (by omega)] at hl
    rw [Int.tmod_eq_emod_of_nonneg (by omega), Int.tmod_eq_emod_of_nonneg (by omega)] at hm
    omega
  · exact good r_9_10_0 (valid0 h1 h2 hl he)
theorem g_9_11 {p q : Int} (h1 : 64256 ≤ p ∧ p ≤ 131071) (h2 : 262144 ≤ q ∧ q ≤ 1114111) : Good p q := by
  have he : ¬ p = q := by omega
  by_cases hl : p.tdiv 32768 + 64448 = q.tdiv 32768 + 64448
  · refine good r_9_11_1 (valid1 h1 h2 hl ?_ he)
    intro hm
    rw [Int.tdiv_eq_ediv_of_nonneg (by omega), Int.tdiv_eq_ediv_of_nonneg (by omega)] at hl
    rw [Int.tmod_eq_emod_of_nonneg (by omega), Int.tmod_eq_emod_of_nonneg (by omega)] at hm
    omega
  · exact good r_9_11_0 (valid0 h1 h2 hl he)
theorem g_9_12 {p q : Int} (h1 : 64256 ≤ p ∧ p ≤ 131071) (h2 : 1114112 ≤ q ∧ q ≤ 9223372036854775807) : Good p q := by
  exact good r_9_12_0 (validN h1 h2)
theorem g_10_0 {p q : Int} (h1 : 131072 ≤ p ∧ p ≤ 262143) (h2 : -9223372036854775808 ≤ q ∧ q ≤ -1) : Good p q := by
  exact good r_10_0_0 (validN h1 h2)
theorem g_10_1 {p q : Int} (h1 : 131072 ≤ p ∧ p ≤ 262143) (h2 : 0 ≤ q ∧ q ≤ 13311) : Good p q := by
  have he : ¬ p = q := by omega
  by_cases hl : p.tdiv 32768 + 64384 = q.tdiv 32768 + 64448
  · refine good r_10_1_1 (valid1 h1 h2 hl ?_ he)
    intro hm
    rw [Int.tdiv_eq_ediv_of_nonneg (by omega), Int.tdiv_eq_ediv_of_nonneg (by omega)] at hl
    rw [Int.tmod_eq_emod_of_nonneg (by omega), Int.tmod_eq_emod_of_nonneg (by omega)] at hm
    omega
  · exact good r_10_1_0 (valid0 h1 h2 hl he)
theorem g_10_2 {p q : Int} (h1 : 131072 ≤ p ∧ p ≤ 262143) (h2 : 13312 ≤ q ∧ q ≤ 19903) : Good p q := by
  have he : ¬ p = q := by omega
  by_cases hl : p.tdiv 32768 + 64384 = q.tdiv 32768 + 64384
  · refine good r_10_2_1 (valid1 h1 h2 hl ?_ he)
    intro hm
    rw [Int.tdiv_eq_ediv_of_nonneg (by omega), Int.tdiv_eq_ediv_of_nonneg (by omega)] at hl
    rw [Int.tmod_eq_emod_of_nonneg (by omega), Int.tmod_eq_emod_of_nonneg (by omega)] at hm
    omega
  · exact good r_10_2_0 (valid0 h1 h2 hl he)
theorem g_10_3 {p q : Int} (h1 : 131072 ≤ p ∧ p ≤ 262143) (h2 : 19904 ≤ q ∧ q ≤ 19967) : Good p q := by
  have he : ¬ p = q := by omega
  by_cases hl : p.tdiv 32768 + 64384 = q.tdiv 32768 + 64448
  · refine good r_10_3_1 (valid1 h1 h2 hl ?_ he)
    intro hm
    rw [Int.tdiv_eq_ediv_of_nonneg (by omega), Int.tdiv_eq_ediv_of_nonneg (by omega)] at hl
    rw [Int.tmod_eq_emod_of_nonneg (by omega), Int.tmod_eq_emod_of_nonneg (by omega)] at hm
    omega
  · exact good r_10_3_0 (valid0 h1 h2 hl he)
theorem g_10_4 {p q : Int} (h1 : 131072 ≤ p ∧ p ≤ 262143) (h2 : 19968 ≤ q ∧ q ≤ 40959) : Good p q := by
  have he : ¬ p = q := by omega
  by_cases hl : p.tdiv 32768 + 64384 = q.tdiv 32768 + 64320
  · refine good r_10_4_1 (valid1 h1 h2 hl ?_ he)
    intro hm
    rw [Int.tdiv_eq_ediv_of_nonneg (by omega), Int.tdiv_eq_ediv_of_nonneg (by omega)] at hl
    rw [Int.tmod_eq_emod_of_nonneg (by omega), Int.tmod_eq_emod_of_nonneg (by omega)] at hm
    omega
  · exact good r_10_4_0 (valid0 h1 h2 hl he)
theorem g_10_5 {p q : Int} (h1 : 131072 ≤ p ∧ p ≤ 262143) (h2 : 40960 ≤ q ∧ q ≤ 55295) : Good p q := by
  have he : ¬ p = q := by omega
  by_cases hl : p.tdiv 32768 + 64384 = q.tdiv 32768 + 64448
  · refine good r_10_5_1 (valid1 h1 h2 hl ?_ he)
    intro hm
    rw [Int.tdiv_eq_ediv_of_nonneg (by omega), Int.tdiv_eq_ediv_of_nonneg (by omega)] at hl
    rw [Int.tmod_eq_emod_of_nonneg (by omega), Int.tmod_eq_emod_of_nonneg (by omega)] at hm
    omega
  · exact good r_10_5_0 (valid0 h1 h2 hl he)
theorem g_10_6 {p q : Int} (h1 : 131072 ≤ p ∧ p ≤ 262143) (h2 : 55296 ≤ q ∧ q ≤ 57343) : Good p q := by
  exact good r_10_6_0 (validN h1 h2)
theorem g_10_7 {p q : Int} (h1 : 131072 ≤ p ∧ p ≤ 262143) (h2 : 57344 ≤ q ∧ q ≤ 63743) : Good p q := by
  have he : ¬ p = q := by omega
  by_cases hl : p.tdiv 32768 + 64384 = q.tdiv 32768 + 64448
  · refine good r_10_7_1 (valid1 h1 h2 hl ?_ he)
    intro hm
    rw [Int.tdiv_eq_ediv_of_nonneg (by omega), Int.tdiv_eq_ediv_of_nonneg (by omega)] at hl
    rw [Int.tmod_eq_emod_of_nonneg (by omega), Int.tmod_eq_emod_of_nonneg (by omega)] at hm
    omega
  · exact good r_10_7_0 (valid0 h1 h2 hl he)
theorem g_10_8 {p q : Int} (h1 : 131072 ≤ p ∧ p ≤ 262143) (h2 : 63744 ≤ q ∧ q ≤ 64255) : Good p q := by
  have he : ¬ p = q := by omega
  by_cases hl : p.tdiv 32768 + 64384 = q.tdiv 32768 + 64320
  · refine good r_10_8_1 (valid1 h1 h2 hl ?_ he)
    intro hm
    rw [Int.tdiv_eq_ediv_of_nonneg (by omega), Int.tdiv_eq_ediv_of_nonneg (by omega)] at hl
    rw [Int.tmod_eq_emod_of_nonneg (by omega), Int.tmod_eq_emod_of_nonneg (by omega)] at hm
    omega
  · exact good r_10_8_0 (valid0 h1 h2 hl he)
theorem g_10_9 {p q : Int} (h1 : 131072 ≤ p ∧ p ≤ 262143) (h2 : 64256 ≤ q ∧ q ≤ 131071) : Good p q := by
  have he : ¬ p = q := by omega
  by_cases hl : p.tdiv 32768 + 64384 = q.tdiv 32768 + 64448
  · refine good r_10_9_1 (valid1 h1 h2 hl ?_ he)
    intro hm
    rw [Int.tdiv_eq_ediv_of_nonneg (by omega), Int.tdiv_eq_ediv_of_nonneg (by omega)] at hl
    rw [Int.tmod_eq_emod_of_nonneg (by omega), Int.tmod_eq_emod_of_nonneg (by omega)] at hm
    omega
  · exact good r_10_9_0 (valid0 h1 h2 hl he)
theorem g_10_10 {p q : Int} (h1 : 131072 ≤ p ∧ p ≤ 262143) (h2 : 131072 ≤ q ∧ q ≤ 262143) : Good p q := by
  by_cases he : p = q
  · exact good r_10_10_2 (valid2 h1 h2 he)
  by_cases hl : p.tdiv 32768 + 64384 = q.tdiv 32768 + 64384
  · refine good r_10_10_1 (valid1 h1 h2 hl ?_ he)
    intro hm
    rw [Int.tdiv_eq_ediv_of_nonneg (by omega), Int.tdiv_eq_ediv_of_nonneg (by omega)] at hl
    rw [Int.tmod_eq_emod_of_nonneg (by omega), Int.tmod_eq_emod_of_nonneg (by omega)] at hm
    omega
  · exact good r_10_10_0 (valid0 h1 h2 hl he)
theorem g_10_11 {p q : Int} (h1 : 131072 ≤ p ∧ p ≤ 262143) (h2 : 262144 ≤ q ∧ q ≤ 1114111) : Good p q := by
  have he : ¬ p = q := by omega
  by_cases hl : p.tdiv 32768 + 64384 = q.tdiv 32768 + 64448
  · refine good r_10_11_1 (valid1 h1 h2 hl ?_ he)
    intro hm
    rw [Int.tdiv_eq_ediv_of_nonneg (by omega), Int.tdiv_eq_ediv_of_nonneg (by omega)] at hl
    rw [Int.tmod_eq_emod_of_nonneg (by omega), Int.tmod_eq_emod_of_nonneg (by omega)] at hm
    omega
  · exact good r_10_11_0 (valid0 h1 h2 hl he)
theorem g_10_12 {p q : Int} (h1 : 131072 ≤ p ∧ p ≤ 262143) (h2 : 1114112 ≤ q ∧ q ≤ 9223372036854775807) : Good p q := by
  exact good r_10_12_0 (validN h1 h2)
theorem g_11_0 {p q : Int} (h1 : 262144 ≤ p ∧ p ≤ 1114111) (h2 : -9223372036854775808 ≤ q ∧ q ≤ -1) : Good p q := by
  exact good r_11_0_0 (validN h1 h2)
theorem g_11_1 {p q : Int} (h1 : 262144 ≤ p ∧ p ≤ 1114111) (h2 : 0 ≤ q ∧ q ≤ 13311) : Good p q := by
  have he : ¬ p = q := by omega
  by_cases hl : p.tdiv 32768 + 64448 = q.tdiv 32768 + 64448
  · refine good r_11_1_1 (valid1 h1 h2 hl ?_ he)
    intro hm
    rw [Int.tdiv_eq_ediv_of_nonneg (by omega), Int.tdiv_eq_ediv_of_nonneg (by omega)] at hl
    rw [Int.tmod_eq_emod_of_nonneg (by omega), Int.tmod_eq_emod_of_nonneg (by omega)] at hm
    omega
  · exact good r_11_1_0 (valid0 h1 h2 hl he)
theorem g_11_2 {p q : Int} (h1 : 262144 ≤ p ∧ p ≤ 1114111) (h2 : 13312 ≤ q ∧ q ≤ 19903) : Good p q := by
  have he : ¬ p = q := by omega
  by_cases hl : p.tdiv 32768 + 64448 = q.tdiv 32768 + 64384
  · refine good r_11_2_1 (valid1 h1 h2 hl ?_ he)
    intro hm
    rw [Int.tdiv_eq_ediv_of_nonneg (by omega), Int.tdiv_eq_ediv_of_nonneg (by omega)] at hl
    rw [Int.tmod_eq_emod_of_nonneg (by omega), Int.tmod_eq_emod_of_nonneg (by omega)] at hm
    omega
  · exact good r_11_2_0 (valid0 h1 h2 hl he)
theorem g_11_3 {p q : Int} (h1 : 262144 ≤ p ∧ p ≤ 1114111) (h2 : 19904 ≤ q ∧ q ≤ 19967) : Good p q := by
  have he : ¬ p = q := by omega
  by_cases hl : p.tdiv 32768 + 64448 = q.tdiv 32768 + 64448
  · refine good r_11_3_1 (valid1 h1 h2 hl ?_ he)
    intro hm
    rw [Int.tdiv_eq_ediv_of_nonneg (by omega), Int.tdiv_eq_ediv_of_nonneg (by omega)] at hl
    rw [Int.tmod_eq_emod_of_nonneg (by omega), Int.tmod_eq_emod_of_nonneg (by omega)] at hm
    omega
  · exact good r_11_3_0 (valid0 h1 h2 hl he)
theorem g_11_4 {p q : Int} (h1 : 262144 ≤ p ∧ p ≤ 1114111) (h2 : 19968 ≤ q ∧ q ≤ 40959) : Good p q := by
  have he : ¬ p = q := by omega
  by_cases hl : p.tdiv 32768 + 64448 = q.tdiv 32768 + 64320
  · refine good r_11_4_1 (valid1 h1 h2 hl ?_ he)
    intro hm
    rw [Int.tdiv_eq_ediv_of_nonneg (by omega), Int.tdiv_eq_ediv_of_nonneg (by omega)] at hl
    rw [Int.tmod_eq_emod_of_nonneg (by omega), Int.tmod_eq_emod_of_nonneg (by omega)] at hm
    omega
  · exact good r_11_4_0 (valid0 h1 h2 hl he)
theorem g_11_5 {p q : Int} (h1 : 262144 ≤ p ∧ p ≤ 1114111) (h2 : 40960 ≤ q ∧ q ≤ 55295) : Good p q := by
  have he : ¬ p = q := by omega
  by_cases hl : p.tdiv 32768 + 64448 = q.tdiv 32768 + 64448
  · refine good r_11_5_1 (valid1 h1 h2 hl ?_ he)
    intro hm
    rw [Int.tdiv_eq_ediv_of_nonneg (by omega), Int.tdiv_eq_ediv_of_nonneg (by omega)] at hl
    rw [Int.tmod_eq_emod_of_nonneg (by omega), Int.tmod_eq_emod_of_nonneg (by omega)] at hm
    omega
  · exact good r_11_5_0 (valid0 h1 h2 hl he)
theorem g_11_6 {p q : Int} (h1 : 262144 ≤ p ∧ p ≤ 1114111) (h2 : 55296 ≤ q ∧ q ≤ 57343) : Good p q := by
  exact good r_11_6_0 (validN h1 h2)
theorem g_11_7 {p q : Int} (h1 : 262144 ≤ p ∧ p ≤ 1114111) (h2 : 57344 ≤ q ∧ q ≤ 63743) : Good p q := by
  have he : ¬ p = q := by omega
  by_cases hl : p.tdiv 32768 + 64448 = q.tdiv 32768 + 64448
  · refine good r_11_7_1 (valid1 h1 h2 hl ?_ he)
    intro hm
    rw [Int.tdiv_eq_ediv_of_nonneg (by omega), Int.tdiv_eq_ediv_of_nonneg (by omega)] at hl
    rw [Int.tmod_eq_emod_of_nonneg (by omega), Int.tmod_eq_emod_of_nonneg (by omega)] at hm
    omega
  · exact good r_11_7_0 (valid0 h1 h2 hl he)
theorem g_11_8 {p q : Int} (h1 : 262144 ≤ p ∧ p ≤ 1114111) (h2 : 63744 ≤ q ∧ q ≤ 64255) : Good p q := by
  have he : ¬ p = q := by omega
  by_cases hl : p.tdiv 32768 + 64448 = q.tdiv 32768 + 64320
  · refine good r_11_8_1 (valid1 h1 h2 hl ?_ he)
    intro hm
    rw [Int.tdiv_eq_ediv_of_nonneg (by omega), Int.tdiv_eq_ediv_of_nonneg (by omega)] at hl
    rw [Int.tmod_eq_emod_of_nonneg (by omega), Int.tmod_eq_emod_of_nonneg (by omega)] at hm
    omega
  · exact good r_11_8_0 (valid0 h1 h2 hl he)
theorem g_11_9 {p q : Int} (h1 : 262144 ≤ p ∧ p ≤ 1114111) (h2 : 64256 ≤ q ∧ q ≤ 131071) : Good p q := by
  have he : ¬ p = q := by omega
  by_cases hl : p.tdiv 32768 + 64448 = q.tdiv 32768 + 64448
  · refine good r_11_9_1 (valid1 h1 h2 hl ?_ he)
    intro hm
    rw [Int.tdiv_eq_ediv_of_nonneg (by omega), Int.tdiv_eq_ediv_of_nonneg (by omega)] at hl
    rw [Int.tmod_eq_emod_of_nonneg (by omega), Int.tmod_eq_emod_of_nonneg (by omega)] at hm
    omega
  · exact good r_11_9_0 (valid0 h1 h2 hl he)
theorem g_11_10 {p q : Int} (h1 : 262144 ≤ p ∧ p ≤ 1114111) (h2 : 131072 ≤ q ∧ q ≤ 262143) : Good p q := by
  have he : ¬ p = q := by omega
  by_cases hl : p.tdiv 32768 + 64448 = q.tdiv 32768 + 64384
  · refine good r_11_10_1 (valid1 h1 h2 hl ?_ he)
    intro hm
    rw [Int.tdiv_eq_ediv_of_nonneg (by omega), Int.tdiv_eq_ediv_of_nonneg (by omega)] at hl
    rw [Int.tmod_eq_emod_of_nonneg (by omega), Int.tmod_eq_emod_of_nonneg (by omega)] at hm
    omega
  · exact good r_11_10_0 (valid0 h1 h2 hl he)
theorem g_11_11 {p q : Int} (h1 : 262144 ≤ p ∧ p ≤ 1114111) (h2 : 262144 ≤ q ∧ q ≤ 1114111) : Good p q := by
  by_cases he : p = q
  · exact good r_11_11_2 (valid2 h1 h2 he)
  by_cases hl : p.tdiv 32768 + 64448 = q.tdiv 32768 + 64448
  · refine good r_11_11_1 (valid1 h1 h2 hl ?_ he)
    intro hm
    rw [Int.tdiv_eq_ediv_of_nonneg (by omega), Int.tdiv_eq_ediv_of_nonneg (by omega)] at hl
    rw [Int.tmod_eq_emod_of_nonneg (by omega), Int.tmod_eq_emod_of_nonneg (by omega)] at hm
    omega
  · exact good r_11_11_0 (valid0 h1 h2 hl he)
theorem g_11_12 {p q : Int} (h1 : 262144 ≤ p ∧ p ≤ 1114111) (h2 : 1114112 ≤ q ∧ q ≤ 9223372036854775807) : Good p q := by
  exact good r_11_12_0 (validN h1 h2)
theorem g_12_0 {p q : Int} (h1 : 1114112 ≤ p ∧ p ≤ 9223372036854775807) (h2 : -9223372036854775808 ≤ q ∧ q ≤ -1) : Good p q := by
  exact good r_12_0_0 (validN h1 h2)
theorem g_12_1 {p q : Int} (h1 : 1114112 ≤ p ∧ p ≤ 9223372036854775807) (h2 : 0 ≤ q ∧ q ≤ 13311) : Good p q := by
  exact good r_12_1_0 (validN h1 h2)
theorem g_12_2 {p q : Int} (h1 : 1114112 ≤ p ∧ p ≤ 9223372036854775807) (h2 : 13312 ≤ q ∧ q ≤ 19903) : Good p q := by
  exact good r_12_2_0 (validN h1 h2)
theorem g_12_3 {p q : Int} (h1 : 1114112 ≤ p ∧ p ≤ 9223372036854775807) (h2 : 19904 ≤ q ∧ q ≤ 19967) : Good p q := by
  exact good r_12_3_0 (validN h1 h2)
theorem g_12_4 {p q : Int} (h1 : 1114112 ≤ p ∧ p ≤ 9223372036854775807) (h2 : 19968 ≤ q ∧ q ≤ 40959) : Good p q := by
  exact good r_12_4_0 (validN h1 h2)
theorem g_12_5 {p q : Int} (h1 : 1114112 ≤ p ∧ p ≤ 9223372036854775807) (h2 : 40960 ≤ q ∧ q ≤ 55295) : Good p q := by
  exact good r_12_5_0 (validN h1 h2)
theorem g_12_6 {p q : Int} (h1 : 1114112 ≤ p ∧ p ≤ 9223372036854775807) (h2 : 55296 ≤ q ∧ q ≤ 57343) : Good p q := by
  exact good r_12_6_0 (validN h1 h2)
theorem g_12_7 {p q : Int} (h1 : 1114112 ≤ p ∧ p ≤ 9223372036854775807) (h2 : 57344 ≤ q ∧ q ≤ 63743) : Good p q := by
  exact good r_12_7_0 (validN h1 h2)
theorem g_12_8 {p q : Int} (h1 : 1114112 ≤ p ∧ p ≤ 9223372036854775807) (h2 : 63744 ≤ q ∧ q ≤ 64255) : Good p q := by
  exact good r_12_8_0 (validN h1 h2)
theorem g_12_9 {p q : Int} (h1 : 1114112 ≤ p ∧ p ≤ 9223372036854775807) (h2 : 64256 ≤ q ∧ q ≤ 131071) : Good p q := by
  exact good r_12_9_0 (validN h1 h2)
theorem g_12_10 {p q : Int} (h1 : 1114112 ≤ p ∧ p ≤ 9223372036854775807) (h2 : 131072 ≤ q ∧ q ≤ 262143) : Good p q := by
  exact good r_12_10_0 (validN h1 h2)
theorem g_12_11 {p q : Int} (h1 : 1114112 ≤ p ∧ p ≤ 9223372036854775807) (h2 : 262144 ≤ q ∧ q ≤ 1114111) : Good p q := by
  exact good r_12_11_0 (validN h1 h2)
theorem g_12_12 {p q : Int} (h1 : 1114112 ≤ p ∧ p ≤ 9223372036854775807) (h2 : 1114112 ≤ q ∧ q ≤ 9223372036854775807) : Good p q := by
  exact good r_12_12_0 (validN h1 h2)
/-- In which of the ranges a number stands. -/
theorem ranges {p : Int} (h : -9223372036854775808 ≤ p ∧ p ≤ 9223372036854775807) :
    (-9223372036854775808 ≤ p ∧ p ≤ -1) ∨ (0 ≤ p ∧ p ≤ 13311) ∨ (13312 ≤ p ∧ p ≤ 19903) ∨ (19904 ≤ p ∧ p ≤ 19967) ∨ (19968 ≤ p ∧ p ≤ 40959) ∨ (40960 ≤ p ∧ p ≤ 55295) ∨ (55296 ≤ p ∧ p ≤ 57343) ∨ (57344 ≤ p ∧ p ≤ 63743) ∨ (63744 ≤ p ∧ p ≤ 64255) ∨ (64256 ≤ p ∧ p ≤ 131071) ∨ (131072 ≤ p ∧ p ≤ 262143) ∨ (262144 ≤ p ∧ p ≤ 1114111) ∨ (1114112 ≤ p ∧ p ≤ 9223372036854775807) := by omega
theorem gi_0 {p q : Int} (h1 : -9223372036854775808 ≤ p ∧ p ≤ -1) (hq : -9223372036854775808 ≤ q ∧ q ≤ 9223372036854775807) : Good p q := by
  rcases ranges hq with h2 | h2 | h2 | h2 | h2 | h2 | h2 | h2 | h2 | h2 | h2 | h2 | h2
  · exact g_0_0 h1 h2
  · exact g_0_1 h1 h2
  · exact g_0_2 h1 h2
  · exact g_0_3 h1 h2
  · exact g_0_4 h1 h2
  · exact g_0_5 h1 h2
  · exact g_0_6 h1 h2
  · exact g_0_7 h1 h2
  · exact g_0_8 h1 h2
  · exact g_0_9 h1 h2
  · exact g_0_10 h1 h2
  · exact g_0_11 h1 h2
  · exact g_0_12 h1 h2
theorem gi_1 {p q : Int} (h1 : 0 ≤ p ∧ p ≤ 13311) (hq : -9223372036854775808 ≤ q ∧ q ≤ 9223372036854775807) : Good p q := by
  rcases ranges hq with h2 | h2 | h2 | h2 | h2 | h2 | h2 | h2 | h2 | h2 | h2 | h2 | h2
  · exact g_1_0 h1 h2
  · exact g_1_1 h1 h2
  · exact g_1_2 h1 h2
  · exact g_1_3 h1 h2
  · exact g_1_4 h1 h2
  · exact g_1_5 h1 h2
  · exact g_1_6 h1 h2
  · exact g_1_7 h1 h2
  · exact g_1_8 h1 h2
  · exact g_1_9 h1 h2
  · exact g_1_10 h1 h2
  · exact g_1_11 h1 h2
  · exact g_1_12 h1 h2
theorem gi_2 {p q : Int} (h1 : 13312 ≤ p ∧ p ≤ 19903) (hq : -9223372036854775808 ≤ q ∧ q ≤ 9223372036854775807) : Good p q := by
  rcases ranges hq with h2 | h2 | h2 | h2 | h2 | h2 | h2 | h2 | h2 | h2 | h2 | h2 | h2
  · exact g_2_0 h1 h2
  · exact g_2_1 h1 h2
  · exact g_2_2 h1 h2
  · exact g_2_3 h1 h2
  · exact g_2_4 h1 h2
  · exact g_2_5 h1 h2
  · exact g_2_6 h1 h2
  · exact g_2_7 h1 h2
  · exact g_2_8 h1 h2
  · exact g_2_9 h1 h2
  · exact g_2_10 h1 h2
  · exact g_2_11 h1 h2
  · exact g_2_12 h1 h2
theorem gi_3 {p q : Int} (h1 : 19904 ≤ p ∧ p ≤ 19967) (hq : -9223372036854775808 ≤ q ∧ q ≤ 9223372036854775807) : Good p q := by
  rcases ranges hq with h2 | h2 | h2 | h2 | h2 | h2 | h2 | h2 | h2 | h2 | h2 | h2 | h2
  · exact g_3_0 h1 h2
  · exact g_3_1 h1 h2
  · exact g_3_2 h1 h2
  · exact g_3_3 h1 h2
  · exact g_3_4 h1 h2
  · exact g_3_5 h1 h2
  · exact g_3_6 h1 h2
  · exact g_3_7 h1 h2
  · exact g_3_8 h1 h2
  · exact g_3_9 h1 h2
  · exact g_3_10 h1 h2
  · exact g_3_11 h1 h2
  · exact g_3_12 h1 h2
theorem gi_4 {p q : Int} (h1 : 19968 ≤ p ∧ p ≤ 40959) (hq : -9223372036854775808 ≤ q ∧ q ≤ 9223372036854775807) : Good p q := by
  rcases ranges hq with h2 | h2 | h2 | h2 | h2 | h2 | h2 | h2 | h2 | h2 | h2 | h2 | h2
  · exact g_4_0 h1 h2
  · exact g_4_1 h1 h2
  · exact g_4_2 h1 h2
  · exact g_4_3 h1 h2
  · exact g_4_4 h1 h2
  · exact g_4_5 h1 h2
  · exact g_4_6 h1 h2
  · exact g_4_7 h1 h2
  · exact g_4_8 h1 h2
  · exact g_4_9 h1 h2
  · exact g_4_10 h1 h2
  · exact g_4_11 h1 h2
  · exact g_4_12 h1 h2
theorem gi_5 {p q : Int} (h1 : 40960 ≤ p ∧ p ≤ 55295) (hq : -9223372036854775808 ≤ q ∧ q ≤ 9223372036854775807) : Good p q := by
  rcases ranges hq with h2 | h2 | h2 | h2 | h2 | h2 | h2 | h2 | h2 | h2 | h2 | h2 | h2
  · exact g_5_0 h1 h2
  · exact g_5_1 h1 h2
  · exact g_5_2 h1 h2
  · exact g_5_3 h1 h2
  · exact g_5_4 h1 h2
  · exact g_5_5 h1 h2
  · exact g_5_6 h1 h2
  · exact g_5_7 h1 h2
  · exact g_5_8 h1 h2
  · exact g_5_9 h1 h2
  · exact g_5_10 h1 h2
  · exact g_5_11 h1 h2
  · exact g_5_12 h1 h2
theorem gi_6 {p q : Int} (h1 : 55296 ≤ p ∧ p ≤ 57343) (hq : -9223372036854775808 ≤ q ∧ q ≤ 9223372036854775807) : Good p q := by
  rcases ranges hq with h2 | h2 | h2 | h2 | h2 | h2 | h2 | h2 | h2 | h2 | h2 | h2 | h2
  · exact g_6_0 h1 h2
  · exact g_6_1 h1 h2
  · exact g_6_2 h1 h2
  · exact g_6_3 h1 h2
  · exact g_6_4 h1 h2
  · exact g_6_5 h1 h2
  · exact g_6_6 h1 h2
  · exact g_6_7 h1 h2
  · exact g_6_8 h1 h2
  · exact g_6_9 h1 h2
  · exact g_6_10 h1 h2
  · exact g_6_11 h1 h2
  · exact g_6_12 h1 h2
theorem gi_7 {p q : Int} (h1 : 57344 ≤ p ∧ p ≤ 63743) (hq : -9223372036854775808 ≤ q ∧ q ≤ 9223372036854775807) : Good p q := by
  rcases ranges hq with h2 | h2 | h2 | h2 | h2 | h2 | h2 | h2 | h2 | h2 | h2 | h2 | h2
  · exact g_7_0 h1 h2
  · exact g_7_1 h1 h2
  · exact g_7_2 h1 h2
  · exact g_7_3 h1 h2
  · exact g_7_4 h1 h2
  · exact g_7_5 h1 h2
  · exact g_7_6 h1 h2
  · exact g_7_7 h1 h2
  · exact g_7_8 h1 h2
  · exact g_7_9 h1 h2
  · exact g_7_10 h1 h2
  · exact g_7_11 h1 h2
  · exact g_7_12 h1 h2
theorem gi_8 {p q : Int} (h1 : 63744 ≤ p ∧ p ≤ 64255) (hq : -9223372036854775808 ≤ q ∧ q ≤ 9223372036854775807) : Good p q := by
  rcases ranges hq with h2 | h2 | h2 | h2 | h2 | h2 | h2 | h2 | h2 | h2 | h2 | h2 | h2
  · exact g_8_0 h1 h2
  · exact g_8_1 h1 h2
  · exact g_8_2 h1 h2
  · exact g_8_3 h1 h2
  · exact g_8_4 h1 h2
  · exact g_8_5 h1 h2
  · exact g_8_6 h1 h2
  · exact g_8_7 h1 h2
  · exact g_8_8 h1 h2
  · exact g_8_9 h1 h2
  · exact g_8_10 h1 h2
  · exact g_8_11 h1 h2
  · exact g_8_12 h1 h2
theorem gi_9 {p q : Int} (h1 : 64256 ≤ p ∧ p ≤ 131071) (hq : -9223372036854775808 ≤ q ∧ q ≤ 9223372036854775807) : Good p q := by
  rcases ranges hq with h2 | h2 | h2 | h2 | h2 | h2 | h2 | h2 | h2 | h2 | h2 | h2 | h2
  · exact g_9_0 h1 h2
  · exact g_9_1 h1 h2
  · exact g_9_2 h1 h2
  · exact g_9_3 h1 h2
  · exact g_9_4 h1 h2
  · exact g_9_5 h1 h2
  · exact g_9_6 h1 h2
  · exact g_9_7 h1 h2
  · exact g_9_8 h1 h2
  · exact g_9_9 h1 h2
  · exact g_9_10 h1 h2
  · exact g_9_11 h1 h2
  · exact g_9_12 h1 h2
theorem gi_10 {p q : Int} (h1 : 131072 ≤ p ∧ p ≤ 262143) (hq : -9223372036854775808 ≤ q ∧ q ≤ 9223372036854775807) : Good p q := by
  rcases ranges hq with h2 | h2 | h2 | h2 | h2 | h2 | h2 | h2 | h2 | h2 | h2 | h2 | h2
  · exact g_10_0 h1 h2
  · exact g_10_1 h1 h2
  · exact g_10_2 h1 h2
  · exact g_10_3 h1 h2
  · exact g_10_4 h1 h2
  · exact g_10_5 h1 h2
  · exact g_10_6 h1 h2
  · exact g_10_7 h1 h2
  · exact g_10_8 h1 h2
  · exact g_10_9 h1 h2
  · exact g_10_10 h1 h2
  · exact g_10_11 h1 h2
  · exact g_10_12 h1 h2
theorem gi_11 {p q : Int} (h1 : 262144 ≤ p ∧ p ≤ 1114111) (hq : -9223372036854775808 ≤ q ∧ q ≤ 9223372036854775807) : Good p q := by
  rcases ranges hq with h2 | h2 | h2 | h2 | h2 | h2 | h2 | h2 | h2 | h2 | h2 | h2 | h2
  · exact g_11_0 h1 h2
  · exact g_11_1 h1 h2
  · exact g_11_2 h1 h2
  · exact g_11_3 h1 h2
  · exact g_11_4 h1 h2
  · exact g_11_5 h1 h2
  · exact g_11_6 h1 h2
  · exact g_11_7 h1 h2
  · exact g_11_8 h1 h2
  · exact g_11_9 h1 h2
  · exact g_11_10 h1 h2
  · exact g_11_11 h1 h2
  · exact g_11_12 h1 h2
theorem gi_12 {p q : Int} (h1 : 1114112 ≤ p ∧ p ≤ 9223372036854775807) (hq : -9223372036854775808 ≤ q ∧ q ≤ 9223372036854775807) : Good p q := by
  rcases ranges hq with h2 | h2 | h2 | h2 | h2 | h2 | h2 | h2 | h2 | h2 | h2 | h2 | h2
  · exact g_12_0 h1 h2
  · exact g_12_1 h1 h2
  · exact g_12_2 h1 h2
  · exact g_12_3 h1 h2
  · exact g_12_4 h1 h2
  · exact g_12_5 h1 h2
  · exact g_12_6 h1 h2
  · exact g_12_7 h1 h2
  · exact g_12_8 h1 h2
  · exact g_12_9 h1 h2
  · exact g_12_10 h1 h2
  · exact g_12_11 h1 h2
  · exact g_12_12 h1 h2
theorem all_good {p q : Int} (hp : -9223372036854775808 ≤ p ∧ p ≤ 9223372036854775807) (hq : -9223372036854775808 ≤ q ∧ q ≤ 9223372036854775807) : Good p q := by
  rcases ranges hp with h1 | h1 | h1 | h1 | h1 | h1 | h1 | h1 | h1 | h1 | h1 | h1 | h1
  · exact gi_0 h1 hq
  · exact gi_1 h1 hq
  · exact gi_2 h1 hq
  · exact gi_3 h1 hq
  · exact gi_4 h1 hq
  · exact gi_5 h1 hq
  · exact gi_6 h1 hq
  · exact gi_7 h1 hq
  · exact gi_8 h1 hq
  · exact gi_9 h1 hq
  · exact gi_10 h1 hq
  · exact gi_11 h1 hq
  · exact gi_12 h1 hq
end Go.Proofs.YtkecgbcfkbafpaaDoor.tableImplied
