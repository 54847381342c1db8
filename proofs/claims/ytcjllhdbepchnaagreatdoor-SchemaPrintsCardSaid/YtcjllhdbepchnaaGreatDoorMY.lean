/-
  May a text be a field's name: the document's answer and the program's.
-/
import Derived.Test.YtcjllhdbepchnaaGreatDoorMG
import Derived.Test.YtcjllhdbepchnaaGreatDoorMX
import Derived.WalkKit
import Derived.BigGuardPart
namespace Go.Proofs.YtcjllhdbepchnaaGreatDoor
open Go.RowKit Go.WideShapes Go.Shelf
set_option linter.unusedVariables false
theorem nameOk_iff (s : ByteArray) : nameOk s = true ↔ 1 ≤ s.size ∧ s.size ≤ 16 ∧ (∀ h : 0 < s.size, smallB s[0] = true) ∧ ∀ i (h : i < s.size), 0 < i → nameB s[i] = true := by
  unfold nameOk
  obtain ⟨⟨l⟩⟩ := s
  cases l with
  | nil => exact ⟨(fun h => by cases h), (fun h => absurd h.1 (by show ¬ 1 ≤ 0; omega))⟩
  | cons c r =>
    simp only [Bool.and_eq_true, decide_eq_true_eq, List.all_eq_true]
    constructor
    · rintro ⟨⟨h1, h2⟩, h3⟩
      refine ⟨by simp [ByteArray.size, Array.size], h1, fun _ => h2, fun i h hi => ?_⟩
      obtain ⟨j, rfl⟩ : ∃ j, i = j + 1 := ⟨i - 1, by omega⟩
      exact h3 _ (List.getElem_mem (by simpa [ByteArray.size] using h))
    · rintro ⟨h1, h2, h3, h4⟩
      refine ⟨⟨h2, h3 (by simp [ByteArray.size])⟩, fun x hx => ?_⟩
      obtain ⟨j, hj, rfl⟩ := List.getElem_of_mem hx
      exact h4 (j + 1) (by simp [ByteArray.size]; omega) (by omega)
/-- So far it is a name. -/
def NameTo (s : ByteArray) (k : Nat) : Prop := (∀ h : 0 < k, ∀ h2 : 0 < s.size, smallB s[0] = true) ∧ ∀ i (h : i < s.size), 0 < i → i < k → nameB s[i] = true
theorem NameTo.step {s : ByteArray} {k : Nat} (h : NameTo s k) (hlt : k < s.size) (h0 : k = 0 → smallB s[k] = true) (hb : 0 < k → nameB s[k] = true) : NameTo s (k + 1) := by
  refine ⟨fun _ h2 => ?_, fun i hi h1 h2 => ?_⟩
  · by_cases e : k = 0
    · subst e; exact h0 rfl
    · exact h.1 (by omega) h2
  · by_cases e : i = k
    · subst e; exact hb h1
    · exact h.2 i hi h1 (by omega)
theorem NameTo.not {s : ByteArray} {k : Nat} (hlt : k < s.size) (h : (k = 0 ∧ smallB s[k] = false) ∨ (0 < k ∧ nameB s[k] = false)) : nameOk s = false := by
  rw [Bool.eq_false_iff]
  intro h9
  obtain ⟨_, _, h3, h4⟩ := (nameOk_iff s).1 h9
  rcases h with ⟨rfl, h⟩ | ⟨h1, h⟩
  · rw [h3 hlt] at h; cases h
  · rw [h4 k hlt h1] at h; cases h
theorem smallB_iff (c : UInt8) : smallB c = true ↔ 97 ≤ c.toNat ∧ c.toNat ≤ 122 := by simp [smallB]
theorem nameB_iff (c : UInt8) : nameB c = true ↔ (97 ≤ c.toNat ∧ c.toNat ≤ 122) ∨ (48 ≤ c.toNat ∧ c.toNat ≤ 57) ∨ c.toNat = 45 := by simp [nameB, smallB, or_assoc]
theorem byte_cases (n : Nat) : (97 ≤ n ∧ n ≤ 122) ∨ n < 45 ∨ n = 45 ∨ (45 < n ∧ n < 48) ∨ (48 ≤ n ∧ n ≤ 57) ∨ (57 < n ∧ n < 97) ∨ 122 < n := by omega
set_option maxRecDepth 100000 in
set_option maxHeartbeats 2000000 in
theorem refName_any (s : ByteArray) (w : World) (hs : s.size ≤ 140737488351232) :
    Calls Tryz.prog 87 #[.string s] w (Ret (.bool (nameOk s)) w) := by
  have HB0 := Lib.hid (Below.refl w.heap.size w)
  have HI := Lib.hid (nameOk_iff s)
  by_cases h1 : s.size < 1
  · have HE := Lib.hid (show nameOk s = false by rw [Bool.eq_false_iff]; intro h; have := (HI.out.1 h).1; omega)
    go_enter Tryz.func87, Tryz.ntmps87
    go_wp2_with fail
    go_ret
    exact ⟨ret_bool HE.out.symm, HB0.out⟩
  · by_cases h2 : 16 < s.size
    · have HE := Lib.hid (show nameOk s = false by rw [Bool.eq_false_iff]; intro h; have := (HI.out.1 h).2.1; omega)
      have h1b : decide ((s.size : Int) < 1) = false := by simp; omega
      go_enter Tryz.func87, Tryz.ntmps87
      go_wp2_with fail
      go_ret
      exact ⟨ret_bool HE.out.symm, HB0.out⟩
    · have h1b : decide ((s.size : Int) < 1) = false := by simp; omega
      have h2b : decide ((16 : Int) < (s.size : Int)) = false := by simp; omega
      go_enter Tryz.func87, Tryz.ntmps87
      go_wp2_with fail
      go_loopw [3] (fun i wr => ∃ k : Nat, i = .int .i64 k ∧ k ≤ s.size ∧ Hid (Below w.heap.size w wr) ∧ Hid (NameTo s k)) (fun i _ => s.size - (intOf i).toNat)
      case atStart => exact ⟨0, rfl, by omega, HB0, Lib.hid ⟨fun h => absurd h (by omega), fun i h h1 h2 => absurd h2 (by omega)⟩⟩
      case round =>
        clear HB0
        obtain ⟨k, rfl, hk, HB, HN⟩ := hrel
        by_cases hlt : k < s.size
        · have hcs := byte_cases s[k].toNat
          have HSm := Lib.hid (smallB_iff s[k])
          have HNm := Lib.hid (nameB_iff s[k])
          by_cases hk0 : k = 0
          · have hkb : ((k : Int) == 0) = true := by rw [beq_iff_eq]; omega
            rcases hcs with ⟨h1, h2⟩ | h1 | h1 | ⟨h1, h2⟩ | ⟨h1, h2⟩ | ⟨h1, h2⟩ | h1
            · have g0 : (97 : Int) ≤ (s[k].toNat : Int) := by omega
              have g1 : (s[k].toNat : Int) ≤ 122 := by omega
              have gb : ((s[k].toNat : Int) != 45) = true := by rw [bne_iff_ne]; omega
              have HN2 := Lib.hid (HN.out.step hlt (fun h => HSm.out.2 (by omega)) (fun h => HNm.out.2 (by omega)))
              clear h1 h2 hk0
              go_wp2_with fail
              all_goals first
                | (exfalso; omega)
                | exact ⟨⟨k + 1, by go_num, by omega, HB, HN2⟩, by simp [intOf]; omega⟩
            · have g0 : (s[k].toNat : Int) < 45 := by omega
              have gb : ((s[k].toNat : Int) != 45) = true := by rw [bne_iff_ne]; omega
              have HE := Lib.hid (NameTo.not hlt (.inl ⟨hk0, by rw [Bool.eq_false_iff]; intro h; have := HSm.out.1 h; omega⟩))
              clear h1 hk0
              go_wp2_with fail
              all_goals first
                | (exfalso; omega)
                | (go_ret; exact ⟨ret_bool HE.out.symm, HB.out⟩)
            · have g0 : (s[k].toNat : Int) ≤ 45 := by omega
              have g1 : (45 : Int) ≤ (s[k].toNat : Int) := by omega
              have gb : ((s[k].toNat : Int) != 45) = false := by rw [bne_eq_false_iff_eq]; omega
              have HE := Lib.hid (NameTo.not hlt (.inl ⟨hk0, by rw [Bool.eq_false_iff]; intro h; have := HSm.out.1 h; omega⟩))
              clear h1 hk0
              go_wp2_with fail
              all_goals first
                | (exfalso; omega)
                | (go_ret; exact ⟨ret_bool HE.out.symm, HB.out⟩)
            · have g0 : (45 : Int) < (s[k].toNat : Int) := by omega
              have g1 : (s[k].toNat : Int) < 48 := by omega
              have gb : ((s[k].toNat : Int) != 45) = true := by rw [bne_iff_ne]; omega
              have HE := Lib.hid (NameTo.not hlt (.inl ⟨hk0, by rw [Bool.eq_false_iff]; intro h; have := HSm.out.1 h; omega⟩))
              clear h1 h2 hk0
              go_wp2_with fail
              all_goals first
                | (exfalso; omega)
                | (go_ret; exact ⟨ret_bool HE.out.symm, HB.out⟩)
            · have g0 : (48 : Int) ≤ (s[k].toNat : Int) := by omega
              have g1 : (s[k].toNat : Int) ≤ 57 := by omega
              have gb : ((s[k].toNat : Int) != 45) = true := by rw [bne_iff_ne]; omega
              have HE := Lib.hid (NameTo.not hlt (.inl ⟨hk0, by rw [Bool.eq_false_iff]; intro h; have := HSm.out.1 h; omega⟩))
              clear h1 h2 hk0
              go_wp2_with fail
              all_goals first
                | (exfalso; omega)
                | (go_ret; exact ⟨ret_bool HE.out.symm, HB.out⟩)
            · have g0 : (57 : Int) < (s[k].toNat : Int) := by omega
              have g1 : (s[k].toNat : Int) < 97 := by omega
              have gb : ((s[k].toNat : Int) != 45) = true := by rw [bne_iff_ne]; omega
              have HE := Lib.hid (NameTo.not hlt (.inl ⟨hk0, by rw [Bool.eq_false_iff]; intro h; have := HSm.out.1 h; omega⟩))
              clear h1 h2 hk0
              go_wp2_with fail
              all_goals first
                | (exfalso; omega)
                | (go_ret; exact ⟨ret_bool HE.out.symm, HB.out⟩)
            · have g0 : (122 : Int) < (s[k].toNat : Int) := by omega
              have gb : ((s[k].toNat : Int) != 45) = true := by rw [bne_iff_ne]; omega
              have HE := Lib.hid (NameTo.not hlt (.inl ⟨hk0, by rw [Bool.eq_false_iff]; intro h; have := HSm.out.1 h; omega⟩))
              clear h1 hk0
              go_wp2_with fail
              all_goals first
                | (exfalso; omega)
                | (go_ret; exact ⟨ret_bool HE.out.symm, HB.out⟩)
          · have hkb : ((k : Int) == 0) = false := by rw [beq_eq_false_iff_ne]; omega
            rcases hcs with ⟨h1, h2⟩ | h1 | h1 | ⟨h1, h2⟩ | ⟨h1, h2⟩ | ⟨h1, h2⟩ | h1
            · have g0 : (97 : Int) ≤ (s[k].toNat : Int) := by omega
              have g1 : (s[k].toNat : Int) ≤ 122 := by omega
              have gb : ((s[k].toNat : Int) != 45) = true := by rw [bne_iff_ne]; omega
              have HN2 := Lib.hid (HN.out.step hlt (fun h => HSm.out.2 (by omega)) (fun h => HNm.out.2 (by omega)))
              clear h1 h2 hk0
              go_wp2_with fail
              all_goals first
                | (exfalso; omega)
                | exact ⟨⟨k + 1, by go_num, by omega, HB, HN2⟩, by simp [intOf]; omega⟩
            · have g0 : (s[k].toNat : Int) < 45 := by omega
              have gb : ((s[k].toNat : Int) != 45) = true := by rw [bne_iff_ne]; omega
              have HE := Lib.hid (NameTo.not hlt (.inr ⟨by omega, by rw [Bool.eq_false_iff]; intro h; have := HNm.out.1 h; omega⟩))
              clear h1 hk0
              go_wp2_with fail
              all_goals first
                | (exfalso; omega)
                | (go_ret; exact ⟨ret_bool HE.out.symm, HB.out⟩)
            · have g0 : (s[k].toNat : Int) ≤ 45 := by omega
              have g1 : (45 : Int) ≤ (s[k].toNat : Int) := by omega
              have gb : ((s[k].toNat : Int) != 45) = false := by rw [bne_eq_false_iff_eq]; omega
              have HN2 := Lib.hid (HN.out.step hlt (fun h => absurd h hk0) (fun h => HNm.out.2 (by omega)))
              clear h1 hk0
              go_wp2_with fail
              all_goals first
                | (exfalso; omega)
                | exact ⟨⟨k + 1, by go_num, by omega, HB, HN2⟩, by simp [intOf]; omega⟩
            · have g0 : (45 : Int) < (s[k].toNat : Int) := by omega
              have g1 : (s[k].toNat : Int) < 48 := by omega
              have gb : ((s[k].toNat : Int) != 45) = true := by rw [bne_iff_ne]; omega
              have HE := Lib.hid (NameTo.not hlt (.inr ⟨by omega, by rw [Bool.eq_false_iff]; intro h; have := HNm.out.1 h; omega⟩))
              clear h1 h2 hk0
              go_wp2_with fail
              all_goals first
                | (exfalso; omega)
                | (go_ret; exact ⟨ret_bool HE.out.symm, HB.out⟩)
            · have g0 : (48 : Int) ≤ (s[k].toNat : Int) := by omega
              have g1 : (s[k].toNat : Int) ≤ 57 := by omega
              have gb : ((s[k].toNat : Int) != 45) = true := by rw [bne_iff_ne]; omega
              have HN2 := Lib.hid (HN.out.step hlt (fun h => absurd h hk0) (fun h => HNm.out.2 (by omega)))
              clear h1 h2 hk0
              go_wp2_with fail
              all_goals first
                | (exfalso; omega)
                | exact ⟨⟨k + 1, by go_num, by omega, HB, HN2⟩, by simp [intOf]; omega⟩
            · have g0 : (57 : Int) < (s[k].toNat : Int) := by omega
              have g1 : (s[k].toNat : Int) < 97 := by omega
              have gb : ((s[k].toNat : Int) != 45) = true := by rw [bne_iff_ne]; omega
              have HE := Lib.hid (NameTo.not hlt (.inr ⟨by omega, by rw [Bool.eq_false_iff]; intro h; have := HNm.out.1 h; omega⟩))
              clear h1 h2 hk0
              go_wp2_with fail
              all_goals first
                | (exfalso; omega)
                | (go_ret; exact ⟨ret_bool HE.out.symm, HB.out⟩)
            · have g0 : (122 : Int) < (s[k].toNat : Int) := by omega
              have gb : ((s[k].toNat : Int) != 45) = true := by rw [bne_iff_ne]; omega
              have HE := Lib.hid (NameTo.not hlt (.inr ⟨by omega, by rw [Bool.eq_false_iff]; intro h; have := HNm.out.1 h; omega⟩))
              clear h1 hk0
              go_wp2_with fail
              all_goals first
                | (exfalso; omega)
                | (go_ret; exact ⟨ret_bool HE.out.symm, HB.out⟩)
        · obtain rfl : k = s.size := by omega
          have HE := Lib.hid (show nameOk s = true from HI.out.2 ⟨by omega, by omega, fun h => HN.out.1 h h, fun i h hi => HN.out.2 i h hi h⟩)
          go_wp2_with fail
          go_ret
          exact ⟨ret_bool HE.out.symm, HB.out⟩
theorem mem_takeWhile {α : Type} {p : α → Bool} : ∀ {l : List α} {x : α}, x ∈ l.takeWhile p → p x = true
  | [], x, h => by cases h
  | a :: l, x, h => by
    rw [List.takeWhile_cons] at h
    split at h
    · rename_i ha
      rcases List.mem_cons.1 h with rfl | h
      · exact ha
      · exact mem_takeWhile h
    · cases h
theorem dropWhile_nil {α : Type} {p : α → Bool} : ∀ {l : List α}, l.dropWhile p = [] ↔ ∀ x ∈ l, p x = true
  | [] => by simp
  | a :: l => by
    rw [List.dropWhile_cons]
    split
    · rename_i h
      rw [dropWhile_nil]
      simp [h]
    · rename_i h
      exact ⟨(fun e => by cases e), (fun e => absurd (e a (by simp)) h)⟩
theorem trimS_nil (l cs : List UInt8) : Lib.trimS l cs = [] ↔ ∀ c ∈ l, c ∈ cs := by
  unfold Lib.trimS Lib.trimLeftS Lib.trimRightS
  rw [dropWhile_nil]
  constructor
  · intro h c hc
    have h2 : c ∈ l.reverse.takeWhile (cs.contains ·) ++ l.reverse.dropWhile (cs.contains ·) := by rw [List.takeWhile_append_dropWhile]; simpa using hc
    rcases List.mem_append.1 h2 with h2 | h2
    · simpa using mem_takeWhile h2
    · simpa using h c (by simpa using h2)
  · intro h c hc
    have h2 : l.reverse.dropWhile (cs.contains ·) = [] := dropWhile_nil.2 fun x hx => by simpa using h x (by simpa using hx)
    rw [h2] at hc
    cases hc
theorem mem_cutset (c : UInt8) : c ∈ [97, 98, 99, 100, 101, 102, 103, 104, 105, 106, 107, 108, 109, 110, 111, 112, 113, 114, 115, 116, 117, 118, 119, 120, 121, 122, 48, 49, 50, 51, 52, 53, 54, 55, 56, 57, (45 : UInt8)] ↔ nameB c = true := by
  have key : ∀ n : Fin 256, (decide ((UInt8.ofFin n) ∈ [97, 98, 99, 100, 101, 102, 103, 104, 105, 106, 107, 108, 109, 110, 111, 112, 113, 114, 115, 116, 117, 118, 119, 120, 121, 122, 48, 49, 50, 51, 52, 53, 54, 55, 56, 57, (45 : UInt8)])) = nameB (UInt8.ofFin n) := by decide +kernel
  have h := key c.toFin
  have e : UInt8.ofFin c.toFin = c := by cases c; rfl
  rw [e] at h
  rw [← h, decide_eq_true_eq]
def cutset : ByteArray := ⟨#[97, 98, 99, 100, 101, 102, 103, 104, 105, 106, 107, 108, 109, 110, 111, 112, 113, 114, 115, 116, 117, 118, 119, 120, 121, 122, 48, 49, 50, 51, 52, 53, 54, 55, 56, 57, 45]⟩
set_option maxRecDepth 100000 in
set_option maxHeartbeats 2000000 in
theorem isName_any (s : ByteArray) (w : World) (hs : s.size ≤ 140737488351232) :
    Calls Tryz.prog 91 #[.string s] w (Ret (.bool (nameOk s)) w) := by
  have HB0 := Lib.hid (Below.refl w.heap.size w)
  have HI := Lib.hid (nameOk_iff s)
  by_cases h1 : s.size < 1
  · have HE := Lib.hid (show nameOk s = false by rw [Bool.eq_false_iff]; intro h; have := (HI.out.1 h).1; omega)
    have e0 : s = ⟨#[]⟩ := ba_nil (by omega)
    have h0 : s.toList.isEmpty = true := by rw [e0, ByteArray.toList_eq]; rfl
    have h00 : (s.toList == []) = true := by rw [e0, ByteArray.toList_eq]; rfl
    clear e0
    go_enter Tryz.func91, Tryz.ntmps91
    go_wp2_with fail
    go_ret
    exact ⟨ret_bool HE.out.symm, HB0.out⟩
  · have h0 : s.toList.isEmpty = false := toList_ne (by omega)
    have h00 : (s.toList == []) = false := by
      have := toList_ne (m := s) (by omega)
      cases hl : s.toList with
      | nil => rw [hl] at this; cases this
      | cons a l => rfl
    by_cases h2 : 16 < s.size
    · have HE := Lib.hid (show nameOk s = false by rw [Bool.eq_false_iff]; intro h; have := (HI.out.1 h).2.1; omega)
      go_enter Tryz.func91, Tryz.ntmps91
      go_wp2_with fail
      go_ret
      exact ⟨ret_bool HE.out.symm, HB0.out⟩
    · have h2b : decide ((16 : Int) < (s.size : Int)) = false := by simp; omega
      have hpos : 0 < s.size := by omega
      have HSm := Lib.hid (smallB_iff s[0])
      by_cases h3 : s[0].toNat < 97
      · have h3I : (s[0].toNat : Int) < 97 := by omega
        have HE := Lib.hid (NameTo.not hpos (.inl ⟨rfl, by rw [Bool.eq_false_iff]; intro h; have := HSm.out.1 h; omega⟩))
        clear h3
        go_enter Tryz.func91, Tryz.ntmps91
        go_wp2_with fail
        go_ret
        exact ⟨ret_bool HE.out.symm, HB0.out⟩
      · by_cases h4 : 122 < s[0].toNat
        · have h3I : ¬ (s[0].toNat : Int) < 97 := by omega
          have h4I : (122 : Int) < (s[0].toNat : Int) := by omega
          have HE := Lib.hid (NameTo.not hpos (.inl ⟨rfl, by rw [Bool.eq_false_iff]; intro h; have := HSm.out.1 h; omega⟩))
          clear h3 h4
          go_enter Tryz.func91, Tryz.ntmps91
          go_wp2_with fail
          go_ret
          exact ⟨ret_bool HE.out.symm, HB0.out⟩
        · have h3I : ¬ (s[0].toNat : Int) < 97 := by omega
          have h4I : ¬ (122 : Int) < (s[0].toNat : Int) := by omega
          have hcon := Any.strings_Trim_laid lays160 (by kernel_rfl) s cutset w (by omega) (by decide) (ascii_of_all (by decide))
          change Calls Tryz.prog 111 _ _ (fun e w' => e = .returned (.string ⟨(Lib.trimS s.data.toList cutset.data.toList).toArray⟩) ∧ Below w.heap.size w w') at hcon
          have HN := Lib.hid (show (⟨(Lib.trimS s.data.toList cutset.data.toList).toArray⟩ : ByteArray).toList = [] ↔ nameOk s = true by
            rw [ByteArray.toList_eq]
            show Lib.trimS s.data.toList cutset.data.toList = [] ↔ _
            rw [trimS_nil, nameOk_iff]
            have hsm := HSm.out.2 ⟨by omega, by omega⟩
            constructor
            · intro h
              refine ⟨by omega, by omega, fun _ => hsm, fun i hi _ => ?_⟩
              exact (mem_cutset _).1 (h s[i] (List.mem_of_getElem (i := i) (h := by rw [len_toList]; exact hi) rfl))
            · rintro ⟨_, _, _, h⟩ c hc
              obtain ⟨i, hi, rfl⟩ := List.getElem_of_mem hc
              rw [len_toList] at hi
              refine (mem_cutset _).2 ?_
              by_cases h0 : i = 0
              · subst h0; exact (nameB_iff _).2 (.inl (HSm.out.1 hsm))
              · exact h i hi (by omega))
          generalize (⟨(Lib.trimS s.data.toList cutset.data.toList).toArray⟩ : ByteArray) = r at hcon HN
          have HC := Lib.hid hcon
          clear hcon h3 h4
          unfold cutset at HC
          go_enter Tryz.func91, Tryz.ntmps91
          go_wp2_with fail
          refine HC.out.mono ?_
          rintro e w2 ⟨rfl, hb2⟩
          have HB2 := Lib.hid hb2
          clear hb2
          go_wp2_with fail
          go_ret
          refine ⟨ret_bool ?_, HB2.out⟩
          rw [Bool.eq_iff_iff, ← HN.out, List.isEmpty_iff]
end Go.Proofs.YtcjllhdbepchnaaGreatDoor
