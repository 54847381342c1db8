/-
  Plain laws on UTF-8, no program in sight: a text whose characters are all good is the text of its points, and the points of a text of points are those points; both orders agree.
-/
import Derived.Test.YtdidepaldppcjaaUtfText
namespace Go.Proofs.Ytdidepaldppcjaa
/-- The bytes of a string. -/
def bytesOf (s : ByteArray) : List Nat := s.data.toList.map (·.toNat)
theorem bytesOf_len (s : ByteArray) : (bytesOf s).length = s.size := by simp [bytesOf]
theorem byteD_bytes (s : ByteArray) (i : Nat) : byteD s i = (bytesOf s)[i]?.getD 0 := by
  unfold byteD bytesOf
  split
  · rename_i h
    have h' : i < s.data.toList.length := by simpa using h
    simp [List.getElem?_eq_getElem h']
    rfl
  · rename_i h
    have h' : s.data.toList.length ≤ i := by simpa using h
    simp [List.getElem?_eq_none h']
theorem strOf_bytes (s : ByteArray) : strOf (bytesOf s) = s := by
  cases s with | mk d =>
  have : (UInt8.ofNat ∘ fun x : UInt8 => x.toNat) = id := by funext x; simp
  simp [strOf, bytesOf, this]
theorem bytes_strOf {l : List Nat} (h : ∀ b ∈ l, b < 256) : bytesOf (strOf l) = l := by
  unfold bytesOf strOf
  simp only [List.map_map]
  conv => rhs; rw [← List.map_id l]
  apply List.map_congr_left
  intro b hb
  have := h b hb
  simp; omega
theorem strOf_size (l : List Nat) : (strOf l).size = l.length := by simp [strOf, ByteArray.size]
theorem behindB_D (s : ByteArray) (k lo hi : Nat) : behindB s k lo hi = (decide (k < s.size) && (decide (lo ≤ byteD s k) && decide (byteD s k ≤ hi))) := by
  by_cases h : k < s.size <;> simp [behindB, byteD, h]
/-- wideF by the bytes. -/
theorem wideF_D (s : ByteArray) (k n : Nat) (hn : wn (byteD s k) = n) (h1 : 1 < n) (h4 : n ≤ 4) (hk : k + n ≤ s.size) (hb1 : wlo (byteD s k) ≤ byteD s (k + 1)) (hb2 : byteD s (k + 1) ≤ whi (byteD s k))
    (hr : ∀ m, 2 ≤ m → m < n → 128 ≤ byteD s (k + m) ∧ byteD s (k + m) ≤ 191) : wideF s k (byteD s k) = n := by
  rw [← hn]
  refine wideF_yes (by omega) (by omega) rfl rfl ?_ fun m h2 h3 => ?_
  · rw [behindB_D]; simp; omega
  · have := hr m h2 (by omega)
    rw [behindB_D]; simp; omega
theorem wideF_inv {s : ByteArray} {k n : Nat} (h : wideF s k (byteD s k) = n) (hn : 1 < n) : wn (byteD s k) = n ∧ n ≤ 4 ∧ wlo (byteD s k) ≤ byteD s (k + 1) ∧ byteD s (k + 1) ≤ whi (byteD s k) ∧ ∀ m, 2 ≤ m → m < n → 128 ≤ byteD s (k + m) ∧ byteD s (k + m) ≤ 191 := by
  have h4 : n ≤ 4 := by rw [← h]; exact wideF_le s k (byteD s k)
  unfold wideF at h
  split at h
  · omega
  · split at h
    · rename_i hw
      simp only [Bool.and_eq_true, Bool.or_eq_true, decide_eq_true_eq, behindB_D] at hw
      obtain ⟨⟨⟨a1, a2, a3⟩, hb⟩, hc⟩ := hw
      refine ⟨h, by omega, a2, a3, fun m h2 h3 => ?_⟩
      have hm : m = 2 ∨ m = 3 := by omega
      rcases hm with rfl | rfl <;> omega
    · omega
theorem wideF_inv1 {s : ByteArray} {k : Nat} (h : wideF s k (byteD s k) = 1) : byteD s k ≤ 127 := by
  unfold wideF at h
  split at h
  · unfold wn at h
    split at h
    · assumption
    · repeat' split at h
      all_goals omega
  · split at h <;> omega
theorem wn_inv {b n : Nat} (h : wn b = n) : (n = 2 → 0xc2 ≤ b ∧ b ≤ 0xdf) ∧ (n = 3 → 0xe0 ≤ b ∧ b ≤ 0xef) ∧ (n = 4 → 0xf0 ≤ b ∧ b ≤ 0xf4) := by
  unfold wn at h
  repeat' split at h
  all_goals omega
theorem charPt_1 (s : ByteArray) (k : Nat) : charPt s k 1 = byteD s k := rfl
theorem charPt_2 (s : ByteArray) (k : Nat) : charPt s k 2 = byteD s k % 32 * 64 + byteD s (k + 1) % 64 := rfl
theorem charPt_3 (s : ByteArray) (k : Nat) : charPt s k 3 = (byteD s k % 16 * 64 + byteD s (k + 1) % 64) * 64 + byteD s (k + 2) % 64 := rfl
theorem charPt_4 (s : ByteArray) (k : Nat) : charPt s k 4 = ((byteD s k % 8 * 64 + byteD s (k + 1) % 64) * 64 + byteD s (k + 2) % 64) * 64 + byteD s (k + 3) % 64 := rfl
theorem isPt_bounds' {p : Int} (h : isPt p = true) : 0 ≤ p ∧ p ≤ 1114111 := by
  simp [isPt] at h; omega
theorem isPt_nat {p : Nat} : isPt (p : Int) = true ↔ p ≤ 1114111 ∧ (p < 55296 ∨ 57343 < p) := by
  simp [isPt]; omega
theorem charB_pos (p : Nat) : 0 < (charB p).length := by
  unfold charB; split
  · simp
  · split
    · simp
    · split <;> simp
/-- A character's bytes, wherever they stand, are read as that character. -/
theorem enc_read {s : ByteArray} {k p : Nat} (hp : isPt (p : Int) = true) (hk : k + (charB p).length ≤ s.size) (hb : ∀ i (h : i < (charB p).length), byteD s (k + i) = (charB p)[i]) :
    wideF s k (byteD s k) = (charB p).length ∧ charPt s k (charB p).length = p := by
  rw [isPt_nat] at hp
  have HC : p < 128 ∨ (128 ≤ p ∧ p < 2048) ∨ (2048 ≤ p ∧ p < 65536) ∨ 65536 ≤ p := by omega
  rcases HC with h | ⟨h, h'⟩ | ⟨h, h'⟩ | h
  · have e := charB_1 h
    simp only [e] at hk hb ⊢
    have b0 := hb 0 (by simp)
    simp at b0 hk ⊢
    refine ⟨?_, by rw [charPt_1]; exact b0⟩
    rw [b0]; exact wideF_one (by omega)
  · have e := charB_2 h h'
    simp only [e] at hk hb ⊢
    have b0 := hb 0 (by simp)
    have b1 := hb 1 (by simp)
    simp at b0 b1 hk ⊢
    refine ⟨wideF_D s k 2 (wn_is.2.1 (by omega) (by omega)) (by omega) (by omega) hk ?_ ?_ (by omega), by rw [charPt_2]; omega⟩
    · rw [wlo_is.1 (by omega) (by omega)]; omega
    · rw [whi_is.1 (by omega) (by omega)]; omega
  · have e := charB_3 h h'
    simp only [e] at hk hb ⊢
    have b0 := hb 0 (by simp)
    have b1 := hb 1 (by simp)
    have b2 := hb 2 (by simp)
    simp at b0 b1 b2 hk ⊢
    refine ⟨wideF_D s k 3 (wn_is.2.2.1 (by omega) (by omega)) (by omega) (by omega) hk ?_ ?_ (fun m h2 h3 => ?_), by rw [charPt_3]; omega⟩
    · by_cases q : byteD s k = 0xe0
      · rw [wlo_is.2.1 q]; omega
      · rw [wlo_is.1 q (by omega)]; omega
    · by_cases q : byteD s k = 0xed
      · rw [whi_is.2.1 q]; omega
      · rw [whi_is.1 q (by omega)]; omega
    · obtain rfl : m = 2 := by omega
      omega
  · have e := charB_4 h
    simp only [e] at hk hb ⊢
    have b0 := hb 0 (by simp)
    have b1 := hb 1 (by simp)
    have b2 := hb 2 (by simp)
    have b3 := hb 3 (by simp)
    simp at b0 b1 b2 b3 hk ⊢
    refine ⟨wideF_D s k 4 (wn_is.2.2.2.1 (by omega) (by omega)) (by omega) (by omega) hk ?_ ?_ (fun m h2 h3 => ?_), by rw [charPt_4]; omega⟩
    · by_cases q : byteD s k = 0xf0
      · rw [wlo_is.2.2 q]; omega
      · rw [wlo_is.1 (by omega) q]; omega
    · by_cases q : byteD s k = 0xf4
      · rw [whi_is.2.2 q]; omega
      · rw [whi_is.1 (by omega) q]; omega
    · have hm : m = 2 ∨ m = 3 := by omega
      rcases hm with rfl | rfl <;> omega
/-- A good character is a point, and its bytes are the point's. -/
theorem read_enc {s : ByteArray} {k n : Nat} (h : wideF s k (byteD s k) = n) (hn : 0 < n) :
    isPt (charPt s k n : Int) = true ∧ (charB (charPt s k n)).length = n ∧ ∀ i (h : i < (charB (charPt s k n)).length), (charB (charPt s k n))[i] = byteD s (k + i) := by
  have h4 := wideF_le s k (byteD s k)
  have HC : n = 1 ∨ n = 2 ∨ n = 3 ∨ n = 4 := by omega
  rcases HC with rfl | rfl | rfl | rfl
  · have := wideF_inv1 h
    rw [charPt_1, isPt_nat]
    have e := charB_1 (p := byteD s k) (by omega)
    simp only [e]
    exact ⟨by omega, rfl, fun i hi => by simp at hi; subst hi; rfl⟩
  · obtain ⟨hw, _, hl, hh, _⟩ := wideF_inv h (by omega)
    have hr := (wn_inv hw).1 rfl
    rw [wlo_is.1 (by omega) (by omega)] at hl
    rw [whi_is.1 (by omega) (by omega)] at hh
    rw [charPt_2, isPt_nat]
    have e := charB_2 (p := byteD s k % 32 * 64 + byteD s (k + 1) % 64) (by omega) (by omega)
    simp only [e]
    refine ⟨by omega, rfl, fun i hi => ?_⟩
    simp at hi
    have hm : i = 0 ∨ i = 1 := by omega
    rcases hm with rfl | rfl <;> simp <;> omega
  · obtain ⟨hw, _, hl, hh, hr2⟩ := wideF_inv h (by omega)
    have hr := (wn_inv hw).2.1 rfl
    have h2 := hr2 2 (by omega) (by omega)
    have hl' : 128 ≤ byteD s (k + 1) ∧ (byteD s k = 0xe0 → 160 ≤ byteD s (k + 1)) := by
      by_cases q : byteD s k = 0xe0
      · rw [wlo_is.2.1 q] at hl; omega
      · rw [wlo_is.1 q (by omega)] at hl; omega
    have hh' : byteD s (k + 1) ≤ 191 ∧ (byteD s k = 0xed → byteD s (k + 1) ≤ 159) := by
      by_cases q : byteD s k = 0xed
      · rw [whi_is.2.1 q] at hh; omega
      · rw [whi_is.1 q (by omega)] at hh; omega
    clear hl hh
    rw [charPt_3, isPt_nat]
    have e := charB_3 (p := (byteD s k % 16 * 64 + byteD s (k + 1) % 64) * 64 + byteD s (k + 2) % 64) (by omega) (by omega)
    simp only [e]
    refine ⟨by omega, rfl, fun i hi => ?_⟩
    simp at hi
    have hm : i = 0 ∨ i = 1 ∨ i = 2 := by omega
    rcases hm with rfl | rfl | rfl <;> simp <;> omega
  · obtain ⟨hw, _, hl, hh, hr2⟩ := wideF_inv h (by omega)
    have hr := (wn_inv hw).2.2 rfl
    have h2 := hr2 2 (by omega) (by omega)
    have h3 := hr2 3 (by omega) (by omega)
    have hl' : 128 ≤ byteD s (k + 1) ∧ (byteD s k = 0xf0 → 144 ≤ byteD s (k + 1)) := by
      by_cases q : byteD s k = 0xf0
      · rw [wlo_is.2.2 q] at hl; omega
      · rw [wlo_is.1 (by omega) q] at hl; omega
    have hh' : byteD s (k + 1) ≤ 191 ∧ (byteD s k = 0xf4 → byteD s (k + 1) ≤ 143) := by
      by_cases q : byteD s k = 0xf4
      · rw [whi_is.2.2 q] at hh; omega
      · rw [whi_is.1 (by omega) q] at hh; omega
    clear hl hh
    rw [charPt_4, isPt_nat]
    have e := charB_4 (p := ((byteD s k % 8 * 64 + byteD s (k + 1) % 64) * 64 + byteD s (k + 2) % 64) * 64 + byteD s (k + 3) % 64) (by omega)
    simp only [e]
    refine ⟨by omega, rfl, fun i hi => ?_⟩
    simp at hi
    have hm : i = 0 ∨ i = 1 ∨ i = 2 ∨ i = 3 := by omega
    rcases hm with rfl | rfl | rfl | rfl <;> simp <;> omega
/-! ### whole texts -/
theorem drop_split {l a : List Nat} {k : Nat} (ha : ∀ i (h : i < a.length), l[k + i]?.getD 0 = a[i]) (hk : k + a.length ≤ l.length) : l.drop k = a ++ l.drop (k + a.length) := by
  apply List.ext_getElem?
  intro i
  rw [List.getElem?_drop]
  by_cases hi : i < a.length
  · rw [List.getElem?_append_left hi, List.getElem?_eq_getElem hi, ← ha i hi, List.getElem?_eq_getElem (by omega)]
    simp
  · rw [List.getElem?_append_right (by omega), List.getElem?_drop]
    congr 1; omega
theorem good_text (s : ByteArray) : ∀ f k, s.size - k ≤ f → k ≤ s.size → badAt (charsFrom s f k) = none →
    (∀ p ∈ ptsOf (charsFrom s f k), isPt p = true) ∧ (bytesOf s).drop k = textB (ptsOf (charsFrom s f k)) := by
  intro f
  induction f with
  | zero =>
    intro k h hk _
    have : k = s.size := by omega
    subst this
    refine ⟨by simp [charsFrom, ptsOf], ?_⟩
    rw [List.drop_of_length_le (by rw [bytesOf_len]; exact Nat.le_refl _)]; simp [charsFrom, ptsOf, textB]
  | succ f ih =>
    intro k h hk hb
    by_cases hlt : k < s.size
    · simp only [charsFrom, hlt, if_true] at hb ⊢
      by_cases h0 : wideF s k (byteD s k) = 0
      · simp [h0, badAt] at hb
      · simp only [h0, if_false] at hb ⊢
        obtain ⟨n, hn⟩ : ∃ n, wideF s k (byteD s k) = n := ⟨_, rfl⟩
        have hf : k + wideF s k (byteD s k) ≤ s.size := wideF_fits hlt
        rw [hn] at hb h0 hf ⊢
        simp only [badAt] at hb
        rw [if_neg (by omega)] at hb
        obtain ⟨r1, r2, r3⟩ := read_enc hn (by omega)
        obtain ⟨i1, i2⟩ := ih (k + n) (by omega) hf hb
        refine ⟨?_, ?_⟩
        · intro p hp
          simp only [ptsOf, List.map_cons, List.mem_cons] at hp
          rcases hp with rfl | hp
          · exact r1
          · exact i1 p hp
        · rw [drop_split (a := charB (charPt s k n)) (fun i hi => by rw [r3 i hi, byteD_bytes]) (by rw [r2, bytesOf_len]; exact hf), r2, i2]
          simp [ptsOf, textB]
    · have : k = s.size := by omega
      subst this
      refine ⟨by simp [charsFrom, ptsOf], ?_⟩
      rw [List.drop_of_length_le (by rw [bytesOf_len]; exact Nat.le_refl _)]; simp [charsFrom, ptsOf, textB]
/-- A text whose characters are all good: its points are points, and it is their text. -/
theorem good_whole {s : ByteArray} (h : badAt (chars s) = none) : (∀ p ∈ ptsOf (chars s), isPt p = true) ∧ bytesOf s = textB (ptsOf (chars s)) := by
  have := good_text s s.size 0 (by omega) (by omega) h
  exact this
theorem text_good (s : ByteArray) : ∀ (l : List Int) f k, s.size - k ≤ f → k ≤ s.size → (∀ p ∈ l, isPt p = true) → (bytesOf s).drop k = textB l →
    badAt (charsFrom s f k) = none ∧ ptsOf (charsFrom s f k) = l := by
  intro l
  induction l with
  | nil =>
    intro f k h hk _ hb
    have hlen := congrArg List.length hb
    simp [textB, bytesOf_len] at hlen
    rw [charsFrom_end _ (by omega)]
    exact ⟨rfl, rfl⟩
  | cons p r ih =>
    intro f k h hk hp hb
    obtain ⟨q, hq⟩ := Int.eq_ofNat_of_zero_le (isPt_bounds' (hp p (by simp))).1
    subst hq
    have hpq := hp (q : Int) (by simp)
    simp only [textB, List.flatMap_cons, Int.toNat_natCast] at hb
    have hlen := congrArg List.length hb
    have hpos := charB_pos q
    simp [bytesOf_len] at hlen
    have hget : ∀ i (h : i < (charB q).length), byteD s (k + i) = (charB q)[i] := by
      intro i hi
      rw [byteD_bytes, ← List.getElem?_drop, hb, List.getElem?_append_left hi, List.getElem?_eq_getElem hi]; rfl
    obtain ⟨e1, e2⟩ := enc_read hpq (by omega) hget
    have hlt : k < s.size := by omega
    cases f with
    | zero => omega
    | succ f =>
      simp only [charsFrom, hlt, if_true]
      rw [if_neg (by omega), e1, e2]
      have hd : (bytesOf s).drop (k + (charB q).length) = textB r := by
        rw [← List.drop_drop, hb, List.drop_left]; rfl
      obtain ⟨i1, i2⟩ := ih f (k + (charB q).length) (by omega) (by omega) (fun p hp' => hp p (by simp [hp'])) hd
      refine ⟨?_, ?_⟩
      · simp only [badAt]; rw [if_neg (by omega)]; exact i1
      · simp only [ptsOf, List.map_cons] at i2 ⊢; rw [i2]
theorem whole_good {s : ByteArray} {l : List Int} (hp : ∀ p ∈ l, isPt p = true) (hb : bytesOf s = textB l) : badAt (chars s) = none ∧ ptsOf (chars s) = l :=
  text_good s l s.size 0 (by omega) (by omega) hp (by rw [List.drop_zero]; exact hb)
theorem charB_lt {p : Nat} (h : p ≤ 1114111) : ∀ b ∈ charB p, b < 256 := by
  unfold charB; split
  · simp; omega
  · split
    · simp; omega
    · split <;> (simp; omega)
theorem textB_lt {l : List Int} (h : ∀ p ∈ l, isPt p = true) : ∀ b ∈ textB l, b < 256 := by
  intro b hb
  simp only [textB, List.mem_flatMap] at hb
  obtain ⟨p, hp, hb⟩ := hb
  have := isPt_bounds' (h p hp)
  exact charB_lt (p := p.toNat) (by omega) b hb
/-- The text of points has these points. -/
theorem text_whole {l : List Int} (h : ∀ p ∈ l, isPt p = true) : badAt (chars (strOf (textB l))) = none ∧ ptsOf (chars (strOf (textB l))) = l :=
  whole_good h (bytes_strOf (textB_lt h))
/-- The text of a good text's points is the text. -/
theorem whole_text {s : ByteArray} (h : badAt (chars s) = none) : strOf (textB (ptsOf (chars s))) = s := by
  rw [← (good_whole h).2, strOf_bytes]
/-- What stands ahead of the first bad place is the text of points. -/
theorem bad_text (s : ByteArray) : ∀ f k b, s.size - k ≤ f → k ≤ s.size → badAt (charsFrom s f k) = some b →
    k ≤ b ∧ b < s.size ∧ ∃ l : List Int, (∀ p ∈ l, isPt p = true) ∧ ((bytesOf s).drop k).take (b - k) = textB l := by
  intro f
  induction f with
  | zero => intro k b h hk hb; simp [charsFrom, badAt] at hb
  | succ f ih =>
    intro k b h hk hb
    by_cases hlt : k < s.size
    · simp only [charsFrom, hlt, if_true] at hb
      by_cases h0 : wideF s k (byteD s k) = 0
      · simp [h0, badAt] at hb
        subst hb
        exact ⟨Nat.le_refl _, hlt, [], by simp, by simp [textB]⟩
      · simp only [h0, if_false] at hb
        obtain ⟨n, hn⟩ : ∃ n, wideF s k (byteD s k) = n := ⟨_, rfl⟩
        have hf : k + wideF s k (byteD s k) ≤ s.size := wideF_fits hlt
        rw [hn] at hb h0 hf
        simp only [badAt] at hb
        rw [if_neg (by omega)] at hb
        obtain ⟨r1, r2, r3⟩ := read_enc hn (by omega)
        obtain ⟨i1, i2, l, i3, i4⟩ := ih (k + n) b (by omega) hf hb
        refine ⟨by omega, i2, (charPt s k n : Int) :: l, ?_, ?_⟩
        · intro p hp
          rcases List.mem_cons.1 hp with rfl | hp
          · exact r1
          · exact i3 p hp
        · rw [drop_split (a := charB (charPt s k n)) (fun i hi => by rw [r3 i hi, byteD_bytes]) (by rw [r2, bytesOf_len]; exact hf), r2]
          rw [List.take_append, r2, List.take_of_length_le (by omega), show b - k - n = b - (k + n) by omega, i4]
          simp [textB]
    · simp [charsFrom, hlt, badAt] at hb
theorem bad_whole {s : ByteArray} {b : Nat} (h : badAt (chars s) = some b) : b < s.size ∧ ∃ l : List Int, (∀ p ∈ l, isPt p = true) ∧ (bytesOf s).take b = textB l := by
  obtain ⟨_, h2, l, h3, h4⟩ := bad_text s s.size 0 b (by omega) (by omega) h
  exact ⟨h2, l, h3, by simpa using h4⟩
theorem bytesOf_take (s : ByteArray) (k : Nat) : bytesOf (s.extract 0 k) = (bytesOf s).take k := by simp [bytesOf]
theorem badPt_some {l : List Int} {k : Nat} (h : badPt l = some k) : ∃ hk : k < l.length, isPt l[k] = false := by
  induction l generalizing k with
  | nil => cases h
  | cons p r ih =>
    simp only [badPt] at h
    split at h
    · cases hr : badPt r with
      | none => rw [hr] at h; cases h
      | some j =>
        rw [hr] at h
        obtain rfl : j + 1 = k := by injection h
        obtain ⟨h1, h2⟩ := ih hr
        exact ⟨by simpa using h1, by simpa using h2⟩
    · obtain rfl : 0 = k := by injection h
      exact ⟨by simp, by simpa using ‹¬isPt p = true›⟩
theorem badPt_all {l : List Int} (h : badPt l = none) : ∀ p ∈ l, isPt p = true := by
  induction l with
  | nil => intro p hp; cases hp
  | cons q r ih =>
    simp only [badPt] at h
    split at h
    · intro p hp
      rcases List.mem_cons.1 hp with rfl | hp
      · assumption
      · refine ih ?_ p hp
        cases hr : badPt r with
        | none => rfl
        | some j => rw [hr] at h; cases h
    · cases h
theorem badPt_cases {p : Int} (h : isPt p = false) : p < 0 ∨ 1114111 < p ∨ (55296 ≤ p ∧ p ≤ 57343) := by
  by_cases h1 : isPt p = true
  · rw [h] at h1; cases h1
  · simp only [isPt, Bool.and_eq_true, decide_eq_true_eq, Bool.not_eq_true', Bool.and_eq_false_iff, decide_eq_false_iff_not] at h1; omega
theorem bytesOf_append (s t : ByteArray) : bytesOf (s ++ t) = bytesOf s ++ bytesOf t := by simp [bytesOf]
theorem textB_append (a b : List Int) : textB (a ++ b) = textB a ++ textB b := by simp [textB]
end Go.Proofs.Ytdidepaldppcjaa
