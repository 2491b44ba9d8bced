/- PLAIN LEAN: how the layer writes a text: character by character; and the laws on it. -/
import Derived.Lib.RuneBytes
import Derived.Lib.MapLaws
import Derived.Lib.ValidLaws
import Derived.Lib.TrimUEq
namespace Go.Proofs.YtjbfhkcbgafeaaaDoor.txt
open Go.Lib

/-- a digit of base sixteen, by its letter -/
def hexd (n : Nat) : Int := if n < 10 then 48 + n else 87 + n
/-- the letter of the escape of a character; 0: none -/
def escB (r : Nat) : Nat :=
  if r = 34 ∨ r = 92 then r else if 32 ≤ r then 0 else if r = 8 then 98 else if r = 9 then 116 else if r = 10 then 110 else if r = 12 then 102 else if r = 13 then 114 else 117
/-- what stands for a character, as integers -/
def escZ (r : Nat) : List Int :=
  if escB r = 0 then encodeRuneZ r else if escB r = 117 then [92, 117, 48, 48, hexd (r / 16), hexd (r % 16)] else [92, escB r]
/-- the characters of a text by the model's decoder -/
def runesN : Nat → List UInt8 → List Nat
  | 0, _ => []
  | n + 1, l => if l = [] then [] else (decodeL l).1 :: runesN n (l.drop (decodeL l).2)
def runes (l : List UInt8) : List Nat := runesN l.length l
def encZ (l : List UInt8) : List Int := (runes l).flatMap escZ
/-- the whole text between its quotes -/
def quoteZ (l : List UInt8) : List Int := 34 :: (encZ l ++ [34])

theorem runesN_nil (n : Nat) : runesN n [] = [] := by cases n <;> simp [runesN]
theorem runesN_fuel : ∀ (n m : Nat) (l : List UInt8), l.length ≤ n → l.length ≤ m → runesN n l = runesN m l
  | 0, m, l, hn, _ => by
    obtain rfl : l = [] := List.eq_nil_of_length_eq_zero (by omega)
    rw [runesN_nil, runesN_nil]
  | n + 1, 0, l, _, hm => by
    obtain rfl : l = [] := List.eq_nil_of_length_eq_zero (by omega)
    rw [runesN_nil, runesN_nil]
  | n + 1, m + 1, l, hn, hm => by
    unfold runesN
    by_cases hne : l = []
    · simp [hne]
    · have hw := decodeL_width l
      have hl : 0 < l.length := List.length_pos_iff.2 hne
      rw [if_neg hne, if_neg hne, runesN_fuel n m (l.drop (decodeL l).2) (by rw [List.length_drop]; omega) (by rw [List.length_drop]; omega)]
theorem runes_nil : runes [] = [] := rfl
theorem runes_step (l : List UInt8) (hne : l ≠ []) : runes l = (decodeL l).1 :: runes (l.drop (decodeL l).2) := by
  have hl : 0 < l.length := List.length_pos_iff.2 hne
  have hw := decodeL_width l
  obtain ⟨n, hn⟩ : ∃ n, l.length = n + 1 := ⟨l.length - 1, by omega⟩
  unfold runes
  rw [hn]
  show (if l = [] then _ else _) = _
  rw [if_neg hne, runesN_fuel n (l.drop (decodeL l).2).length _ (by rw [List.length_drop]; omega) (Nat.le_refl _)]
theorem encZ_nil : encZ [] = [] := rfl
theorem encZ_step (l : List UInt8) (hne : l ≠ []) : encZ l = escZ (decodeL l).1 ++ encZ (l.drop (decodeL l).2) := by
  unfold encZ
  rw [runes_step l hne]
  rfl

theorem hexd_byte {n : Nat} (h : n < 16) : 0 ≤ hexd n ∧ hexd n < 256 := by unfold hexd; split <;> omega
theorem escB_lt (r : Nat) : escB r < 256 := by
  unfold escB
  repeat' split
  all_goals omega
theorem escB_low {r : Nat} (h : escB r = 117) : r < 32 := by
  unfold escB at h
  split at h
  · omega
  · split at h <;> omega
theorem escZ_byte (r : Nat) : ∀ x ∈ escZ r, 0 ≤ x ∧ x < 256 := by
  intro x hx
  unfold escZ at hx
  split at hx
  · exact encodeRuneZ_byte _ x hx
  · split at hx
    · rename_i h
      have hr := escB_low h
      have h1 := hexd_byte (n := r / 16) (by omega)
      have h2 := hexd_byte (n := r % 16) (by omega)
      simp only [List.mem_cons, List.mem_nil_iff, or_false] at hx
      rcases hx with rfl | rfl | rfl | rfl | rfl | rfl <;> omega
    · have := escB_lt r
      simp only [List.mem_cons, List.mem_nil_iff, or_false] at hx
      rcases hx with rfl | rfl <;> omega
theorem encZ_byte (l : List UInt8) : ∀ x ∈ encZ l, 0 ≤ x ∧ x < 256 := by
  intro x hx
  unfold encZ at hx
  obtain ⟨r, _, hr⟩ := List.mem_flatMap.1 hx
  exact escZ_byte r x hr
theorem quoteZ_byte (l : List UInt8) : ∀ x ∈ quoteZ l, 0 ≤ x ∧ x < 256 := by
  intro x hx
  simp only [quoteZ, List.mem_cons, List.mem_append, List.mem_nil_iff, or_false] at hx
  rcases hx with rfl | h | rfl
  · omega
  · exact encZ_byte l x h
  · omega
/-- at most six bytes a character -/
theorem escZ_length (r : Nat) : (escZ r).length ≤ 6 := by
  unfold escZ
  split
  · have := (encodeRuneZ_length r).2; omega
  · split <;> simp
theorem encZ_length : ∀ (n : Nat) (l : List UInt8), l.length ≤ n → (encZ l).length ≤ 6 * n
  | 0, l, h => by
    obtain rfl : l = [] := List.eq_nil_of_length_eq_zero (by omega)
    simp [encZ_nil]
  | n + 1, l, h => by
    by_cases hne : l = []
    · subst hne; simp [encZ_nil]
    · have hw := decodeL_width l
      have hl : 0 < l.length := List.length_pos_iff.2 hne
      rw [encZ_step l hne, List.length_append]
      have h1 := escZ_length (decodeL l).1
      have h2 := encZ_length n (l.drop (decodeL l).2) (by rw [List.length_drop]; omega)
      omega

/-! ### the text of two texts -/
theorem dN2 (n b0 b1 b2 b3 : Nat) (h0 : b0 / 32 = 6) (hn : 1 < n) (h1 : b1 / 64 = 2) (hv : 128 ≤ b0 % 32 * 64 + b1 % 64) : decodeN n b0 b1 b2 b3 = (b0 % 32 * 64 + b1 % 64, 2) := by
  unfold decodeN
  rw [if_neg (by omega), if_pos ⟨h0, hn, h1⟩, if_pos hv]
theorem dN3 (n b0 b1 b2 b3 : Nat) (h0 : b0 / 16 = 14) (hn : 2 < n) (h1 : b1 / 64 = 2) (h2 : b2 / 64 = 2) (hv : 2048 ≤ b0 % 16 * 4096 + b1 % 64 * 64 + b2 % 64)
    (hw : b0 % 16 * 4096 + b1 % 64 * 64 + b2 % 64 < 55296 ∨ 57344 ≤ b0 % 16 * 4096 + b1 % 64 * 64 + b2 % 64) : decodeN n b0 b1 b2 b3 = (b0 % 16 * 4096 + b1 % 64 * 64 + b2 % 64, 3) := by
  unfold decodeN
  rw [if_neg (by omega), if_neg (by omega), if_pos ⟨h0, ⟨by omega, h1⟩, hn, h2⟩, if_pos ⟨hv, by omega⟩]
theorem dN4 (n b0 b1 b2 b3 : Nat) (h0 : b0 / 8 = 30) (hn : 3 < n) (h1 : b1 / 64 = 2) (h2 : b2 / 64 = 2) (h3 : b3 / 64 = 2) (hv : 65536 ≤ b0 % 8 * 262144 + b1 % 64 * 4096 + b2 % 64 * 64 + b3 % 64)
    (hw : b0 % 8 * 262144 + b1 % 64 * 4096 + b2 % 64 * 64 + b3 % 64 ≤ 1114111) : decodeN n b0 b1 b2 b3 = (b0 % 8 * 262144 + b1 % 64 * 4096 + b2 % 64 * 64 + b3 % 64, 4) := by
  unfold decodeN
  rw [if_neg (by omega), if_neg (by omega), if_neg (by omega), if_pos ⟨h0, ⟨by omega, h1⟩, ⟨by omega, h2⟩, hn, h3⟩, if_pos ⟨hv, by omega⟩]
theorem getD_appL (l r : List UInt8) (k : Nat) (h : k < l.length) : (l ++ r).getD k 0 = l.getD k 0 := by
  simp only [List.getD]
  rw [List.getElem?_append_left h]
theorem decodeL_app (l r : List UInt8) (hne : l ≠ []) (hv : ¬ ((decodeL l).1 = 65533 ∧ (decodeL l).2 = 1)) : decodeL (l ++ r) = decodeL l := by
  have hl : 0 < l.length := List.length_pos_iff.2 hne
  rw [decodeL_N] at hv
  rw [decodeL_N, decodeL_N l]
  have hlen : (l ++ r).length = l.length + r.length := List.length_append
  rcases decodeN_shape l.length (l.getD 0 0).toNat (l.getD 1 0).toNat (l.getD 2 0).toNat (l.getD 3 0).toNat with ⟨c, e⟩ | ⟨c1, c2, c3, cv, e⟩ | ⟨c1, c2, c3, c4, cv, cs, e⟩ | ⟨c1, c2, c3, c4, c5, cv, cw, e⟩ | e
  · rw [e, getD_appL l r 0 hl]
    unfold decodeN
    rw [if_pos c]
  · rw [e, getD_appL l r 0 hl, getD_appL l r 1 c2]
    exact dN2 _ _ _ _ _ c1 (by omega) c3 cv
  · rw [e, getD_appL l r 0 hl, getD_appL l r 1 (by omega), getD_appL l r 2 c2]
    exact dN3 _ _ _ _ _ c1 (by omega) c3 c4 cv cs
  · rw [e, getD_appL l r 0 hl, getD_appL l r 1 (by omega), getD_appL l r 2 (by omega), getD_appL l r 3 c2]
    exact dN4 _ _ _ _ _ c1 (by omega) c3 c4 c5 cv cw
  · rw [e] at hv
    exact absurd ⟨rfl, rfl⟩ hv
theorem valid_step {l : List UInt8} (hne : l ≠ []) (h : validD l = true) : ¬ ((decodeL l).1 = 65533 ∧ (decodeL l).2 = 1) ∧ validD (l.drop (decodeL l).2) = true := by
  rw [validD_step l hne] at h
  split at h
  · cases h
  · exact ⟨by assumption, h⟩
theorem app_both : ∀ (n : Nat) (l r : List UInt8), l.length ≤ n → validD l = true → validD (l ++ r) = validD r ∧ encZ (l ++ r) = encZ l ++ encZ r
  | 0, l, r, h, _ => by
    obtain rfl : l = [] := List.eq_nil_of_length_eq_zero (by omega)
    exact ⟨rfl, rfl⟩
  | n + 1, l, r, h, hv => by
    by_cases hne : l = []
    · subst hne; exact ⟨rfl, rfl⟩
    · have hw := decodeL_width l
      have hle := decodeL_le l hne
      obtain ⟨h1, h2⟩ := valid_step hne hv
      have hd := decodeL_app l r hne h1
      have hnr : l ++ r ≠ [] := by simp [hne]
      obtain ⟨i1, i2⟩ := app_both n (l.drop (decodeL l).2) r (by rw [List.length_drop]; omega) h2
      have hdr : (l ++ r).drop (decodeL l).2 = l.drop (decodeL l).2 ++ r := List.drop_append_of_le_length hle
      rw [validD_step _ hnr, hd, if_neg h1, hdr, encZ_step _ hnr, hd, hdr, i1, i2, encZ_step l hne, List.append_assoc]
      exact ⟨rfl, rfl⟩
end Go.Proofs.YtjbfhkcbgafeaaaDoor.txt
