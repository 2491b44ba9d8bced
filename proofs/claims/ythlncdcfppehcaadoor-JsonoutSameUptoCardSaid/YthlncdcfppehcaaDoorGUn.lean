/- PLAIN LEAN: what is between the quotes of a text is read back, piece by piece. -/
import Derived.Test.YthlncdcfppehcaaDoorGVal
namespace Go.Proofs.YthlncdcfppehcaaDoor.txt
open Go.Lib

/-- the letters behind a backslash, and the bytes they stand for, by their places in the tables -/
def frN (n : Nat) : Nat := if n = 0 then 34 else if n = 1 then 92 else if n = 2 then 98 else if n = 3 then 116 else if n = 4 then 110 else if n = 5 then 102 else 114
def toN (n : Nat) : Nat := if n = 0 then 34 else if n = 1 then 92 else if n = 2 then 8 else if n = 3 then 9 else if n = 4 then 10 else if n = 5 then 12 else 13

/-- the second list is what the first stands for -/
inductive Un : List Int → List Int → Prop
  | nil : Un [] []
  | byte (x : Nat) (z o : List Int) (h1 : 32 ≤ x) (h2 : x < 256) (h3 : x ≠ 34) (h4 : x ≠ 92) (h : Un z o) : Un ((x : Int) :: z) ((x : Int) :: o)
  | esc (n : Nat) (z o : List Int) (h1 : n < 7) (h : Un z o) : Un (92 :: (frN n : Int) :: z) ((toN n : Int) :: o)
  | sm (r : Nat) (z o : List Int) (h1 : r < 32) (h2 : r ≠ 8) (h3 : r ≠ 9) (h4 : r ≠ 10) (h5 : r ≠ 12) (h6 : r ≠ 13) (h : Un z o) : Un (92 :: 117 :: 48 :: 48 :: hexd (r / 16) :: hexd (r % 16) :: z) ((r : Int) :: o)

def ints (l : List UInt8) : List Int := l.map fun x => (x.toNat : Int)
theorem ints_app (l r : List UInt8) : ints (l ++ r) = ints l ++ ints r := by simp [ints]
theorem Un.bytes {z o : List Int} (h : Un z o) : ∀ (l : List Int), (∀ x ∈ l, 32 ≤ x ∧ x < 256 ∧ x ≠ 34 ∧ x ≠ 92) → Un (l ++ z) (l ++ o)
  | [], _ => h
  | x :: l, hl => by
    obtain ⟨h1, h2, h3, h4⟩ := hl x (by simp)
    have hx : x = (x.toNat : Int) := by omega
    rw [hx]
    exact Un.byte x.toNat _ _ (by omega) (by omega) (by omega) (by omega) (Un.bytes h l fun y hy => hl y (by simp [hy]))
theorem encode_plain {r : Nat} (h : 32 ≤ r) (h1 : r ≠ 34) (h2 : r ≠ 92) : ∀ x ∈ encodeRuneZ r, 32 ≤ x ∧ x < 256 ∧ x ≠ 34 ∧ x ≠ 92 := by
  intro x hx
  unfold encodeRuneZ at hx
  split at hx
  · simp at hx; omega
  · split at hx
    · simp at hx; omega
    · split at hx
      · simp at hx; omega
      · split at hx
        · simp at hx; omega
        · simp at hx; omega
theorem ints_encode {r : Int} (l : List UInt8) (h : encodeRune r = l) : ints l = encodeRuneZ r := by
  subst h
  unfold ints encodeRune
  rw [List.map_map]
  have hb := encodeRuneZ_byte r
  refine (List.map_congr_left fun x hx => ?_).trans (List.map_id _)
  have := hb x hx
  simp only [Function.comp]
  have h2 : x.toNat.toUInt8.toNat = x.toNat := by
    rw [Nat.toUInt8, UInt8.toNat_ofNat']
    omega
  rw [h2]
  simp
  omega
theorem escB_zero {r : Nat} (h : escB r = 0) : 32 ≤ r ∧ r ≠ 34 ∧ r ≠ 92 := by
  unfold escB at h
  split at h
  · omega
  · split at h
    · omega
    · repeat' split at h
      all_goals omega
theorem escB_letter {r : Nat} (h0 : escB r ≠ 0) (h1 : escB r ≠ 117) : ∃ n, n < 7 ∧ escB r = frN n ∧ r = toN n := by
  unfold escB at *
  split at h0
  · rename_i h
    rcases h with rfl | rfl
    · exact ⟨0, by omega, rfl, rfl⟩
    · exact ⟨1, by omega, rfl, rfl⟩
  · rename_i h
    rw [if_neg h] at h1 ⊢
    split at h0
    · omega
    · rename_i h'
      rw [if_neg h'] at h1 ⊢
      by_cases e1 : r = 8
      · subst e1; exact ⟨2, by omega, rfl, rfl⟩
      by_cases e2 : r = 9
      · subst e2; exact ⟨3, by omega, rfl, rfl⟩
      by_cases e3 : r = 10
      · subst e3; exact ⟨4, by omega, rfl, rfl⟩
      by_cases e4 : r = 12
      · subst e4; exact ⟨5, by omega, rfl, rfl⟩
      by_cases e5 : r = 13
      · subst e5; exact ⟨6, by omega, rfl, rfl⟩
      rw [if_neg e1, if_neg e2, if_neg e3, if_neg e4, if_neg e5] at h1
      omega
theorem escB_u {r : Nat} (h : escB r = 117) : r < 32 ∧ r ≠ 8 ∧ r ≠ 9 ∧ r ≠ 10 ∧ r ≠ 12 ∧ r ≠ 13 := by
  refine ⟨escB_low h, ?_, ?_, ?_, ?_, ?_⟩ <;> (rintro rfl; revert h; decide)
theorem un_step {r : Nat} {z o : List Int} (h : Un z o) : Un (escZ r ++ z) ((if escB r = 0 then encodeRuneZ r else [(r : Int)]) ++ o) := by
  unfold escZ
  by_cases e0 : escB r = 0
  · rw [if_pos e0, if_pos e0]
    obtain ⟨h1, h2, h3⟩ := escB_zero e0
    exact h.bytes _ (encode_plain h1 h2 h3)
  · rw [if_neg e0, if_neg e0]
    by_cases e1 : escB r = 117
    · rw [if_pos e1]
      obtain ⟨a, b, c, d, e, f⟩ := escB_u e1
      exact Un.sm r z o a b c d e f h
    · rw [if_neg e1]
      obtain ⟨n, hn, h1, h2⟩ := escB_letter e0 e1
      rw [h1]
      conv => arg 2; rw [h2]
      exact Un.esc n z o hn h
theorem encode_low {r : Nat} (h : escB r ≠ 0) : encodeRuneZ r = [(r : Int)] := by
  refine encodeRuneZ_one (by omega) ?_
  by_cases e1 : escB r = 117
  · have := escB_low e1; omega
  · obtain ⟨n, hn, _, h2⟩ := escB_letter h e1
    rw [h2]
    unfold toN
    repeat' split
    all_goals omega
theorem un_enc : ∀ (n : Nat) (l : List UInt8), l.length ≤ n → validD l = true → Un (encZ l) (ints l)
  | 0, l, h, _ => by
    obtain rfl : l = [] := List.eq_nil_of_length_eq_zero (by omega)
    exact Un.nil
  | n + 1, l, h, hv => by
    by_cases hne : l = []
    · subst hne; exact Un.nil
    · have hw := decodeL_width l
      obtain ⟨h1, h2⟩ := valid_step hne hv
      have ih := un_enc n (l.drop (decodeL l).2) (by rw [List.length_drop]; have := List.length_pos_iff.2 hne; omega) h2
      have he := ints_encode _ (encode_decode l hne h1)
      rw [encZ_step l hne]
      have hs := un_step (r := (decodeL l).1) ih
      have : ints l = (if escB (decodeL l).1 = 0 then encodeRuneZ (decodeL l).1 else [((decodeL l).1 : Int)]) ++ ints (l.drop (decodeL l).2) := by
        split
        · rw [← he, ← ints_app, List.take_append_drop]
        · rename_i hz
          rw [← encode_low hz, ← he, ← ints_app, List.take_append_drop]
      rw [this]
      exact hs
end Go.Proofs.YthlncdcfppehcaaDoor.txt
