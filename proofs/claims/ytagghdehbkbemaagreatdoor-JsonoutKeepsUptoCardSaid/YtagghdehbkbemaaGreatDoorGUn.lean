/- PLAIN LEAN: what is between the quotes of a text is read back, piece by piece. PLAIN LEAN: the reference's way to read a character: of the first k bytes the number, written again, are those bytes: just where the model's decoder reads so many. The reference's Scalar, Put, same. The reference's same, number. -/
import Derived.Test.YtagghdehbkbemaaGreatDoorGVal
import Derived.Test.YtagghdehbkbemaaGreatDoorGArr
import Derived.Deep.QuietTactic
import Derived.BigQuiet
section
set_option linter.unusedVariables false
namespace Go.Proofs.YtagghdehbkbemaaGreatDoor.txt
open Go.Lib

/-- the letters behind a backslash, and the bytes they stand for, by their places in the tables -/
def frN (n : Nat) : Nat := if n = 0 then 34 else if n = 1 then 92 else if n = 2 then 98 else if n = 3 then 116 else if n = 4 then 110 else if n = 5 then 102 else 114
def toN (n : Nat) : Nat := if n = 0 then 34 else if n = 1 then 92 else if n = 2 then 8 else if n = 3 then 9 else if n = 4 then 10 else if n = 5 then 12 else 13

/-- the second list is what the first stands for -/
inductive Un : List Int → List Int → Prop
  | nil : Un [] []
  | byte (x : Nat) (z o : List Int) (h1 : 32 ≤ x) (h2 : x < 256) (h3 : x ≠ 34) (h4 : x ≠ 92) (h : Un z o) : Un ((x : Int) :: z) ((x : Int) :: o)
  | esc (n : Nat) (z o : List Int) (h1 : n < 7) (h : Un z o) : Un (92 :: (frN n : Int) :: z) ((toN n : Int) :: o)
  | sm (r : Nat) (z o : List Int) (h1 : r < 32) (h2 : r ≠ 8) (h3 : r ≠ 9) (h4 : r ≠ 10) (h5 : r ≠ 12) (h6 : r ≠ 13) (h : Un z o) : Un (92 :: 117 :: 48 :: 48 :: hexd (r / 16) :: hexd (r % 16) :: z) ((r : Int) :: o)

def ints (l : List UInt8) : List Int := l.map fun x => (x.toNat : Int)
theorem ints_app (l r : List UInt8) : ints (l ++ r) = ints l ++ ints r := by simp [ints]
theorem Un.bytes {z o : List Int} (h : Un z o) : ∀ (l : List Int), (∀ x ∈ l, 32 ≤ x ∧ x < 256 ∧ x ≠ 34 ∧ x ≠ 92) → Un (l ++ z) (l ++ o)
  | [], _ => h
  | x :: l, hl => by
    obtain ⟨h1, h2, h3, h4⟩ := hl x (by simp)
    have hx : x = (x.toNat : Int) := by omega
    rw [hx]
    exact Un.byte x.toNat _ _ (by omega) (by omega) (by omega) (by omega) (Un.bytes h l fun y hy => hl y (by simp [hy]))
theorem encode_plain {r : Nat} (h : 32 ≤ r) (h1 : r ≠ 34) (h2 : r ≠ 92) : ∀ x ∈ encodeRuneZ r, 32 ≤ x ∧ x < 256 ∧ x ≠ 34 ∧ x ≠ 92 := by
  intro x hx
  unfold encodeRuneZ at hx
  split at hx
  · simp at hx; omega
  · split at hx
    · simp at hx; omega
    · split at hx
      · simp at hx; omega
      · split at hx
        · simp at hx; omega
        · simp at hx; omega
theorem ints_encode {r : Int} (l : List UInt8) (h : encodeRune r = l) : ints l = encodeRuneZ r := by
  subst h
  unfold ints encodeRune
  rw [List.map_map]
  have hb := encodeRuneZ_byte r
  refine (List.map_congr_left fun x hx => ?_).trans (List.map_id _)
  have := hb x hx
  simp only [Function.comp]
  have h2 : x.toNat.toUInt8.toNat = x.toNat := by
    rw [Nat.toUInt8, UInt8.toNat_ofNat']
    omega
  rw [h2]
  simp
  omega
theorem escB_zero {r : Nat} (h : escB r = 0) : 32 ≤ r ∧ r ≠ 34 ∧ r ≠ 92 := by
  unfold escB at h
  split at h
  · omega
  · split at h
    · omega
    · repeat' split at h
      all_goals omega
theorem escB_letter {r : Nat} (h0 : escB r ≠ 0) (h1 : escB r ≠ 117) : ∃ n, n < 7 ∧ escB r = frN n ∧ r = toN n := by
  unfold escB at *
  split at h0
  · rename_i h
    rcases h with rfl | rfl
    · exact ⟨0, by omega, rfl, rfl⟩
    · exact ⟨1, by omega, rfl, rfl⟩
  · rename_i h
    rw [if_neg h] at h1 ⊢
    split at h0
    · omega
    · rename_i h'
      rw [if_neg h'] at h1 ⊢
      by_cases e1 : r = 8
      · subst e1; exact ⟨2, by omega, rfl, rfl⟩
      by_cases e2 : r = 9
      · subst e2; exact ⟨3, by omega, rfl, rfl⟩
      by_cases e3 : r = 10
      · subst e3; exact ⟨4, by omega, rfl, rfl⟩
      by_cases e4 : r = 12
      · subst e4; exact ⟨5, by omega, rfl, rfl⟩
      by_cases e5 : r = 13
      · subst e5; exact ⟨6, by omega, rfl, rfl⟩
      rw [if_neg e1, if_neg e2, if_neg e3, if_neg e4, if_neg e5] at h1
      omega
theorem escB_u {r : Nat} (h : escB r = 117) : r < 32 ∧ r ≠ 8 ∧ r ≠ 9 ∧ r ≠ 10 ∧ r ≠ 12 ∧ r ≠ 13 := by
  refine ⟨escB_low h, ?_, ?_, ?_, ?_, ?_⟩ <;> (rintro rfl; revert h; decide)
theorem un_step {r : Nat} {z o : List Int} (h : Un z o) : Un (escZ r ++ z) ((if escB r = 0 then encodeRuneZ r else [(r : Int)]) ++ o) := by
  unfold escZ
  by_cases e0 : escB r = 0
  · rw [if_pos e0, if_pos e0]
    obtain ⟨h1, h2, h3⟩ := escB_zero e0
    exact h.bytes _ (encode_plain h1 h2 h3)
  · rw [if_neg e0, if_neg e0]
    by_cases e1 : escB r = 117
    · rw [if_pos e1]
      obtain ⟨a, b, c, d, e, f⟩ := escB_u e1
      exact Un.sm r z o a b c d e f h
    · rw [if_neg e1]
      obtain ⟨n, hn, h1, h2⟩ := escB_letter e0 e1
      rw [h1]
      conv => arg 2; rw [h2]
      exact Un.esc n z o hn h
theorem encode_low {r : Nat} (h : escB r ≠ 0) : encodeRuneZ r = [(r : Int)] := by
  refine encodeRuneZ_one (by omega) ?_
  by_cases e1 : escB r = 117
  · have := escB_low e1; omega
  · obtain ⟨n, hn, _, h2⟩ := escB_letter h e1
    rw [h2]
    unfold toN
    repeat' split
    all_goals omega
theorem un_enc : ∀ (n : Nat) (l : List UInt8), l.length ≤ n → validD l = true → Un (encZ l) (ints l)
  | 0, l, h, _ => by
    obtain rfl : l = [] := List.eq_nil_of_length_eq_zero (by omega)
    exact Un.nil
  | n + 1, l, h, hv => by
    by_cases hne : l = []
    · subst hne; exact Un.nil
    · have hw := decodeL_width l
      obtain ⟨h1, h2⟩ := valid_step hne hv
      have ih := un_enc n (l.drop (decodeL l).2) (by rw [List.length_drop]; have := List.length_pos_iff.2 hne; omega) h2
      have he := ints_encode _ (encode_decode l hne h1)
      rw [encZ_step l hne]
      have hs := un_step (r := (decodeL l).1) ih
      have : ints l = (if escB (decodeL l).1 = 0 then encodeRuneZ (decodeL l).1 else [((decodeL l).1 : Int)]) ++ ints (l.drop (decodeL l).2) := by
        split
        · rw [← he, ← ints_app, List.take_append_drop]
        · rename_i hz
          rw [← encode_low hz, ← he, ← ints_app, List.take_append_drop]
      rw [this]
      exact hs
end Go.Proofs.YtagghdehbkbemaaGreatDoor.txt
end
section
set_option linter.unusedVariables false
namespace Go.Proofs.YtagghdehbkbemaaGreatDoor.txt
open Go.Lib

/-- the number of the first bytes, whatever their marks are; the first by its rest of f -/
def numP (b : Nat → Nat) (f : Nat) : Nat → Nat
  | 0 => 0
  | 1 => b 0 % f
  | i + 2 => numP b f (i + 1) * 64 + b (i + 1) % 64
def fstF (k : Nat) : Nat := if k = 0 then 0 else if k = 1 then 128 else if k = 2 then 32 else if k = 3 then 16 else 8
def valP (b : Nat → Nat) (k : Nat) : Nat := numP b (fstF k) k
def putZ (r : Nat) : List Int := if r < 55296 ∨ (57343 < r ∧ r ≤ 1114111) then encodeRuneZ r else []
def bsZ (b : Nat → Nat) (k : Nat) : List Int := (List.range k).map fun i => (b i : Int)
theorem val1 (b : Nat → Nat) : valP b 1 = b 0 % 128 := rfl
theorem val2 (b : Nat → Nat) : valP b 2 = b 0 % 32 * 64 + b 1 % 64 := rfl
theorem val3 (b : Nat → Nat) : valP b 3 = (b 0 % 16 * 64 + b 1 % 64) * 64 + b 2 % 64 := rfl
theorem val4 (b : Nat → Nat) : valP b 4 = ((b 0 % 8 * 64 + b 1 % 64) * 64 + b 2 % 64) * 64 + b 3 % 64 := rfl
theorem numP_lt (b : Nat → Nat) (f : Nat) (hf : f ≤ 128) (h0 : 0 < f) : ∀ i, i ≤ 4 → numP b f i < 33554432
  | 0, _ => by show 0 < _; omega
  | 1, _ => by have := Nat.mod_lt (b 0) h0; show b 0 % f < _; omega
  | 2, _ => by have := Nat.mod_lt (b 0) h0; show b 0 % f * 64 + b 1 % 64 < _; omega
  | 3, _ => by have := Nat.mod_lt (b 0) h0; show (b 0 % f * 64 + b 1 % 64) * 64 + b 2 % 64 < _; omega
  | 4, _ => by have := Nat.mod_lt (b 0) h0; show ((b 0 % f * 64 + b 1 % 64) * 64 + b 2 % 64) * 64 + b 3 % 64 < _; omega
  | n + 5, h => by omega

theorem mt1 (b : Nat → Nat) (hb : ∀ i, b i < 256) : putZ (valP b 1) = bsZ b 1 ↔ b 0 < 128 := by
  rw [val1]
  show putZ (b 0 % 128) = [(b 0 : Int)] ↔ _
  unfold putZ encodeRuneZ
  rw [if_pos (by omega), if_pos (by omega)]
  simp
  omega
theorem mt2 (b : Nat → Nat) (hb : ∀ i, b i < 256) : putZ (valP b 2) = bsZ b 2 ↔ b 0 / 32 = 6 ∧ b 1 / 64 = 2 ∧ 128 ≤ b 0 % 32 * 64 + b 1 % 64 := by
  rw [val2]
  have h0 := hb 0
  have h1 := hb 1
  show putZ (b 0 % 32 * 64 + b 1 % 64) = [(b 0 : Int), (b 1 : Int)] ↔ _
  unfold putZ encodeRuneZ
  rw [if_pos (by omega)]
  by_cases c : b 0 % 32 * 64 + b 1 % 64 < 128
  · rw [if_pos (by omega)]
    simp
    omega
  · rw [if_neg (by omega), if_pos (by omega)]
    simp
    omega
theorem mt3 (b : Nat → Nat) (hb : ∀ i, b i < 256) : putZ (valP b 3) = bsZ b 3 ↔ b 0 / 16 = 14 ∧ b 1 / 64 = 2 ∧ b 2 / 64 = 2 ∧ 2048 ≤ b 0 % 16 * 4096 + b 1 % 64 * 64 + b 2 % 64 ∧ (b 0 % 16 * 4096 + b 1 % 64 * 64 + b 2 % 64 < 55296 ∨ 57344 ≤ b 0 % 16 * 4096 + b 1 % 64 * 64 + b 2 % 64) := by
  rw [val3]
  have h0 := hb 0
  have h1 := hb 1
  have h2 := hb 2
  show putZ ((b 0 % 16 * 64 + b 1 % 64) * 64 + b 2 % 64) = [(b 0 : Int), (b 1 : Int), (b 2 : Int)] ↔ _
  rw [show (b 0 % 16 * 64 + b 1 % 64) * 64 + b 2 % 64 = b 0 % 16 * 4096 + b 1 % 64 * 64 + b 2 % 64 by omega]
  obtain ⟨v, hv⟩ : ∃ v, b 0 % 16 * 4096 + b 1 % 64 * 64 + b 2 % 64 = v := ⟨_, rfl⟩
  rw [hv]
  unfold putZ encodeRuneZ
  by_cases d : v < 55296 ∨ (57343 < v ∧ v ≤ 1114111)
  · rw [if_pos d]
    by_cases c : v < 128
    · rw [if_pos (by omega)]
      simp
      omega
    · rw [if_neg (by omega)]
      by_cases c2 : v < 2048
      · rw [if_pos (by omega)]
        simp
        omega
      · rw [if_neg (by omega), if_pos (by omega)]
        simp
        omega
  · rw [if_neg d]
    simp
    omega
theorem mt4 (b : Nat → Nat) (hb : ∀ i, b i < 256) : putZ (valP b 4) = bsZ b 4 ↔ b 0 / 8 = 30 ∧ b 1 / 64 = 2 ∧ b 2 / 64 = 2 ∧ b 3 / 64 = 2 ∧ 65536 ≤ b 0 % 8 * 262144 + b 1 % 64 * 4096 + b 2 % 64 * 64 + b 3 % 64 ∧ b 0 % 8 * 262144 + b 1 % 64 * 4096 + b 2 % 64 * 64 + b 3 % 64 ≤ 1114111 := by
  rw [val4]
  have h0 := hb 0
  have h1 := hb 1
  have h2 := hb 2
  have h3 := hb 3
  show putZ (((b 0 % 8 * 64 + b 1 % 64) * 64 + b 2 % 64) * 64 + b 3 % 64) = [(b 0 : Int), (b 1 : Int), (b 2 : Int), (b 3 : Int)] ↔ _
  rw [show ((b 0 % 8 * 64 + b 1 % 64) * 64 + b 2 % 64) * 64 + b 3 % 64 = b 0 % 8 * 262144 + b 1 % 64 * 4096 + b 2 % 64 * 64 + b 3 % 64 by omega]
  obtain ⟨v, hv⟩ : ∃ v, b 0 % 8 * 262144 + b 1 % 64 * 4096 + b 2 % 64 * 64 + b 3 % 64 = v := ⟨_, rfl⟩
  rw [hv]
  unfold putZ encodeRuneZ
  by_cases d : v < 55296 ∨ (57343 < v ∧ v ≤ 1114111)
  · rw [if_pos d]
    by_cases c : v < 128
    · rw [if_pos (by omega)]
      simp
      omega
    · rw [if_neg (by omega)]
      by_cases c2 : v < 2048
      · rw [if_pos (by omega)]
        simp
        omega
      · rw [if_neg (by omega)]
        by_cases c3 : v < 65536
        · rw [if_pos (by omega)]
          simp
          omega
        · rw [if_neg (by omega), if_pos (by omega)]
          simp
          omega
  · rw [if_neg d]
    simp
    omega

/-- what the decoder reads -/
def decB (b : Nat → Nat) (n : Nat) : Nat × Nat := decodeN n (b 0) (b 1) (b 2) (b 3)
theorem mt_to (b : Nat → Nat) (hb : ∀ i, b i < 256) (n k : Nat) (h1 : 1 ≤ k) (h4 : k ≤ 4) (hk : k ≤ n) (h : putZ (valP b k) = bsZ b k) : decB b n = (valP b k, k) := by
  unfold decB
  match k, h1, h4 with
  | 1, _, _ =>
    have := (mt1 b hb).1 h
    unfold decodeN
    rw [if_pos this, val1]
    congr 1
    omega
  | 2, _, _ =>
    obtain ⟨a1, a2, a3⟩ := (mt2 b hb).1 h
    rw [val2]
    exact dN2 _ _ _ _ _ a1 (by omega) a2 a3
  | 3, _, _ =>
    obtain ⟨a1, a2, a3, a4, a5⟩ := (mt3 b hb).1 h
    rw [val3, dN3 _ _ _ _ _ a1 (by omega) a2 a3 a4 a5]
    congr 1
    omega
  | 4, _, _ =>
    obtain ⟨a1, a2, a3, a4, a5, a6⟩ := (mt4 b hb).1 h
    rw [val4, dN4 _ _ _ _ _ a1 (by omega) a2 a3 a4 a5 a6]
    congr 1
    omega
theorem mt_from (b : Nat → Nat) (hb : ∀ i, b i < 256) (n : Nat) (h : ¬ ((decB b n).1 = 65533 ∧ (decB b n).2 = 1)) : putZ (valP b (decB b n).2) = bsZ b (decB b n).2 := by
  unfold decB at *
  rcases decodeN_shape n (b 0) (b 1) (b 2) (b 3) with ⟨c, e⟩ | ⟨c1, c2, c3, cv, e⟩ | ⟨c1, c2, c3, c4, cv, cs, e⟩ | ⟨c1, c2, c3, c4, c5, cv, cw, e⟩ | e
  · rw [e]
    exact (mt1 b hb).2 c
  · rw [e]
    exact (mt2 b hb).2 ⟨c1, c3, cv⟩
  · rw [e]
    exact (mt3 b hb).2 ⟨c1, c3, c4, cv, cs⟩
  · rw [e]
    exact (mt4 b hb).2 ⟨c1, c3, c4, c5, cv, cw⟩
  · rw [e] at h
    exact absurd ⟨rfl, rfl⟩ h
theorem decB_width (b : Nat → Nat) (n : Nat) (hn : 0 < n) : 1 ≤ (decB b n).2 ∧ (decB b n).2 ≤ 4 ∧ (decB b n).2 ≤ n := by
  unfold decB
  rcases decodeN_shape n (b 0) (b 1) (b 2) (b 3) with ⟨c, e⟩ | ⟨c1, c2, c3, cv, e⟩ | ⟨c1, c2, c3, c4, cv, cs, e⟩ | ⟨c1, c2, c3, c4, c5, cv, cw, e⟩ | e <;> rw [e] <;> simp <;> omega
/-- the character that the decoder reads is one that may be written -/
theorem decB_scalar (b : Nat → Nat) (hb : ∀ i, b i < 256) (n : Nat) : (decB b n).1 < 55296 ∨ (57343 < (decB b n).1 ∧ (decB b n).1 ≤ 1114111) := by
  have h0 := hb 0
  have h1 := hb 1
  unfold decB
  rcases decodeN_shape n (b 0) (b 1) (b 2) (b 3) with ⟨c, e⟩ | ⟨c1, c2, c3, cv, e⟩ | ⟨c1, c2, c3, c4, cv, cs, e⟩ | ⟨c1, c2, c3, c4, c5, cv, cw, e⟩ | e <;> rw [e] <;> simp <;> omega
/-- what One answers -/
def oneB (b : Nat → Nat) (n : Nat) : Nat × Nat := if (decB b n).1 = 65533 ∧ (decB b n).2 = 1 then (0, 0) else decB b n
def bytesOf (l : List UInt8) (i : Nat) : Nat := (l.getD i 0).toNat
theorem bytesOf_lt (l : List UInt8) (i : Nat) : bytesOf l i < 256 := (l.getD i 0).toNat_lt
theorem decB_of (l : List UInt8) : decB (bytesOf l) l.length = decodeL l := (decodeL_N l).symm
theorem bytesOf_drop (l : List UInt8) (k i : Nat) : bytesOf (l.drop k) i = bytesOf l (k + i) := by
  unfold bytesOf
  simp only [List.getD, List.getElem?_drop]
end Go.Proofs.YtagghdehbkbemaaGreatDoor.txt
end
section
namespace Go.Proofs.YtagghdehbkbemaaGreatDoor.app
open Go.RowKit mem txt esc
set_option linter.unusedVariables false

set_option maxRecDepth 100000 in
theorem scalar_any (r : Nat) (hr : r < 33554432) (w : World) : Calls Tryz.prog 80 #[.int .i32 r] w fun e w' => e = .returned (.bool (decide (r < 55296 ∨ (57343 < r ∧ r ≤ 1114111)))) ∧ w' = w := by
  have h4 : decide ((r : Int) ≥ 0) = true := decide_eq_true (by omega)
  by_cases c1 : r < 55296
  · have h1 : decide ((r : Int) ≥ 55296) = false := decide_eq_false (by omega)
    have h3 : decide ((r : Int) ≤ 1114111) = true := decide_eq_true (by omega)
    rw [decide_eq_true (show r < 55296 ∨ (57343 < r ∧ r ≤ 1114111) by omega)]
    go_enter Tryz.func80, Tryz.ntmps80
    go_wp2
    go_ret
    exact ⟨rfl, rfl⟩
  · have h1 : decide ((r : Int) ≥ 55296) = true := decide_eq_true (by omega)
    by_cases c2 : r ≤ 57343
    · have h2 : decide ((r : Int) ≤ 57343) = true := decide_eq_true (by omega)
      rw [decide_eq_false (show ¬ (r < 55296 ∨ (57343 < r ∧ r ≤ 1114111)) by omega)]
      go_enter Tryz.func80, Tryz.ntmps80
      go_wp2
      go_ret
      exact ⟨rfl, rfl⟩
    · have h2 : decide ((r : Int) ≤ 57343) = false := decide_eq_false (by omega)
      by_cases c3 : r ≤ 1114111
      · have h3 : decide ((r : Int) ≤ 1114111) = true := decide_eq_true (by omega)
        rw [decide_eq_true (show r < 55296 ∨ (57343 < r ∧ r ≤ 1114111) by omega)]
        go_enter Tryz.func80, Tryz.ntmps80
        go_wp2
        go_ret
        exact ⟨rfl, rfl⟩
      · have h3 : decide ((r : Int) ≤ 1114111) = false := decide_eq_false (by omega)
        rw [decide_eq_false (show ¬ (r < 55296 ∨ (57343 < r ∧ r ≤ 1114111)) by omega)]
        go_enter Tryz.func80, Tryz.ntmps80
        go_wp2
        go_ret
        exact ⟨rfl, rfl⟩

/-- a new list of bytes -/
def NewB (xs : List Int) (w : World) (e : Ending) (w' : World) : Prop :=
  ∃ A c, e = .returned (.slice A xs.length c) ∧ Rd w' w'.heap.size A (zs xs) ∧ (A = none → xs.length = 0) ∧ xs.length ≤ c ∧ c ≤ maxLen ∧ Below w.heap.size w w'

theorem newB {xs : List Int} {w w1 : World} {k c : Nat} (hb : Below w.heap.size w w1) (hk : xs.length = k) (hc : c = k) (h8 : k ≤ 8) :
    NewB xs w (.returned (.slice (some ⟨w1.heap.size, 0, none⟩) k c)) (w1.alloc (.cells (zs xs).toArray 5)) := by
  subst hk hc
  refine ⟨_, _, rfl, ?_, (fun h => by cases h), Nat.le_refl _, by unfold maxLen; omega, hb.alloc hb.size _⟩
  have := Rd.new w1 (zs xs) 5
  simpa using this

set_option maxRecDepth 100000 in
set_option maxHeartbeats 1000000 in
theorem put_any (r : Nat) (hr : r < 33554432) (w : World) : Calls Tryz.prog 64 #[.int .i32 r] w (NewB (putZ r) w) := by
  have HS := Lib.hid (scalar_any r hr w)
  by_cases c : r < 55296 ∨ (57343 < r ∧ r ≤ 1114111)
  · rw [decide_eq_true c] at HS
    rw [show putZ r = Lib.encodeRuneZ r from if_pos c]
    go_enter Tryz.func64, Tryz.ntmps64
    go_wp2_with fail
    refine HS.out.mono ?_
    rintro e w' ⟨rfl, rfl⟩
    clear HS
    by_cases c1 : r < 128
    · have d1 : decide ((r : Int) < 128) = true := decide_eq_true (by omega)
      go_wp2
      go_ret
      rw [Lib.encodeRuneZ_one (by omega) (by omega)]
      exact newB (xs := [(r : Int)]) (Below.refl _ _) rfl rfl (by simp)
    · have d1 : decide ((r : Int) < 128) = false := decide_eq_false (by omega)
      by_cases c2 : r < 2048
      · have d2 : decide ((r : Int) < 2048) = true := decide_eq_true (by omega)
        go_wp2
        go_ret
        rw [Lib.encodeRuneZ_two (by omega) (by omega)]
        exact newB (xs := [192 + (r : Int) / 64, 128 + (r : Int) % 64]) (Below.refl _ _) rfl rfl (by simp)
      · have d2 : decide ((r : Int) < 2048) = false := decide_eq_false (by omega)
        by_cases c3 : r < 65536
        · have d3 : decide ((r : Int) < 65536) = true := decide_eq_true (by omega)
          go_wp2
          go_ret
          rw [show Lib.encodeRuneZ r = [224 + (r : Int) / 4096, 128 + (r : Int) / 64 % 64, 128 + (r : Int) % 64] by unfold Lib.encodeRuneZ; rw [if_neg (by omega), if_neg (by omega), if_pos (by omega)]]
          exact newB (xs := [224 + (r : Int) / 4096, 128 + (r : Int) / 64 % 64, 128 + (r : Int) % 64]) (Below.refl _ _) rfl rfl (by simp)
        · have d3 : decide ((r : Int) < 65536) = false := decide_eq_false (by omega)
          go_wp2
          go_ret
          rw [show Lib.encodeRuneZ r = [240 + (r : Int) / 262144, 128 + (r : Int) / 4096 % 64, 128 + (r : Int) / 64 % 64, 128 + (r : Int) % 64] by unfold Lib.encodeRuneZ; rw [if_neg (by omega), if_neg (by omega), if_neg (by omega), if_pos (by omega)]]
          exact newB (xs := [240 + (r : Int) / 262144, 128 + (r : Int) / 4096 % 64, 128 + (r : Int) / 64 % 64, 128 + (r : Int) % 64]) (Below.refl _ _) rfl rfl (by simp)
  · rw [decide_eq_false c] at HS
    rw [show putZ r = [] from if_neg c]
    go_enter Tryz.func64, Tryz.ntmps64
    go_wp2_with fail
    refine HS.out.mono ?_
    rintro e w' ⟨rfl, rfl⟩
    go_wp2
    go_ret
    exact ⟨none, 0, rfl, Rd.nil, fun _ => rfl, Nat.le_refl _, Nat.zero_le _, Below.refl _ _⟩
end Go.Proofs.YtagghdehbkbemaaGreatDoor.app
end
section
namespace Go.Proofs.YtagghdehbkbemaaGreatDoor.app
open Go.RowKit mem txt esc
set_option linter.unusedVariables false

theorem below_drewN' {B : Nat} {w w' : World} (h : Below B w w') (n : Nat) : Below B w (w'.drewN n) := ⟨h.os, h.tape, h.output, h.size, h.block⟩
theorem drewN_two (w : World) (m n : Nat) : (w.drewN m).drewN n = w.drewN (m + n) := World.drewN_drewN w m n

set_option maxRecDepth 100000 in
set_option maxHeartbeats 1000000 in
theorem same_any (xs ys : List Int) (A1 A2 : Option Addr) (c1 c2 : Nat) (w : World) (h1 : Rd w w.heap.size A1 (zs xs)) (h2 : Rd w w.heap.size A2 (zs ys)) (hx : xs.length ≤ 1099511627776) (hy : ys.length ≤ 1099511627776) :
    Calls Tryz.prog 79 #[.slice A1 xs.length c1, .slice A2 ys.length c2] w fun e w' => e = .returned (.bool (decide (xs = ys))) ∧ ∃ n, w' = w.drewN n := by
  have H1 := Lib.hid h1
  have H2 := Lib.hid h2
  clear h1 h2
  by_cases hl : xs.length = ys.length
  · have HL := Lib.hid hl
    obtain ⟨L, hL⟩ : ∃ L, xs.length = L := ⟨_, rfl⟩
    have hLy : ys.length = L := by omega
    have HX := Lib.hid hL
    have HY := Lib.hid hLy
    rw [hLy, hL]
    rw [hL] at hx
    clear hl hL hLy hy HL
    go_enter Tryz.func79, Tryz.ntmps79
    go_wp2_with fail
    go_loopw [5] (fun v5 wr => ∃ i m : Nat, i ≤ L ∧ v5 = .int .i64 (i : Int) ∧ wr = w.drewN m ∧ Hid (xs.take i = ys.take i)) (fun v5 _ => L - (intOf v5).toNat)
    case atStart => exact ⟨0, 0, Nat.zero_le _, rfl, rfl, rfl⟩
    case round =>
      obtain ⟨i, m, hi, rfl, rfl, ht⟩ := hrel
      by_cases hiL : i < L
      · have hi3 : (i : Int) < (L : Int) := by omega
        have hxi : i < xs.length := by rw [HX.out]; exact hiL
        have hyi : i < ys.length := by rw [HY.out]; exact hiL
        obtain ⟨x, ex⟩ : ∃ x, xs[i]? = some x := ⟨_, List.getElem?_eq_getElem hxi⟩
        obtain ⟨y, ey⟩ : ∃ y, ys[i]? = some y := ⟨_, List.getElem?_eq_getElem hyi⟩
        obtain ⟨ad1, rfl, hb1, hc1⟩ := H1.out i (.int .u8 x) (by simp [zs, ex])
        obtain ⟨ad2, rfl, hb2, hc2⟩ := H2.out i (.int .u8 y) (by simp [zs, ey])
        have EX := Lib.hid ex
        have EY := Lib.hid ey
        have hd1 : ∀ n, ((w.drewN m).drewN n).cell? (ad1.add i) = some (.int .u8 x) := fun n => hc1
        have hd2 : ∀ n, ((w.drewN m).drewN n).cell? (ad2.add i) = some (.int .u8 y) := fun n => hc2
        clear ex ey hxi hyi
        by_cases hxy : x = y
        · subst hxy
          go_wp2_with fail
          go_big_quiet (fail)
          clear hc1 hc2 hd1 hd2
          go_wp2_with fail
          exact ⟨⟨i + 1, m + nq, by omega, by simp, by first | rfl | exact drewN_two _ _ _, Lib.hid (by rw [List.take_add_one, List.take_add_one, ht.out, EX.out, EY.out])⟩, by simp [intOf]; omega⟩
        · have hb : (x != y) = true := by simp [hxy]
          go_wp2_with fail
          go_big_quiet (fail)
          clear hc1 hc2 hd1 hd2
          go_wp2_with fail
          go_ret
          refine ⟨?_, m + nq, by first | rfl | exact drewN_two _ _ _⟩
          have hne : ¬ xs = ys := fun e => hxy (by have h1 := EX.out; rw [e, EY.out] at h1; exact (Option.some.inj h1).symm)
          simp [hne]
      · have hiE : i = L := by omega
        subst hiE
        have he : xs = ys := by
          have := ht.out
          rwa [List.take_of_length_le (by rw [HX.out]; exact Nat.le_refl _), List.take_of_length_le (by rw [HY.out]; exact Nat.le_refl _)] at this
        clear ht
        go_wp2_with fail
        go_ret
        refine ⟨?_, _, rfl⟩
        simp [he]
  · have hb : ((xs.length : Int) != (ys.length : Int)) = true := by simp; omega
    have hne : ¬ xs = ys := fun e => hl (by rw [e])
    have hf : decide (xs = ys) = false := decide_eq_false hne
    rw [hf]
    clear hne hf hl
    generalize xs.length = l1 at *
    generalize ys.length = l2 at *
    go_enter Tryz.func79, Tryz.ntmps79
    go_wp2
    go_ret
    exact ⟨rfl, 0, rfl⟩
end Go.Proofs.YtagghdehbkbemaaGreatDoor.app
end
