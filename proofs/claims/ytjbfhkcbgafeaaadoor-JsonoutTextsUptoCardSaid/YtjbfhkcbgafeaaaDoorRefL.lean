/- PLAIN LEAN: the reference's way to read a character: of the first k bytes the number, written again, are those bytes: just where the model's decoder reads so many. -/
import Derived.Test.YtjbfhkcbgafeaaaDoorUn
namespace Go.Proofs.YtjbfhkcbgafeaaaDoor.txt
open Go.Lib

/-- the number of the first bytes, whatever their marks are; the first by its rest of f -/
def numP (b : Nat → Nat) (f : Nat) : Nat → Nat
  | 0 => 0
  | 1 => b 0 % f
  | i + 2 => numP b f (i + 1) * 64 + b (i + 1) % 64
def fstF (k : Nat) : Nat := if k = 0 then 0 else if k = 1 then 128 else if k = 2 then 32 else if k = 3 then 16 else 8
def valP (b : Nat → Nat) (k : Nat) : Nat := numP b (fstF k) k
def putZ (r : Nat) : List Int := if r < 55296 ∨ (57343 < r ∧ r ≤ 1114111) then encodeRuneZ r else []
def bsZ (b : Nat → Nat) (k : Nat) : List Int := (List.range k).map fun i => (b i : Int)
theorem val1 (b : Nat → Nat) : valP b 1 = b 0 % 128 := rfl
theorem val2 (b : Nat → Nat) : valP b 2 = b 0 % 32 * 64 + b 1 % 64 := rfl
theorem val3 (b : Nat → Nat) : valP b 3 = (b 0 % 16 * 64 + b 1 % 64) * 64 + b 2 % 64 := rfl
theorem val4 (b : Nat → Nat) : valP b 4 = ((b 0 % 8 * 64 + b 1 % 64) * 64 + b 2 % 64) * 64 + b 3 % 64 := rfl
theorem numP_lt (b : Nat → Nat) (f : Nat) (hf : f ≤ 128) (h0 : 0 < f) : ∀ i, i ≤ 4 → numP b f i < 33554432
  | 0, _ => by show 0 < _; omega
  | 1, _ => by have := Nat.mod_lt (b 0) h0; show b 0 % f < _; omega
  | 2, _ => by have := Nat.mod_lt (b 0) h0; show b 0 % f * 64 + b 1 % 64 < _; omega
  | 3, _ => by have := Nat.mod_lt (b 0) h0; show (b 0 % f * 64 + b 1 % 64) * 64 + b 2 % 64 < _; omega
  | 4, _ => by have := Nat.mod_lt (b 0) h0; show ((b 0 % f * 64 + b 1 % 64) * 64 + b 2 % 64) * 64 + b 3 % 64 < _; omega
  | n + 5, h => by omega

theorem mt1 (b : Nat → Nat) (hb : ∀ i, b i < 256) : putZ (valP b 1) = bsZ b 1 ↔ b 0 < 128 := by
  rw [val1]
  show putZ (b 0 % 128) = [(b 0 : Int)] ↔ _
  unfold putZ encodeRuneZ
  rw [if_pos (by omega), if_pos (by omega)]
  simp
  omega
theorem mt2 (b : Nat → Nat) (hb : ∀ i, b i < 256) : putZ (valP b 2) = bsZ b 2 ↔ b 0 / 32 = 6 ∧ b 1 / 64 = 2 ∧ 128 ≤ b 0 % 32 * 64 + b 1 % 64 := by
  rw [val2]
  have h0 := hb 0
  have h1 := hb 1
  show putZ (b 0 % 32 * 64 + b 1 % 64) = [(b 0 : Int), (b 1 : Int)] ↔ _
  unfold putZ encodeRuneZ
  rw [if_pos (by omega)]
  by_cases c : b 0 % 32 * 64 + b 1 % 64 < 128
  · rw [if_pos (by omega)]
    simp
    omega
  · rw [if_neg (by omega), if_pos (by omega)]
    simp
    omega
theorem mt3 (b : Nat → Nat) (hb : ∀ i, b i < 256) : putZ (valP b 3) = bsZ b 3 ↔ b 0 / 16 = 14 ∧ b 1 / 64 = 2 ∧ b 2 / 64 = 2 ∧ 2048 ≤ b 0 % 16 * 4096 + b 1 % 64 * 64 + b 2 % 64 ∧ (b 0 % 16 * 4096 + b 1 % 64 * 64 + b 2 % 64 < 55296 ∨ 57344 ≤ b 0 % 16 * 4096 + b 1 % 64 * 64 + b 2 % 64) := by
  rw [val3]
  have h0 := hb 0
  have h1 := hb 1
  have h2 := hb 2
  show putZ ((b 0 % 16 * 64 + b 1 % 64) * 64 + b 2 % 64) = [(b 0 : Int), (b 1 : Int), (b 2 : Int)] ↔ _
  rw [show (b 0 % 16 * 64 + b 1 % 64) * 64 + b 2 % 64 = b 0 % 16 * 4096 + b 1 % 64 * 64 + b 2 % 64 by omega]
  obtain ⟨v, hv⟩ : ∃ v, b 0 % 16 * 4096 + b 1 % 64 * 64 + b 2 % 64 = v := ⟨_, rfl⟩
  rw [hv]
  unfold putZ encodeRuneZ
  by_cases d : v < 55296 ∨ (57343 < v ∧ v ≤ 1114111)
  · rw [if_pos d]
    by_cases c : v < 128
    · rw [if_pos (by omega)]
      simp
      omega
    · rw [if_neg (by omega)]
      by_cases c2 : v < 2048
      · rw [if_pos (by omega)]
        simp
        omega
      · rw [if_neg (by omega), if_pos (by omega)]
        simp
        omega
  · rw [if_neg d]
    simp
    omega
theorem mt4 (b : Nat → Nat) (hb : ∀ i, b i < 256) : putZ (valP b 4) = bsZ b 4 ↔ b 0 / 8 = 30 ∧ b 1 / 64 = 2 ∧ b 2 / 64 = 2 ∧ b 3 / 64 = 2 ∧ 65536 ≤ b 0 % 8 * 262144 + b 1 % 64 * 4096 + b 2 % 64 * 64 + b 3 % 64 ∧ b 0 % 8 * 262144 + b 1 % 64 * 4096 + b 2 % 64 * 64 + b 3 % 64 ≤ 1114111 := by
  rw [val4]
  have h0 := hb 0
  have h1 := hb 1
  have h2 := hb 2
  have h3 := hb 3
  show putZ (((b 0 % 8 * 64 + b 1 % 64) * 64 + b 2 % 64) * 64 + b 3 % 64) = [(b 0 : Int), (b 1 : Int), (b 2 : Int), (b 3 : Int)] ↔ _
  rw [show ((b 0 % 8 * 64 + b 1 % 64) * 64 + b 2 % 64) * 64 + b 3 % 64 = b 0 % 8 * 262144 + b 1 % 64 * 4096 + b 2 % 64 * 64 + b 3 % 64 by omega]
  obtain ⟨v, hv⟩ : ∃ v, b 0 % 8 * 262144 + b 1 % 64 * 4096 + b 2 % 64 * 64 + b 3 % 64 = v := ⟨_, rfl⟩
  rw [hv]
  unfold putZ encodeRuneZ
  by_cases d : v < 55296 ∨ (57343 < v ∧ v ≤ 1114111)
  · rw [if_pos d]
    by_cases c : v < 128
    · rw [if_pos (by omega)]
      simp
      omega
    · rw [if_neg (by omega)]
      by_cases c2 : v < 2048
      · rw [if_pos (by omega)]
        simp
        omega
      · rw [if_neg (by omega)]
        by_cases c3 : v < 65536
        · rw [if_pos (by omega)]
          simp
          omega
        · rw [if_neg (by omega), if_pos (by omega)]
          simp
          omega
  · rw [if_neg d]
    simp
    omega

/-- what the decoder reads -/
def decB (b : Nat → Nat) (n : Nat) : Nat × Nat := decodeN n (b 0) (b 1) (b 2) (b 3)
theorem mt_to (b : Nat → Nat) (hb : ∀ i, b i < 256) (n k : Nat) (h1 : 1 ≤ k) (h4 : k ≤ 4) (hk : k ≤ n) (h : putZ (valP b k) = bsZ b k) : decB b n = (valP b k, k) := by
  unfold decB
  match k, h1, h4 with
  | 1, _, _ =>
    have := (mt1 b hb).1 h
    unfold decodeN
    rw [if_pos this, val1]
    congr 1
    omega
  | 2, _, _ =>
    obtain ⟨a1, a2, a3⟩ := (mt2 b hb).1 h
    rw [val2]
    exact dN2 _ _ _ _ _ a1 (by omega) a2 a3
  | 3, _, _ =>
    obtain ⟨a1, a2, a3, a4, a5⟩ := (mt3 b hb).1 h
    rw [val3, dN3 _ _ _ _ _ a1 (by omega) a2 a3 a4 a5]
    congr 1
    omega
  | 4, _, _ =>
    obtain ⟨a1, a2, a3, a4, a5, a6⟩ := (mt4 b hb).1 h
    rw [val4, dN4 _ _ _ _ _ a1 (by omega) a2 a3 a4 a5 a6]
    congr 1
    omega
theorem mt_from (b : Nat → Nat) (hb : ∀ i, b i < 256) (n : Nat) (h : ¬ ((decB b n).1 = 65533 ∧ (decB b n).2 = 1)) : putZ (valP b (decB b n).2) = bsZ b (decB b n).2 := by
  unfold decB at *
  rcases decodeN_shape n (b 0) (b 1) (b 2) (b 3) with ⟨c, e⟩ | ⟨c1, c2, c3, cv, e⟩ | ⟨c1, c2, c3, c4, cv, cs, e⟩ | ⟨c1, c2, c3, c4, c5, cv, cw, e⟩ | e
  · rw [e]
    exact (mt1 b hb).2 c
  · rw [e]
    exact (mt2 b hb).2 ⟨c1, c3, cv⟩
  · rw [e]
    exact (mt3 b hb).2 ⟨c1, c3, c4, cv, cs⟩
  · rw [e]
    exact (mt4 b hb).2 ⟨c1, c3, c4, c5, cv, cw⟩
  · rw [e] at h
    exact absurd ⟨rfl, rfl⟩ h
theorem decB_width (b : Nat → Nat) (n : Nat) (hn : 0 < n) : 1 ≤ (decB b n).2 ∧ (decB b n).2 ≤ 4 ∧ (decB b n).2 ≤ n := by
  unfold decB
  rcases decodeN_shape n (b 0) (b 1) (b 2) (b 3) with ⟨c, e⟩ | ⟨c1, c2, c3, cv, e⟩ | ⟨c1, c2, c3, c4, cv, cs, e⟩ | ⟨c1, c2, c3, c4, c5, cv, cw, e⟩ | e <;> rw [e] <;> simp <;> omega
/-- the character that the decoder reads is one that may be written -/
theorem decB_scalar (b : Nat → Nat) (hb : ∀ i, b i < 256) (n : Nat) : (decB b n).1 < 55296 ∨ (57343 < (decB b n).1 ∧ (decB b n).1 ≤ 1114111) := by
  have h0 := hb 0
  have h1 := hb 1
  unfold decB
  rcases decodeN_shape n (b 0) (b 1) (b 2) (b 3) with ⟨c, e⟩ | ⟨c1, c2, c3, cv, e⟩ | ⟨c1, c2, c3, c4, cv, cs, e⟩ | ⟨c1, c2, c3, c4, c5, cv, cw, e⟩ | e <;> rw [e] <;> simp <;> omega
/-- what One answers -/
def oneB (b : Nat → Nat) (n : Nat) : Nat × Nat := if (decB b n).1 = 65533 ∧ (decB b n).2 = 1 then (0, 0) else decB b n
def bytesOf (l : List UInt8) (i : Nat) : Nat := (l.getD i 0).toNat
theorem bytesOf_lt (l : List UInt8) (i : Nat) : bytesOf l i < 256 := (l.getD i 0).toNat_lt
theorem decB_of (l : List UInt8) : decB (bytesOf l) l.length = decodeL l := (decodeL_N l).symm
theorem bytesOf_drop (l : List UInt8) (k i : Nat) : bytesOf (l.drop k) i = bytesOf l (k + i) := by
  unfold bytesOf
  simp only [List.getD, List.getElem?_drop]
end Go.Proofs.YtjbfhkcbgafeaaaDoor.txt
