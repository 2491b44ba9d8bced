/- PLAIN LEAN: the digits that the toolchain lays, less the noughts at their end, are the digits that the reference writes. -/
import Derived.Test.YtjciflgnlldgbaaGreatDoorGSg
import Derived.Test.YtjciflgnlldgbaaGreatDoorGDig
namespace Go.Proofs.YtjciflgnlldgbaaGreatDoor.uw
open Go.RowKit Go.Sort mem fl big us sh
set_option linter.unusedVariables false

theorem dgs_step (u : Nat) (h : ¬ u < 10) : dgs u = dgs (u / 10) ++ [48 + u % 10] := by
  unfold dgs
  rw [dg_step u, if_neg (by omega), List.reverse_cons]
theorem dgs_small (u : Nat) (h : u < 10) : dgs u = [48 + u % 10] := by
  unfold dgs
  rw [dg_step u, if_pos (by omega)]
  rfl
theorem dgs_eq (u : Nat) : dgs u = (List.range (Lib.nDigits u)).map fun t => 48 + u / 10 ^ (Lib.nDigits u - 1 - t) % 10 := by
  induction u using Nat.strongRecOn with
  | _ u ih =>
    by_cases h : u < 10
    · rw [dgs_small u h, Lib.nDigits_small h]
      simp
    · rw [dgs_step u h, ih (u / 10) (by omega), Lib.nDigits_big h, List.range_succ, List.map_append]
      congr 1
      · apply List.map_congr_left
        intro t ht
        have ht := List.mem_range.1 ht
        rw [Nat.div_div_eq_div_mul]
        congr 3
        rw [show Lib.nDigits (u / 10) + 1 - 1 - t = Lib.nDigits (u / 10) - 1 - t + 1 by omega, Nat.pow_succ, Nat.mul_comm]
      · simp
theorem dgs_length (u : Nat) : (dgs u).length = Lib.nDigits u := by rw [dgs_eq]; simp
theorem nd_mul (q : Nat) (hq : 0 < q) : ∀ k, Lib.nDigits (q * 10 ^ k) = Lib.nDigits q + k
  | 0 => by simp
  | k + 1 => by
    have h10 : 10 ≤ q * 10 ^ (k + 1) := by
      rw [Nat.pow_succ, ← Nat.mul_assoc]
      have := Nat.mul_pos hq (Nat.pow_pos (n := k) (show 0 < 10 by decide))
      omega
    rw [Lib.nDigits_big (by omega), Nat.pow_succ, ← Nat.mul_assoc, Nat.mul_div_cancel _ (by decide), nd_mul q hq k]
    omega
theorem nd_le : ∀ k u, 0 < k → u < 10 ^ k → Lib.nDigits u ≤ k
  | 0, u, h, _ => by omega
  | k + 1, u, _, h => by
    by_cases h1 : u < 10
    · rw [Lib.nDigits_small h1]; omega
    · rw [Lib.nDigits_big h1]
      rw [Nat.pow_succ] at h
      have h0 : 0 < k := by
        rcases Nat.eq_zero_or_pos k with rfl | h0
        · simp at h; omega
        · exact h0
      have := nd_le k (u / 10) h0 (by omega)
      omega
theorem nd20 (u : Nat) (h : u < 18446744073709551616) : Lib.nDigits u ≤ 20 := nd_le 20 u (by decide) (Nat.lt_of_lt_of_le h (by decide))
theorem zeros_mod (d : Nat) : ∀ k, (∀ i, i < k → d / 10 ^ i % 10 = 0) → d % 10 ^ k = 0
  | 0, _ => by simp [Nat.mod_one]
  | k + 1, h => by
    have h1 := zeros_mod d k fun i hi => h i (by omega)
    have h2 := h k (by omega)
    rw [Nat.pow_succ, Nat.mod_mul, h1, h2, Nat.mul_zero]
theorem dig_nat (d i : Nat) : (Lib.dg d i).toNat = 48 + d / 10 ^ i % 10 := by
  unfold Lib.dg
  rw [UInt8.toNat_ofNat']
  omega
theorem laid_digits {d r v' : Nat} {dk : Array UInt8} (hd : 0 < d) (h : Lib.FmtInv (Lib.nDigits d) d 0 v' dk) (hr : r ≤ Lib.nDigits d) (hr0 : r = 0 ∨ dk[r - 1]! ≠ 48) (hz : ∀ t, r ≤ t → t < Lib.nDigits d → dk[t]! = 48) :
    ∃ q k, d = q * 10 ^ k ∧ q % 10 ≠ 0 ∧ Lib.nDigits d = r + k ∧ Lib.nDigits q = r ∧ (List.range r).map (fun t => (dk[t]!).toNat) = dgs q := by
  obtain ⟨n, hn⟩ : ∃ n, Lib.nDigits d = n := ⟨_, rfl⟩
  have hlt := Lib.lt_pow_nDigits d
  rw [hn] at h hr hz hlt ⊢
  obtain ⟨k, hk⟩ : ∃ k, n = r + k := ⟨n - r, by omega⟩
  have hdig : ∀ t, t < n → (dk[t]!).toNat = 48 + d / 10 ^ (n - 1 - t) % 10 := fun t ht => by rw [h.done t (Nat.zero_le _) ht, dig_nat]
  have hmod : d % 10 ^ k = 0 := zeros_mod d k fun i hi => by
    have h1 := hdig (n - 1 - i) (by omega)
    rw [hz (n - 1 - i) (by omega) (by omega), show n - 1 - (n - 1 - i) = i by omega] at h1
    have e : (48 : UInt8).toNat = 48 := rfl
    omega
  obtain ⟨q, hq⟩ : ∃ q, d = q * 10 ^ k := ⟨d / 10 ^ k, by rw [Nat.div_mul_cancel (Nat.dvd_of_mod_eq_zero hmod)]⟩
  have hq0 : 0 < q := by
    rcases Nat.eq_zero_or_pos q with h0 | h0
    · rw [h0, Nat.zero_mul] at hq; omega
    · exact h0
  have hnq : Lib.nDigits q = r := by
    have := nd_mul q hq0 k
    rw [← hq, hn] at this
    omega
  have hdiv : d / 10 ^ k = q := by rw [hq, Nat.mul_div_cancel _ (Nat.pow_pos (by decide))]
  refine ⟨q, k, hq, ?_, hk, hnq, ?_⟩
  · rcases hr0 with h0 | h0
    · have := Lib.nDigits_pos q
      omega
    · have hp := Lib.nDigits_pos q
      have h1 := hdig (r - 1) (by omega)
      rw [show n - 1 - (r - 1) = k by omega, hdiv] at h1
      intro h2
      rw [h2] at h1
      exact h0 (UInt8.toNat_inj.1 (by rw [h1]; rfl))
  · rw [dgs_eq, hnq]
    apply List.map_congr_left
    intro t ht
    have ht := List.mem_range.1 ht
    rw [hdig t (by omega), show n - 1 - t = k + (r - 1 - t) by omega, Nat.pow_add, ← Nat.div_div_eq_div_mul, hdiv]
theorem dgs_bytes (q : Nat) : ∀ c ∈ dgs q, 48 ≤ c ∧ c ≤ 57 := by
  intro c hc
  rw [dgs_eq] at hc
  obtain ⟨t, _, rfl⟩ := List.mem_map.1 hc
  omega
end Go.Proofs.YtjciflgnlldgbaaGreatDoor.uw
