/- PLAIN LEAN: the model's floats by sign and rung: order, whole numbers. -/
import Derived.Test.YtlkeemphdocpoaaWc
import Derived.WalkLawsBesides
namespace Go.Proofs.Ytlkeemphdocpoaa.big
open Go.RowKit mem fl
set_option linter.unusedVariables false

theorem read_parts (s : Bool) (a : Nat) (ha : a < 9223372036854775808) : (a + sgn s) / 9223372036854775808 % 2 = (if s then 1 else 0) ∧ (a + sgn s) % 9223372036854775808 = a := by
  unfold sgn
  cases s
  · simp only [Bool.false_eq_true, if_false]; omega
  · simp only [if_true]; omega
theorem read_num (s : Bool) (a : Nat) (ha : a < 9218868437227405312) : Ieee.double.read (a + sgn s) = .number s (spM a) (spE a) := by
  obtain ⟨h1, h2⟩ := read_parts s a (by omega)
  have e1 : Ieee.double.signWeight = 9223372036854775808 := by decide
  have e2 : Ieee.double.binade = 4503599627370496 := by decide
  have e3 : Ieee.double.infRung = 9218868437227405312 := by decide
  have e4 : Ieee.double.leastPlace = -1074 := by decide
  unfold Ieee.Format.read
  simp only [e1, e2, e3, e4, h1, h2]
  have hs : ((if s = true then 1 else 0) == 1) = s := by cases s <;> rfl
  unfold spM spE
  have e5 : a / 4503599627370496 % 2048 = a / 4503599627370496 := by omega
  rw [e5]
  by_cases hb : a < 4503599627370496
  · have e6 : a / 4503599627370496 = 0 := by omega
    have e7 : a % 4503599627370496 = a := by omega
    rw [if_pos hb, if_pos e6, if_pos e6, e7, hs]
  · have e6 : ¬ a / 4503599627370496 = 0 := by omega
    rw [if_neg hb, if_pos ha, if_neg e6, if_neg e6, hs, Nat.add_comm 4503599627370496]
    congr 1
    omega
theorem read_inf (s : Bool) : Ieee.double.read (9218868437227405312 + sgn s) = .infinity s := by cases s <;> decide
theorem read_nan (s : Bool) (a : Nat) (ha : a < 9223372036854775808) (hn : 9218868437227405312 < a) : Ieee.double.read (a + sgn s) = .nan s (a - 9218868437227405312) := by
  obtain ⟨h1, h2⟩ := read_parts s a ha
  have e1 : Ieee.double.signWeight = 9223372036854775808 := by decide
  have e2 : Ieee.double.binade = 4503599627370496 := by decide
  have e3 : Ieee.double.infRung = 9218868437227405312 := by decide
  unfold Ieee.Format.read
  simp only [e1, e2, e3, h1, h2]
  have hs : ((if s = true then 1 else 0) == 1) = s := by cases s <;> rfl
  rw [if_neg (by omega), if_neg (by omega), if_neg (by omega), hs]
/-- a float's value, in units of the least one -/
def sV (s : Bool) (a : Nat) : Int := if s then -(V a : Int) else (V a : Int)
theorem signed_mul (s : Bool) (m u p : Nat) : Ieee.signed s m u * (2 ^ p : Nat) = if s then -((m * 2 ^ (u + p) : Nat) : Int) else ((m * 2 ^ (u + p) : Nat) : Int) := by
  unfold Ieee.signed
  rw [Nat.shiftLeft_eq]
  have e : m * 2 ^ (u + p) = m * 2 ^ u * 2 ^ p := by rw [Nat.pow_add, Nat.mul_assoc]
  rw [e]
  cases s
  · simp [Int.natCast_mul]
  · simp only [if_true, Int.natCast_mul, Int.neg_mul]
theorem compare_scale (x y : Int) (p : Nat) : compare (x * (2 ^ p : Nat)) (y * (2 ^ p : Nat)) = compare x y := by
  have hp : (0 : Int) < ((2 ^ p : Nat) : Int) := by exact_mod_cast pow_pos' p
  simp only [compare, compareOfLessAndEq]
  have h1 : (x * ((2 ^ p : Nat) : Int) < y * ((2 ^ p : Nat) : Int)) ↔ x < y := Int.mul_lt_mul_right hp
  have h2 : (x * ((2 ^ p : Nat) : Int) = y * ((2 ^ p : Nat) : Int)) ↔ x = y := ⟨fun h => Int.eq_of_mul_eq_mul_right (by omega) h, fun h => by rw [h]⟩
  simp only [h1, h2]
theorem order_num (s t : Bool) (a b : Nat) (ha : a < 9218868437227405312) (hb : b < 9218868437227405312) : Ieee.double.order (a + sgn s) (b + sgn t) = some (compare (sV s a) (sV t b)) := by
  unfold Ieee.Format.order
  rw [read_num s a ha, read_num t b hb]
  simp only [Ieee.Datum.order]
  congr 1
  have ea := spE_bd ha
  have eb := spE_bd hb
  obtain ⟨base, hbase⟩ : ∃ base, min (spE a) (spE b) = base := ⟨_, rfl⟩
  rw [hbase, ← compare_scale _ _ (base + 1074).toNat, signed_mul, signed_mul]
  have h1 : (spE a - base).toNat + (base + 1074).toNat = (spE a + 1074).toNat := by omega
  have h2 : (spE b - base).toNat + (base + 1074).toNat = (spE b + 1074).toNat := by omega
  rw [h1, h2, ← V_sp ha, ← V_sp hb]
  rfl
theorem order_inf_num (s t : Bool) (b : Nat) (hb : b < 9218868437227405312) : Ieee.double.order (9218868437227405312 + sgn s) (b + sgn t) = some (if s then .lt else .gt) := by
  unfold Ieee.Format.order
  rw [read_inf, read_num t b hb]
  rfl
theorem order_nan (s t : Bool) (a b : Nat) (ha : a < 9223372036854775808) (hn : 9218868437227405312 < a) (y : Nat) : Ieee.double.order (a + sgn s) y = none := by
  unfold Ieee.Format.order
  rw [read_nan s a ha hn]
  cases Ieee.double.read y <;> rfl
theorem order_self (s : Bool) (a : Nat) (ha : a ≤ 9218868437227405312) : Ieee.double.order (a + sgn s) (a + sgn s) = some .eq := by
  by_cases h : a = 9218868437227405312
  · subst h
    unfold Ieee.Format.order
    rw [read_inf]
    cases s <;> rfl
  · rw [order_num s s a a (by omega) (by omega)]
    congr 1
    simp [compare, compareOfLessAndEq]

/-! ### exact numbers, and numbers cut -/
theorem near_exact {X r : Nat} (h : V r = X) (hr : r ≤ 9218868437227405312) : Near X 1 r := by
  have h2 := V_succ r
  refine ⟨hr, ?_, .inr (.inl (by omega))⟩
  by_cases h0 : r = 0
  · exact .inl h0
  · have h1 := V_succ (r - 1)
    rw [show r - 1 + 1 = r by omega] at h1
    exact .inr (.inl (by omega))
theorem V_pred {a : Nat} (ha : 0 < a) : ∃ j, (∃ K, V a = K * 2 ^ j) ∧ V a ≤ V (a - 1) + 2 ^ j := by
  rcases form a with h | ⟨j, K, rfl, h1, h2⟩
  · exact ⟨0, ⟨a, by rw [V_small (by omega)]; simp⟩, by rw [V_small (r := a) (by omega), V_small (r := a - 1) (by omega)]; simp; omega⟩
  · have h3 := V_at j K h1 (by omega)
    refine ⟨j, ⟨K, h3⟩, ?_⟩
    by_cases hK : 4503599627370496 < K
    · have h4 := V_at j (K - 1) (by omega) (by omega)
      rw [show j * 4503599627370496 + K - 1 = j * 4503599627370496 + (K - 1) by omega, h3, h4]
      have : K * 2 ^ j = (K - 1) * 2 ^ j + 1 * 2 ^ j := by rw [← Nat.add_mul]; congr 1; omega
      omega
    · obtain rfl : K = 4503599627370496 := by omega
      cases j with
      | zero => rw [h3, V_small (by omega)]; simp
      | succ j =>
        have h4 := V_at j 9007199254740991 (by omega) (by omega)
        rw [show (j + 1) * 4503599627370496 + 4503599627370496 - 1 = j * 4503599627370496 + 9007199254740991 by omega, h3, h4, Nat.pow_succ]
        omega
/-- a number that is not whole is no whole number's nearest, where the whole number is cut from it -/
theorem cut_not {a T : Nat} (ha : 0 < a) (h1 : T * 2 ^ 1074 < V a) (h2 : V a < (T + 1) * 2 ^ 1074) (hN : Near (T * 2 ^ 1074) 1 a) : False := by
  obtain ⟨j, ⟨K, hK⟩, hp⟩ := V_pred ha
  obtain ⟨_, hlo, _⟩ := hN
  have hlo2 : V (a - 1) + V a ≤ 2 * (T * 2 ^ 1074) := by
    rcases hlo with h | h | ⟨h, _⟩ <;> omega
  by_cases hj : j < 1074
  · have e1 : (2 : Nat) ^ 1074 = 2 ^ (1074 - j) * 2 ^ j := by rw [← Nat.pow_add]; congr 1; omega
    have e2 : T * 2 ^ 1074 = (T * 2 ^ (1074 - j)) * 2 ^ j := by rw [e1, Nat.mul_assoc]
    rw [e2] at h1 hlo2
    rw [hK] at h1 hlo2 hp
    have h3 : T * 2 ^ (1074 - j) + 1 ≤ K := by
      have := Nat.lt_of_mul_lt_mul_right h1
      omega
    have h4 : (T * 2 ^ (1074 - j) + 1) * 2 ^ j ≤ K * 2 ^ j := Nat.mul_le_mul_right _ h3
    rw [Nat.add_mul, Nat.one_mul] at h4
    have h5 := pow_pos' j
    omega
  · have e1 : (2 : Nat) ^ j = 2 ^ (j - 1074) * 2 ^ 1074 := p2split j 1074 (by omega)
    rw [hK, e1, ← Nat.mul_assoc] at h1 h2
    have h3 := Nat.lt_of_mul_lt_mul_right h1
    have h4 := Nat.lt_of_mul_lt_mul_right h2
    omega
theorem cutZ (s : Bool) (n d : Nat) : Ieee.Toward.zero.cut s n d = n / 2 ^ d := by
  unfold Ieee.Toward.cut
  simp only [Nat.shiftLeft_eq, Nat.one_mul, Bool.toNat_false, Nat.add_zero]
  by_cases h : d ≤ n.log2 + 2
  · rw [Nat.min_eq_left h]
  · rw [Nat.min_eq_right (by omega)]
    have hl : n < 2 ^ (n.log2 + 1) := Nat.lt_log2_self
    have h1 : 2 ^ (n.log2 + 1) ≤ 2 ^ (n.log2 + 2) := Nat.pow_le_pow_right (by omega) (by omega)
    have h2 : 2 ^ (n.log2 + 2) ≤ 2 ^ d := Nat.pow_le_pow_right (by omega) (by omega)
    rw [Nat.div_eq_of_lt (by omega), Nat.div_eq_of_lt (by omega)]
/-- the whole part -/
theorem integral_eq (s : Bool) (a : Nat) (ha : a < 9218868437227405312) : (Ieee.Datum.number s (spM a) (spE a)).integral .zero = .number s (V a / 2 ^ 1074) 0 := by
  unfold Ieee.Datum.integral
  simp only [cutZ, Nat.shiftLeft_eq]
  congr 1
  have h := spE_bd ha
  rw [V_sp ha]
  by_cases hx : 0 ≤ spE a
  · have e1 : (-spE a).toNat = 0 := by omega
    have e2 : (spE a + 1074).toNat = (spE a).toNat + 1074 := by omega
    rw [e1, e2, Nat.pow_zero, Nat.div_one, Nat.pow_add, ← Nat.mul_assoc, Nat.mul_div_cancel _ (pow_pos' 1074)]
  · have e1 : (spE a).toNat = 0 := by omega
    have e2 : (2 : Nat) ^ 1074 = 2 ^ (-spE a).toNat * 2 ^ (spE a + 1074).toNat := by rw [← Nat.pow_add]; congr 1; omega
    rw [e1, e2, Nat.pow_zero, Nat.mul_one, Nat.mul_div_mul_right _ _ (pow_pos' _)]
theorem word_sgn (s : Bool) (r : Nat) : Ieee.double.word s r = r + sgn s := by
  unfold Ieee.Format.word sgn
  have e1 : Ieee.double.signWeight = 9223372036854775808 := by decide
  rw [e1]
  cases s
  · rfl
  · simp only [if_true]; omega
/-- a whole number's float -/
theorem encode_whole (s : Bool) (T : Nat) : ∃ r, Ieee.double.write (.number s T 0) = r + sgn s ∧ Near (T * 2 ^ 1074) 1 r := by
  unfold Ieee.Format.write
  simp only
  by_cases h0 : T = 0
  · subst h0
    refine ⟨0, ?_, near_exact (by rw [V_small (by omega)]; omega) (by omega)⟩
    unfold Ieee.Format.nearest
    rw [if_pos rfl, word_sgn]
  · obtain ⟨r, h1, h2⟩ := nearest_near s T 0 h0
    refine ⟨r, by rw [h1, word_sgn], ?_⟩
    have e1 : ((0 : Int) + 1074).toNat = 1074 := by decide
    have e2 : (-((0 : Int) + 1074)).toNat = 0 := by decide
    rw [e1, e2, Nat.pow_zero] at h2
    exact h2
end Go.Proofs.Ytlkeemphdocpoaa.big
