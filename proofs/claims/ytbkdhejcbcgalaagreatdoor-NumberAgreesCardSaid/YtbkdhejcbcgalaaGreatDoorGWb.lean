/- The reference's WholeBits, SameBits, Fits, OfWholeBits. The reference's SameBits, Fits, OfWholeBits. -/
import Derived.Test.YtbkdhejcbcgalaaGreatDoorGRb
section
namespace Go.Proofs.YtbkdhejcbcgalaaGreatDoor.big
open Go.RowKit mem fl
set_option linter.unusedVariables false

/-- the whole number in int64 that a float's magnitude a and sign stand for -/
def wholeOf (neg : Bool) (a : Nat) : Option Int :=
  if 9218868437227405312 ≤ a then none
  else if V a % 2 ^ 1074 = 0 then
    (if neg = true then (if V a / 2 ^ 1074 ≤ 9223372036854775808 then some (-((V a / 2 ^ 1074 : Nat) : Int)) else none)
     else (if V a / 2 ^ 1074 < 9223372036854775808 then some ((V a / 2 ^ 1074 : Nat) : Int) else none))
  else none
def WbPost (neg : Bool) (a : Nat) (w : World) (e : Ending) (w' : World) : Prop :=
  ∃ (n : Int) (ok : Bool), e = .returned (.tuple #[.int .i64 n, .bool ok]) ∧ (ok = true → wholeOf neg a = some n) ∧ (ok = false → wholeOf neg a = none) ∧ w = w'

theorem wo_odd {neg : Bool} {a m : Nat} {x : Int} (ha : ¬ 9218868437227405312 ≤ a) (hv : V a = m * 2 ^ (x + 1074).toNat) (hx : x < 0) (hx2 : -1074 ≤ x) (hm : m % 2 = 1) : wholeOf neg a = none := by
  unfold wholeOf
  rw [if_neg ha, if_neg]
  intro h
  have hd : 2 ^ 1074 ∣ V a := Nat.dvd_of_mod_eq_zero h
  obtain ⟨q, hq⟩ := hd
  have e1 : (2 : Nat) ^ 1074 = 2 ^ (x + 1074).toNat * 2 ^ (-x).toNat := by rw [← Nat.pow_add]; congr 1; omega
  rw [hv, e1, Nat.mul_comm m, Nat.mul_assoc] at hq
  have h2 := Nat.eq_of_mul_eq_mul_left (pow_pos' _) hq
  obtain ⟨k, hk⟩ : ∃ k, (-x).toNat = k + 1 := ⟨(-x).toNat - 1, by omega⟩
  rw [hk, Nat.pow_succ, Nat.mul_comm (2 ^ k), Nat.mul_assoc] at h2
  omega
theorem wo_at {neg : Bool} {a m : Nat} {x : Int} (ha : ¬ 9218868437227405312 ≤ a) (hv : V a = m * 2 ^ (x + 1074).toNat) (hx : 0 ≤ x ∨ m = 0) :
    wholeOf neg a = (if neg = true then (if m * 2 ^ x.toNat ≤ 9223372036854775808 then some (-((m * 2 ^ x.toNat : Nat) : Int)) else none) else (if m * 2 ^ x.toNat < 9223372036854775808 then some ((m * 2 ^ x.toNat : Nat) : Int) else none)) := by
  have e1 : V a = m * 2 ^ x.toNat * 2 ^ 1074 := by
    rcases hx with hx | hx
    · exact hv.trans (p2shift m x 1074 hx)
    · subst hx
      have hz : ∀ P Q R : Nat, 0 * P = 0 * Q * R := fun P Q R => by rw [Nat.zero_mul, Nat.zero_mul, Nat.zero_mul]
      exact hv.trans (hz _ _ _)
  unfold wholeOf
  rw [if_neg ha, e1, if_pos (Nat.mul_mod_left _ _), Nat.mul_div_cancel _ (pow_pos' 1074)]
theorem wo_mul {neg : Bool} {a Q : Nat} (ha : ¬ 9218868437227405312 ≤ a) (hv : V a = Q * 2 ^ 1074) :
    wholeOf neg a = (if neg = true then (if Q ≤ 9223372036854775808 then some (-(Q : Int)) else none) else (if Q < 9223372036854775808 then some (Q : Int) else none)) := by
  unfold wholeOf
  rw [if_neg ha, hv, if_pos (Nat.mul_mod_left _ _), Nat.mul_div_cancel _ (pow_pos' 1074)]
theorem wo_big {neg : Bool} {a m : Nat} {x : Int} (ha : ¬ 9218868437227405312 ≤ a) (hv : V a = m * 2 ^ (x + 1074).toNat) (hx : 0 < x) (hm : 9223372036854775808 ≤ m) : wholeOf neg a = none := by
  rw [wo_at ha hv (.inl (by omega))]
  obtain ⟨k, hk⟩ : ∃ k, x.toNat = k + 1 := ⟨x.toNat - 1, by omega⟩
  have h1 : 9223372036854775808 * 2 ≤ m * 2 ^ x.toNat := by
    rw [hk, Nat.pow_succ]
    exact Nat.mul_le_mul hm (by have := pow_pos' k; omega)
  cases neg
  · rw [if_neg (by simp), if_neg (by omega)]
  · rw [if_pos rfl, if_neg (by omega)]
theorem wo_end {neg : Bool} {a m : Nat} {x : Int} (ha : ¬ 9218868437227405312 ≤ a) (hv : V a = m * 2 ^ (x + 1074).toNat) (hx : 0 ≤ x ∨ m = 0) (hx2 : x ≤ 0 ∨ m = 0) :
    wholeOf neg a = (if neg = true then (if m ≤ 9223372036854775808 then some (-(m : Int)) else none) else (if m < 9223372036854775808 then some (m : Int) else none)) := by
  have e : m * 2 ^ x.toNat = m := by
    rcases hx2 with h | h
    · rw [show x.toNat = 0 by omega, Nat.pow_zero, Nat.mul_one]
    · subst h; rw [Nat.zero_mul]
  have := wo_at (neg := neg) ha hv hx
  rw [e] at this
  exact this
theorem sgn_and (neg : Bool) (a : Nat) (ha : a < 9223372036854775808) : bits .and .u64 ((a + sgn neg : Nat) : Int) 9223372036854775808 = ((sgn neg : Nat) : Int) := by
  have h63 : (2 : Nat) ^ 63 = 9223372036854775808 := by decide
  have h := u64_and_nat (a + sgn neg) 9223372036854775808 (by unfold sgn; split <;> omega) (by decide)
  refine h.trans ?_
  rw [← h63, nat_bit 63, h63]
  unfold sgn
  congr 1
  split <;> omega
theorem sgn_andNot (neg : Bool) (a : Nat) (ha : a < 9223372036854775808) : bits .andNot .u64 ((a + sgn neg : Nat) : Int) 9223372036854775808 = (a : Int) := by
  have h := u64_andNot_nat (a + sgn neg) 9223372036854775808 (by unfold sgn; split <;> omega) (by decide)
  refine h.trans ?_
  have e : 18446744073709551615 - 9223372036854775808 = 2 ^ 63 - 1 := by decide
  have h63 : (2 : Nat) ^ 63 = 9223372036854775808 := by decide
  rw [e, Nat.and_two_pow_sub_one_eq_mod, h63]
  congr 1
  unfold sgn
  split <;> omega
/-- the loops' state -/
def WbSt (a m : Nat) (x : Int) : Prop := V a = m * 2 ^ (x + 1074).toNat
theorem wb_half {a m : Nat} {x : Int} (h : WbSt a m x) (hm : m % 2 = 0) (hx : -1074 ≤ x) : WbSt a (m / 2) (x + 1) := by
  unfold WbSt at *
  have e : (x + 1 + 1074).toNat = (x + 1074).toNat + 1 := by omega
  rw [h, e, Nat.pow_succ, Nat.mul_comm (2 ^ (x + 1074).toNat) 2, ← Nat.mul_assoc]
  congr 1
  omega
theorem wb_twice {a m : Nat} {x : Int} (h : WbSt a m x) (hx : 0 < x) : WbSt a (m * 2) (x - 1) := by
  unfold WbSt at *
  have e : (x + 1074).toNat = (x - 1 + 1074).toNat + 1 := by omega
  rw [h, e, Nat.pow_succ, Nat.mul_comm (2 ^ (x - 1 + 1074).toNat) 2, ← Nat.mul_assoc]

end Go.Proofs.YtbkdhejcbcgalaaGreatDoor.big
end
section
namespace Go.Proofs.YtbkdhejcbcgalaaGreatDoor.big
open Go.RowKit mem fl
set_option linter.unusedVariables false

def isNan (a : Nat) : Bool := decide (9218868437227405312 < a)
def NanPost (a : Nat) (w : World) (e : Ending) (w' : World) : Prop := e = .returned (.bool (isNan a)) ∧ w = w'
def sameB (n1 : Bool) (a1 : Nat) (n2 : Bool) (a2 : Nat) : Bool := decide (n1 = n2 ∧ a1 = a2) || (isNan a1 && isNan a2)
def SbPost (n1 : Bool) (a1 : Nat) (n2 : Bool) (a2 : Nat) (w : World) (e : Ending) (w' : World) : Prop := e = .returned (.bool (sameB n1 a1 n2 a2)) ∧ w = w'
theorem sgn_inj {n1 n2 : Bool} {a1 a2 : Nat} (h1 : a1 < 9223372036854775808) (h2 : a2 < 9223372036854775808) : (((a1 + sgn n1 : Nat) : Int) == ((a2 + sgn n2 : Nat) : Int)) = decide (n1 = n2 ∧ a1 = a2) := by
  rw [Bool.eq_iff_iff]
  simp only [beq_iff_eq, decide_eq_true_eq]
  unfold sgn
  constructor
  · intro h
    cases n1 <;> cases n2 <;> simp at h ⊢ <;> omega
  · rintro ⟨rfl, rfl⟩
    rfl
def fits (n : Int) : Bool := decide (-2147483648 ≤ n) && decide (n ≤ 2147483647)
def FitPost (n : Int) (w : World) (e : Ending) (w' : World) : Prop := e = .returned (.bool (fits n)) ∧ w = w'
end Go.Proofs.YtbkdhejcbcgalaaGreatDoor.big
end
