/- The reference's WholeBits, SameBits, Fits, OfWholeBits. -/
import Derived.Test.YtlkeemphdocpoaaRb2
namespace Go.Proofs.Ytlkeemphdocpoaa.big
open Go.RowKit mem fl
set_option linter.unusedVariables false

/-- the whole number in int64 that a float's magnitude a and sign stand for -/
def wholeOf (neg : Bool) (a : Nat) : Option Int :=
  if 9218868437227405312 ≤ a then none
  else if V a % 2 ^ 1074 = 0 then
    (if neg = true then (if V a / 2 ^ 1074 ≤ 9223372036854775808 then some (-((V a / 2 ^ 1074 : Nat) : Int)) else none)
     else (if V a / 2 ^ 1074 < 9223372036854775808 then some ((V a / 2 ^ 1074 : Nat) : Int) else none))
  else none
def WbPost (neg : Bool) (a : Nat) (w : World) (e : Ending) (w' : World) : Prop :=
  ∃ (n : Int) (ok : Bool), e = .returned (.tuple #[.int .i64 n, .bool ok]) ∧ (ok = true → wholeOf neg a = some n) ∧ (ok = false → wholeOf neg a = none) ∧ w = w'

theorem wo_odd {neg : Bool} {a m : Nat} {x : Int} (ha : ¬ 9218868437227405312 ≤ a) (hv : V a = m * 2 ^ (x + 1074).toNat) (hx : x < 0) (hx2 : -1074 ≤ x) (hm : m % 2 = 1) : wholeOf neg a = none := by
  unfold wholeOf
  rw [if_neg ha, if_neg]
  intro h
  have hd : 2 ^ 1074 ∣ V a := Nat.dvd_of_mod_eq_zero h
  obtain ⟨q, hq⟩ := hd
  have e1 : (2 : Nat) ^ 1074 = 2 ^ (x + 1074).toNat * 2 ^ (-x).toNat := by rw [← Nat.pow_add]; congr 1; omega
  rw [hv, e1, Nat.mul_comm m, Nat.mul_assoc] at hq
  have h2 := Nat.eq_of_mul_eq_mul_left (pow_pos' _) hq
  obtain ⟨k, hk⟩ : ∃ k, (-x).toNat = k + 1 := ⟨(-x).toNat - 1, by omega⟩
  rw [hk, Nat.pow_succ, Nat.mul_comm (2 ^ k), Nat.mul_assoc] at h2
  omega
theorem wo_at {neg : Bool} {a m : Nat} {x : Int} (ha : ¬ 9218868437227405312 ≤ a) (hv : V a = m * 2 ^ (x + 1074).toNat) (hx : 0 ≤ x ∨ m = 0) :
    wholeOf neg a = (if neg = true then (if m * 2 ^ x.toNat ≤ 9223372036854775808 then some (-((m * 2 ^ x.toNat : Nat) : Int)) else none) else (if m * 2 ^ x.toNat < 9223372036854775808 then some ((m * 2 ^ x.toNat : Nat) : Int) else none)) := by
  have e1 : V a = m * 2 ^ x.toNat * 2 ^ 1074 := by
    rcases hx with hx | hx
    · exact hv.trans (p2shift m x 1074 hx)
    · subst hx
      have hz : ∀ P Q R : Nat, 0 * P = 0 * Q * R := fun P Q R => by rw [Nat.zero_mul, Nat.zero_mul, Nat.zero_mul]
      exact hv.trans (hz _ _ _)
  unfold wholeOf
  rw [if_neg ha, e1, if_pos (Nat.mul_mod_left _ _), Nat.mul_div_cancel _ (pow_pos' 1074)]
theorem wo_mul {neg : Bool} {a Q : Nat} (ha : ¬ 9218868437227405312 ≤ a) (hv : V a = Q * 2 ^ 1074) :
    wholeOf neg a = (if neg = true then (if Q ≤ 9223372036854775808 then some (-(Q : Int)) else none) else (if Q < 9223372036854775808 then some (Q : Int) else none)) := by
  unfold wholeOf
  rw [if_neg ha, hv, if_pos (Nat.mul_mod_left _ _), Nat.mul_div_cancel _ (pow_pos' 1074)]
theorem wo_big {neg : Bool} {a m : Nat} {x : Int} (ha : ¬ 9218868437227405312 ≤ a) (hv : V a = m * 2 ^ (x + 1074).toNat) (hx : 0 < x) (hm : 9223372036854775808 ≤ m) : wholeOf neg a = none := by
  rw [wo_at ha hv (.inl (by omega))]
  obtain ⟨k, hk⟩ : ∃ k, x.toNat = k + 1 := ⟨x.toNat - 1, by omega⟩
  have h1 : 9223372036854775808 * 2 ≤ m * 2 ^ x.toNat := by
    rw [hk, Nat.pow_succ]
    exact Nat.mul_le_mul hm (by have := pow_pos' k; omega)
  cases neg
  · rw [if_neg (by simp), if_neg (by omega)]
  · rw [if_pos rfl, if_neg (by omega)]
theorem wo_end {neg : Bool} {a m : Nat} {x : Int} (ha : ¬ 9218868437227405312 ≤ a) (hv : V a = m * 2 ^ (x + 1074).toNat) (hx : 0 ≤ x ∨ m = 0) (hx2 : x ≤ 0 ∨ m = 0) :
    wholeOf neg a = (if neg = true then (if m ≤ 9223372036854775808 then some (-(m : Int)) else none) else (if m < 9223372036854775808 then some (m : Int) else none)) := by
  have e : m * 2 ^ x.toNat = m := by
    rcases hx2 with h | h
    · rw [show x.toNat = 0 by omega, Nat.pow_zero, Nat.mul_one]
    · subst h; rw [Nat.zero_mul]
  have := wo_at (neg := neg) ha hv hx
  rw [e] at this
  exact this
theorem sgn_and (neg : Bool) (a : Nat) (ha : a < 9223372036854775808) : bits .and .u64 ((a + sgn neg : Nat) : Int) 9223372036854775808 = ((sgn neg : Nat) : Int) := by
  have h63 : (2 : Nat) ^ 63 = 9223372036854775808 := by decide
  have h := u64_and_nat (a + sgn neg) 9223372036854775808 (by unfold sgn; split <;> omega) (by decide)
  refine h.trans ?_
  rw [← h63, nat_bit 63, h63]
  unfold sgn
  congr 1
  split <;> omega
theorem sgn_andNot (neg : Bool) (a : Nat) (ha : a < 9223372036854775808) : bits .andNot .u64 ((a + sgn neg : Nat) : Int) 9223372036854775808 = (a : Int) := by
  have h := u64_andNot_nat (a + sgn neg) 9223372036854775808 (by unfold sgn; split <;> omega) (by decide)
  refine h.trans ?_
  have e : 18446744073709551615 - 9223372036854775808 = 2 ^ 63 - 1 := by decide
  have h63 : (2 : Nat) ^ 63 = 9223372036854775808 := by decide
  rw [e, Nat.and_two_pow_sub_one_eq_mod, h63]
  congr 1
  unfold sgn
  split <;> omega
/-- the loops' state -/
def WbSt (a m : Nat) (x : Int) : Prop := V a = m * 2 ^ (x + 1074).toNat
theorem wb_half {a m : Nat} {x : Int} (h : WbSt a m x) (hm : m % 2 = 0) (hx : -1074 ≤ x) : WbSt a (m / 2) (x + 1) := by
  unfold WbSt at *
  have e : (x + 1 + 1074).toNat = (x + 1074).toNat + 1 := by omega
  rw [h, e, Nat.pow_succ, Nat.mul_comm (2 ^ (x + 1074).toNat) 2, ← Nat.mul_assoc]
  congr 1
  omega
theorem wb_twice {a m : Nat} {x : Int} (h : WbSt a m x) (hx : 0 < x) : WbSt a (m * 2) (x - 1) := by
  unfold WbSt at *
  have e : (x + 1074).toNat = (x - 1 + 1074).toNat + 1 := by omega
  rw [h, e, Nat.pow_succ, Nat.mul_comm (2 ^ (x - 1 + 1074).toNat) 2, ← Nat.mul_assoc]

set_option maxRecDepth 100000 in
set_option maxHeartbeats 4000000 in
theorem wholeBits_any (neg : Bool) (a : Nat) (w : World) (ha : a < 9223372036854775808) :
    Calls Try.prog 9 #[.int .u64 ((a + sgn neg : Nat) : Int)] w (WbPost neg a w) := by
  have h1 := sgn_and neg a ha
  have h2 := sgn_andNot neg a ha
  have h3 : (((sgn neg : Nat) : Int) != 0) = neg := by cases neg <;> rfl
  obtain ⟨b, hb⟩ : ∃ b, a + sgn neg = b := ⟨_, rfl⟩
  rw [hb] at h1 h2 ⊢
  clear hb
  by_cases hinf : 9218868437227405312 ≤ a
  · have hn : wholeOf neg a = none := by unfold wholeOf; rw [if_pos hinf]
    have HN := Lib.hid hn
    have hd : decide ((a : Int) ≥ 9218868437227405312) = true := decide_eq_true (by omega)
    have hd2 : decide ((9218868437227405312 : Int) ≤ a) = true := decide_eq_true (by omega)
    clear hn hinf ha
    go_enter Try.func9, Try.ntmps9
    go_wp2_with fail
    go_ret2
    exact ⟨0, false, rfl, by simp, fun _ => HN.out, rfl⟩
  · have hd : decide ((9218868437227405312 : Int) ≤ a) = false := decide_eq_false (by omega)
    have HInf := Lib.hid hinf
    have hV := V_sp (r := a) (by omega)
    have HV := Lib.hid hV
    have hM := spM_lt a
    have hE := spE_bd (r := a) (by omega)
    have HAl := Lib.hid ha
    clear hinf hV ha
    go_enter Try.func9, Try.ntmps9
    go_wp2_with fail
    refine (split_any a w (by have := HAl.out; omega)).mono ?_
    rintro e w' ⟨rfl, rfl⟩
    obtain ⟨m0, hm0⟩ : ∃ m, spM a = m := ⟨_, rfl⟩
    obtain ⟨x0, hx0⟩ : ∃ x, spE a = x := ⟨_, rfl⟩
    rw [hm0] at hM HV ⊢
    rw [hx0] at hE HV ⊢
    clear hm0 hx0 h1 h2
    go_wp2_with fail
    go_loop [6, 7] (fun v6 v7 => ∃ (m : Nat) (x : Int), m < 9007199254740992 ∧ -1074 ≤ x ∧ x ≤ 971 ∧ v6 = .int .u64 (m : Int) ∧ v7 = .int .i64 x ∧ Hid (WbSt a m x)) (fun v6 v7 => (971 - intOf v7).toNat)
    case atStart => exact ⟨m0, x0, hM, hE.1, hE.2, rfl, rfl, Lib.hid HV.out⟩
    case round =>
      clear HV hM hE
      obtain ⟨m, x, hm, hx1, hx2, rfl, rfl, hst⟩ := hrel
      have HSt := Lib.hid hst.out
      clear hst
      by_cases hgo : x < 0 ∧ 0 < m
      · obtain ⟨hx3, hm3⟩ := hgo
        by_cases hodd : m % 2 = 1
        · have hn := wo_odd (neg := neg) HInf.out HSt.out hx3 hx1 hodd
          have HN := Lib.hid hn
          have d1 : ((m : Int) % 2 == 1) = true := by simp; omega
          clear hn
          go_wp2_with fail
          go_ret2
          exact ⟨0, false, rfl, by simp, fun _ => HN.out, rfl⟩
        · have d1 : ((m : Int) % 2 == 1) = false := by simp; omega
          have HS2 := Lib.hid (wb_half HSt.out (by omega) hx1)
          go_wp2_with fail
          go_round
          case rel => exact ⟨m / 2, x + 1, by omega, by omega, by omega, by simp, rfl, HS2⟩
          case measure => simp [intOf]; omega
      · have hend : 0 ≤ x ∨ m = 0 := by omega
        have HEnd := Lib.hid hend
        have hstart : ∃ x', -1074 ≤ x' ∧ x' ≤ 971 ∧ x' = x := ⟨x, hx1, hx2, rfl⟩
        clear hgo hstart
        have key : ∀ (x9 : Int) (m9 : Nat), ¬ (x9 < 0 ∧ 0 < m9) → True := fun _ _ _ => trivial
        clear key
        have hx3 : x < 0 → m = 0 := fun h => by omega
        have HX3 := Lib.hid hx3
        clear hend hx3
        by_cases hxn : x < 0
        · have hm0 := HX3.out hxn
          subst hm0
          go_wp2_with fail
          have hE := wo_end (neg := neg) HInf.out HSt.out (.inr rfl) (.inr rfl)
          have HE := Lib.hid hE
          clear hE
          go_loop [6, 7] (fun v6 v7 => v6 = .int .u64 0 ∧ v7 = .int .i64 x) (fun _ _ => 0)
          case atStart => exact ⟨rfl, rfl⟩
          case round =>
            obtain ⟨rfl, rfl⟩ := hrel
            cases neg
            · go_wp2_with fail
              go_ret2
              exact ⟨0, true, rfl, fun _ => HE.out, by simp, rfl⟩
            · go_wp2_with fail
              go_ret2
              exact ⟨0, true, rfl, fun _ => HE.out, by simp, rfl⟩
        · go_wp2_with fail
          go_loop [6, 7] (fun v6 v7 => ∃ (m : Nat) (x : Int), m < 18446744073709551616 ∧ 0 ≤ x ∧ x ≤ 971 ∧ v6 = .int .u64 (m : Int) ∧ v7 = .int .i64 x ∧ Hid (WbSt a m x)) (fun _ v7 => (intOf v7).toNat)
          case atStart => exact ⟨m, x, by omega, by omega, hx2, rfl, rfl, HSt⟩
          case round =>
            clear HSt HX3 HEnd hxn hx1 hx2 hm
            obtain ⟨m, x, hm, hx1, hx2, rfl, rfl, hst⟩ := hrel
            have HSt := Lib.hid hst.out
            clear hst
            by_cases hgo : 0 < x ∧ 0 < m
            · obtain ⟨hx3, hm3⟩ := hgo
              by_cases hbig : 9223372036854775808 ≤ m
              · have HN := Lib.hid (wo_big (neg := neg) HInf.out HSt.out hx3 hbig)
                have d1 : decide ((9223372036854775808 : Int) ≤ (m : Int)) = true := decide_eq_true (by omega)
                clear hbig
                have HM := Lib.hid hm
                clear hm
                go_wp2_with fail
                go_ret2
                exact ⟨0, false, rfl, by simp, fun _ => HN.out, rfl⟩
              · have d1 : decide ((9223372036854775808 : Int) ≤ (m : Int)) = false := decide_eq_false (by omega)
                have HS2 := Lib.hid (wb_twice HSt.out hx3)
                have hm2 : (m : Int) * 2 ≤ 18446744073709551615 := by omega
                have hwr : ((m : Int) * 2) % 18446744073709551616 = (m : Int) * 2 := by omega
                have HB := Lib.hid hbig
                have HM := Lib.hid hm
                clear hbig hm
                go_wp2_with fail
                go_round
                case rel => exact ⟨m * 2, x - 1, by have := HB.out; omega, by omega, by omega, by simp, rfl, HS2⟩
                case measure => simp [intOf]; omega
            · have hE := wo_end (neg := neg) HInf.out HSt.out (.inl hx1) (by omega)
              have HE := Lib.hid hE
              clear hE HSt
              have hx0 : 0 < x → m = 0 := fun h => by omega
              cases neg
              · have HE2 := Lib.hid (HE.out.trans (if_neg (by simp)))
                clear HE
                by_cases hb : m < 9223372036854775808
                · have HE3 := Lib.hid (HE2.out.trans (if_pos hb))
                  have d1 : decide ((9223372036854775808 : Int) ≤ (m : Int)) = false := decide_eq_false (by omega)
                  have hmb : (m : Int) ≤ 9223372036854775807 := by omega
                  have hw : wrap64 (m : Int) = (m : Int) := by unfold wrap64; omega
                  by_cases hx9 : 0 < x
                  · have hm0 := hx0 hx9
                    subst hm0
                    clear hx0 hgo d1 hmb hw hm hb
                    go_wp2_with fail
                    go_ret2
                    exact ⟨0, true, rfl, fun _ => HE3.out, by simp, rfl⟩
                  · clear hx0 hgo hm hb
                    go_wp2_with fail
                    go_ret2
                    exact ⟨(m : Int), true, rfl, fun _ => HE3.out, by simp, rfl⟩
                · have HE3 := Lib.hid (HE2.out.trans (if_neg hb))
                  have d1 : decide ((9223372036854775808 : Int) ≤ (m : Int)) = true := decide_eq_true (by omega)
                  have hx9 : ¬ 0 < x := fun h => by have := hx0 h; omega
                  clear hx0 hgo hm hb
                  go_wp2_with fail
                  go_ret2
                  exact ⟨0, false, rfl, by simp, fun _ => HE3.out, rfl⟩
              · have HE2 := Lib.hid (HE.out.trans (if_pos rfl))
                clear HE
                by_cases hb : m ≤ 9223372036854775808
                · have HE3 := Lib.hid (HE2.out.trans (if_pos hb))
                  have d1 : decide ((m : Int) ≤ 9223372036854775808) = true := decide_eq_true (by omega)
                  have hw : wrap64 (-wrap64 (m : Int)) = -(m : Int) := by unfold wrap64; omega
                  have HW := Lib.hid hw
                  clear hw
                  by_cases hx9 : 0 < x
                  · have hm0 := hx0 hx9
                    subst hm0
                    clear hx0 hgo d1 hm hb
                    go_wp2_with fail
                    go_ret2
                    exact ⟨0, true, rfl, fun _ => HE3.out, by simp, rfl⟩
                  · clear hx0 hgo hm hb
                    go_wp2_with fail
                    go_ret2
                    exact ⟨-(m : Int), true, by rw [← HW.out]; rfl, fun _ => HE3.out, by simp, rfl⟩
                · have HE3 := Lib.hid (HE2.out.trans (if_neg hb))
                  have d1 : decide ((m : Int) ≤ 9223372036854775808) = false := decide_eq_false (by omega)
                  have hx9 : ¬ 0 < x := fun h => by have := hx0 h; omega
                  clear hx0 hgo hm hb
                  go_wp2_with fail
                  go_ret2
                  exact ⟨_, false, rfl, by simp, fun _ => HE3.out, rfl⟩
end Go.Proofs.Ytlkeemphdocpoaa.big
