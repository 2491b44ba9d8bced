/- IsNaN, Abs, IsInf, Signbit, walked, of a float by its sign and its rung. -/
import Derived.Test.YtjciflgnlldgbaaGreatDoorGRb
import Derived.Test.YtjciflgnlldgbaaGreatDoorYUw
namespace Go.Proofs.YtjciflgnlldgbaaGreatDoor.pg
open Go.RowKit mem fl big
set_option linter.unusedVariables false

theorem run_f64bits (x : Nat) (w : World) : (callFunc 12 #[.float .f64 x]).run Tryz.prog w = .ok (.value (.int .u64 x)) w := by kernel_rfl
theorem run_f64from (x : Nat) (w : World) : (callFunc 50 #[.int .u64 (x : Int)]).run Tryz.prog w = .ok (.value (.float .f64 x)) w := by kernel_rfl
theorem isNaN_any (s : Bool) (a : Nat) (w : World) (ha : a < 9223372036854775808) : Calls Tryz.prog 25 #[.float .f64 (a + sgn s)] w fun e w' => e = .returned (.bool (decide (9218868437227405312 < a))) ∧ w = w' := by
  have hn : (FloatKind.f64.format.order (a + sgn s) (a + sgn s) != some Ordering.eq) = decide (9218868437227405312 < a) := by
    by_cases h : 9218868437227405312 < a
    · rw [show FloatKind.f64.format.order (a + sgn s) (a + sgn s) = none from order_nan s s a a ha h _, decide_eq_true h]
      rfl
    · rw [show FloatKind.f64.format.order (a + sgn s) (a + sgn s) = some .eq from order_self s a (by omega), decide_eq_false h]
      rfl
  have HN := Lib.hid hn
  clear hn
  generalize a + sgn s = x at *
  go_enter Tryz.func25, Tryz.ntmps25
  go_wp2_with fail
  go_ret
  exact ⟨by rw [← HN.out]; rfl, rfl⟩
theorem clear_sign (s : Bool) (a : Nat) (ha : a < 9223372036854775808) : bits .andNot .u64 ((a + sgn s : Nat) : Int) 9223372036854775808 = (a : Int) := by
  have h1 := u64_andNot_nat (a + sgn s) 9223372036854775808 (by unfold sgn; split <;> omega) (by decide)
  rw [show (18446744073709551615 - 9223372036854775808 : Nat) = 2 ^ 63 - 1 by decide, Nat.and_two_pow_sub_one_eq_mod] at h1
  have h2 := h1
  rw [show (2 : Nat) ^ 63 = 9223372036854775808 by decide] at h2
  rw [show ((9223372036854775808 : Nat) : Int) = 9223372036854775808 from rfl] at h2
  rw [h2]
  congr 1
  unfold sgn
  split <;> omega
set_option maxRecDepth 100000 in
theorem abs_any (s : Bool) (a : Nat) (w : World) (ha : a < 9223372036854775808) : Calls Tryz.prog 39 #[.float .f64 (a + sgn s)] w fun e w' => e = .returned (.float .f64 a) ∧ w = w' := by
  have hc := clear_sign s a ha
  generalize a + sgn s = x at *
  go_enter Tryz.func39, Tryz.ntmps39
  go_wp2_with fail
  rw [run_f64bits]
  go_wp2_with fail
  rw [run_f64from]
  go_wp2_with fail
  go_ret
  exact ⟨rfl, rfl⟩
theorem isInf_any (s : Bool) (a : Nat) (w : World) (ha : a ≤ 9218868437227405312) : Calls Tryz.prog 21 #[.float .f64 (a + sgn s), .int .i64 0] w fun e w' => e = .returned (.bool (decide (a = 9218868437227405312))) ∧ w = w' := by
  have ho : (FloatKind.f64.format.order a 9218868437227405311 == some Ordering.gt) = decide (a = 9218868437227405312) := by
    by_cases h : a = 9218868437227405312
    · subst h
      have := order_inf_num false false 9218868437227405311 (by decide)
      rw [show FloatKind.f64.format.order 9218868437227405312 9218868437227405311 = some .gt from this]
      rfl
    · have h1 := order_num false false a 9218868437227405311 (by omega) (by decide)
      have e : sV false a ≤ sV false 9218868437227405311 := by
        unfold sV
        have := V_le (show a ≤ 9218868437227405311 by omega)
        simp
        omega
      rw [show FloatKind.f64.format.order a 9218868437227405311 = some (compare (sV false a) (sV false 9218868437227405311)) from h1, decide_eq_false h]
      generalize sV false a = x at *
      generalize sV false 9218868437227405311 = y at *
      by_cases hx : x < y
      · have : compare x y = .lt := by simp [compare, compareOfLessAndEq, hx]
        rw [this]; rfl
      · have hxy : x = y := by omega
        subst hxy
        have : compare x x = .eq := by simp [compare, compareOfLessAndEq]
        rw [this]; rfl
  have HA := Lib.hid (abs_any s a w (by omega))
  have HO := Lib.hid ho
  clear ho
  generalize a + sgn s = x at *
  go_enter Tryz.func21, Tryz.ntmps21
  go_wp2_with fail
  refine HA.out.mono ?_
  rintro e w2 ⟨rfl, rfl⟩
  go_wp2_with fail
  go_ret
  exact ⟨by rw [← HO.out]; rfl, rfl⟩
set_option maxRecDepth 100000 in
theorem signbit_any (s : Bool) (a : Nat) (w : World) (ha : a < 9223372036854775808) : Calls Tryz.prog 26 #[.float .f64 (a + sgn s)] w fun e w' => e = .returned (.bool s) ∧ w = w' := by
  cases s
  · have hw : IntKind.i64.wrap ((a + sgn false : Nat) : Int) = (a : Int) := by rw [show sgn false = 0 from rfl, IntKind.wrap_i64]; omega
    generalize a + sgn false = x at *
    go_enter Tryz.func26, Tryz.ntmps26
    go_wp2_with fail
    rw [run_f64bits]
    go_wp2_with fail
    go_ret
    exact ⟨rfl, rfl⟩
  · have hw : IntKind.i64.wrap ((a + sgn true : Nat) : Int) = (a : Int) - 9223372036854775808 := by rw [show sgn true = 9223372036854775808 from rfl, IntKind.wrap_i64]; omega
    have hd : decide ((a : Int) - 9223372036854775808 < 0) = true := decide_eq_true (by omega)
    generalize a + sgn true = x at *
    go_enter Tryz.func26, Tryz.ntmps26
    go_wp2_with fail
    rw [run_f64bits]
    go_wp2_with fail
    go_ret
    exact ⟨rfl, rfl⟩
end Go.Proofs.YtjciflgnlldgbaaGreatDoor.pg
