/- The program's Trunc, IsNaN, Whole, OfWhole, Same, walked. -/
import Derived.Test.YtlkeemphdocpoaaFl
namespace Go.Proofs.Ytlkeemphdocpoaa.big
open Go.RowKit mem fl
set_option linter.unusedVariables false

theorem run_f64bits (x : Nat) (w : World) : (callFunc 12 #[.float .f64 x]).run Try.prog w = .ok (.value (.int .u64 x)) w := by kernel_rfl
theorem run_f64from (x : Nat) (w : World) : (callFunc 8 #[.int .u64 (x : Int)]).run Try.prog w = .ok (.value (.float .f64 x)) w := by kernel_rfl
theorem integral_run (x : Nat) (s : Bool) (m : Nat) (i : Int) (hd : FloatKind.f64.decode x = .number s m i) : Extern.MathFloor.toIntegral "math.archTrunc" .zero #[.float .f64 x] = pure (.float .f64 (FloatKind.f64.encode ((Ieee.Datum.number s m i).integral .zero))) := by
  delta Extern.MathFloor.toIntegral
  conv => lhs; whnf
  rw [hd]
theorem run_trunc (s : Bool) (a : Nat) (ha : a < 9218868437227405312) (w : World) : ∃ r, (callFunc 20 #[.float .f64 (a + sgn s)]).run Try.prog w = .ok (.value (.float .f64 (r + sgn s))) w ∧ Near (V a / 2 ^ 1074 * 2 ^ 1074) 1 r := by
  obtain ⟨r, h1, h2⟩ := encode_whole s (V a / 2 ^ 1074)
  refine ⟨r, ?_, h2⟩
  rw [run_callFunc_extern (e := Extern.MathFloor.toIntegral "math.archTrunc" .zero) Try.func20 (by kernel_rfl) (by kernel_rfl) (by kernel_rfl) (by kernel_rfl)]
  rw [integral_run _ s (spM a) (spE a) (read_num s a ha), integral_eq s a ha]
  have he : FloatKind.f64.encode (.number s (V a / 2 ^ 1074) 0) = r + sgn s := h1
  rw [he]
  rfl

def NaPost (s : Bool) (a : Nat) (w : World) (e : Ending) (w' : World) : Prop := e = .returned (.bool (isNan a)) ∧ w = w'
theorem isNaN_any (s : Bool) (a : Nat) (w : World) (ha : a < 9223372036854775808) : Calls Try.prog 15 #[.float .f64 (a + sgn s)] w (NaPost s a w) := by
  have hn : (FloatKind.f64.format.order (a + sgn s) (a + sgn s) != some Ordering.eq) = isNan a := by
    unfold isNan
    by_cases h : 9218868437227405312 < a
    · rw [show FloatKind.f64.format.order (a + sgn s) (a + sgn s) = none from order_nan s s a a ha h _, decide_eq_true h]
      rfl
    · rw [show FloatKind.f64.format.order (a + sgn s) (a + sgn s) = some .eq from order_self s a (by omega), decide_eq_false h]
      rfl
  have HN := Lib.hid hn
  clear hn
  unfold NaPost
  generalize a + sgn s = x at *
  go_enter Try.func15, Try.ntmps15
  go_wp2_with fail
  go_ret
  exact ⟨by rw [← HN.out]; rfl, rfl⟩

def TrPost (s : Bool) (a : Nat) (w : World) (e : Ending) (w' : World) : Prop := ∃ r, e = .returned (.float .f64 (r + sgn s)) ∧ Near (V a / 2 ^ 1074 * 2 ^ 1074) 1 r ∧ w = w'
theorem trunc_any (s : Bool) (a : Nat) (w : World) (ha : a < 9218868437227405312) : Calls Try.prog 14 #[.float .f64 (a + sgn s)] w (TrPost s a w) := by
  obtain ⟨r, h1, h2⟩ := run_trunc s a ha w
  have HN := Lib.hid h2
  unfold TrPost
  generalize hb : r + sgn s = y at *
  have HB := Lib.hid hb
  generalize hq : a + sgn s = x at *
  clear h2 hb hq
  go_enter Try.func14, Try.ntmps14
  go_wp2_with fail
  go_ret
  exact ⟨r, by rw [HB.out]; rfl, HN.out, rfl⟩
theorem V_c : V 4890909195324358656 = 9223372036854775808 * 2 ^ 1074 := by
  have h := V_at 1085 4503599627370496 (by omega) (by omega)
  have e : 1085 * 4503599627370496 + 4503599627370496 = 4890909195324358656 := by decide
  rw [e] at h
  rewrite [h, show (4503599627370496 : Nat) = 2 ^ 52 by decide, show (9223372036854775808 : Nat) = 2 ^ 63 by decide]
  exact p2mul 52 1085 63 1074 (by omega)
theorem cmp_lt {x y : Int} (h : x < y) : compare x y = .lt := by simp [compare, compareOfLessAndEq, h]
theorem cmp_gt {x y : Int} (h : y < x) : compare x y = .gt := by
  have h1 : ¬ x < y := by omega
  have h2 : ¬ x = y := by omega
  simp [compare, compareOfLessAndEq, h1, h2]
theorem cmp_eq {x y : Int} (h : x = y) : compare x y = .eq := by
  subst h
  simp [compare, compareOfLessAndEq]
/-- within int64's reach -/
theorem reach (s : Bool) (a : Nat) (ha : a < 9218868437227405312) :
    (¬ sV s a < -((9223372036854775808 * 2 ^ 1074 : Nat) : Int) ∧ sV s a < ((9223372036854775808 * 2 ^ 1074 : Nat) : Int)) ↔ (if s = true then V a ≤ 9223372036854775808 * 2 ^ 1074 else V a < 9223372036854775808 * 2 ^ 1074) := by
  unfold sV
  have hp := pow_pos' 1074
  obtain ⟨P, hP⟩ : ∃ P, 2 ^ 1074 = P := ⟨_, rfl⟩
  rw [hP] at hp ⊢
  cases s
  · simp only [Bool.false_eq_true, if_false]; omega
  · simp only [if_true]; omega

/-- what Whole answers, by its three tests -/
def WhPost (s : Bool) (a : Nat) (w : World) (e : Ending) (w' : World) : Prop :=
  ∃ (n : Int) (ok : Bool), e = .returned (.tuple #[.int .i64 n, .bool ok]) ∧ (ok = true → wholeOf s a = some n) ∧ (ok = false → n = 0 ∧ wholeOf s a = none) ∧ w = w'
theorem wholeOf_none_lo {s : Bool} {a : Nat} (ha : a < 9218868437227405312) (h : sV s a < -((9223372036854775808 * 2 ^ 1074 : Nat) : Int)) : wholeOf s a = none := by
  have hr := reach s a ha
  have hn : ¬ (if s = true then V a ≤ 9223372036854775808 * 2 ^ 1074 else V a < 9223372036854775808 * 2 ^ 1074) := fun h2 => (hr.2 h2).1 h
  unfold wholeOf
  rw [if_neg (by omega)]
  split
  · rename_i hz
    have hd : V a = V a / 2 ^ 1074 * 2 ^ 1074 := (Nat.div_mul_cancel (Nat.dvd_of_mod_eq_zero hz)).symm
    cases s
    · simp only [Bool.false_eq_true, if_false] at hn ⊢
      rw [if_neg]
      intro h3
      have h5 := mlt (V a / 2 ^ 1074) 9223372036854775808 (2 ^ 1074) h3 (pow_pos' 1074)
      rewrite [hd] at hn
      exact hn h5
    · simp only [if_true] at hn ⊢
      rw [if_neg]
      intro h3
      have h5 := mle (V a / 2 ^ 1074) 9223372036854775808 (2 ^ 1074) h3
      rewrite [hd] at hn
      exact hn h5
  · rfl
theorem wholeOf_none_hi {s : Bool} {a : Nat} (ha : a < 9218868437227405312) (h : ¬ sV s a < ((9223372036854775808 * 2 ^ 1074 : Nat) : Int)) : wholeOf s a = none := by
  have hr := reach s a ha
  have hn : ¬ (if s = true then V a ≤ 9223372036854775808 * 2 ^ 1074 else V a < 9223372036854775808 * 2 ^ 1074) := fun h2 => h (hr.2 h2).2
  unfold wholeOf
  rw [if_neg (by omega)]
  split
  · rename_i hz
    have hd : V a = V a / 2 ^ 1074 * 2 ^ 1074 := (Nat.div_mul_cancel (Nat.dvd_of_mod_eq_zero hz)).symm
    cases s
    · simp only [Bool.false_eq_true, if_false] at hn ⊢
      rw [if_neg]
      intro h3
      have h5 := mlt (V a / 2 ^ 1074) 9223372036854775808 (2 ^ 1074) h3 (pow_pos' 1074)
      rewrite [hd] at hn
      exact hn h5
    · simp only [if_true] at hn ⊢
      rw [if_neg]
      intro h3
      have h5 := mle (V a / 2 ^ 1074) 9223372036854775808 (2 ^ 1074) h3
      rewrite [hd] at hn
      exact hn h5
  · rfl
theorem wholeOf_big {s : Bool} {a : Nat} (ha : 9218868437227405312 ≤ a) : wholeOf s a = none := by unfold wholeOf; rw [if_pos ha]
/-- within reach: whole just where the whole part is the number itself -/
theorem wholeOf_in {s : Bool} {a r : Nat} (ha : a < 9218868437227405312) (h1 : ¬ sV s a < -((9223372036854775808 * 2 ^ 1074 : Nat) : Int)) (h2 : sV s a < ((9223372036854775808 * 2 ^ 1074 : Nat) : Int)) (hN : Near (V a / 2 ^ 1074 * 2 ^ 1074) 1 r) :
    (r = a ∧ wholeOf s a = some (Ieee.signed s (V a / 2 ^ 1074) 0) ∧ -9223372036854775808 ≤ Ieee.signed s (V a / 2 ^ 1074) 0 ∧ Ieee.signed s (V a / 2 ^ 1074) 0 ≤ 9223372036854775807) ∨ (r ≠ a ∧ wholeOf s a = none) := by
  have hr := (reach s a ha).1 ⟨h1, h2⟩
  by_cases hz : V a % 2 ^ 1074 = 0
  · left
    have hd : V a = V a / 2 ^ 1074 * 2 ^ 1074 := (Nat.div_mul_cancel (Nat.dvd_of_mod_eq_zero hz)).symm
    have hra : r = a := hN.unique (near_exact (r := a) hd (by omega)) (by decide)
    refine ⟨hra, ?_⟩
    unfold wholeOf
    rw [if_neg (by omega), if_pos hz]
    have hQ : (if s = true then V a / 2 ^ 1074 ≤ 9223372036854775808 else V a / 2 ^ 1074 < 9223372036854775808) := by
      cases s
      · simp only [Bool.false_eq_true, if_false] at hr ⊢
        have h5 := lt_core (V a) (V a / 2 ^ 1074) 9223372036854775808 (2 ^ 1074) hd hr
        exact h5
      · simp only [if_true] at hr ⊢
        rewrite [hd] at hr
        have h5 := lem (V a / 2 ^ 1074) 9223372036854775808 (2 ^ 1074) (pow_pos' 1074) hr
        exact h5
    obtain ⟨Q, hQ2⟩ : ∃ Q, V a / 2 ^ 1074 = Q := ⟨_, rfl⟩
    rw [hQ2] at hQ ⊢
    unfold Ieee.signed
    rw [Nat.shiftLeft_zero]
    cases s
    · simp only [Bool.false_eq_true, if_false] at hQ ⊢
      rw [if_pos hQ]
      exact ⟨rfl, by omega, by omega⟩
    · simp only [if_true] at hQ ⊢
      rw [if_pos hQ]
      exact ⟨rfl, by omega, by omega⟩
  · right
    refine ⟨?_, ?_⟩
    · rintro rfl
      have h0 : 0 < r := by
        by_cases h : r = 0
        · subst h; rewrite [V_small (by omega)] at hz; exact absurd (Nat.zero_mod (2 ^ 1074)) hz
        · omega
      have k := cut_core (V r) (2 ^ 1074) (pow_pos' 1074) hz
      exact cut_not h0 (T := V r / 2 ^ 1074) k.1 k.2 hN
    · unfold wholeOf
      rw [if_neg (by omega), if_neg hz]
end Go.Proofs.Ytlkeemphdocpoaa.big
