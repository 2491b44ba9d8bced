/- The reference's SameBits, Fits, OfWholeBits. -/
import Derived.Test.YtlkeemphdocpoaaWb
namespace Go.Proofs.Ytlkeemphdocpoaa.big
open Go.RowKit mem fl
set_option linter.unusedVariables false

def isNan (a : Nat) : Bool := decide (9218868437227405312 < a)
def NanPost (a : Nat) (w : World) (e : Ending) (w' : World) : Prop := e = .returned (.bool (isNan a)) ∧ w = w'
theorem nan_any (neg : Bool) (a : Nat) (w : World) (ha : a < 9223372036854775808) :
    Calls Try.prog 17 #[.int .u64 ((a + sgn neg : Nat) : Int)] w (NanPost a w) := by
  have h2 := sgn_andNot neg a ha
  obtain ⟨b, hb⟩ : ∃ b, a + sgn neg = b := ⟨_, rfl⟩
  rw [hb] at h2 ⊢
  have hn : decide ((9218868437227405312 : Int) < (a : Int)) = isNan a := by unfold isNan; simp; omega
  have HN := Lib.hid hn
  clear hb hn ha
  go_enter Try.func17, Try.ntmps17
  go_wp2_with fail
  go_ret
  exact ⟨by rw [← HN.out]; rfl, rfl⟩

def sameB (n1 : Bool) (a1 : Nat) (n2 : Bool) (a2 : Nat) : Bool := decide (n1 = n2 ∧ a1 = a2) || (isNan a1 && isNan a2)
def SbPost (n1 : Bool) (a1 : Nat) (n2 : Bool) (a2 : Nat) (w : World) (e : Ending) (w' : World) : Prop := e = .returned (.bool (sameB n1 a1 n2 a2)) ∧ w = w'
theorem sgn_inj {n1 n2 : Bool} {a1 a2 : Nat} (h1 : a1 < 9223372036854775808) (h2 : a2 < 9223372036854775808) : (((a1 + sgn n1 : Nat) : Int) == ((a2 + sgn n2 : Nat) : Int)) = decide (n1 = n2 ∧ a1 = a2) := by
  rw [Bool.eq_iff_iff]
  simp only [beq_iff_eq, decide_eq_true_eq]
  unfold sgn
  constructor
  · intro h
    cases n1 <;> cases n2 <;> simp at h ⊢ <;> omega
  · rintro ⟨rfl, rfl⟩
    rfl
theorem sameBits_any (n1 n2 : Bool) (a1 a2 : Nat) (w : World) (h1 : a1 < 9223372036854775808) (h2 : a2 < 9223372036854775808) :
    Calls Try.prog 10 #[.int .u64 ((a1 + sgn n1 : Nat) : Int), .int .u64 ((a2 + sgn n2 : Nat) : Int)] w (SbPost n1 a1 n2 a2 w) := by
  have he := sgn_inj (n1 := n1) (n2 := n2) h1 h2
  have hn1 := nan_any n1 a1 w h1
  have hn2 := nan_any n2 a2 w h2
  unfold SbPost sameB
  generalize a1 + sgn n1 = b1 at *
  generalize a2 + sgn n2 = b2 at *
  have HN1 := Lib.hid hn1
  have HN2 := Lib.hid hn2
  unfold NanPost at HN1 HN2
  generalize isNan a1 = m1 at *
  generalize isNan a2 = m2 at *
  generalize decide (n1 = n2 ∧ a1 = a2) = q at *
  clear hn1 hn2 h1 h2
  cases q
  · cases m1
    · go_enter Try.func10, Try.ntmps10
      go_wp2_with fail
      refine HN1.out.mono ?_
      rintro e w' ⟨rfl, rfl⟩
      go_wp2_with fail
      go_ret
      exact ⟨rfl, rfl⟩
    · go_enter Try.func10, Try.ntmps10
      go_wp2_with fail
      refine HN1.out.mono ?_
      rintro e w' ⟨rfl, rfl⟩
      go_wp2_with fail
      refine HN2.out.mono ?_
      rintro e w' ⟨rfl, rfl⟩
      go_wp2_with fail
      go_ret
      exact ⟨rfl, rfl⟩
  · go_enter Try.func10, Try.ntmps10
    go_wp2_with fail
    go_ret
    exact ⟨rfl, rfl⟩

def fits (n : Int) : Bool := decide (-2147483648 ≤ n) && decide (n ≤ 2147483647)
def FitPost (n : Int) (w : World) (e : Ending) (w' : World) : Prop := e = .returned (.bool (fits n)) ∧ w = w'
theorem refFits_any (n : Int) (w : World) : Calls Try.prog 13 #[.int .i64 n] w (FitPost n w) := by
  by_cases h1 : -2147483648 ≤ n
  · have hf : fits n = decide (n ≤ 2147483647) := by unfold fits; rw [decide_eq_true h1, Bool.true_and]
    have HF := Lib.hid hf
    clear hf
    go_enter Try.func13, Try.ntmps13
    go_wp2_with fail
    go_ret
    exact ⟨by rw [HF.out]; rfl, rfl⟩
  · have hf : fits n = false := by unfold fits; rw [decide_eq_false h1, Bool.false_and]
    have HF := Lib.hid hf
    clear hf
    go_enter Try.func13, Try.ntmps13
    go_wp2_with fail
    go_ret
    exact ⟨by rw [HF.out]; rfl, rfl⟩
theorem fits_any (n : Int) (w : World) : Calls Try.prog 6 #[.int .i64 n] w (FitPost n w) := by
  by_cases h1 : -2147483648 ≤ n
  · have hf : fits n = decide (n ≤ 2147483647) := by unfold fits; rw [decide_eq_true h1, Bool.true_and]
    have HF := Lib.hid hf
    clear hf
    go_enter Try.func6, Try.ntmps6
    go_wp2_with fail
    go_ret
    exact ⟨by rw [HF.out]; rfl, rfl⟩
  · have hf : fits n = false := by unfold fits; rw [decide_eq_false h1, Bool.false_and]
    have HF := Lib.hid hf
    clear hf
    go_enter Try.func6, Try.ntmps6
    go_wp2_with fail
    go_ret
    exact ⟨by rw [HF.out]; rfl, rfl⟩
end Go.Proofs.Ytlkeemphdocpoaa.big
