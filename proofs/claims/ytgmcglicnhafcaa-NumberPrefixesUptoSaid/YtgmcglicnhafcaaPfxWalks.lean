/- What the program's and the document's readers of number prefixes compute: contracts of digit, next, formAt, step, form and of the five forms of Prefix. -/
import Derived.Test.YtgmcglicnhafcaaProg
import Derived.Test.YtgmcglicnhafcaaPfxPlain
import Derived.WalkKit
import Derived.WalkLawsBesides
import Derived.Lib.Hide
namespace Go.Proofs.Ytgmcglicnhafcaa.pfx
open Go.RowKit

theorem ret_int {k : IntKind} {a b : Int} (h : a = b) : Ending.returned (.int k a) = .returned (.int k b) := by rw [h]
theorem ret_bool {a b : Bool} (h : a = b) : Ending.returned (.bool a) = .returned (.bool b) := by rw [h]

theorem digit_any (c : Int) (w : World) : Calls Try.prog 54 #[.int .i32 c] w fun e w' => e = .returned (.bool (dig c)) ∧ w = w' := by
  by_cases h : 48 ≤ c
  · go_enter Try.func54, Try.ntmps54
    go_wp2
    go_ret
    exact ⟨ret_bool (by simp [dig, h]), rfl⟩
  · go_enter Try.func54, Try.ntmps54
    go_wp2
    go_ret
    exact ⟨ret_bool (by simp [dig]; omega), rfl⟩

theorem next_any (s c : Int) (w : World) : Calls Try.prog 37 #[.int .i64 s, .int .i32 c] w fun e w' => e = .returned (.int .i64 (nx s c)) ∧ w = w' := by
  go_enter Try.func37, Try.ntmps37
  go_wp2_with (go_at_call 54; refine (digit_any _ _).mono ?_; rintro e w' ⟨rfl, rfl⟩)
  all_goals
    go_ret
    exact ⟨ret_int (by simp_all [nx]), rfl⟩

theorem formAt_any (s : Int) (w : World) : Calls Try.prog 38 #[.int .i64 s] w fun e w' => e = .returned (.int .i64 (fm s)) ∧ w = w' := by
  go_enter Try.func38, Try.ntmps38
  go_wp2
  all_goals
    go_ret
    exact ⟨ret_int (by simp_all [fm]), rfl⟩

theorem step_any (s c : Int) (w : World) : Calls Try.prog 55 #[.int .i64 s, .int .i32 c] w fun e w' => e = .returned (.int .i64 (stp s c)) ∧ w = w' := by
  by_cases h : 48 ≤ c
  · by_cases h2 : c ≤ 57
    · have hdd : dig c = true := by simp [dig, h, h2]
      go_enter Try.func55, Try.ntmps55
      go_wp2
      all_goals
        go_ret
        exact ⟨ret_int (by simp_all [stp]), rfl⟩
    · have hdd : dig c = false := by simp [dig]; omega
      go_enter Try.func55, Try.ntmps55
      go_wp2
      all_goals
        go_ret
        exact ⟨ret_int (by simp_all [stp]), rfl⟩
  · have hdd : dig c = false := by simp [dig]; omega
    go_enter Try.func55, Try.ntmps55
    go_wp2
    all_goals
      go_ret
      exact ⟨ret_int (by simp_all [stp]), rfl⟩

theorem form_any (s : Int) (w : World) : Calls Try.prog 56 #[.int .i64 s] w fun e w' => e = .returned (.int .i64 (fm s)) ∧ w = w' := by
  go_enter Try.func56, Try.ntmps56
  go_wp2
  all_goals
    go_ret
    exact ⟨ret_int (by simp_all [fm]), rfl⟩
end Go.Proofs.Ytgmcglicnhafcaa.pfx
