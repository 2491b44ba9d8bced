/- The reference's Scalar, Put, same. -/
import Derived.Test.YtjbfhkcbgafeaaaDoorApp
import Derived.Test.YtjbfhkcbgafeaaaDoorRefL
import Derived.Deep.QuietTactic
import Derived.BigQuiet
namespace Go.Proofs.YtjbfhkcbgafeaaaDoor.app
open Go.RowKit mem txt esc
set_option linter.unusedVariables false

set_option maxRecDepth 100000 in
theorem scalar_any (r : Nat) (hr : r < 33554432) (w : World) : Calls Tryd.prog 38 #[.int .i32 r] w fun e w' => e = .returned (.bool (decide (r < 55296 ∨ (57343 < r ∧ r ≤ 1114111)))) ∧ w' = w := by
  have h4 : decide ((r : Int) ≥ 0) = true := decide_eq_true (by omega)
  by_cases c1 : r < 55296
  · have h1 : decide ((r : Int) ≥ 55296) = false := decide_eq_false (by omega)
    have h3 : decide ((r : Int) ≤ 1114111) = true := decide_eq_true (by omega)
    rw [decide_eq_true (show r < 55296 ∨ (57343 < r ∧ r ≤ 1114111) by omega)]
    go_enter Tryd.func38, Tryd.ntmps38
    go_wp2
    go_ret
    exact ⟨rfl, rfl⟩
  · have h1 : decide ((r : Int) ≥ 55296) = true := decide_eq_true (by omega)
    by_cases c2 : r ≤ 57343
    · have h2 : decide ((r : Int) ≤ 57343) = true := decide_eq_true (by omega)
      rw [decide_eq_false (show ¬ (r < 55296 ∨ (57343 < r ∧ r ≤ 1114111)) by omega)]
      go_enter Tryd.func38, Tryd.ntmps38
      go_wp2
      go_ret
      exact ⟨rfl, rfl⟩
    · have h2 : decide ((r : Int) ≤ 57343) = false := decide_eq_false (by omega)
      by_cases c3 : r ≤ 1114111
      · have h3 : decide ((r : Int) ≤ 1114111) = true := decide_eq_true (by omega)
        rw [decide_eq_true (show r < 55296 ∨ (57343 < r ∧ r ≤ 1114111) by omega)]
        go_enter Tryd.func38, Tryd.ntmps38
        go_wp2
        go_ret
        exact ⟨rfl, rfl⟩
      · have h3 : decide ((r : Int) ≤ 1114111) = false := decide_eq_false (by omega)
        rw [decide_eq_false (show ¬ (r < 55296 ∨ (57343 < r ∧ r ≤ 1114111)) by omega)]
        go_enter Tryd.func38, Tryd.ntmps38
        go_wp2
        go_ret
        exact ⟨rfl, rfl⟩

/-- a new list of bytes -/
def NewB (xs : List Int) (w : World) (e : Ending) (w' : World) : Prop :=
  ∃ A c, e = .returned (.slice A xs.length c) ∧ Rd w' w'.heap.size A (zs xs) ∧ (A = none → xs.length = 0) ∧ xs.length ≤ c ∧ c ≤ maxLen ∧ Below w.heap.size w w'

theorem newB {xs : List Int} {w w1 : World} {k c : Nat} (hb : Below w.heap.size w w1) (hk : xs.length = k) (hc : c = k) (h8 : k ≤ 8) :
    NewB xs w (.returned (.slice (some ⟨w1.heap.size, 0, none⟩) k c)) (w1.alloc (.cells (zs xs).toArray 5)) := by
  subst hk hc
  refine ⟨_, _, rfl, ?_, (fun h => by cases h), Nat.le_refl _, by unfold maxLen; omega, hb.alloc hb.size _⟩
  have := Rd.new w1 (zs xs) 5
  simpa using this

set_option maxRecDepth 100000 in
set_option maxHeartbeats 1000000 in
theorem put_any (r : Nat) (hr : r < 33554432) (w : World) : Calls Tryd.prog 27 #[.int .i32 r] w (NewB (putZ r) w) := by
  have HS := Lib.hid (scalar_any r hr w)
  by_cases c : r < 55296 ∨ (57343 < r ∧ r ≤ 1114111)
  · rw [decide_eq_true c] at HS
    rw [show putZ r = Lib.encodeRuneZ r from if_pos c]
    go_enter Tryd.func27, Tryd.ntmps27
    go_wp2_with fail
    refine HS.out.mono ?_
    rintro e w' ⟨rfl, rfl⟩
    clear HS
    by_cases c1 : r < 128
    · have d1 : decide ((r : Int) < 128) = true := decide_eq_true (by omega)
      go_wp2
      go_ret
      rw [Lib.encodeRuneZ_one (by omega) (by omega)]
      exact newB (xs := [(r : Int)]) (Below.refl _ _) rfl rfl (by simp)
    · have d1 : decide ((r : Int) < 128) = false := decide_eq_false (by omega)
      by_cases c2 : r < 2048
      · have d2 : decide ((r : Int) < 2048) = true := decide_eq_true (by omega)
        go_wp2
        go_ret
        rw [Lib.encodeRuneZ_two (by omega) (by omega)]
        exact newB (xs := [192 + (r : Int) / 64, 128 + (r : Int) % 64]) (Below.refl _ _) rfl rfl (by simp)
      · have d2 : decide ((r : Int) < 2048) = false := decide_eq_false (by omega)
        by_cases c3 : r < 65536
        · have d3 : decide ((r : Int) < 65536) = true := decide_eq_true (by omega)
          go_wp2
          go_ret
          rw [show Lib.encodeRuneZ r = [224 + (r : Int) / 4096, 128 + (r : Int) / 64 % 64, 128 + (r : Int) % 64] by unfold Lib.encodeRuneZ; rw [if_neg (by omega), if_neg (by omega), if_pos (by omega)]]
          exact newB (xs := [224 + (r : Int) / 4096, 128 + (r : Int) / 64 % 64, 128 + (r : Int) % 64]) (Below.refl _ _) rfl rfl (by simp)
        · have d3 : decide ((r : Int) < 65536) = false := decide_eq_false (by omega)
          go_wp2
          go_ret
          rw [show Lib.encodeRuneZ r = [240 + (r : Int) / 262144, 128 + (r : Int) / 4096 % 64, 128 + (r : Int) / 64 % 64, 128 + (r : Int) % 64] by unfold Lib.encodeRuneZ; rw [if_neg (by omega), if_neg (by omega), if_neg (by omega), if_pos (by omega)]]
          exact newB (xs := [240 + (r : Int) / 262144, 128 + (r : Int) / 4096 % 64, 128 + (r : Int) / 64 % 64, 128 + (r : Int) % 64]) (Below.refl _ _) rfl rfl (by simp)
  · rw [decide_eq_false c] at HS
    rw [show putZ r = [] from if_neg c]
    go_enter Tryd.func27, Tryd.ntmps27
    go_wp2_with fail
    refine HS.out.mono ?_
    rintro e w' ⟨rfl, rfl⟩
    go_wp2
    go_ret
    exact ⟨none, 0, rfl, Rd.nil, fun _ => rfl, Nat.le_refl _, Nat.zero_le _, Below.refl _ _⟩
end Go.Proofs.YtjbfhkcbgafeaaaDoor.app
