/- atof64 and ParseFloat, walked: where the exact way answers. -/
import Derived.Test.YtdaaokmoaaglpaaGreatDoorGRf
import Derived.Test.YtdaaokmoaaglpaaGreatDoorGFx
namespace Go.Proofs.YtdaaokmoaaglpaaGreatDoor.uw
open Go.RowKit mem fl big us
set_option linter.unusedVariables false

def OptAt (w : World) : Prop := w.cell? ⟨3, 0, none⟩ = some (.bool true)
theorem b2u_ff (w : World) : Calls Tryz.prog 144 #[.bool false] w fun e w' => e = .returned (.int .u64 0) ∧ w = w' := (b2u_any false w).mono fun _ _ h => h
set_option maxRecDepth 100000 in
set_option maxHeartbeats 2000000 in
theorem atof_exact (s : ByteArray) (d f : Nat) (p : Int) (w : World) (h0 : 0 < s.size) (h1 : (s[0]'h0).toNat = 48) (hd : 0 < d) (hd2 : d < 18446744073709551616) (hp1 : -345 ≤ p) (hp2 : p ≤ 310) (ho : OptAt w)
    (hr : Calls Tryz.prog 136 #[.string s] w fun e w' => e = .returned (.tuple #[.int .u64 (d : Int), .int .i64 p, .bool false, .bool false, .bool false, .int .i64 (s.size : Int), .bool true]) ∧ w' = w)
    (hx : Calls Tryz.prog 146 #[.int .u64 (d : Int), .int .i64 p, .bool false] w fun e w' => e = .returned (.tuple #[.float .f64 f, .bool true]) ∧ w = w') :
    Calls Tryz.prog 114 #[.string s] w fun e w' => e = .returned (.tuple #[.float .f64 f, .int .i64 (s.size : Int), .nilIface]) ∧ w' = w := by
  have HS := Lib.hid (special_any s w h0 h1)
  have HR := Lib.hid hr
  have HX := Lib.hid hx
  have hdz : ((d : Int) == 0) = false := beq_false_of_ne (by omega)
  have q1 : decide (p > 310) = false := decide_eq_false (by omega)
  have q2 : decide (310 < p) = false := decide_eq_false (by omega)
  have q3 : decide (p < -345) = false := decide_eq_false (by omega)
  unfold OptAt at ho
  clear hr hx
  go_enter Tryz.func114, Tryz.ntmps114
  go_wp2_with fail
  refine (HS.out).mono ?_
  rintro e w2 ⟨rfl, rfl⟩
  go_wp2_with fail
  refine (HR.out).mono ?_
  rintro e w2 ⟨rfl, rfl⟩
  go_wp2_with fail
  refine (b2u_ff _).mono ?_
  rintro e w3 ⟨rfl, rfl⟩
  go_wp2_with fail
  refine (HX.out).mono ?_
  rintro e w4 ⟨rfl, rfl⟩
  go_wp2_with fail
  go_ret3
  exact ⟨rfl, rfl⟩
theorem prefix_exact (s : ByteArray) (f : Nat) (w : World) (hx : Calls Tryz.prog 114 #[.string s] w fun e w' => e = .returned (.tuple #[.float .f64 f, .int .i64 (s.size : Int), .nilIface]) ∧ w' = w) :
    Calls Tryz.prog 93 #[.string s, .int .i64 64] w fun e w' => e = .returned (.tuple #[.float .f64 f, .int .i64 (s.size : Int), .nilIface]) ∧ w' = w := by
  have HX := Lib.hid hx
  clear hx
  go_enter Tryz.func93, Tryz.ntmps93
  go_wp2_with fail
  refine (HX.out).mono ?_
  rintro e w2 ⟨rfl, rfl⟩
  go_wp2_with fail
  go_ret3
  exact ⟨rfl, rfl⟩
theorem inner_exact (s : ByteArray) (f : Nat) (w : World) (hx : Calls Tryz.prog 114 #[.string s] w fun e w' => e = .returned (.tuple #[.float .f64 f, .int .i64 (s.size : Int), .nilIface]) ∧ w' = w) :
    Calls Tryz.prog 75 #[.string s, .int .i64 64] w fun e w' => e = .returned (.tuple #[.float .f64 f, .nilIface]) ∧ w' = w := by
  have HX := Lib.hid (prefix_exact s f w hx)
  have z : ((s.size : Int) != s.size) = false := by simp
  clear hx
  go_enter Tryz.func75, Tryz.ntmps75
  go_wp2_with fail
  refine (HX.out).mono ?_
  rintro e w2 ⟨rfl, rfl⟩
  go_wp2_with fail
  go_ret2
  exact ⟨rfl, rfl⟩
theorem parse_exact (s : ByteArray) (f : Nat) (w : World) (hx : Calls Tryz.prog 114 #[.string s] w fun e w' => e = .returned (.tuple #[.float .f64 f, .int .i64 (s.size : Int), .nilIface]) ∧ w' = w) :
    Calls Tryz.prog 49 #[.string s, .int .i64 64] w fun e w' => e = .returned (.tuple #[.float .f64 f, .nilIface]) ∧ w' = w := by
  have HX := Lib.hid (inner_exact s f w hx)
  clear hx
  go_enter Tryz.func49, Tryz.ntmps49
  go_wp2_with fail
  refine (HX.out).mono ?_
  rintro e w2 ⟨rfl, rfl⟩
  go_wp2_with fail
  go_ret2
  exact ⟨rfl, rfl⟩
end Go.Proofs.YtdaaokmoaaglpaaGreatDoor.uw
