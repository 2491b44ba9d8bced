/- atof64 and ParseFloat, walked: where the exact way answers. atof64 and ParseFloat where no digit is cut off: the nearest float. -/
import Derived.Test.YtjciflgnlldgbaaGreatDoorYRh
import Derived.Test.YtjciflgnlldgbaaGreatDoorGFx
section
namespace Go.Proofs.YtjciflgnlldgbaaGreatDoor.uw
open Go.RowKit mem fl big us
set_option linter.unusedVariables false

def OptAt (w : World) : Prop := w.cell? ⟨3, 0, none⟩ = some (.bool true)
theorem b2u_ff (w : World) : Calls Tryz.prog 127 #[.bool false] w fun e w' => e = .returned (.int .u64 0) ∧ w = w' := (b2u_any false w).mono fun _ _ h => h
set_option maxRecDepth 100000 in
set_option maxHeartbeats 2000000 in
theorem atof_exact (s : ByteArray) (d f : Nat) (p : Int) (w : World) (h0 : 0 < s.size) (h1 : (s[0]'h0).toNat = 48) (hd : 0 < d) (hd2 : d < 18446744073709551616) (hp1 : -345 ≤ p) (hp2 : p ≤ 310) (ho : OptAt w)
    (hr : Calls Tryz.prog 119 #[.string s] w fun e w' => e = .returned (.tuple #[.int .u64 (d : Int), .int .i64 p, .bool false, .bool false, .bool false, .int .i64 (s.size : Int), .bool true]) ∧ w' = w)
    (hx : Calls Tryz.prog 129 #[.int .u64 (d : Int), .int .i64 p, .bool false] w fun e w' => e = .returned (.tuple #[.float .f64 f, .bool true]) ∧ w = w') :
    Calls Tryz.prog 96 #[.string s] w fun e w' => e = .returned (.tuple #[.float .f64 f, .int .i64 (s.size : Int), .nilIface]) ∧ w' = w := by
  have HS := Lib.hid (special_any s w h0 h1)
  have HR := Lib.hid hr
  have HX := Lib.hid hx
  have hdz : ((d : Int) == 0) = false := beq_false_of_ne (by omega)
  have q1 : decide (p > 310) = false := decide_eq_false (by omega)
  have q2 : decide (310 < p) = false := decide_eq_false (by omega)
  have q3 : decide (p < -345) = false := decide_eq_false (by omega)
  unfold OptAt at ho
  clear hr hx
  go_enter Tryz.func96, Tryz.ntmps96
  go_wp2_with fail
  refine (HS.out).mono ?_
  rintro e w2 ⟨rfl, rfl⟩
  go_wp2_with fail
  refine (HR.out).mono ?_
  rintro e w2 ⟨rfl, rfl⟩
  go_wp2_with fail
  refine (b2u_ff _).mono ?_
  rintro e w3 ⟨rfl, rfl⟩
  go_wp2_with fail
  refine (HX.out).mono ?_
  rintro e w4 ⟨rfl, rfl⟩
  go_wp2_with fail
  go_ret3
  exact ⟨rfl, rfl⟩
theorem prefix_exact (s : ByteArray) (f : Nat) (w : World) (hx : Calls Tryz.prog 96 #[.string s] w fun e w' => e = .returned (.tuple #[.float .f64 f, .int .i64 (s.size : Int), .nilIface]) ∧ w' = w) :
    Calls Tryz.prog 73 #[.string s, .int .i64 64] w fun e w' => e = .returned (.tuple #[.float .f64 f, .int .i64 (s.size : Int), .nilIface]) ∧ w' = w := by
  have HX := Lib.hid hx
  clear hx
  go_enter Tryz.func73, Tryz.ntmps73
  go_wp2_with fail
  refine (HX.out).mono ?_
  rintro e w2 ⟨rfl, rfl⟩
  go_wp2_with fail
  go_ret3
  exact ⟨rfl, rfl⟩
theorem inner_exact (s : ByteArray) (f : Nat) (w : World) (hx : Calls Tryz.prog 96 #[.string s] w fun e w' => e = .returned (.tuple #[.float .f64 f, .int .i64 (s.size : Int), .nilIface]) ∧ w' = w) :
    Calls Tryz.prog 56 #[.string s, .int .i64 64] w fun e w' => e = .returned (.tuple #[.float .f64 f, .nilIface]) ∧ w' = w := by
  have HX := Lib.hid (prefix_exact s f w hx)
  have z : ((s.size : Int) != s.size) = false := by simp
  clear hx
  go_enter Tryz.func56, Tryz.ntmps56
  go_wp2_with fail
  refine (HX.out).mono ?_
  rintro e w2 ⟨rfl, rfl⟩
  go_wp2_with fail
  go_ret2
  exact ⟨rfl, rfl⟩
theorem parse_exact (s : ByteArray) (f : Nat) (w : World) (hx : Calls Tryz.prog 96 #[.string s] w fun e w' => e = .returned (.tuple #[.float .f64 f, .int .i64 (s.size : Int), .nilIface]) ∧ w' = w) :
    Calls Tryz.prog 36 #[.string s, .int .i64 64] w fun e w' => e = .returned (.tuple #[.float .f64 f, .nilIface]) ∧ w' = w := by
  have HX := Lib.hid (inner_exact s f w hx)
  clear hx
  go_enter Tryz.func36, Tryz.ntmps36
  go_wp2_with fail
  refine (HX.out).mono ?_
  rintro e w2 ⟨rfl, rfl⟩
  go_wp2_with fail
  go_ret2
  exact ⟨rfl, rfl⟩
end Go.Proofs.YtjciflgnlldgbaaGreatDoor.uw
end
section
namespace Go.Proofs.YtjciflgnlldgbaaGreatDoor.uw
open Go.RowKit mem fl big us
set_option linter.unusedVariables false

theorem dec_p64 (P d i R : Nat) (hP : P = 2 ^ 1074) (h : Near (d * 10 ^ (i - 348) * 2 ^ 1074) (10 ^ (348 - i)) R) : Dec P d ((i : Int) - 348) R := by
  unfold Dec
  rw [show ((i : Int) - 348).toNat = i - 348 by omega, show (-((i : Int) - 348)).toNat = 348 - i by omega, hP]
  exact h
/-- what ParseFloat answers where the nearest float is finite -/
def PnPost (P d : Nat) (p : Int) (n : Nat) (w : World) (e : Ending) (w' : World) : Prop := ∃ R, Dec P d p R ∧ e = .returned (.tuple #[.float .f64 R, .int .i64 (n : Int), .nilIface]) ∧ Below w.heap.size w w'
theorem dec_unique {P d : Nat} {p : Int} {r s : Nat} (h1 : Dec P d p r) (h2 : Dec P d p s) : r = s := Near.unique h1 h2 (Nat.pow_pos (by decide))
set_option maxRecDepth 100000 in
set_option maxHeartbeats 4000000 in
theorem atof_near (s : ByteArray) (P d r0 : Nat) (hP : P = 2 ^ 1074) (p : Int) (w : World) (h0 : 0 < s.size) (h1 : (s[0]'h0).toNat = 48) (hd : 0 < d) (hd2 : d < 18446744073709551616) (hp1 : -345 ≤ p) (hp2 : p ≤ 310) (ho : OptAt w) (hi : InfoAt w) (h13 : P10At w) (h7 : PowAt w) (hsz : 7 < w.heap.size)
    (hfin : Dec P d p r0) (hfin2 : r0 < 9218868437227405312)
    (hr : Calls Tryz.prog 119 #[.string s] w fun e w' => e = .returned (.tuple #[.int .u64 (d : Int), .int .i64 p, .bool false, .bool false, .bool false, .int .i64 (s.size : Int), .bool true]) ∧ w' = w) :
    Calls Tryz.prog 96 #[.string s] w fun e w' => e = .returned (.tuple #[.float .f64 r0, .int .i64 (s.size : Int), .nilIface]) ∧ Below w.heap.size w w' := by
  have HS := Lib.hid (special_any s w h0 h1)
  have HR := Lib.hid hr
  have HX := Lib.hid (ax_any P d hP p w hd hd2 hi h13)
  obtain ⟨i, hip⟩ : ∃ i : Nat, p = (i : Int) - 348 := ⟨(p + 348).toNat, by omega⟩
  have hpn := parse64_any d i w hd hd2 (by omega) h7 hsz
  rw [← hip] at hpn
  have HPN := Lib.hid hpn
  have HFin : Hid (∀ R, Near (d * 10 ^ (i - 348) * 2 ^ 1074) (10 ^ (348 - i)) R → R = r0) := Lib.hid fun R hR => by
    have := dec_p64 P d i R hP hR
    rw [← hip] at this
    exact dec_unique this hfin
  have HFin2 : Hid (∀ R, Dec P d p R → R = r0) := Lib.hid fun R hR => dec_unique hR hfin
  have hdz : ((d : Int) == 0) = false := beq_false_of_ne (by omega)
  have q1 : decide (p > 310) = false := decide_eq_false (by omega)
  have q2 : decide (310 < p) = false := decide_eq_false (by omega)
  have q3 : decide (p < -345) = false := decide_eq_false (by omega)
  unfold OptAt at ho
  clear hr hpn hip hi h13 h7 hfin
  go_enter Tryz.func96, Tryz.ntmps96
  go_wp2_with fail
  refine (HS.out).mono ?_
  rintro e w2 ⟨rfl, rfl⟩
  go_wp2_with fail
  refine (HR.out).mono ?_
  rintro e w2 ⟨rfl, rfl⟩
  go_wp2_with fail
  refine (b2u_ff _).mono ?_
  rintro e w3 ⟨rfl, rfl⟩
  go_wp2_with fail
  refine (HX.out).mono ?_
  rintro e w4 ⟨f, ok, rfl, rfl, hok⟩
  cases ok with
  | true =>
    obtain rfl := HFin2.out f (hok rfl)
    clear hok
    go_wp2_with fail
    go_ret3
    exact ⟨rfl, Below.refl _ _⟩
  | false =>
    clear hok
    go_wp2_with fail
    refine (HPN.out).mono ?_
    rintro e w5 ⟨R, hR, rfl, hb⟩
    obtain rfl := HFin.out R hR
    rw [if_pos hfin2]
    clear hR
    go_wp2_with fail
    go_ret3
    exact ⟨rfl, hb⟩
theorem prefix_near (s : ByteArray) (f : Nat) (w : World) (hx : Calls Tryz.prog 96 #[.string s] w fun e w' => e = .returned (.tuple #[.float .f64 f, .int .i64 (s.size : Int), .nilIface]) ∧ Below w.heap.size w w') :
    Calls Tryz.prog 73 #[.string s, .int .i64 64] w fun e w' => e = .returned (.tuple #[.float .f64 f, .int .i64 (s.size : Int), .nilIface]) ∧ Below w.heap.size w w' := by
  have HX := Lib.hid hx
  clear hx
  go_enter Tryz.func73, Tryz.ntmps73
  go_wp2_with fail
  refine (HX.out).mono ?_
  rintro e w2 ⟨rfl, hb⟩
  go_wp2_with fail
  go_ret3
  exact ⟨rfl, hb⟩
theorem inner_near (s : ByteArray) (f : Nat) (w : World) (hx : Calls Tryz.prog 96 #[.string s] w fun e w' => e = .returned (.tuple #[.float .f64 f, .int .i64 (s.size : Int), .nilIface]) ∧ Below w.heap.size w w') :
    Calls Tryz.prog 56 #[.string s, .int .i64 64] w fun e w' => e = .returned (.tuple #[.float .f64 f, .nilIface]) ∧ Below w.heap.size w w' := by
  have HX := Lib.hid (prefix_near s f w hx)
  have z : ((s.size : Int) != s.size) = false := by simp
  clear hx
  go_enter Tryz.func56, Tryz.ntmps56
  go_wp2_with fail
  refine (HX.out).mono ?_
  rintro e w2 ⟨rfl, hb⟩
  go_wp2_with fail
  go_ret2
  exact ⟨rfl, hb⟩
theorem parse_near (s : ByteArray) (f : Nat) (w : World) (hx : Calls Tryz.prog 96 #[.string s] w fun e w' => e = .returned (.tuple #[.float .f64 f, .int .i64 (s.size : Int), .nilIface]) ∧ Below w.heap.size w w') :
    Calls Tryz.prog 36 #[.string s, .int .i64 64] w fun e w' => e = .returned (.tuple #[.float .f64 f, .nilIface]) ∧ Below w.heap.size w w' := by
  have HX := Lib.hid (inner_near s f w hx)
  clear hx
  go_enter Tryz.func36, Tryz.ntmps36
  go_wp2_with fail
  refine (HX.out).mono ?_
  rintro e w2 ⟨rfl, hb⟩
  go_wp2_with fail
  go_ret2
  exact ⟨rfl, hb⟩
end Go.Proofs.YtjciflgnlldgbaaGreatDoor.uw
end
