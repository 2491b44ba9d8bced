/- PLAIN LEAN: the exact floats of atof64exact. atof64exact, walked. -/
import Derived.Test.YtdaaokmoaaglpaaGreatDoorGRb
import Derived.Test.YtdaaokmoaaglpaaGreatDoorGPw
import Derived.Laws.FloatArith
section
namespace Go.Proofs.YtdaaokmoaaglpaaGreatDoor.big
open Go.RowKit mem fl
set_option linter.unusedVariables false

/-- float64pow10 -/
def p10 : List Nat := [4607182418800017408, 4621819117588971520, 4636737291354636288, 4652007308841189376, 4666723172467343360, 4681608360884174848, 4696837146684686336, 4711630319722168320, 4726483295884279808, 4741671816366391296, 4756540486875873280, 4771362005757984768, 4786511204640096256, 4801453603149578240, 4816244402031689728, 4831355200913801216, 4846369599423283200, 4861130398305394688, 4876203697187506176, 4891288408196988160, 4906019910204099648, 4921056587992461136, 4936209963552724370]
def p10B : Bool := (List.range 23).all fun k => decide (0 < p10.getD k 0) && decide (p10.getD k 0 < 9218868437227405312) && decide (spM (p10.getD k 0) * 2 ^ (spE (p10.getD k 0) + 1074).toNat = 10 ^ k * 2 ^ 1074) && decide (spE (p10.getD k 0) ≤ 400)
theorem p10B_ok : p10B = true := by decide +kernel
theorem p10_at (k : Nat) (h : k ≤ 22) : 0 < p10.getD k 0 ∧ p10.getD k 0 < 9218868437227405312 ∧ V (p10.getD k 0) = 10 ^ k * 2 ^ 1074 ∧ spE (p10.getD k 0) ≤ 400 := by
  have h1 := List.all_eq_true.1 p10B_ok k (List.mem_range.2 (by omega))
  rw [Bool.and_eq_true, Bool.and_eq_true, Bool.and_eq_true] at h1
  have a := of_decide_eq_true h1.1.1.1
  have b := of_decide_eq_true h1.1.1.2
  have c := of_decide_eq_true h1.1.2
  exact ⟨a, b, (V_sp b).trans c, of_decide_eq_true h1.2⟩
theorem whole_rung (m : Nat) (h0 : 0 < m) (h : m ≤ 9007199254740992) : ∃ r, V r = m * 2 ^ 1074 ∧ 0 < r ∧ r < 9218868437227405312 := by
  have a1 := Nat.log2_self_le (show m ≠ 0 by omega)
  have a2 : m < 2 ^ (m.log2 + 1) := Nat.lt_log2_self
  obtain ⟨L, hL⟩ : ∃ L, m.log2 = L := ⟨_, rfl⟩
  rw [hL] at a1 a2
  have h53 : (2 : Nat) ^ 53 = 9007199254740992 := by decide
  have h52 : (2 : Nat) ^ 52 = 4503599627370496 := by decide
  by_cases h1 : m = 9007199254740992
  · subst h1
    refine ⟨1074 * 4503599627370496 + 9007199254740992, V_at 1074 9007199254740992 (by omega) (by omega), by omega, by omega⟩
  · have hL2 : L ≤ 52 := by
      rcases Nat.lt_or_ge L 53 with g | g
      · omega
      · have := Nat.pow_le_pow_right (show 0 < 2 by decide) g
        rw [h53] at this
        omega
    have k1 := Nat.mul_le_mul_right (2 ^ (52 - L)) a1
    have k2 := Nat.mul_lt_mul_of_pos_right a2 (Nat.two_pow_pos (52 - L))
    rw [← Nat.pow_add, show L + (52 - L) = 52 by omega, h52] at k1
    rw [← Nat.pow_add, show L + 1 + (52 - L) = 53 by omega, h53] at k2
    refine ⟨(1022 + L) * 4503599627370496 + m * 2 ^ (52 - L), ?_, by omega, by omega⟩
    rw [V_at _ _ k1 (by omega), Nat.mul_assoc, ← Nat.pow_add]
    have key : ∀ n : Nat, n = 1074 → m * 2 ^ (52 - L + (1022 + L)) = m * 2 ^ n := fun n hn => by
      rw [show 52 - L + (1022 + L) = n by omega]
    exact key 1074 rfl
theorem whole_exact (m r : Nat) (h0 : 0 < m) (h : m ≤ 9007199254740992) (hN : Near (m * 2 ^ 1074) 1 r) : V r = m * 2 ^ 1074 ∧ 0 < r ∧ r < 9218868437227405312 := by
  obtain ⟨r0, e1, e2, e3⟩ := whole_rung m h0 h
  have := Near.unique hN (near_exact e1 (by omega)) (by decide)
  subst this
  exact ⟨e1, e2, e3⟩
theorem exact_mul (f m k P : Nat) (hf : V f = m * P) (hP : P = 2 ^ 1074) (hf0 : 0 < f) (hf1 : f < 9218868437227405312) (hk : k ≤ 22) :
    ∃ r, Ieee.double.mul f (p10.getD k 0) = some r ∧ Near (m * 10 ^ k * P) 1 r := by
  obtain ⟨a, b, c, _⟩ := p10_at k hk
  obtain ⟨r, h1, h2⟩ := mul_near f _ hf0 a hf1 b
  refine ⟨r, h1, ?_⟩
  rw [← hP] at c h2
  have hp : 0 < P := Nat.lt_of_lt_of_eq (Nat.two_pow_pos 1074) hP.symm
  rw [hf, c] at h2
  have e : m * P * (10 ^ k * P) = m * 10 ^ k * P * P := by ac_rfl
  rw [e] at h2
  refine Near.unscale (c := P) ?_ hp
  rw [Nat.one_mul]
  exact h2
theorem exact_div (f m k P : Nat) (hf : V f = m * P) (hP : P = 2 ^ 1074) (hf0 : 0 < f) (hf1 : f < 9218868437227405312) (hk : k ≤ 22) (hx : -400 ≤ spE f) :
    ∃ r, Ieee.double.div f (p10.getD k 0) = some r ∧ Near (m * P) (10 ^ k) r := by
  obtain ⟨a, b, c, d⟩ := p10_at k hk
  obtain ⟨r, h1, h2⟩ := div_near f _ hf0 a hf1 b hx d
  refine ⟨r, h1, ?_⟩
  rw [← hP] at c h2
  have hp : 0 < P := Nat.lt_of_lt_of_eq (Nat.two_pow_pos 1074) hP.symm
  rw [hf, c] at h2
  exact h2.unscale hp
end Go.Proofs.YtdaaokmoaaglpaaGreatDoor.big
end
section
namespace Go.Proofs.YtdaaokmoaaglpaaGreatDoor.uw
open Go.RowKit mem fl big us
set_option linter.unusedVariables false

/-- the tables: float64info's first cell, float64pow10 -/
def InfoAt (w : World) : Prop := w.cell? ⟨6, 0, none⟩ = some (.int .u64 52)
def P10At (w : World) : Prop := ∃ A c, w.cell? ⟨13, 0, none⟩ = some (.slice (some A) 23 c) ∧ A.spot = none ∧ A.block < w.heap.size ∧ ∀ k, k ≤ 22 → w.cell? ⟨A.block, A.off + k, none⟩ = some (.float .f64 (p10.getD k 0))
set_option maxRecDepth 100000 in
theorem ax_zero (m f : Nat) (w : World) (hm : m < 4503599627370496) (hi : InfoAt w) (hf : floatOfInt FloatKind.f64 (m : Int) = f) :
    Calls Tryz.prog 146 #[.int .u64 (m : Int), .int .i64 0, .bool false] w fun e w' => e = .returned (.tuple #[.float .f64 f, .bool true]) ∧ w = w' := by
  unfold InfoAt at hi
  go_enter Tryz.func146, Tryz.ntmps146
  go_wp2_with fail
  go_ret2
  exact ⟨rfl, rfl⟩
theorem of_int (m : Nat) : ∃ f, floatOfInt FloatKind.f64 (m : Int) = f ∧ Near (m * 2 ^ 1074) 1 f := by
  obtain ⟨r, h1, h2⟩ := encode_whole false m
  refine ⟨r, ?_, h2⟩
  have e : r + sgn false = r := rfl
  rw [e] at h1
  rw [← h1]
  unfold floatOfInt FloatKind.nearest FloatKind.encode
  have e2 : decide ((m : Int) < 0) = false := decide_eq_false (by omega)
  rw [e2]
  rfl
set_option maxRecDepth 100000 in
theorem ax_pos (m f k r : Nat) (w : World) (hm : m < 4503599627370496) (hi : InfoAt w) (h13 : P10At w) (hk0 : 0 < k) (hk : k ≤ 22) (hf : floatOfInt FloatKind.f64 (m : Int) = f) (hr : Ieee.double.mul f (p10.getD k 0) = some r)
    (ho1 : (FloatKind.f64.format.order f 4831355200913801216 == some .gt) = false) (ho2 : (FloatKind.f64.format.order f 14054727237768577024 == some .lt) = false) :
    Calls Tryz.prog 146 #[.int .u64 (m : Int), .int .i64 (k : Int), .bool false] w fun e w' => e = .returned (.tuple #[.float .f64 r, .bool true]) ∧ w = w' := by
  unfold InfoAt at hi
  obtain ⟨⟨gb, go, gs⟩, c, h1, h2, h3, h4⟩ := h13
  subst h2
  have h4k := h4 k hk
  obtain ⟨pk, hpk⟩ : ∃ pk, p10.getD k 0 = pk := ⟨_, rfl⟩
  rw [hpk] at h4k hr
  have hrun := run_float_arith (P := Tryz.prog) w .mul 25 .f64 f pk r hr
  have HRUN := Lib.hid hrun
  clear hpk hrun
  have d1 : decide ((k : Int) > 0) = true := decide_eq_true (by omega)
  have d2 : decide ((k : Int) ≤ 37) = true := decide_eq_true (by omega)
  have d3 : decide ((k : Int) > 22) = false := decide_eq_false (by omega)
  have d4 : decide ((22 : Int) < k) = false := decide_eq_false (by omega)
  have d5 : decide ((0 : Int) < k) = true := decide_eq_true (by omega)
  have d6 : ((k : Int) == 0) = false := beq_false_of_ne (by omega)
  clear h4 hr
  go_enter Tryz.func146, Tryz.ntmps146
  go_wp2_with fail
  rw [HRUN.out]
  go_wp2_with fail
  go_ret2
  exact ⟨rfl, rfl⟩
set_option maxRecDepth 100000 in
theorem ax_neg (m f k r : Nat) (w : World) (hm : m < 4503599627370496) (hi : InfoAt w) (h13 : P10At w) (hk0 : 0 < k) (hk : k ≤ 22) (hf : floatOfInt FloatKind.f64 (m : Int) = f) (hr : Ieee.double.div f (p10.getD k 0) = some r) :
    Calls Tryz.prog 146 #[.int .u64 (m : Int), .int .i64 (-(k : Int)), .bool false] w fun e w' => e = .returned (.tuple #[.float .f64 r, .bool true]) ∧ w = w' := by
  unfold InfoAt at hi
  obtain ⟨⟨gb, go, gs⟩, c, h1, h2, h3, h4⟩ := h13
  subst h2
  have h4k := h4 k hk
  obtain ⟨pk, hpk⟩ : ∃ pk, p10.getD k 0 = pk := ⟨_, rfl⟩
  rw [hpk] at h4k hr
  have hrun := run_float_arith (P := Tryz.prog) w .quo 25 .f64 f pk r hr
  have HRUN := Lib.hid hrun
  clear hpk hrun
  obtain ⟨e, he⟩ : ∃ e : Int, -(k : Int) = e := ⟨_, rfl⟩
  have hne : -e = (k : Int) := by omega
  have d1 : decide (e > 0) = false := decide_eq_false (by omega)
  have d5 : decide ((0 : Int) < e) = false := decide_eq_false (by omega)
  have d2 : decide (e < 0) = true := decide_eq_true (by omega)
  have d3 : decide (e ≥ -22) = true := decide_eq_true (by omega)
  have d4 : decide (-22 ≤ e) = true := decide_eq_true (by omega)
  have d6 : (e == 0) = false := beq_false_of_ne (by omega)
  have hb1 : -22 ≤ e := by omega
  have hb2 : e < 0 := by omega
  rw [he]
  clear he
  clear h4 hr
  go_enter Tryz.func146, Tryz.ntmps146
  go_wp2_with fail
  rw [HRUN.out]
  go_wp2_with fail
  go_ret2
  exact ⟨rfl, rfl⟩
set_option maxRecDepth 100000 in
theorem ax_big (m : Nat) (e : Int) (w : World) (hm : 4503599627370496 ≤ m) (hm2 : m < 18446744073709551616) (hi : InfoAt w) :
    Calls Tryz.prog 146 #[.int .u64 (m : Int), .int .i64 e, .bool false] w fun r w' => r = .returned (.tuple #[.float .f64 0, .bool false]) ∧ w = w' := by
  unfold InfoAt at hi
  have d : ((m : Int) / 4503599627370496 != 0) = true := bne_iff_ne.2 (by omega)
  go_enter Tryz.func146, Tryz.ntmps146
  go_wp2_with fail
  go_ret2
  exact ⟨rfl, rfl⟩
set_option maxRecDepth 100000 in
theorem ax_out (m f : Nat) (e : Int) (w : World) (hm : m < 4503599627370496) (hi : InfoAt w) (he : 37 < e ∨ e < -22) (hf : floatOfInt FloatKind.f64 (m : Int) = f) :
    Calls Tryz.prog 146 #[.int .u64 (m : Int), .int .i64 e, .bool false] w fun r w' => r = .returned (.tuple #[.float .f64 f, .bool false]) ∧ w = w' := by
  unfold InfoAt at hi
  have d6 : (e == 0) = false := beq_false_of_ne (by omega)
  go_enter Tryz.func146, Tryz.ntmps146
  go_wp2_with fail
  all_goals first | (exfalso; omega) | (go_ret2; exact ⟨rfl, rfl⟩)
set_option maxRecDepth 100000 in
theorem ax_up (m f k g r : Nat) (w : World) (hm : m < 4503599627370496) (hi : InfoAt w) (h13 : P10At w) (hk0 : 22 < k) (hk : k ≤ 37) (hf : floatOfInt FloatKind.f64 (m : Int) = f) (hg : Ieee.double.mul f (p10.getD (k - 22) 0) = some g) (hr : Ieee.double.mul g (p10.getD 22 0) = some r)
    (ho1 : (FloatKind.f64.format.order g 4831355200913801216 == some .gt) = false) (ho2 : (FloatKind.f64.format.order g 14054727237768577024 == some .lt) = false) :
    Calls Tryz.prog 146 #[.int .u64 (m : Int), .int .i64 (k : Int), .bool false] w fun e w' => e = .returned (.tuple #[.float .f64 r, .bool true]) ∧ w = w' := by
  unfold InfoAt at hi
  obtain ⟨⟨gb, go, gs⟩, c, h1, h2, h3, h4⟩ := h13
  subst h2
  have h4k := h4 (k - 22) (by omega)
  have h4z := h4 22 (by omega)
  obtain ⟨kk, hkk⟩ : ∃ kk, k - 22 = kk := ⟨_, rfl⟩
  rw [hkk] at h4k hg
  have hki : (k : Int) - 22 = (kk : Int) := by omega
  obtain ⟨pk, hpk⟩ : ∃ pk, p10.getD kk 0 = pk := ⟨_, rfl⟩
  obtain ⟨pz, hpz⟩ : ∃ pz, p10.getD 22 0 = pz := ⟨_, rfl⟩
  rw [hpk] at h4k hg
  rw [hpz] at h4z hr
  have HG := Lib.hid (run_float_arith (P := Tryz.prog) w .mul 25 .f64 f pk g hg)
  have HRUN := Lib.hid (run_float_arith (P := Tryz.prog) w .mul 25 .f64 g pz r hr)
  clear hpk hpz
  have d1 : decide ((k : Int) > 0) = true := decide_eq_true (by omega)
  have d2 : decide ((k : Int) ≤ 37) = true := decide_eq_true (by omega)
  have d3 : decide ((k : Int) > 22) = true := decide_eq_true (by omega)
  have d4 : decide ((22 : Int) < k) = true := decide_eq_true (by omega)
  have d5 : decide ((0 : Int) < k) = true := decide_eq_true (by omega)
  have d6 : ((k : Int) == 0) = false := beq_false_of_ne (by omega)
  clear h4 hr hg
  go_enter Tryz.func146, Tryz.ntmps146
  go_wp2_with fail
  rw [HG.out]
  go_wp2_with fail
  rw [HRUN.out]
  go_wp2_with fail
  go_ret2
  exact ⟨rfl, rfl⟩
end Go.Proofs.YtdaaokmoaaglpaaGreatDoor.uw
end
