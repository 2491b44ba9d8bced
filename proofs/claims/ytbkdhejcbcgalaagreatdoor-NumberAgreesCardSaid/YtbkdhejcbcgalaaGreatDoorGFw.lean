/- The program's Trunc, IsNaN, Whole, OfWhole, Same, walked. The program's Whole, OfWhole, Same, walked. -/
import Derived.Test.YtbkdhejcbcgalaaGreatDoorGRb
import Derived.Test.YtbkdhejcbcgalaaGreatDoorGWb
section
namespace Go.Proofs.YtbkdhejcbcgalaaGreatDoor.big
open Go.RowKit mem fl
set_option linter.unusedVariables false

theorem run_f64bits (x : Nat) (w : World) : (callFunc 11 #[.float .f64 x]).run Tryz.prog w = .ok (.value (.int .u64 x)) w := by kernel_rfl
theorem run_f64from (x : Nat) (w : World) : (callFunc 6 #[.int .u64 (x : Int)]).run Tryz.prog w = .ok (.value (.float .f64 x)) w := by kernel_rfl
theorem integral_run (x : Nat) (s : Bool) (m : Nat) (i : Int) (hd : FloatKind.f64.decode x = .number s m i) : Extern.MathFloor.toIntegral "math.archTrunc" .zero #[.float .f64 x] = pure (.float .f64 (FloatKind.f64.encode ((Ieee.Datum.number s m i).integral .zero))) := by
  delta Extern.MathFloor.toIntegral
  conv => lhs; whnf
  rw [hd]
theorem run_trunc (s : Bool) (a : Nat) (ha : a < 9218868437227405312) (w : World) : ∃ r, (callFunc 37 #[.float .f64 (a + sgn s)]).run Tryz.prog w = .ok (.value (.float .f64 (r + sgn s))) w ∧ Near (V a / 2 ^ 1074 * 2 ^ 1074) 1 r := by
  obtain ⟨r, h1, h2⟩ := encode_whole s (V a / 2 ^ 1074)
  refine ⟨r, ?_, h2⟩
  rw [run_callFunc_extern (e := Extern.MathFloor.toIntegral "math.archTrunc" .zero) Tryz.func37 (by kernel_rfl) (by kernel_rfl) (by kernel_rfl) (by kernel_rfl)]
  rw [integral_run _ s (spM a) (spE a) (read_num s a ha), integral_eq s a ha]
  have he : FloatKind.f64.encode (.number s (V a / 2 ^ 1074) 0) = r + sgn s := h1
  rw [he]
  rfl

def NaPost (s : Bool) (a : Nat) (w : World) (e : Ending) (w' : World) : Prop := e = .returned (.bool (isNan a)) ∧ w = w'
set_option maxRecDepth 100000 in
theorem isNaN_any (s : Bool) (a : Nat) (w : World) (ha : a < 9223372036854775808) : Calls Tryz.prog 7 #[.float .f64 (a + sgn s)] w (NaPost s a w) := by
  have hn : (FloatKind.f64.format.order (a + sgn s) (a + sgn s) != some Ordering.eq) = isNan a := by
    unfold isNan
    by_cases h : 9218868437227405312 < a
    · rw [show FloatKind.f64.format.order (a + sgn s) (a + sgn s) = none from order_nan s s a a ha h _, decide_eq_true h]
      rfl
    · rw [show FloatKind.f64.format.order (a + sgn s) (a + sgn s) = some .eq from order_self s a (by omega), decide_eq_false h]
      rfl
  have HN := Lib.hid hn
  clear hn
  unfold NaPost
  generalize a + sgn s = x at *
  go_enter Tryz.func7, Tryz.ntmps7
  go_wp2_with fail
  go_ret
  exact ⟨by rw [← HN.out]; rfl, rfl⟩

def TrPost (s : Bool) (a : Nat) (w : World) (e : Ending) (w' : World) : Prop := ∃ r, e = .returned (.float .f64 (r + sgn s)) ∧ Near (V a / 2 ^ 1074 * 2 ^ 1074) 1 r ∧ w = w'
set_option maxRecDepth 100000 in
theorem trunc_any (s : Bool) (a : Nat) (w : World) (ha : a < 9218868437227405312) : Calls Tryz.prog 24 #[.float .f64 (a + sgn s)] w (TrPost s a w) := by
  obtain ⟨r, h1, h2⟩ := run_trunc s a ha w
  have HN := Lib.hid h2
  unfold TrPost
  generalize hb : r + sgn s = y at *
  have HB := Lib.hid hb
  generalize hq : a + sgn s = x at *
  clear h2 hb hq
  go_enter Tryz.func24, Tryz.ntmps24
  go_wp2_with fail
  go_ret
  exact ⟨r, by rw [HB.out]; rfl, HN.out, rfl⟩
theorem V_c : V 4890909195324358656 = 9223372036854775808 * 2 ^ 1074 := by
  have h := V_at 1085 4503599627370496 (by omega) (by omega)
  have e : 1085 * 4503599627370496 + 4503599627370496 = 4890909195324358656 := by decide
  rw [e] at h
  rewrite [h, show (4503599627370496 : Nat) = 2 ^ 52 by decide, show (9223372036854775808 : Nat) = 2 ^ 63 by decide]
  exact p2mul 52 1085 63 1074 (by omega)
theorem cmp_lt {x y : Int} (h : x < y) : compare x y = .lt := by simp [compare, compareOfLessAndEq, h]
theorem cmp_gt {x y : Int} (h : y < x) : compare x y = .gt := by
  have h1 : ¬ x < y := by omega
  have h2 : ¬ x = y := by omega
  simp [compare, compareOfLessAndEq, h1, h2]
theorem cmp_eq {x y : Int} (h : x = y) : compare x y = .eq := by
  subst h
  simp [compare, compareOfLessAndEq]
/-- within int64's reach -/
theorem reach (s : Bool) (a : Nat) (ha : a < 9218868437227405312) :
    (¬ sV s a < -((9223372036854775808 * 2 ^ 1074 : Nat) : Int) ∧ sV s a < ((9223372036854775808 * 2 ^ 1074 : Nat) : Int)) ↔ (if s = true then V a ≤ 9223372036854775808 * 2 ^ 1074 else V a < 9223372036854775808 * 2 ^ 1074) := by
  unfold sV
  have hp := pow_pos' 1074
  obtain ⟨P, hP⟩ : ∃ P, 2 ^ 1074 = P := ⟨_, rfl⟩
  rw [hP] at hp ⊢
  cases s
  · simp only [Bool.false_eq_true, if_false]; omega
  · simp only [if_true]; omega

/-- what Whole answers, by its three tests -/
def WhPost (s : Bool) (a : Nat) (w : World) (e : Ending) (w' : World) : Prop :=
  ∃ (n : Int) (ok : Bool), e = .returned (.tuple #[.int .i64 n, .bool ok]) ∧ (ok = true → wholeOf s a = some n) ∧ (ok = false → n = 0 ∧ wholeOf s a = none) ∧ w = w'
theorem wholeOf_none_lo {s : Bool} {a : Nat} (ha : a < 9218868437227405312) (h : sV s a < -((9223372036854775808 * 2 ^ 1074 : Nat) : Int)) : wholeOf s a = none := by
  have hr := reach s a ha
  have hn : ¬ (if s = true then V a ≤ 9223372036854775808 * 2 ^ 1074 else V a < 9223372036854775808 * 2 ^ 1074) := fun h2 => (hr.2 h2).1 h
  unfold wholeOf
  rw [if_neg (by omega)]
  split
  · rename_i hz
    have hd : V a = V a / 2 ^ 1074 * 2 ^ 1074 := (Nat.div_mul_cancel (Nat.dvd_of_mod_eq_zero hz)).symm
    cases s
    · simp only [Bool.false_eq_true, if_false] at hn ⊢
      rw [if_neg]
      intro h3
      have h5 := mlt (V a / 2 ^ 1074) 9223372036854775808 (2 ^ 1074) h3 (pow_pos' 1074)
      rewrite [hd] at hn
      exact hn h5
    · simp only [if_true] at hn ⊢
      rw [if_neg]
      intro h3
      have h5 := mle (V a / 2 ^ 1074) 9223372036854775808 (2 ^ 1074) h3
      rewrite [hd] at hn
      exact hn h5
  · rfl
theorem wholeOf_none_hi {s : Bool} {a : Nat} (ha : a < 9218868437227405312) (h : ¬ sV s a < ((9223372036854775808 * 2 ^ 1074 : Nat) : Int)) : wholeOf s a = none := by
  have hr := reach s a ha
  have hn : ¬ (if s = true then V a ≤ 9223372036854775808 * 2 ^ 1074 else V a < 9223372036854775808 * 2 ^ 1074) := fun h2 => h (hr.2 h2).2
  unfold wholeOf
  rw [if_neg (by omega)]
  split
  · rename_i hz
    have hd : V a = V a / 2 ^ 1074 * 2 ^ 1074 := (Nat.div_mul_cancel (Nat.dvd_of_mod_eq_zero hz)).symm
    cases s
    · simp only [Bool.false_eq_true, if_false] at hn ⊢
      rw [if_neg]
      intro h3
      have h5 := mlt (V a / 2 ^ 1074) 9223372036854775808 (2 ^ 1074) h3 (pow_pos' 1074)
      rewrite [hd] at hn
      exact hn h5
    · simp only [if_true] at hn ⊢
      rw [if_neg]
      intro h3
      have h5 := mle (V a / 2 ^ 1074) 9223372036854775808 (2 ^ 1074) h3
      rewrite [hd] at hn
      exact hn h5
  · rfl
theorem wholeOf_big {s : Bool} {a : Nat} (ha : 9218868437227405312 ≤ a) : wholeOf s a = none := by unfold wholeOf; rw [if_pos ha]
/-- within reach: whole just where the whole part is the number itself -/
theorem wholeOf_in {s : Bool} {a r : Nat} (ha : a < 9218868437227405312) (h1 : ¬ sV s a < -((9223372036854775808 * 2 ^ 1074 : Nat) : Int)) (h2 : sV s a < ((9223372036854775808 * 2 ^ 1074 : Nat) : Int)) (hN : Near (V a / 2 ^ 1074 * 2 ^ 1074) 1 r) :
    (r = a ∧ wholeOf s a = some (Ieee.signed s (V a / 2 ^ 1074) 0) ∧ -9223372036854775808 ≤ Ieee.signed s (V a / 2 ^ 1074) 0 ∧ Ieee.signed s (V a / 2 ^ 1074) 0 ≤ 9223372036854775807) ∨ (r ≠ a ∧ wholeOf s a = none) := by
  have hr := (reach s a ha).1 ⟨h1, h2⟩
  by_cases hz : V a % 2 ^ 1074 = 0
  · left
    have hd : V a = V a / 2 ^ 1074 * 2 ^ 1074 := (Nat.div_mul_cancel (Nat.dvd_of_mod_eq_zero hz)).symm
    have hra : r = a := hN.unique (near_exact (r := a) hd (by omega)) (by decide)
    refine ⟨hra, ?_⟩
    unfold wholeOf
    rw [if_neg (by omega), if_pos hz]
    have hQ : (if s = true then V a / 2 ^ 1074 ≤ 9223372036854775808 else V a / 2 ^ 1074 < 9223372036854775808) := by
      cases s
      · simp only [Bool.false_eq_true, if_false] at hr ⊢
        have h5 := lt_core (V a) (V a / 2 ^ 1074) 9223372036854775808 (2 ^ 1074) hd hr
        exact h5
      · simp only [if_true] at hr ⊢
        rewrite [hd] at hr
        have h5 := lem (V a / 2 ^ 1074) 9223372036854775808 (2 ^ 1074) (pow_pos' 1074) hr
        exact h5
    obtain ⟨Q, hQ2⟩ : ∃ Q, V a / 2 ^ 1074 = Q := ⟨_, rfl⟩
    rw [hQ2] at hQ ⊢
    unfold Ieee.signed
    rw [Nat.shiftLeft_zero]
    cases s
    · simp only [Bool.false_eq_true, if_false] at hQ ⊢
      rw [if_pos hQ]
      exact ⟨rfl, by omega, by omega⟩
    · simp only [if_true] at hQ ⊢
      rw [if_pos hQ]
      exact ⟨rfl, by omega, by omega⟩
  · right
    refine ⟨?_, ?_⟩
    · rintro rfl
      have h0 : 0 < r := by
        by_cases h : r = 0
        · subst h; rewrite [V_small (by omega)] at hz; exact absurd (Nat.zero_mod (2 ^ 1074)) hz
        · omega
      have k := cut_core (V r) (2 ^ 1074) (pow_pos' 1074) hz
      exact cut_not h0 (T := V r / 2 ^ 1074) k.1 k.2 hN
    · unfold wholeOf
      rw [if_neg (by omega), if_neg hz]
end Go.Proofs.YtbkdhejcbcgalaaGreatDoor.big
end
section
namespace Go.Proofs.YtbkdhejcbcgalaaGreatDoor.big
open Go.RowKit mem fl
set_option linter.unusedVariables false

theorem conv_whole (s : Bool) (a : Nat) (ha : a < 9218868437227405312) (h1 : -9223372036854775808 ≤ Ieee.signed s (V a / 2 ^ 1074) 0) (h2 : Ieee.signed s (V a / 2 ^ 1074) 0 ≤ 9223372036854775807) (w : World) :
    (convert 25 2 (.float .f64 (a + sgn s))).run Tryz.prog w = .ok (.int .i64 (Ieee.signed s (V a / 2 ^ 1074) 0)) w := by
  refine run_convert_float_int (P := Tryz.prog) w 25 2 .f64 .i64 (a + sgn s) _ (by rw [Tryz.underlying25]; rfl) Tryz.underlying2 ?_
  unfold floatToIntVal
  have hd : FloatKind.f64.decode (a + sgn s) = .number s (spM a) (spE a) := read_num s a ha
  have ht : (FloatKind.f64.decode (a + sgn s)).toInt .zero = some (Ieee.signed s (V a / 2 ^ 1074) 0) := by
    rw [hd]
    unfold Ieee.Datum.toInt
    rw [integral_eq s a ha]
  rw [ht]
  have e1 : IntKind.i64.min = -9223372036854775808 := by decide
  have e2 : IntKind.i64.max = 9223372036854775807 := by decide
  simp only [e1, e2]
  rw [if_pos ⟨h1, h2⟩]

theorem near_le {X a r : Nat} (h : Near X 1 r) (hX : X ≤ V a) : r ≤ a := by
  by_cases hr : r ≤ a
  · exact hr
  · exfalso
    obtain ⟨_, h2, _⟩ := h
    have a1 : V a ≤ V (r - 1) := V_le (by omega)
    have a2 : V (r - 1) < V r := V_mono (by omega)
    rcases h2 with h2 | h2 | ⟨h2, _⟩ <;> omega
set_option maxRecDepth 100000 in
set_option maxHeartbeats 4000000 in
theorem whole_any (s : Bool) (a : Nat) (w : World) (ha : a < 9223372036854775808) : Calls Tryz.prog 14 #[.float .f64 (a + sgn s)] w (WhPost s a w) := by
  have hc1 : (14114281232179134464 : Nat) = 4890909195324358656 + sgn true := rfl
  have hc2 : (4890909195324358656 : Nat) = 4890909195324358656 + sgn false := rfl
  by_cases hf : a < 9218868437227405312
  · have s1 : sV true 4890909195324358656 = -((9223372036854775808 * 2 ^ 1074 : Nat) : Int) := by unfold sV; rw [V_c]; rfl
    have s2 : sV false 4890909195324358656 = ((9223372036854775808 * 2 ^ 1074 : Nat) : Int) := by unfold sV; rw [V_c]; rfl
    have o1 : FloatKind.f64.format.order (a + sgn s) 14114281232179134464 = some (compare (sV s a) (-((9223372036854775808 * 2 ^ 1074 : Nat) : Int))) := by
      rw [← s1]; exact order_num s true a 4890909195324358656 hf (by omega)
    have o2 : FloatKind.f64.format.order (a + sgn s) 4890909195324358656 = some (compare (sV s a) ((9223372036854775808 * 2 ^ 1074 : Nat) : Int)) := by
      rw [← s2]; exact order_num s false a 4890909195324358656 hf (by omega)
    by_cases h1 : sV s a < -((9223372036854775808 * 2 ^ 1074 : Nat) : Int)
    · have HN := Lib.hid (wholeOf_none_lo hf h1)
      rw [cmp_lt h1] at o1
      clear o2 s1 s2 h1 hc1 hc2 hf
      unfold WhPost
      generalize a + sgn s = x at *
      go_enter Tryz.func14, Tryz.ntmps14
      go_wp2_with fail
      go_ret2
      exact ⟨0, false, rfl, by simp, fun _ => ⟨rfl, HN.out⟩, rfl⟩
    · have o1' : FloatKind.f64.format.order (a + sgn s) 14114281232179134464 = some .gt ∨ FloatKind.f64.format.order (a + sgn s) 14114281232179134464 = some .eq := by
        rw [o1]
        by_cases he : sV s a = -((9223372036854775808 * 2 ^ 1074 : Nat) : Int)
        · exact .inr (by rw [cmp_eq he])
        · exact .inl (by rw [cmp_gt (by omega)])
      by_cases h2 : sV s a < ((9223372036854775808 * 2 ^ 1074 : Nat) : Int)
      · obtain ⟨r, ht1, hnr⟩ := run_trunc s a hf w
        have hin := wholeOf_in hf h1 h2 hnr
        rw [cmp_lt h2] at o2
        have htr := trunc_any s a w hf
        have HTr := Lib.hid htr
        clear htr ht1 s1 s2 o1 hc1 hc2
        have hfin : ∀ r', Near (V a / 2 ^ 1074 * 2 ^ 1074) 1 r' → r' = r := fun r' h => h.unique hnr (by decide)
        have HFin := Lib.hid hfin
        clear hfin hnr
        rcases hin with ⟨rfl, hw, hb1, hb2⟩ | ⟨hne, hw⟩
        · have hcv := conv_whole s r hf hb1 hb2
          have hoe : FloatKind.f64.format.order (r + sgn s) (r + sgn s) = some .eq := order_self s r (by omega)
          have HW := Lib.hid hw
          obtain ⟨k, hk⟩ : ∃ k, Ieee.signed s (V r / 2 ^ 1074) 0 = k := ⟨_, rfl⟩
          rw [hk] at hcv HW
          clear hw hb1 hb2 hk h1 h2
          unfold TrPost at HTr
          rcases o1' with o1 | o1
          all_goals
            generalize hx : r + sgn s = x at *
            have HX := Lib.hid hx
            clear hx
            go_enter Tryz.func14, Tryz.ntmps14
            go_wp2_with fail
            refine HTr.out.mono ?_
            rintro e w' ⟨r', rfl, hn', rfl⟩
            have := HFin.out r' hn'
            subst this
            rw [HX.out]
            clear hn'
            go_wp2_with fail
            go_ret2
            exact ⟨k, true, rfl, fun _ => HW.out, by simp, rfl⟩
        · have hle : V a / 2 ^ 1074 * 2 ^ 1074 ≤ V a := Nat.div_mul_le_self _ _
          have hra : ∀ r', Near (V a / 2 ^ 1074 * 2 ^ 1074) 1 r' → r' ≤ a := fun r' h => near_le h hle
          have HRa := Lib.hid hra
          have HW := Lib.hid hw
          have HNe := Lib.hid hne
          clear hw hne h1 h2 hra hle
          unfold TrPost at HTr
          have hoe : ∀ r', r' = r → r' ≤ a → FloatKind.f64.format.order (r' + sgn s) (a + sgn s) = some .lt ∨ FloatKind.f64.format.order (r' + sgn s) (a + sgn s) = some .gt := by
            rintro r' rfl hr'
            have h3 : FloatKind.f64.format.order (r' + sgn s) (a + sgn s) = some (compare (sV s r') (sV s a)) := order_num s s r' a (by omega) hf
            rw [h3]
            have hv : V r' ≠ V a := fun h => HNe.out (V_inj h)
            by_cases hl : sV s r' < sV s a
            · exact .inl (by rw [cmp_lt hl])
            · have hg : sV s a < sV s r' := by
                unfold sV at hl ⊢
                cases s
                · simp only [Bool.false_eq_true, if_false] at hl ⊢; omega
                · simp only [if_true] at hl ⊢; omega
              exact .inr (by rw [cmp_gt hg])
          have HOe := Lib.hid hoe
          clear hoe
          rcases o1' with o1 | o1
          all_goals
            generalize hx : a + sgn s = x at *
            clear hx
            go_enter Tryz.func14, Tryz.ntmps14
            go_wp2_with fail
            refine HTr.out.mono ?_
            rintro e w' ⟨r', rfl, hn', rfl⟩
            have hoe := HOe.out r' (HFin.out r' hn') (HRa.out r' hn')
            generalize r' + sgn s = y at *
            clear hn'
            rcases hoe with hoe | hoe
            all_goals
              go_wp2_with fail
              go_ret2
              exact ⟨0, false, rfl, by simp, fun _ => ⟨rfl, HW.out⟩, rfl⟩
      · have HN := Lib.hid (wholeOf_none_hi hf h2)
        have o2' : FloatKind.f64.format.order (a + sgn s) 4890909195324358656 = some .gt ∨ FloatKind.f64.format.order (a + sgn s) 4890909195324358656 = some .eq := by
          rw [o2]
          by_cases he : sV s a = ((9223372036854775808 * 2 ^ 1074 : Nat) : Int)
          · exact .inr (by rw [cmp_eq he])
          · exact .inl (by rw [cmp_gt (by omega)])
        clear o1 o2 s1 s2 h1 h2 hc1 hc2 hf
        unfold WhPost
        rcases o1' with o1 | o1 <;> rcases o2' with o2 | o2
        all_goals
          generalize a + sgn s = x at *
          go_enter Tryz.func14, Tryz.ntmps14
          go_wp2_with fail
          go_ret2
          exact ⟨0, false, rfl, by simp, fun _ => ⟨rfl, HN.out⟩, rfl⟩
  · have HN := Lib.hid (wholeOf_big (s := s) (a := a) (by omega))
    have hor : FloatKind.f64.format.order (a + sgn s) 14114281232179134464 = none ∨ FloatKind.f64.format.order (a + sgn s) 14114281232179134464 = some .lt ∨ (FloatKind.f64.format.order (a + sgn s) 14114281232179134464 = some .gt ∧ FloatKind.f64.format.order (a + sgn s) 4890909195324358656 = some .gt) := by
      by_cases hi : a = 9218868437227405312
      · subst hi
        have q1 : FloatKind.f64.format.order (9218868437227405312 + sgn s) 14114281232179134464 = _ := order_inf_num s true 4890909195324358656 (by omega)
        have q2 : FloatKind.f64.format.order (9218868437227405312 + sgn s) 4890909195324358656 = _ := order_inf_num s false 4890909195324358656 (by omega)
        rw [q1, q2]
        cases s
        · exact .inr (.inr ⟨rfl, rfl⟩)
        · exact .inr (.inl rfl)
      · exact .inl (order_nan s s a a ha (by omega) _)
    clear hf hc1 hc2 ha
    unfold WhPost
    rcases hor with o1 | o1 | ⟨o1, o2⟩
    all_goals
      generalize a + sgn s = x at *
      go_enter Tryz.func14, Tryz.ntmps14
      go_wp2_with fail
      go_ret2
      exact ⟨0, false, rfl, by simp, fun _ => ⟨rfl, HN.out⟩, rfl⟩

/-- OfWhole: the nearest float, and whether it is the number -/
def OwPost (n : Int) (w : World) (e : Ending) (w' : World) : Prop :=
  ∃ r, e = .returned (.tuple #[.float .f64 (r + sgn (decide (n < 0))), .bool (decide (wholeOf (decide (n < 0)) r = some n))]) ∧ Near (n.natAbs * 2 ^ 1074) 1 r ∧ w = w'
theorem beq_whole {s : Bool} {r : Nat} {k n : Int} {ok : Bool} (h1 : ok = true → wholeOf s r = some k) (h2 : ok = false → wholeOf s r = none) : (ok && (k == n)) = decide (wholeOf s r = some n) := by
  rw [Bool.eq_iff_iff]
  cases ok
  · rw [h2 rfl]; simp
  · rw [h1 rfl]; simp
set_option maxRecDepth 100000 in
set_option maxHeartbeats 1000000 in
theorem ofWhole_any (n : Int) (w : World) : Calls Tryz.prog 13 #[.int .i64 n] w (OwPost n w) := by
  obtain ⟨r, h1, h2⟩ := encode_whole (decide (n < 0)) n.natAbs
  have hf : floatOfInt FloatKind.f64 n = r + sgn (decide (n < 0)) := h1
  have hr : r < 9223372036854775808 := by have := h2.1; omega
  have hw := whole_any (decide (n < 0)) r w hr
  have hb : ∀ (k : Int) (ok : Bool), (ok = true → wholeOf (decide (n < 0)) r = some k) → (ok = false → wholeOf (decide (n < 0)) r = none) → (ok && (k == n)) = decide (wholeOf (decide (n < 0)) r = some n) := fun k ok h3 h4 => beq_whole h3 h4
  have HW := Lib.hid hw
  have HN := Lib.hid h2
  have HB := Lib.hid hb
  unfold OwPost
  unfold WhPost at HW
  clear h1 h2 hr hw hb
  generalize decide (n < 0) = s at *
  generalize hx : r + sgn s = x at *
  have HX := Lib.hid hx
  have HF := Lib.hid hf
  clear hx hf
  go_enter Tryz.func13, Tryz.ntmps13
  go_wp2_with fail
  rw [HF.out]
  refine HW.out.mono ?_
  rintro e w' ⟨k, ok, rfl, g1, g2, rfl⟩
  have hq := HB.out k ok g1 fun h => (g2 h).2
  have HQ := Lib.hid hq
  clear hq g1 g2
  cases ok
  · go_wp2_with fail
    go_ret2
    exact ⟨r, by rw [HX.out, ← HQ.out]; rfl, HN.out, rfl⟩
  · go_wp2_with fail
    go_ret2
    exact ⟨r, by rw [HX.out, ← HQ.out]; rfl, HN.out, rfl⟩

def SmPost (n1 : Bool) (a1 : Nat) (n2 : Bool) (a2 : Nat) (w : World) (e : Ending) (w' : World) : Prop := e = .returned (.bool (sameB n1 a1 n2 a2)) ∧ w = w'
end Go.Proofs.YtbkdhejcbcgalaaGreatDoor.big
end
