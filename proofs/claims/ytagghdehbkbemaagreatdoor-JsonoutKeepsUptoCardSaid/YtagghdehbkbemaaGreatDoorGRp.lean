/- The reference's power, walked. The reference's reads and seventeen, walked. The reference's seventeen, walked. -/
import Derived.Test.YtagghdehbkbemaaGreatDoorGShp
import Derived.Test.YtagghdehbkbemaaGreatDoorGRb
import Derived.Test.YtagghdehbkbemaaGreatDoorYDl
import Derived.Deep.RegionLaw
import Derived.Deep.RegionHeld3
section
namespace Go.Proofs.YtagghdehbkbemaaGreatDoor.rt
open Go.RowKit mem fl big sh
set_option linter.unusedVariables false

theorem gsc (D a b c d P : Nat) (h : a + c = b) : D * 10 ^ a * P * 10 ^ c = D * (10 ^ b * P) := by
  subst h
  rw [Nat.pow_add]
  ac_rfl
theorem bsc (a c d V : Nat) (h : a + c = d) : 10 ^ a * V * 10 ^ c = 10 ^ d * V := by
  subst h
  rw [Nat.pow_add]
  ac_rfl
theorem ag_G (D : Nat) (x : Int) (a : Nat) (h1 : a < 9218868437227405312) (hx : -400 ≤ x) : agV (D * 10 ^ x.toNat) (10 ^ (-x).toNat) (spM a) (spE a) = ordN (D * G x) (ce a) := by
  have h := agV_at (D * 10 ^ x.toNat) (10 ^ (-x).toNat) (spM a) 1074 (spE a) (by have := spE_bd h1; omega)
  have hV := V_sp h1
  rewrite [show spE a + ((1074 : Nat) : Int) = spE a + 1074 from rfl, ← hV] at h
  rewrite [h, ← ordN_scale _ _ (10 ^ (400 - (-x).toNat)) (tenpos _), ← pow2_eq 1074, ← E_p]
  rewrite [gsc D _ _ _ 0 E (show x.toNat + (400 - (-x).toNat) = (x + 400).toNat by omega), bsc _ _ 400 (fl.V a) (by omega), ← pow10_eq 400, ← F_p]
  exact Eq.refl (ordN (D * G x) (ce a))
theorem ag_G2 (D : Nat) (x : Int) (a : Nat) (h1 : a < 9218868437227405312) (hx : -400 ≤ x) : agV (D * 10 ^ x.toNat) (10 ^ (-x).toNat) (spM a) (spE a + 1) = ordN (D * G x) (2 * ce a) := by
  have hb := spE_bd h1
  have h := agV_at (D * 10 ^ x.toNat) (10 ^ (-x).toNat) (spM a) 1074 (spE a + 1) (by omega)
  have hV := V_sp h1
  have e : spM a * 2 ^ (spE a + 1 + ((1074 : Nat) : Int)).toNat = 2 * fl.V a := by
    rewrite [hV, show (spE a + 1 + ((1074 : Nat) : Int)).toNat = (spE a + 1074).toNat + 1 by omega, Nat.pow_succ]
    ac_rfl
  rewrite [e] at h
  rewrite [h, ← ordN_scale _ _ (10 ^ (400 - (-x).toNat)) (tenpos _), ← pow2_eq 1074, ← E_p]
  rewrite [gsc D _ _ _ 0 E (show x.toNat + (400 - (-x).toNat) = (x + 400).toNat by omega), bsc _ _ 400 (2 * fl.V a) (by omega), ← pow10_eq 400, ← F_p, Nat.mul_left_comm F 2 (fl.V a)]
  exact Eq.refl (ordN (D * G x) (2 * ce a))
theorem ord_pos (a b : Nat) : (0 < ordN a b ↔ b < a) ∧ (ordN a b = 0 ↔ a = b) := by
  unfold ordN
  by_cases h : a < b
  · rw [if_pos h]; omega
  · rw [if_neg h]
    by_cases h2 : b < a
    · rw [if_pos h2]; omega
    · rw [if_neg h2]; omega
/-- p: ten to the power of p - 1 is at most the float, ten to the power of p above it -/
def Pw (a : Nat) (p : Int) : Prop := -330 ≤ p ∧ p ≤ 310 ∧ G (p - 1) ≤ ce a ∧ ce a < G p
theorem lowG : G (-331) ≤ F := by decide +kernel
theorem highG : F * (pow2 1024 * E) < G 310 := by decide +kernel
theorem V_top (a : Nat) (h1 : a < 9218868437227405312) : fl.V a ≤ pow2 1024 * E := by
  have h := V_mono h1
  rewrite [V_inf, ← pow2_eq 1024, ← pow2_eq 1074, ← E_p] at h
  exact Nat.le_of_lt h
theorem pw_start (a : Nat) (h0 : 0 < a) (h1 : a < 9218868437227405312) : G (-330 - 1) ≤ ce a ∧ ce a < G 310 := by
  have hV := V_mono h0
  have hV1 : 1 ≤ fl.V a := by omega
  constructor
  · refine Nat.le_trans lowG ?_
    unfold ce
    exact Nat.le_mul_of_pos_right _ hV1
  · refine Nat.lt_of_le_of_lt ?_ highG
    unfold ce
    exact Nat.mul_le_mul_left _ (V_top a h1)
theorem digs1 : Digs ((⟨#[49]⟩ : ByteArray).data.toList) := by
  have := digs_strN (l := [49]) (by intro c hc; simp at hc; omega)
  exact this
theorem dv1 : dv ((⟨#[49]⟩ : ByteArray).data.toList) = 1 := by
  have := dv_strN (l := [49]) (by intro c hc; simp at hc; omega)
  exact this
theorem dec_one (x : Int) (w : World) (hx : x ≤ 5000) (hx0 : -5000 ≤ x) : Calls Tryz.prog 75 #[.string ⟨#[49]⟩, .int .i64 x] w (DecPost (1 * 10 ^ x.toNat) (10 ^ (-x).toNat) w) := by
  have h := dec_any ⟨#[49]⟩ x w digs1 (by decide) hx hx0
  rw [dv1] at h
  exact h
theorem len_T (x : Int) (h1 : x ≤ 5000) (D b : Nat) (hD : (wd D).length ≤ b) : (wd (D * 10 ^ x.toNat)).length ≤ b + 5001 := by
  have := wd_len_mulp (D := D) (b := b) (K := 5000) (j := x.toNat) hD (by omega)
  omega
theorem len_B (x : Int) (h1 : -5000 ≤ x) : (wd (10 ^ (-x).toNat)).length ≤ 5001 := wd_len_p10 (K := 5000) (by omega)
set_option maxRecDepth 100000 in
set_option maxHeartbeats 2000000 in
theorem power_any (a : Nat) (w : World) (h0 : 0 < a) (h1 : a < 9218868437227405312) :
    Calls Tryz.prog 71 #[.int .u64 (a : Int)] w fun e w' => ∃ p : Int, e = .returned (.int .i64 p) ∧ Pw a p ∧ Below w.heap.size w w' := by
  have HS := Lib.hid (split_any a w (by omega))
  unfold SpPost at HS
  have HAg := Lib.hid (fun x => ag_G 1 x a h1)
  have hE := spE_bd h1
  have hM := spM_lt a
  have HSt := Lib.hid (pw_start a h0 h1)
  obtain ⟨m, hm⟩ : ∃ m, spM a = m := ⟨_, rfl⟩
  obtain ⟨x, hx⟩ : ∃ x, spE a = x := ⟨_, rfl⟩
  rw [hm, hx] at HS HAg
  rw [hm] at hM
  rw [hx] at hE
  clear hm hx
  go_enter Tryz.func71, Tryz.ntmps71
  go_wp2_with fail
  refine (HS.out).mono ?_
  rintro e w2 ⟨rfl, rfl⟩
  go_wp2_with fail
  go_loopw [5, 6] (fun v5 v6 wr => ∃ (lo hi : Int), -330 ≤ lo ∧ lo ≤ hi ∧ hi ≤ 310 ∧ v5 = .int .i64 lo ∧ v6 = .int .i64 hi ∧ Hid (G (lo - 1) ≤ ce a ∧ ce a < G hi ∧ Below w.heap.size w wr)) (fun v5 v6 _ => (intOf v6 - intOf v5).toNat)
  case atStart => exact ⟨-330, 310, by omega, by omega, by omega, rfl, rfl, Lib.hid ⟨HSt.out.1, HSt.out.2, Below.refl _ _⟩⟩
  case round =>
    obtain ⟨lo, hi, hl1, hl2, hl3, rfl, rfl, hst⟩ := hrel
    by_cases hlt : lo < hi
    · obtain ⟨mid, hmid⟩ : ∃ mid, lo + (hi - lo) / 2 = mid := ⟨_, rfl⟩
      have hb1 : lo ≤ mid := by omega
      have hb2 : mid < hi := by omega
      have hsub : 0 ≤ hi - lo := by omega
      have HQ := hst
      have HMi := Lib.hid hmid
      have hquo : Int.tdiv (hi - lo) 2 = (hi - lo) / 2 := Int.tdiv_eq_ediv_of_nonneg hsub
      clear hst
      go_wp2_with fail
      refine (dec_one mid wr (by omega) (by omega)).mono ?_
      rintro e w3 ⟨v0, v1, rfl, b0, b1, hb3⟩
      have HB3 := Lib.hid hb3
      have hAt := against_any v0 v1 (1 * 10 ^ mid.toNat) (10 ^ (-mid).toNat) m x w3 b0 b1 (Nat.le_trans (len_T mid (by omega) 1 1 (by decide)) (by decide)) (Nat.le_trans (len_B mid (by omega)) (by decide)) (by omega) (by omega) (by omega)
      unfold AgPost at hAt
      rw [HAg.out mid (by omega), Nat.one_mul] at hAt
      obtain ⟨o1, _⟩ := ord_pos (G mid) (ce a)
      obtain ⟨c, hc⟩ : ∃ c, ordN (G mid) (ce a) = c := ⟨_, rfl⟩
      rw [hc] at hAt o1
      have HA := Lib.hid hAt
      have HO := Lib.hid o1
      clear hAt b0 b1 hb3 hc o1
      go_wp2_with fail
      refine (HA.out).mono ?_
      rintro e w4 ⟨rfl, hb4⟩
      have HB4 := Lib.hid (HQ.out.2.2.trans ((HB3.out.trans (hb4.mono HB3.out.size)).mono HQ.out.2.2.size))
      clear hb4
      by_cases hc0 : 0 < c
      · have hG : ce a < G mid := HO.out.1 hc0
        have HG := Lib.hid hG
        clear hG
        go_wp2_with fail
        exact ⟨⟨lo, mid, by omega, by omega, by omega, rfl, rfl, Lib.hid ⟨HQ.out.1, HG.out, HB4.out⟩⟩, by simp [intOf]; omega⟩
      · have hG : ¬ ce a < G mid := fun h => hc0 (HO.out.2 h)
        have HG := Lib.hid hG
        clear hG
        go_wp2_with fail
        exact ⟨⟨mid + 1, hi, by omega, by omega, by omega, rfl, rfl, Lib.hid ⟨by rw [Int.add_sub_cancel]; exact Nat.le_of_not_lt HG.out, HQ.out.2.1, HB4.out⟩⟩, by simp [intOf]; omega⟩
    · obtain rfl : lo = hi := by omega
      go_wp2_with fail
      go_ret
      exact ⟨lo, rfl, ⟨hl1, hl3, hst.out.1, hst.out.2.1⟩, hst.out.2.2⟩
end Go.Proofs.YtagghdehbkbemaaGreatDoor.rt
end
section
namespace Go.Proofs.YtagghdehbkbemaaGreatDoor.rt
open Go.RowKit mem fl big sh uw
set_option linter.unusedVariables false

theorem dvn_dgs (q : Nat) : dvn (dgs q) = q := by
  induction q using Nat.strongRecOn with
  | _ q ih =>
    by_cases h : q < 10
    · rw [dgs_small q h]
      show (0 * 10 + (48 + q % 10 - 48)) = q
      omega
    · rw [dgs_step q h, dvn_app, ih (q / 10) (by omega)]
      show q / 10 * 10 ^ 1 + (0 * 10 + (48 + q % 10 - 48)) = q
      omega
theorem dec_dgs (q : Nat) (x : Int) (w : World) (hq : q < 18446744073709551616) (hx : x ≤ 5000) (hx0 : -5000 ≤ x) :
    Calls Tryz.prog 75 #[.string (strN (dgs q)), .int .i64 x] w (DecPost (q * 10 ^ x.toNat) (10 ^ (-x).toNat) w) := by
  have h := dec_any (strN (dgs q)) x w (digs_strN (dgs_bytes q)) (by rw [strN_size, dgs_length]; have := nd20 q hq; omega) hx hx0
  rw [dv_strN (dgs_bytes q), dvn_dgs] at h
  exact h
theorem wd_q (q : Nat) (hq : q < 18446744073709551616) : (wd q).length ≤ 20 := by
  have h1 := Lib.lt_pow_nDigits q
  have h2 := wd_len_ten (b := 0) h1
  have := nd20 q hq
  omega
open Classical in
theorem in_unique {a q r : Nat} {x : Int} (h : Near (q * 10 ^ x.toNat * 2 ^ 1074) (10 ^ (-x).toNat) r) : In a q x ↔ r = a := by
  constructor
  · intro h2
    exact h.unique h2 (tenpos _)
  · intro h2
    rw [h2] at h
    exact h
set_option maxRecDepth 100000 in
theorem reads_any (q a : Nat) (x : Int) (w : World) (hq : q < 18446744073709551616) (hx : x ≤ 4000) (hx0 : -4000 ≤ x) (ha : a < 9218868437227405312) :
    Calls Tryz.prog 74 #[.int .u64 (q : Int), .int .i64 x, .int .u64 (a : Int)] w fun e w' => ∃ b : Bool, e = .returned (.bool b) ∧ (b = true ↔ In a q x) ∧ Below w.heap.size w w' := by
  have HD := Lib.hid (digits_any q w hq)
  unfold DgPost at HD
  have HDc := Lib.hid (fun w => dec_dgs q x w hq (by omega) (by omega))
  obtain ⟨S, hS⟩ : ∃ S, strN (dgs q) = S := ⟨_, rfl⟩
  rw [hS] at HD HDc
  clear hS
  go_enter Tryz.func74, Tryz.ntmps74
  go_wp2_with fail
  refine (HD.out).mono ?_
  rintro e w2 ⟨rfl, hb2⟩
  have HB2 := Lib.hid hb2
  clear hb2
  go_wp2_with fail
  refine (HDc.out w2).mono ?_
  rintro e w3 ⟨v0, v1, rfl, b0, b1, hb3⟩
  have HB3 := Lib.hid (HB2.out.trans (hb3.mono HB2.out.size))
  have HBt := Lib.hid (bits_any v0 v1 (q * 10 ^ x.toNat) (10 ^ (-x).toNat) w3 b0 b1 (Nat.le_trans (len_T x (by omega) q 20 (wd_q q hq)) (by decide)) (Nat.le_trans (len_B x (by omega)) (by decide)) (tenpos _))
  clear b0 b1 hb3
  go_wp2_with fail
  refine (HBt.out).mono ?_
  rintro e w4 ⟨r, rfl, hN, hb4⟩
  have hrb := hN.1
  have HI := Lib.hid (in_unique (a := a) hN)
  have HB4 := Lib.hid (HB3.out.trans (hb4.mono HB3.out.size))
  clear hN hb4
  by_cases hr : r = a
  · subst hr
    have d1 : decide (r < 9218868437227405312) = true := decide_eq_true ha
    rw [d1]
    go_wp2_with fail
    go_ret
    exact ⟨true, rfl, by simp [HI.out], HB4.out⟩
  · have d2 : ((r : Int) == (a : Int)) = false := beq_false_of_ne (by omega)
    have HNo := Lib.hid (fun h => hr (HI.out.1 h))
    obtain ⟨b, hb⟩ : ∃ b, decide (r < 9218868437227405312) = b := ⟨_, rfl⟩
    rw [hb]
    cases b
    · go_wp2_with fail
      go_ret
      exact ⟨false, rfl, ⟨(fun h => by cases h), fun h => (HNo.out h).elim⟩, HB4.out⟩
    · go_wp2_with fail
      go_ret
      exact ⟨false, rfl, ⟨(fun h => by cases h), fun h => (HNo.out h).elim⟩, HB4.out⟩
end Go.Proofs.YtagghdehbkbemaaGreatDoor.rt
end
section
namespace Go.Proofs.YtagghdehbkbemaaGreatDoor.rt
open Go.RowKit mem fl big sh uw
set_option linter.unusedVariables false

theorem keep2 {W w' : World} {g : Nat} {a b : Value} (hb : Below W.heap.size W w') (hg : g < W.heap.size) (h0 : W.cell? ⟨g, 0, none⟩ = some a) (h1 : W.cell? ⟨g, 1, none⟩ = some b) : w'.cell? ⟨g, 0, none⟩ = some a ∧ w'.cell? ⟨g, 1, none⟩ = some b :=
  ⟨(hb.cell (p := ⟨g, 0, none⟩) hg).trans h0, (hb.cell (p := ⟨g, 1, none⟩) hg).trans h1⟩
theorem ord_mid (T B a q : Nat) (x : Int) (h1 : a < 9218868437227405312) (hx : -400 ≤ x) (hT : T = 1 * 10 ^ x.toNat) (hB : B = 10 ^ (-x).toNat) : agV (T * q) B (spM a) (spE a) = ordN (q * G x) (ce a) := by
  rw [hT, hB, Nat.one_mul, Nat.mul_comm]
  exact ag_G q x a h1 hx
set_option maxRecDepth 100000 in
set_option maxHeartbeats 4000000 in
theorem seventeen_any (a : Nat) (p : Int) (w : World) (h0 : 0 < a) (h1 : a < 9218868437227405312) (hp : Pw a p) :
    Calls Tryz.prog 72 #[.int .u64 (a : Int), .int .i64 p] w fun e w' => ∃ q : Nat, e = .returned (.int .u64 (q : Int)) ∧ q * G (p - 17) ≤ ce a ∧ ce a < (q + 1) * G (p - 17) ∧ 10000000000000000 ≤ q ∧ q ≤ 99999999999999999 ∧ Below w.heap.size w w' := by
  obtain ⟨hp1, hp2, hp3, hp4⟩ := hp
  have hlo : 10000000000000000 * G (p - 17) ≤ ce a := by
    have h := G_up (p - 17) (by omega) 16
    rw [show p - 17 + ((16 : Nat) : Int) = p - 1 by omega, show (10 : Nat) ^ 16 = 10000000000000000 by decide] at h
    rw [← h]; exact hp3
  have hhi : ce a < (99999999999999999 + 1) * G (p - 17) := by
    have h := G_up (p - 17) (by omega) 17
    rw [show p - 17 + ((17 : Nat) : Int) = p by omega, show (10 : Nat) ^ 17 = 100000000000000000 by decide] at h
    rw [← h]; exact hp4
  have HS := Lib.hid (split_any a w (by omega))
  unfold SpPost at HS
  have hE := spE_bd h1
  have hM := spM_lt a
  obtain ⟨y, hy⟩ : ∃ y, p - 17 = y := ⟨_, rfl⟩
  rw [hy] at hlo hhi ⊢
  have HSt := Lib.hid (And.intro hlo hhi)
  have HDc := Lib.hid (fun w => dec_one y w (by omega) (by omega))
  have hlT := Nat.le_trans (len_T y (by omega) 1 1 (by decide)) (show 1 + 5001 ≤ 6000 by decide)
  have hlB := Nat.le_trans (len_B y (by omega)) (show 5001 ≤ 6000 by decide)
  obtain ⟨T, hT⟩ : ∃ T, T = 1 * 10 ^ y.toNat := ⟨_, rfl⟩
  obtain ⟨B, hB⟩ : ∃ B, B = 10 ^ (-y).toNat := ⟨_, rfl⟩
  have HAg := Lib.hid (fun q => ord_mid T B a q y h1 (by omega) hT hB)
  rw [← hT, ← hB] at HDc
  rw [← hT] at hlT
  rw [← hB] at hlB
  obtain ⟨m, hm⟩ : ∃ m, spM a = m := ⟨_, rfl⟩
  obtain ⟨x, hx⟩ : ∃ x, spE a = x := ⟨_, rfl⟩
  rw [hm, hx] at HS HAg
  rw [hm] at hM
  rw [hx] at hE
  clear hm hx hT hB hlo hhi hp3 hp4
  go_enter Tryz.func72, Tryz.ntmps72
  go_wp2_with fail
  refine (HS.out).mono ?_
  rintro e w2 ⟨rfl, rfl⟩
  go_wp2_with fail
  refine (HDc.out w).mono ?_
  rintro e w3 ⟨v0, v1, rfl, b0, b1, hb3⟩
  obtain ⟨A0, n0, c0, rfl, H0⟩ := bn_form b0
  obtain ⟨A1, n1, c1, rfl, H1⟩ := bn_form b1
  have HB3 := Lib.hid hb3
  have hsz3 := hb3.size
  clear b0 b1 hb3 hy
  go_wp2_with fail
  have hg5 := heap_alloc_new w3 (.cells #[.slice A0 n0 c0, .slice A1 n1 c1] 119)
  have hb5 : Below w.heap.size w (w3.alloc (.cells #[.slice A0 n0 c0, .slice A1 n1 c1] 119)) := (HB3.out).alloc hsz3 _
  have hz5 : (w3.alloc (.cells #[.slice A0 n0 c0, .slice A1 n1 c1] 119)).heap.size = w3.heap.size + 1 := by simp
  have HV0 := Lib.hid (H0.out.alloc (.cells #[.slice A0 n0 c0, .slice A1 n1 c1] 119))
  have HV1 := Lib.hid (H1.out.alloc (.cells #[.slice A0 n0 c0, .slice A1 n1 c1] 119))
  generalize w3.alloc (.cells #[.slice A0 n0 c0, .slice A1 n1 c1] 119) = w5 at *
  have e0 := blk_cell hg5 (i := 0) (by simp)
  have e1 := blk_cell hg5 (i := 1) (by simp)
  simp only [List.getElem_toArray, List.getElem_cons_zero, List.getElem_cons_succ] at e0 e1
  have HB5 := Lib.hid hb5
  clear hg5 hb5
  go_loopw [8, 9] (fun v8 v9 wr => ∃ (lo hi : Nat), 10000000000000000 ≤ lo ∧ lo ≤ hi ∧ hi ≤ 99999999999999999 ∧ v8 = .int .u64 (lo : Int) ∧ v9 = .int .u64 (hi : Int) ∧ Below w5.heap.size w5 wr ∧ Hid (lo * G y ≤ ce a ∧ ce a < (hi + 1) * G y)) (fun v8 v9 _ => (intOf v9 - intOf v8).toNat)
  case atStart => exact ⟨10000000000000000, 99999999999999999, by omega, by omega, by omega, rfl, rfl, Below.refl _ _, HSt⟩
  case round =>
    obtain ⟨lo, hi, hl1, hl2, hl3, rfl, rfl, hbr, hst⟩ := hrel
    have hgl : w3.heap.size < wr.heap.size := by have := hbr.size; omega
    by_cases hlt : lo < hi
    · obtain ⟨mid, hmid⟩ : ∃ mid, lo + (hi - lo + 1) / 2 = mid := ⟨_, rfl⟩
      have hm1 : lo < mid := by omega
      have hm2 : mid ≤ hi := by omega
      have hmi : (lo : Int) + ((hi : Int) - (lo : Int) + 1) / 2 = (mid : Int) := by omega
      have hlo0 : (lo : Int) ≤ (hi : Int) := by omega
      have d0 := (hbr.cell (p := ⟨w3.heap.size, 0, none⟩) (by simp; omega)).trans e0
      have d1 := (hbr.cell (p := ⟨w3.heap.size, 1, none⟩) (by simp; omega)).trans e1
      have HW := Lib.hid (fun (W : World) (hb : Below wr.heap.size wr W) => wide_any (.slice A0 n0 c0) T mid W ((HV0.out.below (hbr.trans (hb.mono hbr.size))).more (by have := hbr.size; have := hb.size; omega)) (by omega) (by omega))
      have hlm : (wd (T * mid)).length ≤ 100000 := Nat.le_trans (wd_len_mul2 (b := 4) hlT (by have : (4294967296 : Nat) ^ 4 = 340282366920938463463374607431768211456 := by decide
                                                                                              omega)) (by decide)
      have HA := Lib.hid (fun (W : World) (v5 : Value) (hb : Below wr.heap.size wr W) (hbn : Bn W W.heap.size v5 (T * mid)) => against_any v5 (.slice A1 n1 c1) (T * mid) B m x W hbn ((HV1.out.below (hbr.trans (hb.mono hbr.size))).more (by have := hbr.size; have := hb.size; omega)) hlm (by omega) (by omega) (by omega) (by omega))
      unfold AgPost at HA
      obtain ⟨o1, _⟩ := ord_pos (mid * G y) (ce a)
      have hag := HAg.out mid
      obtain ⟨c, hc⟩ : ∃ c, ordN (mid * G y) (ce a) = c := ⟨_, rfl⟩
      rw [hc] at hag o1
      rw [hag] at HA
      have HO := Lib.hid o1
      have hbx : Below wr.heap.size wr wr.drew := (Below.refl _ _).drew
      clear hmid hlm hag hc o1
      go_wp2_with fail
      go_region_held3 (fun w' => w'.cell? ⟨w3.heap.size, 0, none⟩ = some (.slice A0 n0 c0) ∧ w'.cell? ⟨w3.heap.size, 1, none⟩ = some (.slice A1 n1 c1))
        (first | (refine keep2 ?_ hgl d0 d1; (with_reducible first | exact hbz | exact hby | exact hbx)))
        (first
          | (go_at_call 89; go_must (refine (HW.out _ hbx).mono ?_; rintro e wa ⟨v5, rfl, hbn, hba⟩; have hby : Below wr.heap.size wr wa := hbx.trans (hba.mono hbx.size); obtain ⟨A5, n5, c5, rfl, HBn⟩ := bn_form hbn; clear hbn hba))
          | (go_at_call 76; go_must (refine (HA.out _ _ hby HBn.out).mono ?_; rintro e wb ⟨rfl, hbb⟩; have hbz : Below wr.heap.size wr wb := hby.trans (hbb.mono hby.size); clear hbb)))
      all_goals
        have hbq := hbr.trans (hbz.mono hbr.size)
        clear hbz hby hbx d0 d1
        by_cases hc0 : c ≤ 0
        · have hG : mid * G y ≤ ce a := by
            have := HO.out
            omega
          have HG := Lib.hid hG
          clear hG
          go_wp2_with fail
          exact ⟨⟨mid, hi, by omega, by omega, by omega, rfl, rfl, hbq, Lib.hid ⟨HG.out, hst.out.2⟩⟩, by simp [intOf]; omega⟩
        · have hG : ce a < mid * G y := by
            have := HO.out
            omega
          have HG := Lib.hid hG
          clear hG
          go_wp2_with fail
          exact ⟨⟨lo, mid - 1, by omega, by omega, by omega, rfl, congrArg (Value.int .u64) (by omega), hbq, Lib.hid ⟨hst.out.1, by rw [show mid - 1 + 1 = mid by omega]; exact HG.out⟩⟩, by simp [intOf]; omega⟩
    · obtain rfl : lo = hi := by omega
      go_wp2_with fail
      go_ret
      exact ⟨lo, rfl, hst.out.1, hst.out.2, hl1, hl3, HB5.out.trans (hbr.mono HB5.out.size)⟩
end Go.Proofs.YtagghdehbkbemaaGreatDoor.rt
end
