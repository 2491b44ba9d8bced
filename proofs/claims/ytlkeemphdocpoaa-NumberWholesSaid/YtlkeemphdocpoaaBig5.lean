/- The reference's floats by whole numbers: against, Split, bits. -/
import Derived.Test.YtlkeemphdocpoaaBig4
import Derived.Laws.BitsAllLaws
namespace Go.Proofs.Ytlkeemphdocpoaa.big
open Go.RowKit mem fl
set_option linter.unusedVariables false

theorem Bn.alloc {w : World} {N : Nat} {v : Value} (h : Bn w w.heap.size v N) (o : Obj) : Bn (w.alloc o) (w.alloc o).heap.size v N := (h.below ((Below.refl _ _).alloc (Nat.le_refl _) o)).more (by simp)
def agV (T B m : Nat) (e : Int) : Int := ordN (T * 2 ^ (-e).toNat) (B * m * 2 ^ e.toNat)
def AgPost (T B m : Nat) (x : Int) (w : World) (e : Ending) (w' : World) : Prop := e = .returned (.int .i64 (agV T B m x)) ∧ Below w.heap.size w w'
theorem wd_len_mul2 {N M a b : Nat} (h : (wd N).length ≤ a) (h2 : M < 4294967296 ^ b) : (wd (N * M)).length ≤ a + b := by
  have h1 := val_lt (wd N) (wds_wd N)
  rw [val_wd] at h1
  refine wd_len_le ?_
  rw [Nat.pow_add]
  exact Nat.mul_lt_mul_of_lt_of_lt (Nat.lt_of_lt_of_le h1 (Nat.pow_le_pow_right (by decide) h)) h2
theorem pow_bd {k b : Nat} (h : k < 32 * b) : 2 ^ k < 4294967296 ^ b := by
  rw [show (4294967296 : Nat) = 2 ^ 32 by decide, ← Nat.pow_mul]
  exact Nat.pow_lt_pow_right (by decide) h

set_option maxHeartbeats 1000000 in
theorem against_any (v0 v1 : Value) (T B m : Nat) (x : Int) (w : World) (h0 : Bn w w.heap.size v0 T) (h1 : Bn w w.heap.size v1 B) (hT : (wd T).length ≤ 100000) (hB : (wd B).length ≤ 100000) (hm : m < 18446744073709551616) (hx : x ≤ 3000) (hx0 : -3000 ≤ x) :
    Calls Try.prog 31 #[.agg #[v0, v1], .int .u64 (m : Int), .int .i64 x] w (AgPost T B m x w) := by
  obtain ⟨A0, n0, c0, rfl, H0⟩ := bn_form h0
  obtain ⟨A1, n1, c1, rfl, H1⟩ := bn_form h1
  clear h0 h1
  go_enter Try.func31, Try.ntmps31
  go_wp2_with fail
  refine (wide_any _ B m _ (H1.out.alloc _) hm (by omega)).mono ?_
  rintro e w2 ⟨v2, rfl, hbn2, hb2⟩
  have hc0 : w2.cell? ⟨w.heap.size, 0, none⟩ = some (.slice A0 n0 c0) := (box_cell hb2 rfl (by simp) 0)
  have HB2 := Lib.hid hbn2
  have H02 := Lib.hid (((H0.out.alloc (.cells #[.slice A0 n0 c0, .slice A1 n1 c1] 51)).below hb2).more hb2.size)
  have hs2 := hb2.size
  have HBl2 := Lib.hid (((Below.refl w.heap.size w).alloc (Nat.le_refl _) _).trans (hb2.mono (by simp)))
  have hlB : (wd (B * m)).length ≤ 100002 := wd_len_mul2 (b := 2) hB (Nat.lt_of_lt_of_eq hm (by decide))
  clear hbn2 hb2
  by_cases hx1 : 0 ≤ x
  · obtain ⟨X, rfl⟩ : ∃ X : Nat, x = (X : Int) := ⟨x.toNat, by omega⟩
    have hlU : (wd (B * m * 2 ^ X)).length ≤ 100102 := wd_len_mul2 (b := 100) hlB (pow_bd (by omega))
    have hag : agV T B m (X : Int) = ordN T (B * m * 2 ^ X) := by
      unfold agV
      have e1 : (-(X : Int)).toNat = 0 := by omega
      rw [e1, Int.toNat_natCast, Nat.pow_zero, Nat.mul_one]
    have HA := Lib.hid hag
    clear hag
    go_wp2_with fail
    refine (up_any _ (B * m) X w2 HB2.out (by omega) (by omega)).mono ?_
    rintro e w3 ⟨v3, rfl, hbn3, hb3⟩
    have HB3 := Lib.hid hbn3
    have H03 := Lib.hid ((H02.out.below hb3).more hb3.size)
    have HBl3 := Lib.hid (HBl2.out.trans (hb3.mono (by simp at hs2; omega)))
    clear hbn3 hb3
    go_wp2_with fail
    refine (order_any _ _ T (B * m * 2 ^ X) w3 H03.out HB3.out (by omega) (by omega)).mono ?_
    rintro e w4 ⟨rfl, n, rfl⟩
    rw [← HA.out]
    go_wp2_with fail
    go_ret
    exact ⟨rfl, Below.drewN HBl3.out n⟩
  · obtain ⟨X, rfl⟩ : ∃ X : Nat, x = -(X : Int) := ⟨(-x).toNat, by omega⟩
    have hlU : (wd (T * 2 ^ X)).length ≤ 100102 := wd_len_mul2 (b := 102) hT (pow_bd (by omega))
    have hag : agV T B m (-(X : Int)) = ordN (T * 2 ^ X) (B * m) := by
      unfold agV
      have e1 : (-(X : Int)).toNat = 0 := by omega
      rw [e1, Int.neg_neg, Int.toNat_natCast, Nat.pow_zero, Nat.mul_one]
    have HA := Lib.hid hag
    have hX0 : 0 < X := by omega
    clear hag hx1
    go_wp2_with fail
    refine (up_any _ T X w2 H02.out (by omega) (by omega)).mono ?_
    rintro e w3 ⟨v3, rfl, hbn3, hb3⟩
    have HB3 := Lib.hid hbn3
    have H03 := Lib.hid ((HB2.out.below hb3).more hb3.size)
    have HBl3 := Lib.hid (HBl2.out.trans (hb3.mono (by simp at hs2; omega)))
    clear hbn3 hb3
    go_wp2_with fail
    refine (order_any _ _ (T * 2 ^ X) (B * m) w3 HB3.out H03.out (by omega) (by omega)).mono ?_
    rintro e w4 ⟨rfl, n, rfl⟩
    rw [← HA.out]
    go_wp2_with fail
    go_ret
    exact ⟨rfl, Below.drewN HBl3.out n⟩

/-- the reference's Split -/
def spM (b : Nat) : Nat := if b / 4503599627370496 % 2048 = 0 then b % 4503599627370496 else b % 4503599627370496 + 4503599627370496
def spE (b : Nat) : Int := if b / 4503599627370496 % 2048 = 0 then -1074 else (b / 4503599627370496 % 2048 : Nat) - 1075
def SpPost (b : Nat) (w : World) (e : Ending) (w' : World) : Prop := e = .returned (.tuple #[.int .u64 (spM b : Int), .int .i64 (spE b)]) ∧ w = w'
theorem and_low (b k : Nat) (hb : b < 18446744073709551616) (hk : k ≤ 63) : bits .and .u64 (b : Int) ((2 ^ k - 1 : Nat) : Int) = ((b % 2 ^ k : Nat) : Int) := by
  have h1 : 2 ^ k ≤ 2 ^ 63 := Nat.pow_le_pow_right (by decide) hk
  rw [u64_and_nat b (2 ^ k - 1) hb (by have : (2 : Nat) ^ 63 = 9223372036854775808 := by decide
                                       omega), Nat.and_two_pow_sub_one_eq_mod]
theorem or_join (x y k : Nat) (hx : x < 18446744073709551616) (hy : y < 18446744073709551616) (h1 : x % 2 ^ k = 0) (h2 : y < 2 ^ k) : bits .or .u64 (x : Int) (y : Int) = ((x + y : Nat) : Int) := by
  rw [u64_or_nat x y hx hy, nat_join k x y h1 h2]
theorem or_join' (x y k : Nat) (hx : x < 18446744073709551616) (hy : y < 18446744073709551616) (h1 : x % 2 ^ k = 0) (h2 : y < 2 ^ k) : bits .or .u64 (y : Int) (x : Int) = ((y + x : Nat) : Int) := by
  rw [u64_or_nat y x hy hx, Nat.or_comm, nat_join k x y h1 h2, Nat.add_comm]
theorem split_any (b : Nat) (w : World) (hb : b < 18446744073709551616) : Calls Try.prog 16 #[.int .u64 (b : Int)] w (SpPost b w) := by
  obtain ⟨f, hf⟩ : ∃ f, b % 4503599627370496 = f := ⟨_, rfl⟩
  obtain ⟨q, hq⟩ : ∃ q, b / 4503599627370496 % 2048 = q := ⟨_, rfl⟩
  have h1 : bits .and .u64 (b : Int) 4503599627370495 = (f : Int) := by
    rw [← hf]; exact and_low b 52 hb (by decide)
  have h2 : bits .and .u64 ((b : Int) / 4503599627370496) 2047 = (q : Int) := by
    rw [← hq]; exact and_low (b / 4503599627370496) 11 (by omega) (by decide)
  have h3 : bits .or .u64 (f : Int) 4503599627370496 = ((f : Int) + 4503599627370496) := by
    have := or_join' 4503599627370496 f 52 (by decide) (by omega) (by decide) (by omega)
    rw [Int.natCast_add] at this
    exact this
  have hfb : f < 4503599627370496 := by omega
  have hqb : q < 2048 := by omega
  unfold SpPost spM spE
  rw [hf, hq]
  have HF := Lib.hid hf
  have HQ := Lib.hid hq
  clear hf hq
  by_cases h0 : q = 0
  · have d0 : ((q : Int) == 0) = true := by simp; omega
    rw [if_pos h0, if_pos h0]
    clear h0
    go_enter Try.func16, Try.ntmps16
    go_wp2_with fail
    go_ret2
    exact ⟨rfl, rfl⟩
  · have d0 : ((q : Int) == 0) = false := by simp; omega
    rw [if_neg h0, if_neg h0]
    clear h0
    go_enter Try.func16, Try.ntmps16
    go_wp2_with fail
    go_ret2
    exact ⟨by simp, rfl⟩

/-! ### bits -/
theorem ordN_scale (a b c : Nat) (hc : 0 < c) : ordN (a * c) (b * c) = ordN a b := by
  unfold ordN
  simp only [Nat.mul_lt_mul_right hc]
theorem agV_at (T B m s : Nat) (e : Int) (h : -(s : Int) ≤ e) : agV T B m e = ordN (T * 2 ^ s) (B * (m * 2 ^ (e + s).toNat)) := by
  unfold agV
  rw [← ordN_scale _ _ (2 ^ (s - (-e).toNat)) (pow_pos' _)]
  congr 1
  · rw [Nat.mul_assoc, ← Nat.pow_add]
    congr 2
    omega
  · rw [Nat.mul_assoc, Nat.mul_assoc, ← Nat.pow_add]
    congr 3
    omega
theorem V_sp {r : Nat} (h : r < 9218868437227405312) : V r = spM r * 2 ^ (spE r + 1074).toNat := by
  unfold V spM spE
  have e1 : r / 4503599627370496 % 2048 = r / 4503599627370496 := by omega
  rw [e1]
  by_cases h1 : r < 4503599627370496
  · have e2 : r / 4503599627370496 = 0 := by omega
    rw [if_pos h1, if_pos e2, if_pos e2]
    have e3 : r % 4503599627370496 = r := by omega
    rw [e3]
    simp
  · have e2 : ¬ r / 4503599627370496 = 0 := by omega
    rw [if_neg h1, if_neg e2, if_neg e2, Nat.add_comm]
    congr 2
    omega
theorem V_next {r : Nat} (h : r < 9218868437227405312) : V r + V (r + 1) = (2 * spM r + 1) * 2 ^ (spE r + 1074).toNat := by
  have h0 := V_sp h
  rcases form r with h1 | ⟨j, K, rfl, h1, h2⟩
  · have e1 : (spE r + 1074).toNat = 0 := by
      unfold spE
      rw [if_pos (by omega)]
      rfl
    rw [e1] at h0 ⊢
    rw [V_small (r := r + 1) (by omega), V_small (r := r) (by omega)]
    rw [V_small (r := r) (by omega)] at h0
    omega
  · have e1 : (spE (j * 4503599627370496 + K) + 1074).toNat = j := by
      unfold spE
      have : (j * 4503599627370496 + K) / 4503599627370496 % 2048 = j + 1 := by omega
      rw [if_neg (by omega), this]
      omega
    have e2 : spM (j * 4503599627370496 + K) = K := by
      unfold spM
      have : (j * 4503599627370496 + K) / 4503599627370496 % 2048 = j + 1 := by omega
      rw [if_neg (by omega)]
      omega
    rw [e1, e2, V_at j K h1 (by omega), Nat.add_assoc (j * 4503599627370496), V_at j (K + 1) (by omega) (by omega), ← Nat.add_mul]
    congr 1
    omega
theorem sp_odd (r : Nat) : spM r % 2 = r % 2 := by
  unfold spM
  split <;> omega
theorem spM_lt (r : Nat) : spM r < 9007199254740992 := by
  unfold spM
  split <;> omega
theorem spE_bd {r : Nat} (h : r < 9218868437227405312) : -1074 ≤ spE r ∧ spE r ≤ 971 := by
  unfold spE
  have : r / 4503599627370496 % 2048 ≤ 2046 := by omega
  split <;> omega

/-- the search's state -/
def BiSt (X B lo hi : Nat) : Prop := lo ≤ hi ∧ hi ≤ 9218868437227405311 ∧ B * V lo ≤ X ∧ (hi = 9218868437227405311 ∨ X < B * V (hi + 1))
theorem bi_start (X B : Nat) : BiSt X B 0 9218868437227405311 := ⟨by omega, by omega, by rw [V_small (by omega)]; omega, .inl rfl⟩
theorem bi_up {X B lo hi mid : Nat} (h : BiSt X B lo hi) (h1 : mid ≤ hi) (h3 : ordN X (B * V mid) ≥ 0) : BiSt X B mid hi := by
  obtain ⟨a, b, c, d⟩ := h
  refine ⟨h1, b, ?_, d⟩
  unfold ordN at h3
  by_cases hx : X < B * V mid
  · rw [if_pos hx] at h3; omega
  · omega
theorem bi_down {X B lo hi mid : Nat} (h : BiSt X B lo hi) (h1 : lo < mid) (h2 : mid ≤ hi) (h3 : ¬ ordN X (B * V mid) ≥ 0) : BiSt X B lo (mid - 1) := by
  obtain ⟨a, b, c, d⟩ := h
  refine ⟨by omega, by omega, c, .inr ?_⟩
  rw [show mid - 1 + 1 = mid by omega]
  unfold ordN at h3
  by_cases hx : X < B * V mid
  · exact hx
  · rw [if_neg hx] at h3
    split at h3 <;> omega
/-- the nearest, from the greatest that is not above -/
def biRound (X B lo : Nat) : Nat := if ordN (2 * X) (B * (V lo + V (lo + 1))) > 0 ∨ (ordN (2 * X) (B * (V lo + V (lo + 1))) = 0 ∧ lo % 2 = 1) then lo + 1 else lo
theorem bi_near {X B lo : Nat} (hB : 0 < B) (h : BiSt X B lo lo) : Near X B (biRound X B lo) ∧ biRound X B lo ≤ 9218868437227405312 := by
  obtain ⟨_, hm, hle, hgt⟩ := h
  have hs := V_succ lo
  have hs2 := V_succ (lo + 1)
  have q1 : B * (V lo + V (lo + 1)) < B * (V (lo + 1) + V (lo + 1 + 1)) := (Nat.mul_lt_mul_left hB).2 (by omega)
  have q2 : B * V lo + B * V lo < B * (V lo + V (lo + 1)) := by rw [← Nat.mul_add]; exact (Nat.mul_lt_mul_left hB).2 (by omega)
  have q3 : B * (V lo + V (lo + 1)) < B * V (lo + 1) + B * V (lo + 1) := by rw [← Nat.mul_add]; exact (Nat.mul_lt_mul_left hB).2 (by omega)
  have q4 : B * V (lo + 1) + B * V (lo + 1) < B * (V (lo + 1) + V (lo + 1 + 1)) := by rw [← Nat.mul_add]; exact (Nat.mul_lt_mul_left hB).2 (by omega)
  unfold biRound
  by_cases hc : ordN (2 * X) (B * (V lo + V (lo + 1))) > 0 ∨ (ordN (2 * X) (B * (V lo + V (lo + 1))) = 0 ∧ lo % 2 = 1)
  · rw [if_pos hc]
    unfold ordN at hc
    refine ⟨⟨by omega, .inr ?_, ?_⟩, by omega⟩
    · rw [Nat.add_sub_cancel]
      by_cases hx : 2 * X < B * (V lo + V (lo + 1))
      · rw [if_pos hx] at hc; omega
      · by_cases hy : B * (V lo + V (lo + 1)) < 2 * X
        · exact .inl hy
        · rw [if_neg hx, if_neg hy] at hc
          exact .inr ⟨by omega, by omega⟩
    · rcases hgt with hgt | hgt
      · exact .inl (by omega)
      · exact .inr (.inl (by omega))
  · rw [if_neg hc]
    unfold ordN at hc
    refine ⟨⟨by omega, ?_, .inr ?_⟩, by omega⟩
    · by_cases h0 : lo = 0
      · exact .inl h0
      · have hp := V_succ (lo - 1)
        rw [show lo - 1 + 1 = lo by omega] at hp
        have q5 : B * (V (lo - 1) + V lo) < B * V lo + B * V lo := by rw [← Nat.mul_add]; exact (Nat.mul_lt_mul_left hB).2 (by omega)
        exact .inr (.inl (by omega))
    · by_cases hx : 2 * X < B * (V lo + V (lo + 1))
      · exact .inl hx
      · by_cases hy : B * (V lo + V (lo + 1)) < 2 * X
        · rw [if_neg hx, if_pos hy] at hc; omega
        · rw [if_neg hx, if_neg hy] at hc
          exact .inr ⟨by omega, by omega⟩

def BitsPost (X B : Nat) (w : World) (e : Ending) (w' : World) : Prop := ∃ r, e = .returned (.tuple #[.int .u64 ((r : Nat) : Int), .bool (decide (r < 9218868437227405312))]) ∧ Near X B r ∧ Below w.heap.size w w'
/-- the call's state between two rounds -/
def BtSt (w : World) (v0 v1 : Value) (T B lo hi : Nat) (wr : World) : Prop :=
  BiSt (T * 2 ^ 1074) B lo hi ∧ Below w.heap.size w wr ∧ Bn wr wr.heap.size v0 T ∧ Bn wr wr.heap.size v1 B ∧ wr.cell? ⟨w.heap.size, 0, none⟩ = some v0 ∧ wr.cell? ⟨w.heap.size, 1, none⟩ = some v1 ∧ w.heap.size < wr.heap.size
theorem BtSt.call {w wr w2 : World} {v0 v1 : Value} {T B lo hi : Nat} (h : BtSt w v0 v1 T B lo hi wr) (hb : Below wr.heap.size wr w2) : BtSt w v0 v1 T B lo hi w2 := by
  obtain ⟨h1, h2, h3, h4, h5, h6, h7⟩ := h
  have hs := hb.size
  exact ⟨h1, h2.trans (hb.mono (by omega)), (h3.below hb).more hs, (h4.below hb).more hs, (hb.cell (p := ⟨w.heap.size, 0, none⟩) h7).trans h5, (hb.cell (p := ⟨w.heap.size, 1, none⟩) h7).trans h6, by omega⟩
theorem BtSt.go {w wr : World} {v0 v1 : Value} {T B lo hi lo' hi' : Nat} (h : BtSt w v0 v1 T B lo hi wr) (h1 : BiSt (T * 2 ^ 1074) B lo' hi') : BtSt w v0 v1 T B lo' hi' wr := ⟨h1, h.2⟩

set_option maxRecDepth 100000 in
set_option maxHeartbeats 4000000 in
theorem bits_any (v0 v1 : Value) (T B : Nat) (w : World) (h0 : Bn w w.heap.size v0 T) (h1 : Bn w w.heap.size v1 B) (hT : (wd T).length ≤ 100000) (hB : (wd B).length ≤ 100000) (hBp : 0 < B) :
    Calls Try.prog 24 #[.agg #[v0, v1]] w (BitsPost (T * 2 ^ 1074) B w) := by
  obtain ⟨X, hX⟩ : ∃ X, T * 2 ^ 1074 = X := ⟨_, rfl⟩
  rewrite [hX]
  have HX := Lib.hid hX
  clear hX
  obtain ⟨A0, n0, c0, rfl, H0⟩ := bn_form h0
  obtain ⟨A1, n1, c1, rfl, H1⟩ := bn_form h1
  clear h0 h1
  have hst : BtSt w (.slice A0 n0 c0) (.slice A1 n1 c1) T B 0 9218868437227405311 (w.alloc (.cells #[.slice A0 n0 c0, .slice A1 n1 c1] 51)) := by
    refine ⟨bi_start _ _, (Below.refl _ _).alloc (Nat.le_refl _) _, H0.out.alloc _, H1.out.alloc _, ?_, ?_, by simp⟩
    · exact (box_cell (Below.refl (w.heap.size + 1) _) rfl (by simp) 0)
    · exact (box_cell (Below.refl (w.heap.size + 1) _) rfl (by simp) 1)
  have HSt := Lib.hid hst
  clear hst
  go_enter Try.func24, Try.ntmps24
  go_wp2_with fail
  go_loopw [4, 5] (fun v4 v5 wr => ∃ (lo hi : Nat), lo ≤ hi ∧ hi ≤ 9218868437227405311 ∧ v4 = .int .u64 (lo : Int) ∧ v5 = .int .u64 (hi : Int) ∧ Hid (BtSt w (.slice A0 n0 c0) (.slice A1 n1 c1) T B lo hi wr)) (fun v4 v5 _ => (intOf v5 - intOf v4).toNat)
  case atStart => exact ⟨0, 9218868437227405311, by omega, by omega, rfl, rfl, HSt⟩
  case round =>
    clear HSt
    obtain ⟨lo, hi, hlh, hhi, rfl, rfl, hst⟩ := hrel
    by_cases hlt : lo < hi
    · obtain ⟨mid, hmid⟩ : ∃ mid, lo + (hi - lo + 1) / 2 = mid := ⟨_, rfl⟩
      have hm1 : lo < mid := by omega
      have hm2 : mid ≤ hi := by omega
      have hmi : (lo : Int) + ((hi : Int) - (lo : Int) + 1) / 2 = (mid : Int) := by omega
      have HSt := Lib.hid hst.out
      have hlo0 : (lo : Int) ≤ (hi : Int) := by omega
      clear hst hmid
      have hE := spE_bd (r := mid) (by omega)
      have hM := spM_lt mid
      have hag := agV_at T B (spM mid) 1074 (spE mid) (by omega)
      have hVs := V_sp (r := mid) (by omega)
      have e3 : spE mid + ((1074 : Nat) : Int) = spE mid + 1074 := rfl
      rw [e3, ← hVs] at hag
      have HA := Lib.hid hag
      clear hag hVs e3
      go_wp2_with fail
      refine (split_any mid wr (by omega)).mono ?_
      rintro e w' ⟨rfl, rfl⟩
      obtain ⟨m, hm⟩ : ∃ m, spM mid = m := ⟨_, rfl⟩
      obtain ⟨x, hx⟩ : ∃ x, spE mid = x := ⟨_, rfl⟩
      rw [hm] at hM HA ⊢
      rw [hx] at hE HA ⊢
      clear hm hx
      obtain ⟨q1, q2, q3, q4, q5, q6, q7⟩ := HSt.out
      have Q3 := Lib.hid q3
      have Q4 := Lib.hid q4
      clear q1 q2 q3 q4
      go_wp2_with fail
      refine (against_any _ _ T B m x wr Q3.out Q4.out (by omega) (by omega) (by omega) (by omega) (by omega)).mono ?_
      rintro e w2 ⟨rfl, hb2⟩
      have HS2 := Lib.hid (HSt.out.call hb2)
      clear hb2 q5 q6 q7 Q3 Q4 HSt
      obtain ⟨c, hc⟩ : ∃ c, agV T B m x = c := ⟨_, rfl⟩
      rw [hc] at HA ⊢
      have HC := Lib.hid HA.out
      clear hc HA
      by_cases hc0 : 0 ≤ c
      · have hn := Lib.hid (HS2.out.go (bi_up HS2.out.1 hm2 (by rw [← HC.out]; exact hc0)))
        go_wp2_with fail
        exact ⟨⟨mid, hi, by omega, by omega, rfl, rfl, hn⟩, by simp [intOf]; omega⟩
      · have hn := Lib.hid (HS2.out.go (bi_down HS2.out.1 hm1 hm2 (by rw [← HC.out]; exact hc0)))
        go_wp2_with fail
        exact ⟨⟨lo, mid - 1, by omega, by omega, rfl, by congr 1; omega, hn⟩, by simp [intOf]; omega⟩
    · obtain rfl : lo = hi := by omega
      have HSt := Lib.hid hst.out
      clear hst
      have hE := spE_bd (r := lo) (by omega)
      have hM := spM_lt lo
      have hag := agV_at T B (2 * spM lo + 1) 1075 (spE lo - 1) (by omega)
      have hVs := V_next (r := lo) (by omega)
      have e3 : spE lo - 1 + ((1075 : Nat) : Int) = spE lo + 1074 := by omega
      rw [e3, ← hVs] at hag
      have h2X : T * 2 ^ 1075 = 2 * (T * 2 ^ 1074) := p2dbl T 1074 1075 (by omega)
      rw [h2X] at hag
      have HA := Lib.hid hag
      have hodd := sp_odd lo
      clear hag hVs e3 h2X
      go_wp2_with fail
      refine (split_any lo wr (by omega)).mono ?_
      rintro e w' ⟨rfl, rfl⟩
      obtain ⟨m, hm⟩ : ∃ m, spM lo = m := ⟨_, rfl⟩
      obtain ⟨x, hx⟩ : ∃ x, spE lo = x := ⟨_, rfl⟩
      rw [hm] at hM HA hodd ⊢
      rw [hx] at hE HA ⊢
      clear hm hx
      obtain ⟨q1, q2, q3, q4, q5, q6, q7⟩ := HSt.out
      have Q3 := Lib.hid q3
      have Q4 := Lib.hid q4
      have hfin := bi_near hBp q1
      have HN := Lib.hid hfin.1
      have hr2 := hfin.2
      clear q1 q2 q3 q4 hfin
      have hm2 : 2 * (m : Int) + 1 = ((2 * m + 1 : Nat) : Int) := by omega
      have HM2 := Lib.hid hm2
      have HOd := Lib.hid hodd
      clear hm2 hodd
      go_wp2_with fail
      rw [HM2.out]
      refine (against_any _ _ T B (2 * m + 1) (x - 1) wr Q3.out Q4.out (by omega) (by omega) (by omega) (by omega) (by omega)).mono ?_
      rintro e w2 ⟨rfl, hb2⟩
      have HS2 := Lib.hid (HSt.out.call hb2)
      clear hb2 q5 q6 q7 Q3 Q4 HSt HM2
      obtain ⟨c, hc⟩ : ∃ c, agV T B (2 * m + 1) (x - 1) = c := ⟨_, rfl⟩
      rw [hc] at HA ⊢
      clear hc
      have hround : biRound (T * 2 ^ 1074) B lo = if c > 0 ∨ (c = 0 ∧ m % 2 = 1) then lo + 1 else lo := by
        unfold biRound
        rw [← HA.out, HOd.out]
      have HRo := Lib.hid hround
      rw [hround] at HN hr2
      clear hround HA HOd
      by_cases hc1 : 0 < c
      · rw [if_pos (.inl hc1)] at HN hr2
        go_wp2_with fail
        go_ret2
        exact ⟨lo + 1, by simp; omega, by rewrite [← HX.out]; exact HN.out, HS2.out.2.1⟩
      · by_cases hc2 : c = 0 ∧ m % 2 = 1
        · obtain ⟨rfl, hmo⟩ := hc2
          rw [if_pos (.inr ⟨rfl, hmo⟩)] at HN hr2
          have d1 : ((m : Int) % 2 == 1) = true := by simp; omega
          go_wp2_with fail
          go_ret2
          exact ⟨lo + 1, by simp; omega, by rewrite [← HX.out]; exact HN.out, HS2.out.2.1⟩
        · rw [if_neg (by omega)] at HN hr2
          by_cases hc3 : c = 0
          · subst hc3
            have d1 : ((m : Int) % 2 == 1) = false := by simp; omega
            go_wp2_with fail
            go_ret2
            exact ⟨lo, by simp; omega, by rewrite [← HX.out]; exact HN.out, HS2.out.2.1⟩
          · have d1 : (c == 0) = false := by simp; omega
            go_wp2_with fail
            go_ret2
            exact ⟨lo, by simp; omega, by rewrite [← HX.out]; exact HN.out, HS2.out.2.1⟩
end Go.Proofs.Ytlkeemphdocpoaa.big
