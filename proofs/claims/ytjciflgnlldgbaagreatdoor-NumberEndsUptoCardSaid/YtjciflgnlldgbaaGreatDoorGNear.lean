/- PLAIN LEAN: the floats' magnitudes as whole numbers (in units of the least one), and what it is to be the float nearest to a fraction. The reference's whole numbers: ten, dec, against, Split. The reference's floats by whole numbers: against, Split, bits. -/
import Ieee.Word
import Derived.Test.YtjciflgnlldgbaaGreatDoorGMem
import Derived.Deep.Cut
import Derived.Laws.BitsAllLaws
section
set_option linter.unusedVariables false
namespace Go.Proofs.YtjciflgnlldgbaaGreatDoor.fl

/-- the magnitude of the float with the bits r (without sign), in units of 2^-1074 -/
def V (r : Nat) : Nat := if r < 4503599627370496 then r else (4503599627370496 + r % 4503599627370496) * 2 ^ (r / 4503599627370496 - 1)

theorem pow_pos' (k : Nat) : 0 < 2 ^ k := Nat.two_pow_pos k

theorem p2eq (a b : Nat) (h : a = b) : 2 ^ a = 2 ^ b := by rw [h]
theorem p2mul (a b c d : Nat) (h : a + b = c + d) : 2 ^ a * 2 ^ b = 2 ^ c * 2 ^ d := by rw [← Nat.pow_add, ← Nat.pow_add, h]
theorem p2twice (a b P : Nat) (h : b = a + 1) : 2 ^ b * P = 2 ^ a * P + 2 ^ a * P := by
  subst h
  rw [Nat.pow_succ, Nat.mul_two, Nat.add_mul]
theorem p2dbl (T a b : Nat) (h : b = a + 1) : T * 2 ^ b = 2 * (T * 2 ^ a) := by
  subst h
  rw [Nat.pow_succ, Nat.mul_comm (2 ^ a) 2, Nat.mul_left_comm]
theorem p10le (a b c : Nat) (h : a + b ≤ c) : 10 ^ a * 10 ^ b ≤ 10 ^ c := by rw [← Nat.pow_add]; exact Nat.pow_le_pow_right (by decide) h
theorem p2split (j s : Nat) (h : s ≤ j) : 2 ^ j = 2 ^ (j - s) * 2 ^ s := by
  rw [← Nat.pow_add]
  congr 1
  omega
theorem p2mulc (c a b d : Nat) (h : a + b = d) : c * 2 ^ a * 2 ^ b = c * 2 ^ d := by rw [Nat.mul_assoc, ← Nat.pow_add, h]
theorem mlt (a b P : Nat) (h : a < b) (hP : 0 < P) : a * P < b * P := (Nat.mul_lt_mul_right hP).2 h
theorem mle (a b P : Nat) (h : a ≤ b) : a * P ≤ b * P := Nat.mul_le_mul_right P h
theorem lem (a b P : Nat) (hP : 0 < P) (h : a * P ≤ b * P) : a ≤ b := Nat.le_of_mul_le_mul_right h hP
theorem p10mul (a b c d : Nat) (h : a + b ≤ c + d) : 10 ^ a * 10 ^ b ≤ 10 ^ c * 10 ^ d := by rw [← Nat.pow_add, ← Nat.pow_add]; exact Nat.pow_le_pow_right (by decide) h
theorem cut_core (v P : Nat) (hP : 0 < P) (hz : ¬ v % P = 0) : v / P * P < v ∧ v < (v / P + 1) * P := by
  have hm := Nat.div_add_mod v P
  have hl := Nat.mod_lt v hP
  rw [Nat.mul_comm] at hm
  rw [Nat.add_mul, Nat.one_mul]
  exact ⟨by omega, by omega⟩
theorem lt_core (v Q C P : Nat) (hd : v = Q * P) (hr : v < C * P) : Q < C := by
  rw [hd] at hr
  exact Nat.lt_of_mul_lt_mul_right hr
theorem great_le (B D F P T : Nat) (h1 : F ≤ T) (h2 : B * T ≤ D) : B * (F * P) ≤ D * P := by
  rw [← Nat.mul_assoc]
  exact Nat.mul_le_mul_right _ (Nat.le_trans (Nat.mul_le_mul_left _ h1) h2)
theorem ltm (a b P : Nat) (h : a * P < b * P) : a < b := Nat.lt_of_mul_lt_mul_right h
theorem p2shift (m : Nat) (x : Int) (s : Nat) (hx : 0 ≤ x) : m * 2 ^ (x + (s : Int)).toNat = m * 2 ^ x.toNat * 2 ^ s := by
  rw [Nat.mul_assoc, ← Nat.pow_add]
  congr 2
  omega
theorem V_small {r : Nat} (h : r ≤ 9007199254740992) : V r = r := by
  unfold V
  by_cases h1 : r < 4503599627370496
  · rw [if_pos h1]
  · rw [if_neg h1]
    by_cases h2 : r = 9007199254740992
    · subst h2; rfl
    · have e : r / 4503599627370496 = 1 := by omega
      rw [e]
      omega
/-- a rung by its binade and its place in it; the place may be one too many -/
theorem V_at (j K : Nat) (h1 : 4503599627370496 ≤ K) (h2 : K ≤ 9007199254740992) : V (j * 4503599627370496 + K) = K * 2 ^ j := by
  unfold V
  rw [if_neg (by omega)]
  by_cases h3 : K = 9007199254740992
  · subst h3
    have e1 : (j * 4503599627370496 + 9007199254740992) % 4503599627370496 = 0 := by omega
    have e2 : (j * 4503599627370496 + 9007199254740992) / 4503599627370496 - 1 = j + 1 := by omega
    rw [e1, e2, Nat.pow_succ]
    omega
  · have e1 : 4503599627370496 + (j * 4503599627370496 + K) % 4503599627370496 = K := by omega
    have e2 : (j * 4503599627370496 + K) / 4503599627370496 - 1 = j := by omega
    rw [e1, e2]
/-- every rung is of one of two forms -/
theorem form (r : Nat) : r < 4503599627370496 ∨ ∃ j K, r = j * 4503599627370496 + K ∧ 4503599627370496 ≤ K ∧ K < 9007199254740992 := by
  by_cases h : r < 4503599627370496
  · exact .inl h
  · exact .inr ⟨r / 4503599627370496 - 1, 4503599627370496 + r % 4503599627370496, by omega, by omega, by omega⟩
theorem V_succ (r : Nat) : V r < V (r + 1) := by
  rcases form r with h | ⟨j, K, rfl, h1, h2⟩
  · rw [V_small (by omega), V_small (by omega)]; omega
  · rw [V_at j K h1 (by omega), Nat.add_assoc, V_at j (K + 1) (by omega) (by omega)]
    exact (Nat.mul_lt_mul_right (pow_pos' j)).2 (by omega)
theorem V_mono {r s : Nat} (h : r < s) : V r < V s := by
  induction s with
  | zero => omega
  | succ s ih =>
    by_cases e : r = s
    · subst e; exact V_succ r
    · exact Nat.lt_trans (ih (by omega)) (V_succ s)
theorem V_le {r s : Nat} (h : r ≤ s) : V r ≤ V s := by
  by_cases e : r = s
  · subst e; exact Nat.le_refl _
  · exact Nat.le_of_lt (V_mono (by omega))
theorem V_inj {r s : Nat} (h : V r = V s) : r = s := by
  by_cases h1 : r < s
  · have := V_mono h1; omega
  · by_cases h2 : s < r
    · have := V_mono h2; omega
    · omega

/-- the rung r is the nearest to X / B, no rung being the last -/
def Near0 (X B r : Nat) : Prop :=
  (r = 0 ∨ B * (V (r - 1) + V r) < 2 * X ∨ (B * (V (r - 1) + V r) = 2 * X ∧ r % 2 = 0)) ∧
  (2 * X < B * (V r + V (r + 1)) ∨ (2 * X = B * (V r + V (r + 1)) ∧ r % 2 = 0))
/-- the same, where all from the infinite one on are one -/
def Near (X B r : Nat) : Prop :=
  r ≤ 9218868437227405312 ∧
  (r = 0 ∨ B * (V (r - 1) + V r) < 2 * X ∨ (B * (V (r - 1) + V r) = 2 * X ∧ r % 2 = 0)) ∧
  (r = 9218868437227405312 ∨ 2 * X < B * (V r + V (r + 1)) ∨ (2 * X = B * (V r + V (r + 1)) ∧ r % 2 = 0))

theorem Near0.near {X B r : Nat} (h : Near0 X B r) (hB : 0 < B) : Near X B (min r 9218868437227405312) := by
  obtain ⟨h1, h2⟩ := h
  by_cases hr : r ≤ 9218868437227405312
  · rw [Nat.min_eq_left hr]
    exact ⟨hr, h1, .inr h2⟩
  · rw [Nat.min_eq_right (by omega)]
    refine ⟨Nat.le_refl _, .inr (.inl ?_), .inl rfl⟩
    have a1 : V (9218868437227405312 - 1) < V (r - 1) := V_mono (by omega)
    have a2 : V 9218868437227405312 < V r := V_mono (by omega)
    have a3 : B * (V (9218868437227405312 - 1) + V 9218868437227405312) < B * (V (r - 1) + V r) := (Nat.mul_lt_mul_left hB).2 (by omega)
    rcases h1 with h1 | h1 | ⟨h1, _⟩ <;> omega
theorem Near.lt_absurd {X B r s : Nat} (hr : Near X B r) (hs : Near X B s) (hB : 0 < B) (h : r < s) : False := by
  obtain ⟨_, _, r3⟩ := hr
  obtain ⟨s1, s2, _⟩ := hs
  have a1 : V r ≤ V (s - 1) := V_le (by omega)
  have a2 : V (r + 1) ≤ V s := V_le (by omega)
  have a3 : B * (V r + V (r + 1)) ≤ B * (V (s - 1) + V s) := Nat.mul_le_mul_left B (by omega)
  by_cases e : s = r + 1
  · rcases r3 with r3 | r3 | ⟨r3, r4⟩ <;> rcases s2 with s2 | s2 | ⟨s2, s4⟩ <;> omega
  · have a4 : V r < V (s - 1) := V_mono (by omega)
    have a5 : B * (V r + V (r + 1)) < B * (V (s - 1) + V s) := (Nat.mul_lt_mul_left hB).2 (by omega)
    rcases r3 with r3 | r3 | ⟨r3, r4⟩ <;> rcases s2 with s2 | s2 | ⟨s2, s4⟩ <;> omega
theorem Near.unique {X B r s : Nat} (hr : Near X B r) (hs : Near X B s) (hB : 0 < B) : r = s := by
  by_cases h : r < s
  · exact (hr.lt_absurd hs hB h).elim
  · by_cases h2 : s < r
    · exact (hs.lt_absurd hr hB h2).elim
    · omega
theorem Near.scale {X B r : Nat} (h : Near X B r) (c : Nat) (hc : 0 < c) : Near (X * c) (B * c) r := by
  obtain ⟨h1, h2, h3⟩ := h
  have e : ∀ Y, B * c * Y = B * Y * c := fun Y => by rw [Nat.mul_right_comm]
  have l : ∀ a b : Nat, a < b → a * c < b * c := fun a b h => (Nat.mul_lt_mul_right hc).2 h
  refine ⟨h1, ?_, ?_⟩
  · rw [e, ← Nat.mul_assoc]
    rcases h2 with h2 | h2 | ⟨h2, h4⟩
    · exact .inl h2
    · exact .inr (.inl (l _ _ h2))
    · exact .inr (.inr ⟨by rw [h2], h4⟩)
  · rw [e, ← Nat.mul_assoc]
    rcases h3 with h3 | h3 | ⟨h3, h4⟩
    · exact .inl h3
    · exact .inr (.inl (l _ _ h3))
    · exact .inr (.inr ⟨by rw [h3], h4⟩)
theorem Near.unscale {X B r c : Nat} (h : Near (X * c) (B * c) r) (hc : 0 < c) : Near X B r := by
  obtain ⟨h1, h2, h3⟩ := h
  have e : ∀ Y, B * c * Y = B * Y * c := fun Y => by rw [Nat.mul_right_comm]
  have l : ∀ a b : Nat, a * c < b * c → a < b := fun a b h => (Nat.mul_lt_mul_right hc).1 h
  have q : ∀ a b : Nat, a * c = b * c → a = b := fun a b h => Nat.eq_of_mul_eq_mul_right hc h
  refine ⟨h1, ?_, ?_⟩
  · rw [e, ← Nat.mul_assoc] at h2
    rcases h2 with h2 | h2 | ⟨h2, h4⟩
    · exact .inl h2
    · exact .inr (.inl (l _ _ h2))
    · exact .inr (.inr ⟨q _ _ h2, h4⟩)
  · rw [e, ← Nat.mul_assoc] at h3
    rcases h3 with h3 | h3 | ⟨h3, h4⟩
    · exact .inl h3
    · exact .inr (.inl (l _ _ h3))
    · exact .inr (.inr ⟨q _ _ h3, h4⟩)

/-! ### the model's rounding -/
/-- K is n / D rounded, a half to the even one -/
def Half (n D K : Nat) : Prop := (2 * K * D < 2 * n + D ∨ (2 * K * D = 2 * n + D ∧ K % 2 = 0)) ∧ (2 * n < (2 * K + 1) * D ∨ (2 * n = (2 * K + 1) * D ∧ K % 2 = 0))

theorem half_lin (G q s n p K : Nat) (hp : q * G = p) (hd : p + s = n) (hm : s < G) (hK : K = q + (decide (G < 2 * s) || (G == 2 * s && q % 2 == 1)).toNat) : Half n G K := by
  have e1 : 2 * q * G = 2 * p := by rw [Nat.mul_assoc, hp]
  have e2 : (2 * q + 1) * G = 2 * p + G := by rw [Nat.add_mul, e1, Nat.one_mul]
  have e3 : 2 * (q + 1) * G = 2 * p + 2 * G := by rw [Nat.mul_add, Nat.add_mul, e1]
  have e4 : (2 * (q + 1) + 1) * G = 2 * p + 3 * G := by rw [Nat.add_mul, e3]; omega
  unfold Half
  by_cases h1 : G < 2 * s
  · have : (decide (G < 2 * s) || (G == 2 * s && q % 2 == 1)) = true := by simp [h1]
    rw [this] at hK
    simp only [Bool.toNat_true] at hK
    subst hK
    rw [e3, e4]
    clear e1 e2 e3 e4 this hp
    omega
  · by_cases h2 : G = 2 * s
    · by_cases h3 : q % 2 = 1
      · have : (decide (G < 2 * s) || (G == 2 * s && q % 2 == 1)) = true := by simp [h2, h3]
        rw [this] at hK
        simp only [Bool.toNat_true] at hK
        subst hK
        rw [e3, e4]
        clear e1 e2 e3 e4 this hp
        omega
      · have : (decide (G < 2 * s) || (G == 2 * s && q % 2 == 1)) = false := by simp [h1, h3]
        rw [this] at hK
        simp only [Bool.toNat_false, Nat.add_zero] at hK
        subst hK
        rw [e1, e2]
        clear e1 e2 e3 e4 this hp
        omega
    · have : (decide (G < 2 * s) || (G == 2 * s && q % 2 == 1)) = false := by simp [h1, h2]
      rw [this] at hK
      simp only [Bool.toNat_false, Nat.add_zero] at hK
      subst hK
      rw [e1, e2]
      clear e1 e2 e3 e4 this hp
      omega
theorem half_cut (n G : Nat) (hG : 0 < G) : Half n G (n / G + (decide (G < 2 * (n % G)) || (G == 2 * (n % G) && (n / G) % 2 == 1)).toNat) :=
  half_lin G (n / G) (n % G) n _ _ rfl (by rw [Nat.mul_comm]; exact Nat.div_add_mod n G) (Nat.mod_lt n hG) rfl
theorem cut_half (n d : Nat) (neg : Bool) : Half n (2 ^ d) (Ieee.Toward.even.cut neg n d) := by
  unfold Ieee.Toward.cut
  simp only [Nat.shiftLeft_eq, Nat.one_mul]
  by_cases h : d ≤ n.log2 + 2
  · rw [Nat.min_eq_left h]
    exact half_cut n _ (pow_pos' d)
  · rw [Nat.min_eq_right (by omega)]
    have hl : n < 2 ^ (n.log2 + 1) := Nat.lt_log2_self
    have hz : 2 ^ (n.log2 + 2) = 2 * 2 ^ (n.log2 + 1) := by rw [show n.log2 + 2 = n.log2 + 1 + 1 from rfl, Nat.pow_succ]; omega
    have hd : 2 ^ (n.log2 + 2) ≤ 2 ^ d := Nat.pow_le_pow_right (by omega) (by omega)
    have e1 : n / 2 ^ (n.log2 + 2) = 0 := Nat.div_eq_of_lt (by omega)
    have e2 : n % 2 ^ (n.log2 + 2) = n := Nat.mod_eq_of_lt (by omega)
    rw [e1, e2]
    have : (decide (2 ^ (n.log2 + 2) < 2 * n) || (2 ^ (n.log2 + 2) == 2 * n && 0 % 2 == 1)) = false := by
      have : ¬ 2 ^ (n.log2 + 2) < 2 * n := by omega
      simp [this]
    rw [this]
    unfold Half
    simp only [Bool.toNat_false]
    omega

/-- a mantissa rounded at the place where 53 digits end (or the floats' last) is the nearest rung: X / B = n / D * 2^j -/
theorem near0_of_half {n D K j : Nat} (hD : 0 < D) (hK : Half n D K) (hlo : 4503599627370496 * D ≤ n ∨ j = 0) (hhi : n < 9007199254740992 * D) : Near0 (n * 2 ^ j) D (j * 4503599627370496 + K) := by
  obtain ⟨k1, k2⟩ := hK
  have hp := pow_pos' j
  have hK2 : K ≤ 9007199254740992 := by
    by_cases h : K ≤ 9007199254740992
    · exact h
    · exfalso
      have : 9007199254740993 * D ≤ K * D := Nat.mul_le_mul_right D (by omega)
      have e : 2 * K * D = 2 * (K * D) := Nat.mul_assoc ..
      rw [e] at k1
      omega
  have lt : ∀ a b : Nat, a < b → a * 2 ^ j < b * 2 ^ j := fun a b h => (Nat.mul_lt_mul_right hp).2 h
  have eX : 2 * (n * 2 ^ j) = 2 * n * 2 ^ j := (Nat.mul_assoc ..).symm
  have eD : ∀ a b : Nat, D * (a * 2 ^ j + b * 2 ^ j) = (a + b) * D * 2 ^ j := fun a b => by rw [← Nat.add_mul, ← Nat.mul_assoc, Nat.mul_comm D]
  have ev : (j * 4503599627370496 + K) % 2 = K % 2 := by omega
  have eVK : V (j * 4503599627370496 + K) = K * 2 ^ j := by
    by_cases h : 4503599627370496 ≤ K
    · exact V_at j K h hK2
    · have hj : j = 0 := by
        rcases hlo with hlo | hlo
        · exfalso
          have h2 : 2 * K + 1 ≤ 2 * 4503599627370496 - 1 := by omega
          have h3 : (2 * K + 1) * D ≤ (2 * 4503599627370496 - 1) * D := Nat.mul_le_mul_right D h2
          omega
        · exact hlo
      subst hj
      rw [Nat.zero_mul, Nat.zero_add, V_small (by omega)]
      omega
  refine ⟨?_, ?_⟩
  · by_cases h0 : j * 4503599627370496 + K = 0
    · exact .inl h0
    refine .inr ?_
    rw [ev, eVK, eX]
    by_cases hb : 4503599627370496 < K ∨ j = 0
    · have eP : V (j * 4503599627370496 + K - 1) = (K - 1) * 2 ^ j := by
        have e1 : j * 4503599627370496 + K - 1 = j * 4503599627370496 + (K - 1) := by omega
        rw [e1]
        by_cases h : 4503599627370496 ≤ K - 1
        · exact V_at j (K - 1) h (by omega)
        · have hj : j = 0 := by omega
          subst hj
          rw [Nat.zero_mul, Nat.zero_add, V_small (by omega)]
          omega
      rw [eP, eD]
      have hKp : 1 ≤ K := by omega
      have e2 : (K - 1 + K) * D + D = 2 * K * D := by
        have : K - 1 + K + 1 = 2 * K := by omega
        rw [← this, Nat.add_mul (K - 1 + K) 1, Nat.one_mul]
      rcases k1 with k1 | ⟨k1, k3⟩
      · exact .inl (lt _ _ (by omega))
      · refine .inr ⟨?_, k3⟩
        rw [show (K - 1 + K) * D = 2 * n by omega]
    · have hKe : K = 4503599627370496 := by
        rcases hlo with hlo | hlo
        · by_cases h : 4503599627370496 ≤ K
          · omega
          · exfalso
            have h2 : 2 * K + 1 ≤ 2 * 4503599627370496 - 1 := by omega
            have h3 : (2 * K + 1) * D ≤ (2 * 4503599627370496 - 1) * D := Nat.mul_le_mul_right D h2
            omega
        · omega
      subst hKe
      refine .inl ?_
      have hlt := V_mono (r := j * 4503599627370496 + 4503599627370496 - 1) (s := j * 4503599627370496 + 4503599627370496) (by omega)
      rw [eVK] at hlt
      rcases hlo with hlo | hlo
      · have h3 : D * (V (j * 4503599627370496 + 4503599627370496 - 1) + 4503599627370496 * 2 ^ j) < D * (4503599627370496 * 2 ^ j + 4503599627370496 * 2 ^ j) := (Nat.mul_lt_mul_left hD).2 (by omega)
        rw [eD] at h3
        have h4 : (4503599627370496 + 4503599627370496) * D * 2 ^ j ≤ 2 * n * 2 ^ j := Nat.mul_le_mul_right _ (by omega)
        omega
      · omega
  · rw [ev, eVK, eX]
    by_cases hm : K = 9007199254740992
    · subst hm
      refine .inl ?_
      have hlt := V_mono (r := j * 4503599627370496 + 9007199254740992) (s := j * 4503599627370496 + 9007199254740992 + 1) (by omega)
      rw [eVK] at hlt
      have h3 : D * (9007199254740992 * 2 ^ j + 9007199254740992 * 2 ^ j) < D * (9007199254740992 * 2 ^ j + V (j * 4503599627370496 + 9007199254740992 + 1)) := (Nat.mul_lt_mul_left hD).2 (by omega)
      rw [eD] at h3
      have h4 : 2 * n * 2 ^ j < (9007199254740992 + 9007199254740992) * D * 2 ^ j := lt _ _ (by omega)
      omega
    · have eP : V (j * 4503599627370496 + K + 1) = (K + 1) * 2 ^ j := by
        rw [Nat.add_assoc]
        by_cases h : 4503599627370496 ≤ K + 1
        · exact V_at j (K + 1) h (by omega)
        · have hj : j = 0 := by
            rcases hlo with hlo | hlo
            · exfalso
              have h2 : 2 * K + 1 ≤ 2 * 4503599627370496 - 1 := by omega
              have h3 : (2 * K + 1) * D ≤ (2 * 4503599627370496 - 1) * D := Nat.mul_le_mul_right D h2
              omega
            · exact hlo
          subst hj
          rw [Nat.zero_mul, Nat.zero_add, V_small (by omega)]
          omega
      rw [eP, eD]
      have e2 : K + (K + 1) = 2 * K + 1 := by omega
      rw [e2]
      rcases k2 with k2 | ⟨k2, k3⟩
      · exact .inl (lt _ _ k2)
      · exact .inr ⟨by rw [k2], k3⟩

/-- mag * 2^place is X / B -/
theorem nearest_near (neg : Bool) (mag : Nat) (place : Int) (hm : mag ≠ 0) :
    ∃ r, Ieee.double.nearest neg mag place = Ieee.double.word neg r ∧ Near (mag * 2 ^ (place + 1074).toNat) (2 ^ (-(place + 1074)).toNat) r := by
  unfold Ieee.Format.nearest
  rw [if_neg hm]
  have hlp : Ieee.double.leastPlace = -1074 := by decide
  have hfb : Ieee.double.fractionBits = 52 := rfl
  have hbi : Ieee.double.binade = 4503599627370496 := by decide
  have hin : Ieee.double.infRung = 9218868437227405312 := by decide
  simp only [hlp, hfb, hbi, hin, Nat.shiftLeft_eq]
  obtain ⟨L, hL⟩ : ∃ L, mag.log2 = L := ⟨_, rfl⟩
  have l1 : 2 ^ L ≤ mag := by rw [← hL]; exact Nat.log2_self_le hm
  have l2 : mag < 2 ^ (L + 1) := by rw [← hL]; exact Nat.lt_log2_self
  rw [hL]
  obtain ⟨last, hlast⟩ : ∃ l : Int, max (place + (L : Int) - (52 : Nat)) (-1074) = l := ⟨_, rfl⟩
  rw [hlast]
  refine ⟨_, rfl, ?_⟩
  have hj : 0 ≤ last + 1074 := by omega
  obtain ⟨j, hj2⟩ : ∃ j : Nat, last + 1074 = (j : Int) := ⟨(last + 1074).toNat, by omega⟩
  have e1 : (last - -1074).toNat = j := by omega
  rw [e1]
  obtain ⟨a, ha⟩ : ∃ a, (place - last).toNat = a := ⟨_, rfl⟩
  obtain ⟨b, hb⟩ : ∃ b, (last - place).toNat = b := ⟨_, rfl⟩
  rw [ha, hb]
  have hh := cut_half (mag * 2 ^ a) b neg
  have hup : mag * 2 ^ a < 9007199254740992 * 2 ^ b := by
    have h1 : mag * 2 ^ a < 2 ^ (L + 1) * 2 ^ a := (Nat.mul_lt_mul_right (pow_pos' a)).2 l2
    have h2 : 2 ^ (L + 1) * 2 ^ a ≤ 2 ^ 53 * 2 ^ b := by
      rw [← Nat.pow_add, ← Nat.pow_add]
      exact Nat.pow_le_pow_right (by omega) (by omega)
    have h3 : (2 : Nat) ^ 53 = 9007199254740992 := by decide
    rw [h3] at h2
    omega
  have hlo : 4503599627370496 * 2 ^ b ≤ mag * 2 ^ a ∨ j = 0 := by
    by_cases h0 : j = 0
    · exact .inr h0
    · refine .inl ?_
      have h1 : 2 ^ L * 2 ^ a ≤ mag * 2 ^ a := Nat.mul_le_mul_right _ l1
      have h2 : 2 ^ 52 * 2 ^ b ≤ 2 ^ L * 2 ^ a := by
        rw [← Nat.pow_add, ← Nat.pow_add]
        exact Nat.pow_le_pow_right (by omega) (by omega)
      have h3 : (2 : Nat) ^ 52 = 4503599627370496 := by decide
      rw [h3] at h2
      omega
  have hn := (near0_of_half (pow_pos' b) hh hlo hup).near (pow_pos' b)
  -- both stand for one fraction
  obtain ⟨x, hx⟩ : ∃ x, (place + 1074).toNat = x := ⟨_, rfl⟩
  obtain ⟨y, hy⟩ : ∃ y, (-(place + 1074)).toNat = y := ⟨_, rfl⟩
  rw [hx, hy]
  have h1 := hn.scale (2 ^ y) (pow_pos' y)
  refine Near.unscale (c := 2 ^ b) ?_ (pow_pos' b)
  have e2 : mag * 2 ^ x * 2 ^ b = mag * 2 ^ a * 2 ^ j * 2 ^ y := by
    rw [Nat.mul_assoc, Nat.mul_assoc, Nat.mul_assoc, ← Nat.pow_add, ← Nat.pow_add, ← Nat.pow_add]
    congr 2
    omega
  rw [e2, Nat.mul_comm (2 ^ y) (2 ^ b)]
  exact h1
end Go.Proofs.YtjciflgnlldgbaaGreatDoor.fl
end
section
namespace Go.Proofs.YtjciflgnlldgbaaGreatDoor.big
open Go.RowKit mem fl
set_option linter.unusedVariables false

theorem Bn.lit_one (w : World) : Bn (w.alloc (.cells #[.int .u32 1] 100)) (w.heap.size + 1) (.slice (some ⟨w.heap.size, 0, none⟩) 1 1) 1 := by
  refine ⟨some ⟨w.heap.size, 0, none⟩, 1, rfl, Rd.new w [.int .u32 1] 100, Nat.le_refl _⟩
/-- a number that is made bit by bit -/
def MkSt (w : World) (v : Value) (N : Nat) (wr : World) : Prop := Bn wr wr.heap.size v N ∧ Below w.heap.size w wr
theorem wd_len_ten {N k b : Nat} (h : N < 10 ^ k) : (wd N).length ≤ k := wd_len_le (Nat.lt_of_lt_of_le h (Nat.pow_le_pow_left (by decide) _))
theorem ten_step {K : Nat} {r : Int} {d : Nat} (h : (d : Int) ≤ r) (hK : r.toNat ≤ K) : 10 ^ (K - r.toNat) * 10 ^ d + 0 = 10 ^ (K - (r - d).toNat) := by
  rw [Nat.add_zero, ← Nat.pow_add]
  congr 1
  omega
theorem wd_len_p10 {K j : Nat} (h : j ≤ K) : (wd (10 ^ j)).length ≤ K + 1 := wd_len_le (Nat.lt_of_lt_of_le (Nat.pow_lt_pow_right (a := 10) (by decide) (Nat.lt_succ_of_le h)) (Nat.pow_le_pow_left (by decide) _))

set_option maxRecDepth 100000 in
set_option maxHeartbeats 1100000 in
theorem ten_any (k : Int) (w : World) (hk : k ≤ 5000) (hk0 : -1100000 ≤ k) :
    Calls Tryz.prog 59 #[.int .i64 k] w (BnPost (10 ^ k.toNat) w) := by
  obtain ⟨K, hK⟩ : ∃ K, k.toNat = K := ⟨_, rfl⟩
  have HK := Lib.hid hK
  have hK5 : K ≤ 5000 := by omega
  rw [hK]
  clear hK
  go_enter Tryz.func59, Tryz.ntmps59
  go_wp2_with fail
  go_loopw [0, 3] (fun v0 v3 wr => ∃ (r : Int) (vv : Value), r ≤ 5000 ∧ -1100000 ≤ r ∧ r.toNat ≤ K ∧ v0 = .int .i64 r ∧ vv = v3 ∧ Hid (MkSt w vv (10 ^ (K - r.toNat)) wr)) (fun v0 _ _ => (intOf v0).toNat)
  case atStart =>
    refine ⟨k, _, hk, hk0, by have := HK.out; omega, rfl, rfl, Lib.hid ⟨?_, (Below.refl _ _).alloc (Nat.le_refl _) _⟩⟩
    rw [HK.out, Nat.sub_self, World.size_alloc]
    exact Bn.lit_one w
  case round =>
    obtain ⟨r, vv, hr5, hr0, hrK, rfl, rfl, hst⟩ := hrel
    have HS := Lib.hid hst.out
    have hz := hst.out.2.size
    clear hst
    by_cases hgo : 9 ≤ r
    · have hl := wd_len_p10 (K := 5000) (j := K - r.toNat) (by omega)
      have hs := ten_step (d := 9) hgo hrK
      have HN := Lib.hid hs
      clear hs
      go_wp2_with fail
      refine (times_any vv (10 ^ (K - r.toNat)) 1000000000 0 wr HS.out.1 (by omega) (by omega) (by omega)).mono ?_
      rintro e w2 ⟨v2, rfl, hbn2, hb2⟩
      rw [show (1000000000 : Nat) = 10 ^ 9 by decide, HN.out] at hbn2
      have HB2 := Lib.hid hbn2
      have HBl2 := Lib.hid (HS.out.2.trans (hb2.mono hz))
      clear hbn2 hb2
      go_wp2_with fail
      exact ⟨⟨r - 9, v2, by omega, by omega, by omega, by simp, rfl, Lib.hid ⟨HB2.out, HBl2.out⟩⟩, by simp [intOf]; omega⟩
    · go_wp2_with fail
      go_loopw [0, 3] (fun v0 v3 wr => ∃ (r : Int) (vv : Value), r ≤ 5000 ∧ -1100000 ≤ r ∧ r.toNat ≤ K ∧ v0 = .int .i64 r ∧ vv = v3 ∧ Hid (MkSt w vv (10 ^ (K - r.toNat)) wr)) (fun v0 _ _ => (intOf v0).toNat)
      case atStart => exact ⟨r, _, hr5, hr0, hrK, rfl, rfl, Lib.hid HS.out⟩
      case round =>
        clear HS hz hgo hr5 hr0 hrK
        obtain ⟨r, vv, hr5, hr0, hrK, rfl, rfl, hst⟩ := hrel
        have HS := Lib.hid hst.out
        have hz := hst.out.2.size
        clear hst
        by_cases hgo : 0 < r
        · have hl := wd_len_p10 (K := 5000) (j := K - r.toNat) (by omega)
          have hs := ten_step (d := 1) (r := r) (by omega) hrK
          have HN := Lib.hid hs
          clear hs
          go_wp2_with fail
          refine (times_any vv (10 ^ (K - r.toNat)) 10 0 _ HS.out.1 (by omega) (by omega) (by omega)).mono ?_
          rintro e w2 ⟨v2, rfl, hbn2, hb2⟩
          rw [show (10 : Nat) = 10 ^ 1 by decide] at hbn2
          have hbn3 : Bn w2 w2.heap.size v2 (10 ^ (K - (r - 1).toNat)) := by
            have := HN.out
            rw [show ((1 : Nat) : Int) = 1 by rfl] at this
            rw [← this]
            exact hbn2
          have HB2 := Lib.hid hbn3
          have HBl2 := Lib.hid (HS.out.2.trans (hb2.mono hz))
          clear hbn2 hb2 hbn3
          go_wp2_with fail
          exact ⟨⟨r - 1, v2, by omega, by omega, by omega, by simp, rfl, Lib.hid ⟨HB2.out, HBl2.out⟩⟩, by simp [intOf]; omega⟩
        · have hr2 : K - r.toNat = K := by omega
          have hS2 := HS.out
          rw [hr2] at hS2
          have HS2 := Lib.hid hS2
          clear HS hS2 hr2
          go_wp2_with fail
          go_ret
          exact ⟨_, rfl, HS2.out.1, HS2.out.2⟩

theorem bn_form {w : World} {B N : Nat} {v : Value} (h : Bn w B v N) : ∃ A n c, v = .slice A n c ∧ Hid (Bn w B (.slice A n c) N) := by
  obtain ⟨A, c, rfl, hr, hc⟩ := h
  exact ⟨A, _, c, rfl, Lib.hid ⟨A, c, rfl, hr, hc⟩⟩
/-- what dec answers: two numbers -/
def DecPost (T B : Nat) (w : World) (e : Ending) (w' : World) : Prop := ∃ v0 v1, e = .returned (.agg #[v0, v1]) ∧ Bn w' w'.heap.size v0 T ∧ Bn w' w'.heap.size v1 B ∧ Below w.heap.size w w'

/-- while dec works: the two numbers lie in a block of its own, the answer's block is there -/
def DcSt (w : World) (G : Nat) (A3 : Option Addr) (n3 c3 : Nat) (A : Option Addr) (n c : Nat) (N M : Nat) (wr : World) : Prop :=
  wr.heap[G]? = some (.cells #[.slice A n c, .slice A3 n3 c3] 85) ∧ wr.heap[w.heap.size]? = some (.cells #[.slice none 0 0, .slice none 0 0] 85) ∧
  Bn wr wr.heap.size (.slice A n c) N ∧ Bn wr wr.heap.size (.slice A3 n3 c3) M ∧ Below w.heap.size w wr ∧ w.heap.size < G ∧ G < wr.heap.size
theorem two_slices {w : World} {p : Addr} {g n1 c1 n2 c2 : Nat} {A1 A2 : Option Addr} {t : TypeId} {z : Int} (hcell : w.cell? p = some (.int .u32 z)) (he : p.block = g) (hb : w.heap[g]? = some (.cells #[.slice A1 n1 c1, .slice A2 n2 c2] t)) : False := by
  obtain ⟨b, o, s⟩ := p
  have hb' : w.heap[b]? = _ := (congrArg (fun k => w.heap[k]?) he).trans hb
  unfold World.cell? at hcell
  simp only [hb'] at hcell
  cases s with
  | some q => simp at hcell
  | none =>
    match o, hcell with
    | 0, hcell => simp at hcell
    | 1, hcell => simp at hcell
    | o + 2, hcell => simp at hcell
/-- a store into a block of two slices touches no number -/
theorem Bn.setCell {w : World} {B N g i n1 c1 n2 c2 : Nat} {v u : Value} {A1 A2 : Option Addr} {t : TypeId} (h : Bn w B v N) (hb : w.heap[g]? = some (.cells #[.slice A1 n1 c1, .slice A2 n2 c2] t)) : Bn (w.setCell ⟨g, i, none⟩ u) B v N := by
  obtain ⟨A, c, rfl, hr, hc⟩ := h
  refine ⟨A, c, rfl, ?_, hc⟩
  intro j y hj
  obtain ⟨ad, rfl, hB, hcell⟩ := hr j y hj
  refine ⟨ad, rfl, hB, ?_⟩
  have hne : (ad.add j).block ≠ g := by
    intro he
    have hy : ∃ z : Nat, y = .int .u32 (z : Int) := by
      unfold us at hj
      rw [List.getElem?_map] at hj
      cases hq : (wd N)[j]? with
      | none => rw [hq] at hj; cases hj
      | some z => rw [hq] at hj; exact ⟨z, by simpa using hj.symm⟩
    obtain ⟨z, rfl⟩ := hy
    exact two_slices hcell he hb
  rw [← hcell]
  exact World.cell?_of_block (Below.heap_setCell _ _ _ _ hne)
theorem DcSt.call {w wr w2 : World} {G n3 c3 n c N M : Nat} {A3 A : Option Addr} (h : DcSt w G A3 n3 c3 A n c N M wr) (hb : Below wr.heap.size wr w2) : DcSt w G A3 n3 c3 A n c N M w2 := by
  obtain ⟨h1, h2, h3, h4, h5, h6, h7⟩ := h
  have hs := hb.size
  exact ⟨(hb.block _ h7).trans h1, (hb.block _ (by omega)).trans h2, (h3.below hb).more hs, (h4.below hb).more hs, h5.trans (hb.mono (by omega)), h6, by omega⟩
theorem DcSt.store {w wr : World} {G n3 c3 n c N M n' c' N' : Nat} {A3 A A' : Option Addr} (h : DcSt w G A3 n3 c3 A n c N M wr) (hb : Bn wr wr.heap.size (.slice A' n' c') N') : DcSt w G A3 n3 c3 A' n' c' N' M (wr.setCell ⟨G, 0, none⟩ (.slice A' n' c')) := by
  obtain ⟨h1, h2, h3, h4, h5, h6, h7⟩ := h
  refine ⟨?_, (Below.heap_setCell _ _ _ _ (by simp; omega)).trans h2, ?_, ?_, h5.setCell (by simp; omega) _, h6, by simpa using h7⟩
  · have := blk_set h1 0 (.slice A' n' c')
    simpa using this
  · have := Bn.setCell (i := 0) (u := .slice A' n' c') hb h1
    simpa using this
  · have := Bn.setCell (i := 0) (u := .slice A' n' c') h4 h1
    simpa using this
theorem DcSt.facts {w wr : World} {G n3 c3 n c N M : Nat} {A3 A : Option Addr} (h : DcSt w G A3 n3 c3 A n c N M wr) :
    wr.cell? ⟨G, 0, none⟩ = some (.slice A n c) ∧ wr.cell? ⟨G, 1, none⟩ = some (.slice A3 n3 c3) ∧ wr.frozen? ⟨G, 0, none⟩ = false ∧
    wr.cell? ⟨w.heap.size, 0, none⟩ = some (.slice none 0 0) ∧ wr.cell? ⟨w.heap.size, 1, none⟩ = some (.slice none 0 0) ∧ wr.frozen? ⟨w.heap.size, 0, none⟩ = false ∧ wr.frozen? ⟨w.heap.size, 1, none⟩ = false := by
  obtain ⟨h1, h2, _⟩ := h
  exact ⟨blk_cell h1 (i := 0) (by simp), blk_cell h1 (i := 1) (by simp), blk_frozen h1 0, blk_cell h2 (i := 0) (by simp), blk_cell h2 (i := 1) (by simp), blk_frozen h2 0, blk_frozen h2 1⟩
theorem DcSt.fin {w wr : World} {G n3 c3 n c N M : Nat} {A3 A : Option Addr} (h : DcSt w G A3 n3 c3 A n c N M wr) :
    DecPost N M w (.returned (.agg #[.slice A n c, .slice A3 n3 c3])) ((wr.setCell ⟨w.heap.size, 0, none⟩ (.slice A n c)).setCell ⟨w.heap.size, 1, none⟩ (.slice A3 n3 c3)) := by
  obtain ⟨h1, h2, h3, h4, h5, h6, h7⟩ := h
  have h8 : (wr.setCell ⟨w.heap.size, 0, none⟩ (.slice A n c)).heap[w.heap.size]? = some (.cells #[.slice A n c, .slice none 0 0] 85) := by
    have := blk_set h2 0 (.slice A n c)
    simpa using this
  refine ⟨_, _, rfl, ?_, ?_, (h5.setCell (by simp) _).setCell (by simp) _⟩
  · have := Bn.setCell (i := 1) (u := .slice A3 n3 c3) (Bn.setCell (i := 0) (u := .slice A n c) h3 h2) h8
    simpa using this
  · have := Bn.setCell (i := 1) (u := .slice A3 n3 c3) (Bn.setCell (i := 0) (u := .slice A n c) h4 h2) h8
    simpa using this
theorem DcSt.finCells {w wr : World} {G n3 c3 n c N M : Nat} {A3 A : Option Addr} (h : DcSt w G A3 n3 c3 A n c N M wr) :
    (wr.setCell ⟨w.heap.size, 0, none⟩ (.slice A n c)).cell? ⟨w.heap.size, 0, none⟩ = some (.slice A n c) ∧ ((wr.setCell ⟨w.heap.size, 0, none⟩ (.slice A n c)).setCell ⟨w.heap.size, 1, none⟩ (.slice A3 n3 c3)).cell? ⟨w.heap.size, 1, none⟩ = some (.slice A3 n3 c3) := by
  obtain ⟨h1, h2, h3, h4, h5, h6, h7⟩ := h
  have h8 := blk_set h2 0 (.slice A n c)
  have h9 := blk_set h8 1 (.slice A3 n3 c3)
  have a1 := blk_cell h8 (i := 0) (by simp)
  have a2 := blk_cell h9 (i := 1) (by simp)
  exact ⟨by simpa using a1, by simpa using a2⟩
theorem ten_step2 {D K : Nat} {r : Int} {d : Nat} (h : (d : Int) ≤ r) (hK : r.toNat ≤ K) : D * 10 ^ (K - r.toNat) * 10 ^ d + 0 = D * 10 ^ (K - (r - d).toNat) := by
  rw [Nat.add_zero, Nat.mul_assoc, ← Nat.pow_add]
  congr 2
  omega
theorem wd_len_mulp {D b K j : Nat} (h : (wd D).length ≤ b) (hj : j ≤ K) : (wd (D * 10 ^ j)).length ≤ b + (K + 1) := by
  have h1 := val_lt (wd D) (wds_wd D)
  rw [val_wd] at h1
  refine wd_len_le ?_
  rw [Nat.pow_add]
  have h2 : D < 4294967296 ^ b := Nat.lt_of_lt_of_le h1 (Nat.pow_le_pow_right (by decide) h)
  have h3 : 10 ^ j < 4294967296 ^ (K + 1) := Nat.lt_of_lt_of_le (Nat.pow_lt_pow_right (a := 10) (by decide) (Nat.lt_succ_of_le hj)) (Nat.pow_le_pow_left (by decide) _)
  exact Nat.mul_lt_mul_of_lt_of_lt h2 h3
set_option maxRecDepth 100000 in
set_option maxHeartbeats 1100000 in
theorem dec_any (s : ByteArray) (x : Int) (w : World) (hd : Digs s.data.toList) (hn : s.size ≤ 10000) (hx : x ≤ 5000) (hx0 : -5000 ≤ x) :
    Calls Tryz.prog 43 #[.string s, .int .i64 x] w (DecPost (dv s.data.toList * 10 ^ x.toNat) (10 ^ (-x).toNat) w) := by
  have HD := Lib.hid hd
  have HO := Lib.hid (fun w => ofDigits_any s w HD.out (by omega))
  have hlen := wd_len_dv hd
  have hls : s.data.toList.length = s.size := by simp
  rw [hls] at hlen
  obtain ⟨D, hD⟩ : ∃ D, dv s.data.toList = D := ⟨_, rfl⟩
  rw [hD] at hlen HO ⊢
  clear hD hls hd HD
  go_enter Tryz.func43, Tryz.ntmps43
  go_wp2_with fail
  refine (HO.out _).mono ?_
  rintro e w2 ⟨v2, rfl, hbn2, hb2⟩
  have hz2 := hb2.size
  obtain ⟨A2, n2, c2, rfl, HB2⟩ := bn_form hbn2
  have HBl2 := Lib.hid hb2
  clear hbn2 hb2
  go_wp2_with fail
  refine (ten_any (-x) w2 (by omega) (by omega)).mono ?_
  rintro e w3 ⟨v3, rfl, hbn3, hb3⟩
  have hz3 := hb3.size
  obtain ⟨A3, n3, c3, rfl, HB3⟩ := bn_form hbn3
  have HBl3 := Lib.hid hb3
  clear hbn3 hb3
  go_upto_region 2 with (fail)
  have hst : DcSt w w3.heap.size A3 n3 c3 A2 n2 c2 D (10 ^ (-x).toNat) (w3.alloc (.cells #[.slice A2 n2 c2, .slice A3 n3 c3] 85)) := by
    have h0 : (w.alloc (.cells #[.slice none 0 0, .slice none 0 0] 85)).heap[w.heap.size]? = some (.cells #[.slice none 0 0, .slice none 0 0] 85) := heap_alloc_new w _
    have h1 : w2.heap[w.heap.size]? = _ := (HBl2.out.block _ (by simp)).trans h0
    have h2 : w3.heap[w.heap.size]? = _ := (HBl3.out.block _ (by simp at hz2; omega)).trans h1
    have hb3 : Below w.heap.size w w3 := ((Below.refl _ _).alloc (Nat.le_refl _) _).trans ((HBl2.out.mono (by simp)).trans (HBl3.out.mono (by simp at hz2; omega)))
    have hba : ∀ o, Below w3.heap.size w3 (w3.alloc o) := fun o => (Below.refl _ _).alloc (Nat.le_refl _) o
    refine ⟨heap_alloc_new w3 _, (Below.heap_alloc w3 _ _ (by simp at hz2; omega)).trans h2, ((HB2.out.below HBl3.out).more hz3).below (hba _) |>.more (by simp), (HB3.out.below (hba _)).more (by simp), hb3.alloc (by simp at hz2; omega) _, by simp at hz2; omega, by simp⟩
  have HSt := Lib.hid hst
  clear hst HB2 HB3 HBl2 HBl3 HO
  generalize hW : (w3.alloc (.cells #[.slice A2 n2 c2, .slice A3 n3 c3] 85)) = wa at *
  generalize w3.heap.size = G5 at *
  clear hW
  by_cases hx1 : 0 < x
  · go_wp2_with fail
    obtain ⟨X, hX⟩ : ∃ X, x.toNat = X := ⟨_, rfl⟩
    have HX := Lib.hid hX
    have hX5 : X ≤ 5000 := by omega
    clear hX
    go_loopw [1] (fun v1 wr => ∃ (r : Int) (A : Option Addr) (n c : Nat), 0 ≤ r ∧ r ≤ 5000 ∧ r.toNat ≤ X ∧ v1 = .int .i64 r ∧ Hid (DcSt w G5 A3 n3 c3 A n c (D * 10 ^ (X - r.toNat)) (10 ^ (-x).toNat) wr)) (fun v1 _ => (intOf v1).toNat)
    case atStart => exact ⟨x, A2, n2, c2, by omega, hx, by have := HX.out; omega, rfl, Lib.hid (by rw [HX.out, Nat.sub_self, Nat.pow_zero, Nat.mul_one]; exact HSt.out)⟩
    case round =>
      clear HSt
      obtain ⟨r, A, n, c, hr0, hr5, hrX, rfl, hst⟩ := hrel
      have HSt := Lib.hid hst.out
      clear hst
      obtain ⟨f1, f2, f3, f4, f5, f6, f7⟩ := HSt.out.facts
      by_cases hgo : 9 ≤ r
      · have hl := wd_len_mulp (D := D) (b := 10000) (K := 5000) (j := X - r.toNat) (by omega) (by omega)
        have HN := Lib.hid (ten_step2 (D := D) (d := 9) hgo hrX)
        go_wp2_with fail
        refine (times_any _ (D * 10 ^ (X - r.toNat)) 1000000000 0 wr HSt.out.2.2.1 (by omega) (by omega) (by omega)).mono ?_
        rintro e w5 ⟨v5, rfl, hbn5, hb5⟩
        rw [show (1000000000 : Nat) = 10 ^ 9 by decide, HN.out] at hbn5
        obtain ⟨A5, n5, c5, rfl, HB5⟩ := bn_form hbn5
        have HSt2 := Lib.hid (HSt.out.call hb5)
        clear hbn5 hb5 f1 f2 f3 f4 f5 f6 f7 HSt
        obtain ⟨f1, f2, f3, f4, f5, f6, f7⟩ := HSt2.out.facts
        go_wp2_with fail
        exact ⟨⟨r - 9, A5, n5, c5, by omega, by omega, by omega, by simp, Lib.hid (HSt2.out.store HB5.out)⟩, by simp [intOf]; omega⟩
      · go_wp2_with fail
        go_loopw [1] (fun v1 wr => ∃ (r : Int) (A : Option Addr) (n c : Nat), 0 ≤ r ∧ r ≤ 5000 ∧ r.toNat ≤ X ∧ v1 = .int .i64 r ∧ Hid (DcSt w G5 A3 n3 c3 A n c (D * 10 ^ (X - r.toNat)) (10 ^ (-x).toNat) wr)) (fun v1 _ => (intOf v1).toNat)
        case atStart => exact ⟨r, A, n, c, hr0, hr5, hrX, rfl, Lib.hid HSt.out⟩
        case round =>
          clear HSt hgo f1 f2 f3 f4 f5 f6 f7 hr0 hr5 hrX
          obtain ⟨r, A, n, c, hr0, hr5, hrX, rfl, hst⟩ := hrel
          have HSt := Lib.hid hst.out
          clear hst
          obtain ⟨f1, f2, f3, f4, f5, f6, f7⟩ := HSt.out.facts
          by_cases hgo : 0 < r
          · have hl := wd_len_mulp (D := D) (b := 10000) (K := 5000) (j := X - r.toNat) (by omega) (by omega)
            have HN := Lib.hid (ten_step2 (D := D) (d := 1) (r := r) (by omega) hrX)
            go_wp2_with fail
            refine (times_any _ (D * 10 ^ (X - r.toNat)) 10 0 _ HSt.out.2.2.1 (by omega) (by omega) (by omega)).mono ?_
            rintro e w5 ⟨v5, rfl, hbn5, hb5⟩
            have hbn6 : Bn w5 w5.heap.size v5 (D * 10 ^ (X - (r - 1).toNat)) := by
              have := HN.out
              rw [show ((1 : Nat) : Int) = 1 by rfl] at this
              rw [← this]
              exact hbn5
            obtain ⟨A5, n5, c5, rfl, HB5⟩ := bn_form hbn6
            have HSt2 := Lib.hid (HSt.out.call hb5)
            clear hbn5 hb5 hbn6 f1 f2 f3 f4 f5 f6 f7 HSt
            obtain ⟨f1, f2, f3, f4, f5, f6, f7⟩ := HSt2.out.facts
            go_wp2_with fail
            exact ⟨⟨r - 1, A5, n5, c5, by omega, by omega, by omega, by simp, Lib.hid (HSt2.out.store HB5.out)⟩, by simp [intOf]; omega⟩
          · have hr2 : X - r.toNat = X := by omega
            have hS2 := HSt.out
            rw [hr2] at hS2
            have HS2 := Lib.hid hS2
            have hfin := hS2.fin
            rw [← HX.out] at hfin
            have HF := Lib.hid hfin
            obtain ⟨q1, q2⟩ := hS2.finCells
            clear HSt hS2 hr2 hfin
            go_wp2_with fail
            exact bodyPost_ret (v := .agg #[.slice A n c, .slice A3 n3 c3]) (by simp [results, Tryz.results43, go_sem, q1, q2]) rfl HF.out
  · have hx2 : x.toNat = 0 := by omega
    obtain ⟨f1, f2, f3, f4, f5, f6, f7⟩ := HSt.out.facts
    have hfin := HSt.out.fin
    have hDx : D = D * 10 ^ x.toNat := by rw [hx2, Nat.pow_zero, Nat.mul_one]
    have HF := Lib.hid (show DecPost (D * 10 ^ x.toNat) (10 ^ (-x).toNat) w _ _ from hDx ▸ hfin)
    obtain ⟨q1, q2⟩ := HSt.out.finCells
    clear hx2 hfin hDx
    go_wp2_with fail
    exact bodyPost_ret (v := .agg #[.slice A2 n2 c2, .slice A3 n3 c3]) (by simp [results, Tryz.results43, go_sem, q1, q2]) rfl HF.out
end Go.Proofs.YtjciflgnlldgbaaGreatDoor.big
end
section
namespace Go.Proofs.YtjciflgnlldgbaaGreatDoor.big
open Go.RowKit mem fl
set_option linter.unusedVariables false

theorem Bn.alloc {w : World} {N : Nat} {v : Value} (h : Bn w w.heap.size v N) (o : Obj) : Bn (w.alloc o) (w.alloc o).heap.size v N := (h.below ((Below.refl _ _).alloc (Nat.le_refl _) o)).more (by simp)
def agV (T B m : Nat) (e : Int) : Int := ordN (T * 2 ^ (-e).toNat) (B * m * 2 ^ e.toNat)
def AgPost (T B m : Nat) (x : Int) (w : World) (e : Ending) (w' : World) : Prop := e = .returned (.int .i64 (agV T B m x)) ∧ Below w.heap.size w w'
theorem wd_len_mul2 {N M a b : Nat} (h : (wd N).length ≤ a) (h2 : M < 4294967296 ^ b) : (wd (N * M)).length ≤ a + b := by
  have h1 := val_lt (wd N) (wds_wd N)
  rw [val_wd] at h1
  refine wd_len_le ?_
  rw [Nat.pow_add]
  exact Nat.mul_lt_mul_of_lt_of_lt (Nat.lt_of_lt_of_le h1 (Nat.pow_le_pow_right (by decide) h)) h2
theorem pow_bd {k b : Nat} (h : k < 32 * b) : 2 ^ k < 4294967296 ^ b := by
  rw [show (4294967296 : Nat) = 2 ^ 32 by decide, ← Nat.pow_mul]
  exact Nat.pow_lt_pow_right (by decide) h

set_option maxRecDepth 100000 in
set_option maxHeartbeats 1100000 in
theorem against_any (v0 v1 : Value) (T B m : Nat) (x : Int) (w : World) (h0 : Bn w w.heap.size v0 T) (h1 : Bn w w.heap.size v1 B) (hT : (wd T).length ≤ 100000) (hB : (wd B).length ≤ 100000) (hm : m < 18446744073709551616) (hx : x ≤ 3000) (hx0 : -3000 ≤ x) :
    Calls Tryz.prog 62 #[.agg #[v0, v1], .int .u64 (m : Int), .int .i64 x] w (AgPost T B m x w) := by
  obtain ⟨A0, n0, c0, rfl, H0⟩ := bn_form h0
  obtain ⟨A1, n1, c1, rfl, H1⟩ := bn_form h1
  clear h0 h1
  go_enter Tryz.func62, Tryz.ntmps62
  go_wp2_with fail
  refine (wide_any _ B m _ (H1.out.alloc _) hm (by omega)).mono ?_
  rintro e w2 ⟨v2, rfl, hbn2, hb2⟩
  have hc0 : w2.cell? ⟨w.heap.size, 0, none⟩ = some (.slice A0 n0 c0) := (box_cell hb2 rfl (by simp) 0)
  have HB2 := Lib.hid hbn2
  have H02 := Lib.hid (((H0.out.alloc (.cells #[.slice A0 n0 c0, .slice A1 n1 c1] 85)).below hb2).more hb2.size)
  have hs2 := hb2.size
  have HBl2 := Lib.hid (((Below.refl w.heap.size w).alloc (Nat.le_refl _) _).trans (hb2.mono (by simp)))
  have hlB : (wd (B * m)).length ≤ 100002 := wd_len_mul2 (b := 2) hB (Nat.lt_of_lt_of_eq hm (by decide))
  clear hbn2 hb2
  by_cases hx1 : 0 ≤ x
  · obtain ⟨X, rfl⟩ : ∃ X : Nat, x = (X : Int) := ⟨x.toNat, by omega⟩
    have hlU : (wd (B * m * 2 ^ X)).length ≤ 100102 := wd_len_mul2 (b := 100) hlB (pow_bd (by omega))
    have hag : agV T B m (X : Int) = ordN T (B * m * 2 ^ X) := by
      unfold agV
      have e1 : (-(X : Int)).toNat = 0 := by omega
      rw [e1, Int.toNat_natCast, Nat.pow_zero, Nat.mul_one]
    have HA := Lib.hid hag
    clear hag
    go_wp2_with fail
    refine (up_any _ (B * m) X w2 HB2.out (by omega) (by omega)).mono ?_
    rintro e w3 ⟨v3, rfl, hbn3, hb3⟩
    have HB3 := Lib.hid hbn3
    have H03 := Lib.hid ((H02.out.below hb3).more hb3.size)
    have HBl3 := Lib.hid (HBl2.out.trans (hb3.mono (by simp at hs2; omega)))
    clear hbn3 hb3
    go_wp2_with fail
    refine (order_any _ _ T (B * m * 2 ^ X) w3 H03.out HB3.out (by omega) (by omega)).mono ?_
    rintro e w4 ⟨rfl, n, rfl⟩
    rw [← HA.out]
    go_wp2_with fail
    go_ret
    exact ⟨rfl, Below.drewN HBl3.out n⟩
  · obtain ⟨X, rfl⟩ : ∃ X : Nat, x = -(X : Int) := ⟨(-x).toNat, by omega⟩
    have hlU : (wd (T * 2 ^ X)).length ≤ 100102 := wd_len_mul2 (b := 102) hT (pow_bd (by omega))
    have hag : agV T B m (-(X : Int)) = ordN (T * 2 ^ X) (B * m) := by
      unfold agV
      have e1 : (-(X : Int)).toNat = 0 := by omega
      rw [e1, Int.neg_neg, Int.toNat_natCast, Nat.pow_zero, Nat.mul_one]
    have HA := Lib.hid hag
    have hX0 : 0 < X := by omega
    clear hag hx1
    go_wp2_with fail
    refine (up_any _ T X w2 H02.out (by omega) (by omega)).mono ?_
    rintro e w3 ⟨v3, rfl, hbn3, hb3⟩
    have HB3 := Lib.hid hbn3
    have H03 := Lib.hid ((HB2.out.below hb3).more hb3.size)
    have HBl3 := Lib.hid (HBl2.out.trans (hb3.mono (by simp at hs2; omega)))
    clear hbn3 hb3
    go_wp2_with fail
    refine (order_any _ _ (T * 2 ^ X) (B * m) w3 HB3.out H03.out (by omega) (by omega)).mono ?_
    rintro e w4 ⟨rfl, n, rfl⟩
    rw [← HA.out]
    go_wp2_with fail
    go_ret
    exact ⟨rfl, Below.drewN HBl3.out n⟩

/-- the reference's Split -/
def spM (b : Nat) : Nat := if b / 4503599627370496 % 2048 = 0 then b % 4503599627370496 else b % 4503599627370496 + 4503599627370496
def spE (b : Nat) : Int := if b / 4503599627370496 % 2048 = 0 then -1074 else (b / 4503599627370496 % 2048 : Nat) - 1075
def SpPost (b : Nat) (w : World) (e : Ending) (w' : World) : Prop := e = .returned (.tuple #[.int .u64 (spM b : Int), .int .i64 (spE b)]) ∧ w = w'
theorem and_low (b k : Nat) (hb : b < 18446744073709551616) (hk : k ≤ 63) : bits .and .u64 (b : Int) ((2 ^ k - 1 : Nat) : Int) = ((b % 2 ^ k : Nat) : Int) := by
  have h1 : 2 ^ k ≤ 2 ^ 63 := Nat.pow_le_pow_right (by decide) hk
  rw [u64_and_nat b (2 ^ k - 1) hb (by have : (2 : Nat) ^ 63 = 9223372036854775808 := by decide
                                       omega), Nat.and_two_pow_sub_one_eq_mod]
theorem or_join (x y k : Nat) (hx : x < 18446744073709551616) (hy : y < 18446744073709551616) (h1 : x % 2 ^ k = 0) (h2 : y < 2 ^ k) : bits .or .u64 (x : Int) (y : Int) = ((x + y : Nat) : Int) := by
  rw [u64_or_nat x y hx hy, nat_join k x y h1 h2]
theorem or_join' (x y k : Nat) (hx : x < 18446744073709551616) (hy : y < 18446744073709551616) (h1 : x % 2 ^ k = 0) (h2 : y < 2 ^ k) : bits .or .u64 (y : Int) (x : Int) = ((y + x : Nat) : Int) := by
  rw [u64_or_nat y x hy hx, Nat.or_comm, nat_join k x y h1 h2, Nat.add_comm]
theorem split_any (b : Nat) (w : World) (hb : b < 18446744073709551616) : Calls Tryz.prog 61 #[.int .u64 (b : Int)] w (SpPost b w) := by
  obtain ⟨f, hf⟩ : ∃ f, b % 4503599627370496 = f := ⟨_, rfl⟩
  obtain ⟨q, hq⟩ : ∃ q, b / 4503599627370496 % 2048 = q := ⟨_, rfl⟩
  have h1 : bits .and .u64 (b : Int) 4503599627370495 = (f : Int) := by
    rw [← hf]; exact and_low b 52 hb (by decide)
  have h2 : bits .and .u64 ((b : Int) / 4503599627370496) 2047 = (q : Int) := by
    rw [← hq]; exact and_low (b / 4503599627370496) 11 (by omega) (by decide)
  have h3 : bits .or .u64 (f : Int) 4503599627370496 = ((f : Int) + 4503599627370496) := by
    have := or_join' 4503599627370496 f 52 (by decide) (by omega) (by decide) (by omega)
    rw [Int.natCast_add] at this
    exact this
  have hfb : f < 4503599627370496 := by omega
  have hqb : q < 2048 := by omega
  unfold SpPost spM spE
  rw [hf, hq]
  have HF := Lib.hid hf
  have HQ := Lib.hid hq
  clear hf hq
  by_cases h0 : q = 0
  · have d0 : ((q : Int) == 0) = true := by simp; omega
    rw [if_pos h0, if_pos h0]
    clear h0
    go_enter Tryz.func61, Tryz.ntmps61
    go_wp2_with fail
    go_ret2
    exact ⟨rfl, rfl⟩
  · have d0 : ((q : Int) == 0) = false := by simp; omega
    rw [if_neg h0, if_neg h0]
    clear h0
    go_enter Tryz.func61, Tryz.ntmps61
    go_wp2_with fail
    go_ret2
    exact ⟨by simp, rfl⟩

/-! ### bits -/
theorem ordN_scale (a b c : Nat) (hc : 0 < c) : ordN (a * c) (b * c) = ordN a b := by
  unfold ordN
  simp only [Nat.mul_lt_mul_right hc]
theorem agV_at (T B m s : Nat) (e : Int) (h : -(s : Int) ≤ e) : agV T B m e = ordN (T * 2 ^ s) (B * (m * 2 ^ (e + s).toNat)) := by
  unfold agV
  rw [← ordN_scale _ _ (2 ^ (s - (-e).toNat)) (pow_pos' _)]
  congr 1
  · rw [Nat.mul_assoc, ← Nat.pow_add]
    congr 2
    omega
  · rw [Nat.mul_assoc, Nat.mul_assoc, ← Nat.pow_add]
    congr 3
    omega
theorem V_sp {r : Nat} (h : r < 9218868437227405312) : V r = spM r * 2 ^ (spE r + 1074).toNat := by
  unfold V spM spE
  have e1 : r / 4503599627370496 % 2048 = r / 4503599627370496 := by omega
  rw [e1]
  by_cases h1 : r < 4503599627370496
  · have e2 : r / 4503599627370496 = 0 := by omega
    rw [if_pos h1, if_pos e2, if_pos e2]
    have e3 : r % 4503599627370496 = r := by omega
    rw [e3]
    simp
  · have e2 : ¬ r / 4503599627370496 = 0 := by omega
    rw [if_neg h1, if_neg e2, if_neg e2, Nat.add_comm]
    congr 2
    omega
theorem V_next {r : Nat} (h : r < 9218868437227405312) : V r + V (r + 1) = (2 * spM r + 1) * 2 ^ (spE r + 1074).toNat := by
  have h0 := V_sp h
  rcases form r with h1 | ⟨j, K, rfl, h1, h2⟩
  · have e1 : (spE r + 1074).toNat = 0 := by
      unfold spE
      rw [if_pos (by omega)]
      rfl
    rw [e1] at h0 ⊢
    rw [V_small (r := r + 1) (by omega), V_small (r := r) (by omega)]
    rw [V_small (r := r) (by omega)] at h0
    omega
  · have e1 : (spE (j * 4503599627370496 + K) + 1074).toNat = j := by
      unfold spE
      have : (j * 4503599627370496 + K) / 4503599627370496 % 2048 = j + 1 := by omega
      rw [if_neg (by omega), this]
      omega
    have e2 : spM (j * 4503599627370496 + K) = K := by
      unfold spM
      have : (j * 4503599627370496 + K) / 4503599627370496 % 2048 = j + 1 := by omega
      rw [if_neg (by omega)]
      omega
    rw [e1, e2, V_at j K h1 (by omega), Nat.add_assoc (j * 4503599627370496), V_at j (K + 1) (by omega) (by omega), ← Nat.add_mul]
    congr 1
    omega
theorem sp_odd (r : Nat) : spM r % 2 = r % 2 := by
  unfold spM
  split <;> omega
theorem spM_lt (r : Nat) : spM r < 9007199254740992 := by
  unfold spM
  split <;> omega
theorem spE_bd {r : Nat} (h : r < 9218868437227405312) : -1074 ≤ spE r ∧ spE r ≤ 971 := by
  unfold spE
  have : r / 4503599627370496 % 2048 ≤ 2046 := by omega
  split <;> omega

/-- the search's state -/
def BiSt (X B lo hi : Nat) : Prop := lo ≤ hi ∧ hi ≤ 9218868437227405311 ∧ B * V lo ≤ X ∧ (hi = 9218868437227405311 ∨ X < B * V (hi + 1))
theorem bi_start (X B : Nat) : BiSt X B 0 9218868437227405311 := ⟨by omega, by omega, by rw [V_small (by omega)]; omega, .inl rfl⟩
theorem bi_up {X B lo hi mid : Nat} (h : BiSt X B lo hi) (h1 : mid ≤ hi) (h3 : ordN X (B * V mid) ≥ 0) : BiSt X B mid hi := by
  obtain ⟨a, b, c, d⟩ := h
  refine ⟨h1, b, ?_, d⟩
  unfold ordN at h3
  by_cases hx : X < B * V mid
  · rw [if_pos hx] at h3; omega
  · omega
theorem bi_down {X B lo hi mid : Nat} (h : BiSt X B lo hi) (h1 : lo < mid) (h2 : mid ≤ hi) (h3 : ¬ ordN X (B * V mid) ≥ 0) : BiSt X B lo (mid - 1) := by
  obtain ⟨a, b, c, d⟩ := h
  refine ⟨by omega, by omega, c, .inr ?_⟩
  rw [show mid - 1 + 1 = mid by omega]
  unfold ordN at h3
  by_cases hx : X < B * V mid
  · exact hx
  · rw [if_neg hx] at h3
    split at h3 <;> omega
/-- the nearest, from the greatest that is not above -/
def biRound (X B lo : Nat) : Nat := if ordN (2 * X) (B * (V lo + V (lo + 1))) > 0 ∨ (ordN (2 * X) (B * (V lo + V (lo + 1))) = 0 ∧ lo % 2 = 1) then lo + 1 else lo
theorem bi_near {X B lo : Nat} (hB : 0 < B) (h : BiSt X B lo lo) : Near X B (biRound X B lo) ∧ biRound X B lo ≤ 9218868437227405312 := by
  obtain ⟨_, hm, hle, hgt⟩ := h
  have hs := V_succ lo
  have hs2 := V_succ (lo + 1)
  have q1 : B * (V lo + V (lo + 1)) < B * (V (lo + 1) + V (lo + 1 + 1)) := (Nat.mul_lt_mul_left hB).2 (by omega)
  have q2 : B * V lo + B * V lo < B * (V lo + V (lo + 1)) := by rw [← Nat.mul_add]; exact (Nat.mul_lt_mul_left hB).2 (by omega)
  have q3 : B * (V lo + V (lo + 1)) < B * V (lo + 1) + B * V (lo + 1) := by rw [← Nat.mul_add]; exact (Nat.mul_lt_mul_left hB).2 (by omega)
  have q4 : B * V (lo + 1) + B * V (lo + 1) < B * (V (lo + 1) + V (lo + 1 + 1)) := by rw [← Nat.mul_add]; exact (Nat.mul_lt_mul_left hB).2 (by omega)
  unfold biRound
  by_cases hc : ordN (2 * X) (B * (V lo + V (lo + 1))) > 0 ∨ (ordN (2 * X) (B * (V lo + V (lo + 1))) = 0 ∧ lo % 2 = 1)
  · rw [if_pos hc]
    unfold ordN at hc
    refine ⟨⟨by omega, .inr ?_, ?_⟩, by omega⟩
    · rw [Nat.add_sub_cancel]
      by_cases hx : 2 * X < B * (V lo + V (lo + 1))
      · rw [if_pos hx] at hc; omega
      · by_cases hy : B * (V lo + V (lo + 1)) < 2 * X
        · exact .inl hy
        · rw [if_neg hx, if_neg hy] at hc
          exact .inr ⟨by omega, by omega⟩
    · rcases hgt with hgt | hgt
      · exact .inl (by omega)
      · exact .inr (.inl (by omega))
  · rw [if_neg hc]
    unfold ordN at hc
    refine ⟨⟨by omega, ?_, .inr ?_⟩, by omega⟩
    · by_cases h0 : lo = 0
      · exact .inl h0
      · have hp := V_succ (lo - 1)
        rw [show lo - 1 + 1 = lo by omega] at hp
        have q5 : B * (V (lo - 1) + V lo) < B * V lo + B * V lo := by rw [← Nat.mul_add]; exact (Nat.mul_lt_mul_left hB).2 (by omega)
        exact .inr (.inl (by omega))
    · by_cases hx : 2 * X < B * (V lo + V (lo + 1))
      · exact .inl hx
      · by_cases hy : B * (V lo + V (lo + 1)) < 2 * X
        · rw [if_neg hx, if_pos hy] at hc; omega
        · rw [if_neg hx, if_neg hy] at hc
          exact .inr ⟨by omega, by omega⟩

def BitsPost (X B : Nat) (w : World) (e : Ending) (w' : World) : Prop := ∃ r, e = .returned (.tuple #[.int .u64 ((r : Nat) : Int), .bool (decide (r < 9218868437227405312))]) ∧ Near X B r ∧ Below w.heap.size w w'
/-- the call's state between two rounds -/
def BtSt (w : World) (v0 v1 : Value) (T B lo hi : Nat) (wr : World) : Prop :=
  BiSt (T * 2 ^ 1074) B lo hi ∧ Below w.heap.size w wr ∧ Bn wr wr.heap.size v0 T ∧ Bn wr wr.heap.size v1 B ∧ wr.cell? ⟨w.heap.size, 0, none⟩ = some v0 ∧ wr.cell? ⟨w.heap.size, 1, none⟩ = some v1 ∧ w.heap.size < wr.heap.size
theorem BtSt.call {w wr w2 : World} {v0 v1 : Value} {T B lo hi : Nat} (h : BtSt w v0 v1 T B lo hi wr) (hb : Below wr.heap.size wr w2) : BtSt w v0 v1 T B lo hi w2 := by
  obtain ⟨h1, h2, h3, h4, h5, h6, h7⟩ := h
  have hs := hb.size
  exact ⟨h1, h2.trans (hb.mono (by omega)), (h3.below hb).more hs, (h4.below hb).more hs, (hb.cell (p := ⟨w.heap.size, 0, none⟩) h7).trans h5, (hb.cell (p := ⟨w.heap.size, 1, none⟩) h7).trans h6, by omega⟩
theorem BtSt.go {w wr : World} {v0 v1 : Value} {T B lo hi lo' hi' : Nat} (h : BtSt w v0 v1 T B lo hi wr) (h1 : BiSt (T * 2 ^ 1074) B lo' hi') : BtSt w v0 v1 T B lo' hi' wr := ⟨h1, h.2⟩

set_option maxRecDepth 100000 in
set_option maxHeartbeats 4000000 in
theorem bits_any (v0 v1 : Value) (T B : Nat) (w : World) (h0 : Bn w w.heap.size v0 T) (h1 : Bn w w.heap.size v1 B) (hT : (wd T).length ≤ 100000) (hB : (wd B).length ≤ 100000) (hBp : 0 < B) :
    Calls Tryz.prog 44 #[.agg #[v0, v1]] w (BitsPost (T * 2 ^ 1074) B w) := by
  obtain ⟨X, hX⟩ : ∃ X, T * 2 ^ 1074 = X := ⟨_, rfl⟩
  rewrite [hX]
  have HX := Lib.hid hX
  clear hX
  obtain ⟨A0, n0, c0, rfl, H0⟩ := bn_form h0
  obtain ⟨A1, n1, c1, rfl, H1⟩ := bn_form h1
  clear h0 h1
  have hst : BtSt w (.slice A0 n0 c0) (.slice A1 n1 c1) T B 0 9218868437227405311 (w.alloc (.cells #[.slice A0 n0 c0, .slice A1 n1 c1] 85)) := by
    refine ⟨bi_start _ _, (Below.refl _ _).alloc (Nat.le_refl _) _, H0.out.alloc _, H1.out.alloc _, ?_, ?_, by simp⟩
    · exact (box_cell (Below.refl (w.heap.size + 1) _) rfl (by simp) 0)
    · exact (box_cell (Below.refl (w.heap.size + 1) _) rfl (by simp) 1)
  have HSt := Lib.hid hst
  clear hst
  go_enter Tryz.func44, Tryz.ntmps44
  go_wp2_with fail
  go_loopw [4, 5] (fun v4 v5 wr => ∃ (lo hi : Nat), lo ≤ hi ∧ hi ≤ 9218868437227405311 ∧ v4 = .int .u64 (lo : Int) ∧ v5 = .int .u64 (hi : Int) ∧ Hid (BtSt w (.slice A0 n0 c0) (.slice A1 n1 c1) T B lo hi wr)) (fun v4 v5 _ => (intOf v5 - intOf v4).toNat)
  case atStart => exact ⟨0, 9218868437227405311, by omega, by omega, rfl, rfl, HSt⟩
  case round =>
    clear HSt
    obtain ⟨lo, hi, hlh, hhi, rfl, rfl, hst⟩ := hrel
    by_cases hlt : lo < hi
    · obtain ⟨mid, hmid⟩ : ∃ mid, lo + (hi - lo + 1) / 2 = mid := ⟨_, rfl⟩
      have hm1 : lo < mid := by omega
      have hm2 : mid ≤ hi := by omega
      have hmi : (lo : Int) + ((hi : Int) - (lo : Int) + 1) / 2 = (mid : Int) := by omega
      have HSt := Lib.hid hst.out
      have hlo0 : (lo : Int) ≤ (hi : Int) := by omega
      clear hst hmid
      have hE := spE_bd (r := mid) (by omega)
      have hM := spM_lt mid
      have hag := agV_at T B (spM mid) 1074 (spE mid) (by omega)
      have hVs := V_sp (r := mid) (by omega)
      have e3 : spE mid + ((1074 : Nat) : Int) = spE mid + 1074 := rfl
      rw [e3, ← hVs] at hag
      have HA := Lib.hid hag
      clear hag hVs e3
      go_wp2_with fail
      refine (split_any mid wr (by omega)).mono ?_
      rintro e w' ⟨rfl, rfl⟩
      obtain ⟨m, hm⟩ : ∃ m, spM mid = m := ⟨_, rfl⟩
      obtain ⟨x, hx⟩ : ∃ x, spE mid = x := ⟨_, rfl⟩
      rw [hm] at hM HA ⊢
      rw [hx] at hE HA ⊢
      clear hm hx
      obtain ⟨q1, q2, q3, q4, q5, q6, q7⟩ := HSt.out
      have Q3 := Lib.hid q3
      have Q4 := Lib.hid q4
      clear q1 q2 q3 q4
      go_wp2_with fail
      refine (against_any _ _ T B m x wr Q3.out Q4.out (by omega) (by omega) (by omega) (by omega) (by omega)).mono ?_
      rintro e w2 ⟨rfl, hb2⟩
      have HS2 := Lib.hid (HSt.out.call hb2)
      clear hb2 q5 q6 q7 Q3 Q4 HSt
      obtain ⟨c, hc⟩ : ∃ c, agV T B m x = c := ⟨_, rfl⟩
      rw [hc] at HA ⊢
      have HC := Lib.hid HA.out
      clear hc HA
      by_cases hc0 : 0 ≤ c
      · have hn := Lib.hid (HS2.out.go (bi_up HS2.out.1 hm2 (by rw [← HC.out]; exact hc0)))
        go_wp2_with fail
        exact ⟨⟨mid, hi, by omega, by omega, rfl, rfl, hn⟩, by simp [intOf]; omega⟩
      · have hn := Lib.hid (HS2.out.go (bi_down HS2.out.1 hm1 hm2 (by rw [← HC.out]; exact hc0)))
        go_wp2_with fail
        exact ⟨⟨lo, mid - 1, by omega, by omega, rfl, by congr 1; omega, hn⟩, by simp [intOf]; omega⟩
    · obtain rfl : lo = hi := by omega
      have HSt := Lib.hid hst.out
      clear hst
      have hE := spE_bd (r := lo) (by omega)
      have hM := spM_lt lo
      have hag := agV_at T B (2 * spM lo + 1) 1075 (spE lo - 1) (by omega)
      have hVs := V_next (r := lo) (by omega)
      have e3 : spE lo - 1 + ((1075 : Nat) : Int) = spE lo + 1074 := by omega
      rw [e3, ← hVs] at hag
      have h2X : T * 2 ^ 1075 = 2 * (T * 2 ^ 1074) := p2dbl T 1074 1075 (by omega)
      rw [h2X] at hag
      have HA := Lib.hid hag
      have hodd := sp_odd lo
      clear hag hVs e3 h2X
      go_wp2_with fail
      refine (split_any lo wr (by omega)).mono ?_
      rintro e w' ⟨rfl, rfl⟩
      obtain ⟨m, hm⟩ : ∃ m, spM lo = m := ⟨_, rfl⟩
      obtain ⟨x, hx⟩ : ∃ x, spE lo = x := ⟨_, rfl⟩
      rw [hm] at hM HA hodd ⊢
      rw [hx] at hE HA ⊢
      clear hm hx
      obtain ⟨q1, q2, q3, q4, q5, q6, q7⟩ := HSt.out
      have Q3 := Lib.hid q3
      have Q4 := Lib.hid q4
      have hfin := bi_near hBp q1
      have HN := Lib.hid hfin.1
      have hr2 := hfin.2
      clear q1 q2 q3 q4 hfin
      have hm2 : 2 * (m : Int) + 1 = ((2 * m + 1 : Nat) : Int) := by omega
      have HM2 := Lib.hid hm2
      have HOd := Lib.hid hodd
      clear hm2 hodd
      go_wp2_with fail
      rw [HM2.out]
      refine (against_any _ _ T B (2 * m + 1) (x - 1) wr Q3.out Q4.out (by omega) (by omega) (by omega) (by omega) (by omega)).mono ?_
      rintro e w2 ⟨rfl, hb2⟩
      have HS2 := Lib.hid (HSt.out.call hb2)
      clear hb2 q5 q6 q7 Q3 Q4 HSt HM2
      obtain ⟨c, hc⟩ : ∃ c, agV T B (2 * m + 1) (x - 1) = c := ⟨_, rfl⟩
      rw [hc] at HA ⊢
      clear hc
      have hround : biRound (T * 2 ^ 1074) B lo = if c > 0 ∨ (c = 0 ∧ m % 2 = 1) then lo + 1 else lo := by
        unfold biRound
        rw [← HA.out, HOd.out]
      have HRo := Lib.hid hround
      rw [hround] at HN hr2
      clear hround HA HOd
      by_cases hc1 : 0 < c
      · rw [if_pos (.inl hc1)] at HN hr2
        go_wp2_with fail
        go_ret2
        exact ⟨lo + 1, by simp; omega, by rewrite [← HX.out]; exact HN.out, HS2.out.2.1⟩
      · by_cases hc2 : c = 0 ∧ m % 2 = 1
        · obtain ⟨rfl, hmo⟩ := hc2
          rw [if_pos (.inr ⟨rfl, hmo⟩)] at HN hr2
          have d1 : ((m : Int) % 2 == 1) = true := by simp; omega
          go_wp2_with fail
          go_ret2
          exact ⟨lo + 1, by simp; omega, by rewrite [← HX.out]; exact HN.out, HS2.out.2.1⟩
        · rw [if_neg (by omega)] at HN hr2
          by_cases hc3 : c = 0
          · subst hc3
            have d1 : ((m : Int) % 2 == 1) = false := by simp; omega
            go_wp2_with fail
            go_ret2
            exact ⟨lo, by simp; omega, by rewrite [← HX.out]; exact HN.out, HS2.out.2.1⟩
          · have d1 : (c == 0) = false := by simp; omega
            go_wp2_with fail
            go_ret2
            exact ⟨lo, by simp; omega, by rewrite [← HX.out]; exact HN.out, HS2.out.2.1⟩
end Go.Proofs.YtjciflgnlldgbaaGreatDoor.big
end
