/- The reference's power, walked. PLAIN LEAN: the reference's choice is a choice in the sense of Cand. -/
import Derived.Test.YtjciflgnlldgbaaGreatDoorGShp
import Derived.Test.YtjciflgnlldgbaaGreatDoorGRb
import Derived.Test.YtjciflgnlldgbaaGreatDoorGSg
section
namespace Go.Proofs.YtjciflgnlldgbaaGreatDoor.rt
open Go.RowKit mem fl big sh
set_option linter.unusedVariables false

theorem gsc (D a b c d P : Nat) (h : a + c = b) : D * 10 ^ a * P * 10 ^ c = D * (10 ^ b * P) := by
  subst h
  rw [Nat.pow_add]
  ac_rfl
theorem bsc (a c d V : Nat) (h : a + c = d) : 10 ^ a * V * 10 ^ c = 10 ^ d * V := by
  subst h
  rw [Nat.pow_add]
  ac_rfl
theorem ag_G (D : Nat) (x : Int) (a : Nat) (h1 : a < 9218868437227405312) (hx : -400 ≤ x) : agV (D * 10 ^ x.toNat) (10 ^ (-x).toNat) (spM a) (spE a) = ordN (D * G x) (ce a) := by
  have h := agV_at (D * 10 ^ x.toNat) (10 ^ (-x).toNat) (spM a) 1074 (spE a) (by have := spE_bd h1; omega)
  have hV := V_sp h1
  rewrite [show spE a + ((1074 : Nat) : Int) = spE a + 1074 from rfl, ← hV] at h
  rewrite [h, ← ordN_scale _ _ (10 ^ (400 - (-x).toNat)) (tenpos _), ← pow2_eq 1074, ← E_p]
  rewrite [gsc D _ _ _ 0 E (show x.toNat + (400 - (-x).toNat) = (x + 400).toNat by omega), bsc _ _ 400 (fl.V a) (by omega), ← pow10_eq 400, ← F_p]
  exact Eq.refl (ordN (D * G x) (ce a))
theorem ag_G2 (D : Nat) (x : Int) (a : Nat) (h1 : a < 9218868437227405312) (hx : -400 ≤ x) : agV (D * 10 ^ x.toNat) (10 ^ (-x).toNat) (spM a) (spE a + 1) = ordN (D * G x) (2 * ce a) := by
  have hb := spE_bd h1
  have h := agV_at (D * 10 ^ x.toNat) (10 ^ (-x).toNat) (spM a) 1074 (spE a + 1) (by omega)
  have hV := V_sp h1
  have e : spM a * 2 ^ (spE a + 1 + ((1074 : Nat) : Int)).toNat = 2 * fl.V a := by
    rewrite [hV, show (spE a + 1 + ((1074 : Nat) : Int)).toNat = (spE a + 1074).toNat + 1 by omega, Nat.pow_succ]
    ac_rfl
  rewrite [e] at h
  rewrite [h, ← ordN_scale _ _ (10 ^ (400 - (-x).toNat)) (tenpos _), ← pow2_eq 1074, ← E_p]
  rewrite [gsc D _ _ _ 0 E (show x.toNat + (400 - (-x).toNat) = (x + 400).toNat by omega), bsc _ _ 400 (2 * fl.V a) (by omega), ← pow10_eq 400, ← F_p, Nat.mul_left_comm F 2 (fl.V a)]
  exact Eq.refl (ordN (D * G x) (2 * ce a))
theorem ord_pos (a b : Nat) : (0 < ordN a b ↔ b < a) ∧ (ordN a b = 0 ↔ a = b) := by
  unfold ordN
  by_cases h : a < b
  · rw [if_pos h]; omega
  · rw [if_neg h]
    by_cases h2 : b < a
    · rw [if_pos h2]; omega
    · rw [if_neg h2]; omega
/-- p: ten to the power of p - 1 is at most the float, ten to the power of p above it -/
def Pw (a : Nat) (p : Int) : Prop := -330 ≤ p ∧ p ≤ 310 ∧ G (p - 1) ≤ ce a ∧ ce a < G p
theorem lowG : G (-331) ≤ F := by decide +kernel
theorem highG : F * (pow2 1024 * E) < G 310 := by decide +kernel
theorem V_top (a : Nat) (h1 : a < 9218868437227405312) : fl.V a ≤ pow2 1024 * E := by
  have h := V_mono h1
  rewrite [V_inf, ← pow2_eq 1024, ← pow2_eq 1074, ← E_p] at h
  exact Nat.le_of_lt h
theorem pw_start (a : Nat) (h0 : 0 < a) (h1 : a < 9218868437227405312) : G (-330 - 1) ≤ ce a ∧ ce a < G 310 := by
  have hV := V_mono h0
  have hV1 : 1 ≤ fl.V a := by omega
  constructor
  · refine Nat.le_trans lowG ?_
    unfold ce
    exact Nat.le_mul_of_pos_right _ hV1
  · refine Nat.lt_of_le_of_lt ?_ highG
    unfold ce
    exact Nat.mul_le_mul_left _ (V_top a h1)
theorem digs1 : Digs ((⟨#[49]⟩ : ByteArray).data.toList) := by
  have := digs_strN (l := [49]) (by intro c hc; simp at hc; omega)
  exact this
theorem dv1 : dv ((⟨#[49]⟩ : ByteArray).data.toList) = 1 := by
  have := dv_strN (l := [49]) (by intro c hc; simp at hc; omega)
  exact this
theorem dec_one (x : Int) (w : World) (hx : x ≤ 5000) (hx0 : -5000 ≤ x) : Calls Tryz.prog 43 #[.string ⟨#[49]⟩, .int .i64 x] w (DecPost (1 * 10 ^ x.toNat) (10 ^ (-x).toNat) w) := by
  have h := dec_any ⟨#[49]⟩ x w digs1 (by decide) hx hx0
  rw [dv1] at h
  exact h
theorem len_T (x : Int) (h1 : x ≤ 5000) (D b : Nat) (hD : (wd D).length ≤ b) : (wd (D * 10 ^ x.toNat)).length ≤ b + 5001 := by
  have := wd_len_mulp (D := D) (b := b) (K := 5000) (j := x.toNat) hD (by omega)
  omega
theorem len_B (x : Int) (h1 : -5000 ≤ x) : (wd (10 ^ (-x).toNat)).length ≤ 5001 := wd_len_p10 (K := 5000) (by omega)
end Go.Proofs.YtjciflgnlldgbaaGreatDoor.rt
end
section
namespace Go.Proofs.YtjciflgnlldgbaaGreatDoor.rt
open fl sh
set_option linter.unusedVariables false

theorem upw_pos (a : Nat) (h0 : 0 < a) : 0 < upw a ∧ dn a ≤ upw a := by
  have h1 := step2 a h0
  have h2 := step_le a h0
  omega
/-- neither the grid's point below nor the one above: none at all -/
theorem in_none {a q : Nat} {x : Int} (hx : -400 ≤ x) (h0 : 0 < a) (h1 : a < 9218868437227405312) (l1 : q * G x ≤ ce a) (l2 : ce a < (q + 1) * G x) (n1 : ¬ In a q x) (n2 : ¬ In a (q + 1) x) : ∀ q', ¬ In a q' x := by
  intro q' h
  have hu := upw_pos a h0
  have hd := step_le a h0
  rw [in_fin hx h0 h1] at h n1 n2
  by_cases hq : q' ≤ q
  · have := Nat.mul_le_mul_right (G x) hq
    apply n1
    omega
  · have := Nat.mul_le_mul_right (G x) (show q + 1 ≤ q' by omega)
    apply n2
    omega
theorem half_lo {c g q : Nat} (l1 : q * g ≤ c) (hg : 0 < g) (h : 2 * c < (2 * q + 1) * g ∨ (2 * c = (2 * q + 1) * g ∧ q % 2 = 0)) : Half c g q := by
  refine ⟨.inl ?_, ?_⟩
  · rw [Nat.mul_assoc]; omega
  · rcases h with h | ⟨h, h2⟩
    · exact .inl h
    · exact .inr ⟨h, h2⟩
theorem half_hi {c g q : Nat} (l2 : c < (q + 1) * g) (hg : 0 < g) (h : (2 * q + 1) * g < 2 * c ∨ (2 * c = (2 * q + 1) * g ∧ q % 2 = 1)) : Half c g (q + 1) := by
  have e1 : 2 * (q + 1) * g = (2 * q + 1) * g + g := by rw [show 2 * (q + 1) = 2 * q + 1 + 1 by omega, Nat.add_mul (2 * q + 1) 1, Nat.one_mul]
  have e2 : (2 * (q + 1) + 1) * g = 2 * ((q + 1) * g) + g := by rw [Nat.add_mul, Nat.one_mul, Nat.mul_assoc]
  refine ⟨?_, .inl ?_⟩
  · rw [e1]
    rcases h with h | ⟨h, h2⟩
    · exact .inl (by omega)
    · exact .inr ⟨by omega, by omega⟩
  · rw [e2]; omega
/-- the nearest is the one below or the one above -/
theorem half_ex (c g q : Nat) (hg : 0 < g) (l1 : q * g ≤ c) (l2 : c < (q + 1) * g) : Half c g q ∨ Half c g (q + 1) := by
  by_cases h : 2 * c < (2 * q + 1) * g
  · exact .inl (half_lo l1 hg (.inl h))
  · by_cases h2 : 2 * c = (2 * q + 1) * g
    · by_cases h3 : q % 2 = 0
      · exact .inl (half_lo l1 hg (.inr ⟨h2, h3⟩))
      · exact .inr (half_hi l2 hg (.inr ⟨h2, by omega⟩))
    · exact .inr (half_hi l2 hg (.inl (by omega)))
theorem only_one {a q r : Nat} {x : Int} (hx : -400 ≤ x) (h0 : 0 < a) (h1 : a < 9218868437227405312) (l1 : q * G x ≤ ce a) (l2 : ce a < (q + 1) * G x) (i1 : In a r x) (hr : (r = q ∧ ¬ In a (q + 1) x) ∨ (r = q + 1 ∧ ¬ In a q x)) :
    Half (ce a) (G x) r ∨ ∀ q', In a q' x → q' = r := by
  by_cases hu : ∀ q', In a q' x → q' = r
  · exact .inr hu
  · left
    obtain ⟨q', hq'⟩ := Classical.not_forall.1 hu
    obtain ⟨i2, hne⟩ := Classical.not_imp.1 hq'
    have hin : ∀ K, Half (ce a) (G x) K → In a K x := fun K hK => by
      by_cases hl : r < q'
      · exact near_in hx h0 h1 i1 i2 hl hK
      · exact near_in hx h0 h1 i2 i1 (by omega) hK
    rcases half_ex (ce a) (G x) q (G_pos x) l1 l2 with h | h
    · rcases hr with ⟨rfl, hn⟩ | ⟨rfl, hn⟩
      · exact h
      · exact (hn (hin _ h)).elim
    · rcases hr with ⟨rfl, hn⟩ | ⟨rfl, hn⟩
      · exact (hn (hin _ h)).elim
      · exact h
/-- with seventeen digits there is one -/
theorem in_17 {a : Nat} {p : Int} (h0 : 0 < a) (h1 : a < 9218868437227405312) (hp : Pw a p) : ∃ q, In a q (p - 17) := by
  obtain ⟨hp1, hp2, hp3, hp4⟩ := hp
  obtain ⟨j, K, z, hs, _⟩ := uw.shape a h0 h1
  have hg := G_up (p - 17) (by omega) 16
  rw [show p - 17 + ((16 : Nat) : Int) = p - 1 by omega, show (10 : Nat) ^ 16 = 10000000000000000 by decide] at hg
  rw [hg] at hp3
  have hu : upw a = F * 2 ^ j := by unfold upw; rw [hs.up]
  have hc : ce a = K * (F * 2 ^ j) := by unfold ce; rw [hs.V, Nat.mul_left_comm]
  have hK := hs.hK
  have hf : 0 < F * 2 ^ j := Nat.mul_pos F_pos (Nat.two_pow_pos j)
  have hKm : K * (F * 2 ^ j) ≤ 9007199254740991 * (F * 2 ^ j) := Nat.mul_le_mul_right _ (by omega)
  refine in_some (by omega) h0 h1 (.inl ?_)
  by_cases hk : Skw j K
  · have hd : 2 * dn a = F * 2 ^ j := by unfold dn; rw [Nat.mul_left_comm, hs.downS hk]
    have hKe : K * (F * 2 ^ j) = 4503599627370496 * (F * 2 ^ j) := by rw [hk.1]
    generalize F * 2 ^ j = f at *
    generalize K * f = c at *
    omega
  · have hd : dn a = F * 2 ^ j := by unfold dn; rw [hs.down hk]
    generalize F * 2 ^ j = f at *
    generalize K * f = c at *
    omega
/-- the float above ten rungs: its step is small -/
theorem step_small {a : Nat} (h0 : 10 ≤ a) (h1 : a < 9218868437227405312) : 10 * upw a ≤ ce a := by
  obtain ⟨j, K, z, hs, _⟩ := uw.shape a (by omega) h1
  have hu : upw a = F * 2 ^ j := by unfold upw; rw [hs.up]
  have hc : ce a = K * (F * 2 ^ j) := by unfold ce; rw [hs.V, Nat.mul_left_comm]
  have hK10 : 10 ≤ K := by
    have h2 := hs.ha
    rcases hs.hj with h | h <;> omega
  rw [hu, hc]
  exact Nat.mul_le_mul_right _ hK10
theorem g324 : G (-324) < F := by decide +kernel
theorem g322 : 9 * F < G (-322) := by decide +kernel
theorem n323 : 3 * F < 2 * G (-323) ∧ G (-323) ≤ 3 * F := by decide +kernel
theorem n322 : 19 * F < 2 * G (-322) := by decide +kernel
theorem q324 : 9 * G (-324) ≤ 2 * F ∧ 2 * F < 10 * G (-324) ∧ 19 * G (-324) < 4 * F := by decide +kernel
theorem G_mono {x y : Int} (hx : -400 ≤ x) (h : x ≤ y) : G x ≤ G y := by
  obtain ⟨k, rfl⟩ : ∃ k : Nat, y = x + k := ⟨(y - x).toNat, by omega⟩
  rw [G_up x hx k]
  exact Nat.le_mul_of_pos_left _ (tenpos k)
/-- where ten to the power of p itself reads as the float, nine does not, or ten is nearer -/
theorem at_ten {a q : Nat} {p : Int} (h0 : 0 < a) (h1 : a < 9218868437227405312) (hp : Pw a p) (l1 : q * G (p - 1) ≤ ce a) (l2 : ce a < (q + 1) * G (p - 1)) (h : In a 1 p) : q = 9 ∧ (¬ In a 9 (p - 1) ∨ (2 * 9 + 1) * G (p - 1) < 2 * ce a) := by
  obtain ⟨hp1, hp2, hp3, hp4⟩ := hp
  have hu := upw_pos a h0
  have hg := G_succ (p - 1) (by omega)
  rw [show p - 1 + 1 = p by omega] at hg
  have hgp := G_pos (p - 1)
  by_cases ha : 10 ≤ a
  · have hs := step_small ha h1
    rw [in_fin (by omega) h0 h1] at h
    have hq9 : q = 9 := by
      have t1 : q ≤ 9 := by
        rcases Nat.lt_or_ge q 10 with h9 | h9
        · omega
        · have := Nat.mul_le_mul_right (G (p - 1)) h9
          omega
      have t2 : 9 ≤ q := by
        rcases Nat.lt_or_ge q 9 with h9 | h9
        · have := Nat.mul_le_mul_right (G (p - 1)) (show q + 1 ≤ 9 by omega)
          omega
        · exact h9
      omega
    refine ⟨hq9, .inl ?_⟩
    intro h9
    rw [in_fin (by omega) h0 h1] at h9
    omega
  · have hVa : fl.V a = a := V_small (by omega)
    have hVb : fl.V (a + 1) = a + 1 := V_small (by omega)
    have hc : ce a = a * F := by unfold ce; rw [hVa, Nat.mul_comm]
    have hw : upw a = F := by unfold upw; rw [hVa, hVb, show a + 1 - a = 1 by omega, Nat.mul_one]
    have haF : a * F ≤ 9 * F := Nat.mul_le_mul_right _ (by omega)
    have haF1 : 1 * F ≤ a * F := Nat.mul_le_mul_right _ (by omega)
    have k1 := g324
    have k2 := g322
    have hpl : -323 ≤ p := by
      rcases Int.lt_or_le p (-323) with h9 | h9
      · have := G_mono (x := p) (y := -324) (by omega) (by omega)
        omega
      · exact h9
    have hph : p ≤ -322 := by
      rcases Int.lt_or_le (-322) p with h9 | h9
      · have := G_mono (x := -322) (y := p - 1) (by omega) (by omega)
        omega
      · exact h9
    rw [in_fin (by omega) h0 h1] at h
    have hcase : p = -323 ∨ p = -322 := by omega
    rcases hcase with rfl | rfl
    · have k3 := n323
      have ha2 : a = 2 := by
        rcases Nat.lt_or_ge a 2 with h9 | h9
        · have : a = 1 := by omega
          subst this
          omega
        · rcases Nat.lt_or_ge 2 a with h8 | h8
          · have := Nat.mul_le_mul_right F (show 3 ≤ a from h8)
            omega
          · omega
      subst ha2
      have k4 := q324
      rw [show (-323 : Int) - 1 = -324 by omega] at l1 l2 ⊢
      have hq9 : q = 9 := by
        have t1 : q ≤ 9 := by
          rcases Nat.lt_or_ge q 10 with h9 | h9
          · omega
          · have := Nat.mul_le_mul_right (G (-324)) h9
            omega
        have t2 : 9 ≤ q := by
          rcases Nat.lt_or_ge q 9 with h9 | h9
          · have := Nat.mul_le_mul_right (G (-324)) (show q + 1 ≤ 9 by omega)
            omega
          · exact h9
        omega
      exact ⟨hq9, .inr (by omega)⟩
    · have k3 := n322
      exfalso
      omega
/-- coarser than all that is looked at: nothing, or ten itself -/
theorem in_p {a q' : Nat} {p : Int} (h0 : 0 < a) (h1 : a < 9218868437227405312) (hp : Pw a p) (h : In a q' p) : q' = 1 := by
  obtain ⟨hp1, hp2, hp3, hp4⟩ := hp
  have h3 := in_pos (by omega) h0 h1 h
  have h4 := step2 a h0
  have h5 := step_le a h0
  rw [in_fin (by omega) h0 h1] at h
  rcases Nat.lt_or_ge q' 2 with h9 | h9
  · omega
  · have := Nat.mul_le_mul_right (G p) h9
    omega
/-- the reference's choice at n digits -/
theorem ref_choice {a q r : Nat} {p x : Int} (h0 : 0 < a) (h1 : a < 9218868437227405312) (hp : Pw a p) (hx1 : x ≤ p - 1) (hx2 : p - 17 ≤ x) (l1 : q * G x ≤ ce a) (l2 : ce a < (q + 1) * G x)
    (hno : x < p - 1 → ∀ q', ¬ In a q' (x + 1)) (hr : (r = q ∧ In a q x ∧ (¬ In a (q + 1) x ∨ 2 * ce a < (2 * q + 1) * G x ∨ (2 * ce a = (2 * q + 1) * G x ∧ q % 2 = 0))) ∨ (r = q + 1 ∧ In a (q + 1) x ∧ (¬ In a q x ∨ (2 * q + 1) * G x < 2 * ce a ∨ (2 * ce a = (2 * q + 1) * G x ∧ q % 2 = 1)))) : Cand a r x := by
  have hpp := hp
  obtain ⟨hp1, hp2, hp3, hp4⟩ := hp
  have hx : -400 ≤ x := by omega
  have hg := G_pos x
  have hin : In a r x := by rcases hr with ⟨rfl, h, _⟩ | ⟨rfl, h, _⟩ <;> exact h
  refine ⟨hx, hin, ?_, fun q' hq' => ?_⟩
  · rcases hr with ⟨rfl, h, h2 | h2⟩ | ⟨rfl, h, h2 | h2⟩
    · exact only_one hx h0 h1 l1 l2 h (.inl ⟨rfl, h2⟩)
    · exact .inl (half_lo l1 hg h2)
    · exact only_one hx h0 h1 l1 l2 h (.inr ⟨rfl, h2⟩)
    · exact .inl (half_hi l2 hg h2)
  · by_cases hlt : x < p - 1
    · exact (hno hlt q' hq').elim
    · have hxp : x = p - 1 := by omega
      subst hxp
      rw [show p - 1 + 1 = p by omega] at hq'
      have hq1 := in_p h0 h1 hpp hq'
      subst hq1
      obtain ⟨hq9, h9⟩ := at_ten h0 h1 hpp l1 l2 hq'
      subst hq9
      have h10 : In a 10 (p - 1) := by
        have := (in_ten1 (a := a) (q := 1) (x := p - 1) (by omega)).1 (by rw [show p - 1 + 1 = p by omega]; exact hq')
        exact this
      rcases hr with ⟨rfl, h, h2⟩ | ⟨rfl, h, h2⟩
      · exfalso
        rcases h9 with h9 | h9
        · exact h9 h
        · rcases h2 with h2 | h2 | h2
          · exact h2 h10
          · omega
          · omega
      · rfl
end Go.Proofs.YtjciflgnlldgbaaGreatDoor.rt
end
