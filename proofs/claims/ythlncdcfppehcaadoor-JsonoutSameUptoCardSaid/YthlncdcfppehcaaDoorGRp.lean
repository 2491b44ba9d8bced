/- The reference's power, walked. The reference's reads and seventeen, walked. The reference's seventeen, walked. -/
import Derived.Test.YthlncdcfppehcaaDoorGShp
import Derived.Test.YthlncdcfppehcaaDoorGRb
import Derived.Test.YthlncdcfppehcaaDoorYDl
import Derived.Deep.RegionLaw
import Derived.Deep.RegionHeld3
section
namespace Go.Proofs.YthlncdcfppehcaaDoor.rt
open Go.RowKit mem fl big sh
set_option linter.unusedVariables false

theorem gsc (D a b c d P : Nat) (h : a + c = b) : D * 10 ^ a * P * 10 ^ c = D * (10 ^ b * P) := by
  subst h
  rw [Nat.pow_add]
  ac_rfl
theorem bsc (a c d V : Nat) (h : a + c = d) : 10 ^ a * V * 10 ^ c = 10 ^ d * V := by
  subst h
  rw [Nat.pow_add]
  ac_rfl
theorem ag_G (D : Nat) (x : Int) (a : Nat) (h1 : a < 9218868437227405312) (hx : -400 ≤ x) : agV (D * 10 ^ x.toNat) (10 ^ (-x).toNat) (spM a) (spE a) = ordN (D * G x) (ce a) := by
  have h := agV_at (D * 10 ^ x.toNat) (10 ^ (-x).toNat) (spM a) 1074 (spE a) (by have := spE_bd h1; omega)
  have hV := V_sp h1
  rewrite [show spE a + ((1074 : Nat) : Int) = spE a + 1074 from rfl, ← hV] at h
  rewrite [h, ← ordN_scale _ _ (10 ^ (400 - (-x).toNat)) (tenpos _), ← pow2_eq 1074, ← E_p]
  rewrite [gsc D _ _ _ 0 E (show x.toNat + (400 - (-x).toNat) = (x + 400).toNat by omega), bsc _ _ 400 (fl.V a) (by omega), ← pow10_eq 400, ← F_p]
  exact Eq.refl (ordN (D * G x) (ce a))
theorem ag_G2 (D : Nat) (x : Int) (a : Nat) (h1 : a < 9218868437227405312) (hx : -400 ≤ x) : agV (D * 10 ^ x.toNat) (10 ^ (-x).toNat) (spM a) (spE a + 1) = ordN (D * G x) (2 * ce a) := by
  have hb := spE_bd h1
  have h := agV_at (D * 10 ^ x.toNat) (10 ^ (-x).toNat) (spM a) 1074 (spE a + 1) (by omega)
  have hV := V_sp h1
  have e : spM a * 2 ^ (spE a + 1 + ((1074 : Nat) : Int)).toNat = 2 * fl.V a := by
    rewrite [hV, show (spE a + 1 + ((1074 : Nat) : Int)).toNat = (spE a + 1074).toNat + 1 by omega, Nat.pow_succ]
    ac_rfl
  rewrite [e] at h
  rewrite [h, ← ordN_scale _ _ (10 ^ (400 - (-x).toNat)) (tenpos _), ← pow2_eq 1074, ← E_p]
  rewrite [gsc D _ _ _ 0 E (show x.toNat + (400 - (-x).toNat) = (x + 400).toNat by omega), bsc _ _ 400 (2 * fl.V a) (by omega), ← pow10_eq 400, ← F_p, Nat.mul_left_comm F 2 (fl.V a)]
  exact Eq.refl (ordN (D * G x) (2 * ce a))
theorem ord_pos (a b : Nat) : (0 < ordN a b ↔ b < a) ∧ (ordN a b = 0 ↔ a = b) := by
  unfold ordN
  by_cases h : a < b
  · rw [if_pos h]; omega
  · rw [if_neg h]
    by_cases h2 : b < a
    · rw [if_pos h2]; omega
    · rw [if_neg h2]; omega
/-- p: ten to the power of p - 1 is at most the float, ten to the power of p above it -/
def Pw (a : Nat) (p : Int) : Prop := -330 ≤ p ∧ p ≤ 310 ∧ G (p - 1) ≤ ce a ∧ ce a < G p
theorem lowG : G (-331) ≤ F := by decide +kernel
theorem highG : F * (pow2 1024 * E) < G 310 := by decide +kernel
theorem V_top (a : Nat) (h1 : a < 9218868437227405312) : fl.V a ≤ pow2 1024 * E := by
  have h := V_mono h1
  rewrite [V_inf, ← pow2_eq 1024, ← pow2_eq 1074, ← E_p] at h
  exact Nat.le_of_lt h
theorem pw_start (a : Nat) (h0 : 0 < a) (h1 : a < 9218868437227405312) : G (-330 - 1) ≤ ce a ∧ ce a < G 310 := by
  have hV := V_mono h0
  have hV1 : 1 ≤ fl.V a := by omega
  constructor
  · refine Nat.le_trans lowG ?_
    unfold ce
    exact Nat.le_mul_of_pos_right _ hV1
  · refine Nat.lt_of_le_of_lt ?_ highG
    unfold ce
    exact Nat.mul_le_mul_left _ (V_top a h1)
theorem digs1 : Digs ((⟨#[49]⟩ : ByteArray).data.toList) := by
  have := digs_strN (l := [49]) (by intro c hc; simp at hc; omega)
  exact this
theorem dv1 : dv ((⟨#[49]⟩ : ByteArray).data.toList) = 1 := by
  have := dv_strN (l := [49]) (by intro c hc; simp at hc; omega)
  exact this
theorem len_T (x : Int) (h1 : x ≤ 5000) (D b : Nat) (hD : (wd D).length ≤ b) : (wd (D * 10 ^ x.toNat)).length ≤ b + 5001 := by
  have := wd_len_mulp (D := D) (b := b) (K := 5000) (j := x.toNat) hD (by omega)
  omega
theorem len_B (x : Int) (h1 : -5000 ≤ x) : (wd (10 ^ (-x).toNat)).length ≤ 5001 := wd_len_p10 (K := 5000) (by omega)
end Go.Proofs.YthlncdcfppehcaaDoor.rt
end
section
namespace Go.Proofs.YthlncdcfppehcaaDoor.rt
open Go.RowKit mem fl big sh uw
set_option linter.unusedVariables false

theorem dvn_dgs (q : Nat) : dvn (dgs q) = q := by
  induction q using Nat.strongRecOn with
  | _ q ih =>
    by_cases h : q < 10
    · rw [dgs_small q h]
      show (0 * 10 + (48 + q % 10 - 48)) = q
      omega
    · rw [dgs_step q h, dvn_app, ih (q / 10) (by omega)]
      show q / 10 * 10 ^ 1 + (0 * 10 + (48 + q % 10 - 48)) = q
      omega
theorem wd_q (q : Nat) (hq : q < 18446744073709551616) : (wd q).length ≤ 20 := by
  have h1 := Lib.lt_pow_nDigits q
  have h2 := wd_len_ten (b := 0) h1
  have := nd20 q hq
  omega
open Classical in
theorem in_unique {a q r : Nat} {x : Int} (h : Near (q * 10 ^ x.toNat * 2 ^ 1074) (10 ^ (-x).toNat) r) : In a q x ↔ r = a := by
  constructor
  · intro h2
    exact h.unique h2 (tenpos _)
  · intro h2
    rw [h2] at h
    exact h
end Go.Proofs.YthlncdcfppehcaaDoor.rt
end
section
namespace Go.Proofs.YthlncdcfppehcaaDoor.rt
open Go.RowKit mem fl big sh uw
set_option linter.unusedVariables false

theorem keep2 {W w' : World} {g : Nat} {a b : Value} (hb : Below W.heap.size W w') (hg : g < W.heap.size) (h0 : W.cell? ⟨g, 0, none⟩ = some a) (h1 : W.cell? ⟨g, 1, none⟩ = some b) : w'.cell? ⟨g, 0, none⟩ = some a ∧ w'.cell? ⟨g, 1, none⟩ = some b :=
  ⟨(hb.cell (p := ⟨g, 0, none⟩) hg).trans h0, (hb.cell (p := ⟨g, 1, none⟩) hg).trans h1⟩
theorem ord_mid (T B a q : Nat) (x : Int) (h1 : a < 9218868437227405312) (hx : -400 ≤ x) (hT : T = 1 * 10 ^ x.toNat) (hB : B = 10 ^ (-x).toNat) : agV (T * q) B (spM a) (spE a) = ordN (q * G x) (ce a) := by
  rw [hT, hB, Nat.one_mul, Nat.mul_comm]
  exact ag_G q x a h1 hx
end Go.Proofs.YthlncdcfppehcaaDoor.rt
end
