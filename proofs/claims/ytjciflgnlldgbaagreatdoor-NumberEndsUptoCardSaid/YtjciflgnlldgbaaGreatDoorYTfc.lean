/- PLAIN LEAN: a float's shortest digits, with noughts behind them, are cut nowhere and mean the float. -/
import Derived.Test.YtjciflgnlldgbaaGreatDoorYTfg
import Derived.Test.YtjciflgnlldgbaaGreatDoorGRp
import Derived.Test.YtjciflgnlldgbaaGreatDoorGLs
namespace Go.Proofs.YtjciflgnlldgbaaGreatDoor.pg
open Go.RowKit mem fl big us uw sh rt rt
set_option linter.unusedVariables false

theorem pw_ex (a : Nat) (h0 : 0 < a) (h1 : a < 9218868437227405312) : ∃ p, Pw a p := by
  obtain ⟨hs1, hs2⟩ := pw_start a h0 h1
  have key : ∀ n : Nat, n ≤ 640 → ce a < G (-330 + n) → ∃ p, Pw a p := by
    intro n
    induction n with
    | zero => intro _ h; exact ⟨-330, by omega, by omega, hs1, by simpa using h⟩
    | succ n ih =>
      intro hn h
      by_cases hl : ce a < G (-330 + n)
      · exact ih (by omega) hl
      · refine ⟨-330 + ((n + 1 : Nat) : Int), by omega, by omega, ?_, h⟩
        rw [show -330 + ((n + 1 : Nat) : Int) - 1 = -330 + (n : Int) by omega]
        omega
  exact key 640 (Nat.le_refl _) (by rw [show (-330 : Int) + ((640 : Nat) : Int) = 310 by omega]; exact hs2)
theorem topG : 2 * (F * (pow2 1024 * E)) < G 309 := by decide +kernel
theorem botG : 2 * G (-327) ≤ F := by decide +kernel
theorem dgs_lo (q : Nat) (h : 0 < q) : ∃ m, (dgs q).length = m + 1 ∧ 10 ^ m ≤ q ∧ q < 10 ^ (m + 1) := by
  induction q using Nat.strongRecOn with
  | _ q ih =>
    by_cases h10 : q < 10
    · exact ⟨0, by rw [dgs_small q h10]; rfl, (by rw [Nat.pow_zero]; exact h), by simpa using h10⟩
    · obtain ⟨m, h1, h2, h3⟩ := ih (q / 10) (by omega) (by omega)
      refine ⟨m + 1, by rw [dgs_step q h10, List.length_append, h1]; rfl, ?_, ?_⟩
      · rw [Nat.pow_succ]; omega
      · rw [Nat.pow_succ]; omega
/-- where the digits stand -/
theorem cand_bd {a q : Nat} {y : Int} (h0 : 0 < a) (h1 : a < 9218868437227405312) (hC : Cand a q y) (hq : q % 10 ≠ 0) : (dgs q).length ≤ 18 ∧ -326 ≤ ((dgs q).length : Int) + y ∧ ((dgs q).length : Int) + y ≤ 310 := by
  obtain ⟨hy, hI, _, h10⟩ := hC
  obtain ⟨p, hp⟩ := pw_ex a h0 h1
  have hp' := hp
  obtain ⟨hp1, hp2, hp3, hp4⟩ := hp
  obtain ⟨q0, hq0⟩ := in_17 h0 h1 hp'
  have hyp : p - 17 ≤ y := by
    rcases Int.lt_or_le y (p - 17) with h | h
    · exfalso
      obtain ⟨k, hk⟩ : ∃ k : Nat, p - 17 = y + 1 + k := ⟨(p - 17 - y - 1).toNat, by omega⟩
      rw [hk] at hq0
      have h2 := in_ten k (by omega) hq0
      have h3 := h10 _ h2
      omega
    · exact h
  obtain ⟨m, hm1, hm2, hm3⟩ := dgs_lo q (by omega)
  have hf := (in_fin hy h0 h1).1 hI
  have hst := step_le a h0
  have hs2 := step2 a h0
  obtain ⟨hs1, _⟩ := pw_start a h0 h1
  have hqG2 : q * G y ≤ 2 * ce a := by rcases hs2 with h | h <;> omega
  have hqG1 : ce a ≤ 2 * (q * G y) := by omega
  have hF : F ≤ ce a := by
    unfold ce
    have hV := V_mono h0
    exact Nat.le_mul_of_pos_right _ (by omega)
  have htop : ce a ≤ F * (pow2 1024 * E) := by
    unfold ce
    exact Nat.mul_le_mul_left _ (V_top a h1)
  have g1 := G_up y hy m
  have g2 := G_up y hy (m + 1)
  have hl1 : 10 ^ m * G y ≤ q * G y := Nat.mul_le_mul_right _ hm2
  have hl2 : q * G y < 10 ^ (m + 1) * G y := Nat.mul_lt_mul_of_pos_right hm3 (G_pos y)
  rw [← g1] at hl1
  rw [← g2] at hl2
  rw [hm1]
  refine ⟨?_, ?_, ?_⟩
  · rcases Nat.lt_or_ge 18 (m + 1) with h | h
    · exfalso
      have hmono := G_mono (x := p + 1) (y := y + (m : Int)) (by omega) (by omega)
      have hs := G_succ p (by omega)
      have hGp := G_pos p
      omega
    · exact h
  · rcases Int.lt_or_le (((m + 1 : Nat) : Int) + y) (-326) with h | h
    · exfalso
      have hmono := G_mono (x := y + ((m + 1 : Nat) : Int)) (y := -327) (by omega) (by omega)
      have := botG
      omega
    · exact h
  · rcases Int.lt_or_le 310 (((m + 1 : Nat) : Int) + y) with h | h
    · exfalso
      have hmono := G_mono (x := 309) (y := y + (m : Int)) (by omega) (by omega)
      have := topG
      omega
    · exact h
theorem dvn_noughts (L : List Nat) (t : Nat) : dvn (L ++ List.replicate t 48) = dvn L * 10 ^ t := by
  induction t with
  | zero => simp
  | succ t ih =>
    have e : dvn (L ++ List.replicate t 48 ++ [48]) = dvn (L ++ List.replicate t 48) * 10 + (48 - 48) := by
      conv => lhs; unfold dvn
      rw [List.foldl_append]
      rfl
    rw [List.replicate_succ', ← List.append_assoc, e, ih, Nat.pow_succ, Nat.mul_assoc]
    omega
theorem tf_of_cand {a q : Nat} {y : Int} (h0 : 0 < a) (h1 : a < 9218868437227405312) (hC : Cand a q y) (hq : q % 10 ≠ 0) (k : Nat) (hk : k ≤ 30) : Tf (2 ^ 1074) (dgs q ++ List.replicate k 48) (((dgs q).length : Int) + y) a := by
  obtain ⟨b1, b2, b3⟩ := cand_bd h0 h1 hC hq
  obtain ⟨c0, L2, he, e1, e2⟩ := dgs_head q (by omega)
  have hpos : 0 < (dgs q).length := by rw [he]; simp
  obtain ⟨l, hl⟩ : ∃ l, (dgs q).length = l := ⟨_, rfl⟩
  obtain ⟨t, ht⟩ : ∃ t, min k (19 - l) = t := ⟨_, rfl⟩
  have htake : (dgs q ++ List.replicate k 48).take 19 = dgs q ++ List.replicate t 48 := by
    rw [List.take_append, List.take_of_length_le (by omega), List.take_replicate, hl]
    congr 2
    omega
  refine ⟨fun c hc => ?_, by simp; omega, by simp; omega, by rw [he]; simp; omega, ?_, b2, b3, ?_, h1⟩
  · rcases List.mem_append.1 hc with hc | hc
    · exact dgs_bytes q c hc
    · rw [List.mem_replicate] at hc; omega
  · unfold rfTr
    rw [List.drop_append, List.drop_eq_nil_of_le (by omega), List.nil_append, List.drop_replicate]
    simp
  · unfold Dec rfM
    rw [htake, dvn_noughts, dvn_dgs']
    have hlen : (dgs q ++ List.replicate k 48).length = l + k := by simp [hl]
    rw [hlen, hl]
    have hmin : ((l : Int) + y) - ((min (l + k) 19 : Nat) : Int) = y - t := by omega
    rw [hmin]
    have hIn := hC.2.1
    have hIn2 : In a q ((y - t) + (t : Int)) := by rw [show y - (t : Int) + (t : Int) = y by omega]; exact hIn
    exact in_ten t (by omega) hIn2
end Go.Proofs.YtjciflgnlldgbaaGreatDoor.pg
