/- The reference's OfWholeBits, walked. -/
import Derived.Test.YtlkeemphdocpoaaFx
namespace Go.Proofs.Ytlkeemphdocpoaa.big
open Go.RowKit mem fl
set_option linter.unusedVariables false

theorem dg_mem : ∀ (N u : Nat), u ≤ N → ∀ c ∈ dg u, 48 ≤ c ∧ c ≤ 57
  | N, u, hN, c, hc => by
    rw [dg_step] at hc
    rcases List.mem_cons.1 hc with rfl | hc
    · omega
    · by_cases h : u / 10 = 0
      · rw [if_pos h] at hc; simp at hc
      · rw [if_neg h] at hc
        exact dg_mem (N - 1) (u / 10) (by omega) c hc
termination_by N => N
decreasing_by omega
theorem dgs_mem (u : Nat) : ∀ c ∈ dgs u, 48 ≤ c ∧ c ≤ 57 := fun c hc => dg_mem u u (Nat.le_refl _) c (by unfold dgs at hc; exact List.mem_reverse.1 hc)
theorem dgs_step (u : Nat) (h : u / 10 ≠ 0) : dgs u = dgs (u / 10) ++ [48 + u % 10] := by
  unfold dgs
  rw [dg_step u, if_neg h]
  simp
theorem dgs_small (u : Nat) (h : u / 10 = 0) : dgs u = [48 + u] := by
  unfold dgs
  rw [dg_step u, if_pos h]
  simp
  omega
theorem dvn_dgs (u : Nat) : dvn (dgs u) = u := by
  induction u using Nat.strongRecOn with
  | _ u ih =>
    by_cases h : u / 10 = 0
    · rw [dgs_small u h, dvn_cons]
      simp [dvn]
    · rw [dgs_step u h, dvn_app, ih _ (by omega)]
      simp [dvn]
      omega
theorem dgs_head (u : Nat) (h0 : u ≠ 0) : ∀ c, (dgs u).head? = some c → c ≠ 48 := by
  induction u using Nat.strongRecOn with
  | _ u ih =>
    intro c hc
    by_cases h : u / 10 = 0
    · rw [dgs_small u h] at hc
      simp at hc
      omega
    · rw [dgs_step u h] at hc
      refine ih (u / 10) (by omega) h c ?_
      cases hd : dgs (u / 10) with
      | nil =>
        have := dg_step (u / 10)
        unfold dgs at hd
        rw [this] at hd
        simp at hd
      | cons x l =>
        rw [hd] at hc
        simpa using hc
/-- cut over digits without a nought in front -/
theorem cut_digits : ∀ (l b : List Nat) (neg : Bool), (∀ c ∈ l, 48 ≤ c ∧ c ≤ 57) → b.length + l.length ≤ 800 → (b = [] → ∀ c, l.head? = some c → c ≠ 48) →
    l.foldl cutStep ⟨neg, b, 0, 0, false, false, false, false⟩ = ⟨neg, b ++ l, 0, 0, false, false, false, false⟩
  | [], b, neg, _, _, _ => by simp
  | c :: l, b, neg, h, hl, hh => by
    have hc := h c (by simp)
    rw [List.foldl_cons, cut_digit hc.1 hc.2, if_neg (by simp)]
    simp only [List.length_cons] at hl
    rw [if_neg (by show ¬ b.length = 800; omega), if_pos (by
      by_cases hb : b = []
      · exact .inl (hh hb c rfl)
      · exact .inr (List.length_pos_iff.2 hb))]
    have := cut_digits l (b ++ [c]) neg (fun d hd => h d (by simp [hd])) (by simp; omega) (fun hb => by simp at hb)
    simp only [List.append_assoc, List.cons_append, List.nil_append] at this
    exact this
theorem cut_wtx (n : Int) (h0 : n ≠ 0) (hn : n.natAbs < 18446744073709551616) : cutF (wtx n) = ⟨decide (n < 0), dgs n.natAbs, 0, 0, false, false, false, false⟩ := by
  have hlen : (dgs n.natAbs).length ≤ 20 := by
    unfold dgs
    rw [List.length_reverse]
    have : (10 : Nat) ^ 20 = 100000000000000000000 := by decide
    exact (dg_len 20 n.natAbs (by omega) (by omega)).2
  have hh := dgs_head n.natAbs (by omega)
  unfold cutF wtx
  by_cases h : n < 0
  · rw [if_pos h, List.foldl_cons]
    have e : cutStep Cs.start 45 = ⟨true, [], 0, 0, false, false, false, false⟩ := rfl
    rw [e, cut_digits _ [] true (dgs_mem _) (by simp; omega) (fun _ => hh), decide_eq_true h]
    rfl
  · rw [if_neg h]
    have e : Cs.start = ⟨false, [], 0, 0, false, false, false, false⟩ := rfl
    rw [e, cut_digits _ [] false (dgs_mem _) (by simp; omega) (fun _ => hh), decide_eq_false h]
    rfl
theorem wtx_alp (n : Int) : ∀ c ∈ wtx n, Alp c := by
  intro c hc
  unfold wtx at hc
  have hd : ∀ c ∈ dgs n.natAbs, Alp c := fun c hc => by have := dgs_mem _ c hc; unfold Alp; omega
  split at hc
  · rcases List.mem_cons.1 hc with rfl | hc
    · unfold Alp; omega
    · exact hd c hc
  · exact hd c hc
theorem wtx_lt (n : Int) : ∀ c ∈ wtx n, c < 256 := fun c hc => by have := wtx_alp n c hc; unfold Alp at this; omega
theorem wtx_len (n : Int) (hn : n.natAbs < 18446744073709551616) : (wtx n).length ≤ 21 := by
  have hlen : (dgs n.natAbs).length ≤ 20 := by
    unfold dgs
    rw [List.length_reverse]
    have : (10 : Nat) ^ 20 = 100000000000000000000 := by decide
    exact (dg_len 20 n.natAbs (by omega) (by omega)).2
  unfold wtx
  split
  · simp; omega
  · omega

def ObPost (n : Int) (w : World) (e : Ending) (w' : World) : Prop :=
  ∃ r, e = .returned (.tuple #[.int .u64 ((r + sgn (decide (n < 0)) : Nat) : Int), .bool (decide (wholeOf (decide (n < 0)) r = some n))]) ∧ Near (n.natAbs * 2 ^ 1074) 1 r ∧ Below w.heap.size w w'
theorem vz (P : Nat) : V 0 = 0 * P := by
  rw [Nat.zero_mul]
  exact V_small (by omega)
theorem near_p0 (M P r : Nat) (h : Near (M * 10 ^ (0 : Int).toNat * P) (10 ^ (-(0 : Int)).toNat) r) : Near (M * P) 1 r := by simpa using h
theorem whole_zero : wholeOf false 0 = some 0 := by
  have h0 : ¬ 9218868437227405312 ≤ 0 := by omega
  have hz := vz (2 ^ 1074)
  have h := @wo_mul false 0 0 h0 hz
  exact h.trans rfl
theorem near_z (P : Nat) : Near ((0 : Int).natAbs * P) 1 0 := by
  rw [Int.natAbs_zero, Nat.zero_mul]
  exact near_exact (V_small (by omega)) (by omega)

set_option maxHeartbeats 1000000 in
theorem ofWholeBits_any (n : Int) (w : World) (h1 : -9223372036854775808 ≤ n) (h2 : n ≤ 9223372036854775807) :
    Calls Try.prog 11 #[.int .i64 n] w (ObPost n w) := by
  by_cases h0 : n = 0
  · subst h0
    have HZ := Lib.hid whole_zero
    go_enter Try.func11, Try.ntmps11
    go_wp2_with fail
    go_ret2
    exact ⟨0, by
      have e : decide (wholeOf (decide ((0 : Int) < 0)) 0 = some 0) = true := by rw [decide_eq_true_eq]; exact HZ.out
      rw [e]
      rfl, near_z _, Below.refl _ _⟩
  · have hcw := cut_wtx n h0 (by omega)
    have hsz : (strN (wtx n)).size ≤ 21 := by rw [strN_size]; exact wtx_len n (by omega)
    have hal : ∀ k (h : k < (strN (wtx n)).size), Alp ((strN (wtx n))[k]).toNat := by
      intro k hk
      have h3 := nats_get (strN (wtx n)) k hk
      have h4 := nats_strN (wtx n) (wtx_lt n)
      have hm : ((strN (wtx n))[k]).toNat ∈ nats (strN (wtx n)) := by rw [← h3]; exact List.getElem_mem _
      rw [h4] at hm
      exact wtx_alp n _ hm
    have hrb := fun w => readBits_any (strN (wtx n)) w hal (by omega)
    rw [nats_strN _ (wtx_lt n), hcw] at hrb
    have hpw : Cs.power ⟨decide (n < 0), dgs n.natAbs, 0, 0, false, false, false, false⟩ = 0 := rfl
    have hds : Cs.digits ⟨decide (n < 0), dgs n.natAbs, 0, 0, false, false, false, false⟩ = dgs n.natAbs := rfl
    simp only [hpw, hds, dvn_dgs] at hrb
    have hb : ∀ (r : Nat) (k : Int) (ok : Bool), (ok = true → wholeOf (decide (n < 0)) r = some k) → (ok = false → wholeOf (decide (n < 0)) r = none) → (ok && (k == n)) = decide (wholeOf (decide (n < 0)) r = some n) := fun r k ok h3 h4 => beq_whole h3 h4
    have HB := Lib.hid hb
    have HRb := Lib.hid hrb
    have HWb := Lib.hid (fun (r : Nat) (w : World) (hr : r < 9223372036854775808) => wholeBits_any (decide (n < 0)) r w hr)
    have h0b : (n == 0) = false := by simp; exact h0
    unfold ObPost
    clear hcw hsz hal hrb hpw hds hb
    generalize decide (n < 0) = s at *
    go_enter Try.func11, Try.ntmps11
    go_wp2_with fail
    refine (wholeText_any n w h1 h2).mono ?_
    rintro e w2 ⟨rfl, hb2⟩
    have HB2 := Lib.hid hb2
    have hz2 := hb2.size
    clear hb2
    generalize strN (wtx n) = S at *
    go_wp2_with fail
    refine (HRb.out w2).mono ?_
    rintro e w3 ⟨r, rfl, hn, hb3⟩
    have hnr := near_p0 n.natAbs (2 ^ 1074) r hn
    have HN := Lib.hid hnr
    have HB3 := Lib.hid (HB2.out.trans (hb3.mono hz2))
    have hr := hnr.1
    generalize decide (r < 9218868437227405312) = q at *
    generalize hx : r + sgn s = x at *
    have HX := Lib.hid hx
    have HWr := Lib.hid (HWb.out r w3 (by omega))
    clear hb3 hn hnr hr hx
    rw [HX.out] at HWr
    go_wp2_with fail
    refine HWr.out.mono ?_
    rintro e w' ⟨k, ok, rfl, g1, g2, rfl⟩
    have hq := HB.out r k ok g1 g2
    have HQ := Lib.hid hq
    clear hq g1 g2
    cases ok
    · go_wp2_with fail
      go_ret2
      exact ⟨r, by rw [HX.out, ← HQ.out]; rfl, HN.out, HB3.out⟩
    · go_wp2_with fail
      go_ret2
      exact ⟨r, by rw [HX.out, ← HQ.out]; rfl, HN.out, HB3.out⟩
end Go.Proofs.Ytlkeemphdocpoaa.big
