/- number.Read at a whole number's text with '.0' behind it; what Whole and OfWhole say of one another. -/
import Derived.Test.YtbkdhejcbcgalaaGreatDoorYNbt
import Derived.Test.YtbkdhejcbcgalaaGreatDoorGFw
namespace Go.Proofs.YtbkdhejcbcgalaaGreatDoor.pg
open Go.RowKit mem fl big us uw sh pfx
set_option linter.unusedVariables false

theorem tf_of_in {a q : Nat} {y : Int} (h1 : a < 9218868437227405312) (hI : In a q y) (hq : 0 < q) (hl19 : (dgs q).length ≤ 19) (b2 : -326 ≤ ((dgs q).length : Int) + y) (b3 : ((dgs q).length : Int) + y ≤ 310) (k : Nat) (hk : k ≤ 30) : Tf (2 ^ 1074) (dgs q ++ List.replicate k 48) (((dgs q).length : Int) + y) a := by
  obtain ⟨c0, L2, he, e1, e2⟩ := dgs_head q hq
  have hpos : 0 < (dgs q).length := by rw [he]; simp
  obtain ⟨l, hl⟩ : ∃ l, (dgs q).length = l := ⟨_, rfl⟩
  obtain ⟨t, ht⟩ : ∃ t, min k (19 - l) = t := ⟨_, rfl⟩
  have htake : (dgs q ++ List.replicate k 48).take 19 = dgs q ++ List.replicate t 48 := by
    rw [List.take_append, List.take_of_length_le (by omega), List.take_replicate, hl]
    congr 2
    omega
  refine ⟨fun c hc => ?_, by simp; omega, by simp; omega, by rw [he]; simp; omega, ?_, b2, b3, ?_, h1⟩
  · rcases List.mem_append.1 hc with hc | hc
    · exact dgs_bytes q c hc
    · rw [List.mem_replicate] at hc; omega
  · unfold rfTr
    rw [List.drop_append, List.drop_eq_nil_of_le (by omega), List.nil_append, List.drop_replicate]
    simp
  · unfold Dec rfM
    rw [htake, dvn_noughts, dvn_dgs']
    have hlen : (dgs q ++ List.replicate k 48).length = l + k := by simp [hl]
    rw [hlen, hl]
    have hmin : ((l : Int) + y) - ((min (l + k) 19 : Nat) : Int) = y - t := by omega
    rw [hmin]
    have hIn2 : In a q ((y - t) + (t : Int)) := by rw [show y - (t : Int) + (t : Int) = y by omega]; exact hI
    exact in_ten t (by omega) hIn2
theorem near_int' {P n r : Nat} (hP : V 4890909195324358656 = 9223372036854775808 * P) (h : Near (n * P) 1 r) (hn : n ≤ 9223372036854775808) : r < 9218868437227405312 := by
  have h1 : n * P ≤ V 4890909195324358656 := by
    rw [hP]
    exact Nat.mul_le_mul_right _ hn
  have := near_le h h1
  omega
theorem near_int {n : Nat} {r : Nat} (h : Near (n * 2 ^ 1074) 1 r) (hn : n ≤ 9223372036854775808) : r < 9218868437227405312 := near_int' V_c h hn
theorem near_zero (P r : Nat) (h : Near (0 * P) 1 r) : r = 0 := by
  have h2 : Near (0 * P) 1 0 := near_exact (by rw [V_small (by omega), Nat.zero_mul]) (by omega)
  exact h.unique h2 (by decide)
theorem in_zero (r n : Nat) (h : Near (n * 2 ^ 1074) 1 r) : In r n 0 := by
  unfold In
  rw [show ((0 : Int)).toNat = 0 from rfl, show (-(0 : Int)).toNat = 0 from rfl, Nat.pow_zero, Nat.mul_one]
  exact h
theorem sp_point (c0 : Nat) (L2 : List Nat) (h1 : 49 ≤ c0) (h2 : c0 ≤ 57) (hL : ∀ c ∈ L2, 48 ≤ c ∧ c ≤ 57) : SpOf (c0 :: L2 ++ [46, 48]) (c0 :: L2 ++ [48]) (c0 :: L2).length := by
  have s1 := sp_first c0 0 false h1
  simp only [Bool.false_eq_true, if_false, Int.zero_add] at s1
  have sL : (c0 :: L2).foldl spStep ⟨[], 0, false⟩ = ⟨c0 :: L2, (c0 :: L2).length, false⟩ := by
    rw [List.foldl_cons, s1, sp_lead L2 _ (fun c hc => (hL c hc).1) (by simp) rfl]
    simp only [List.singleton_append, List.length_cons]
    congr 1
    omega
  refine spOf_plain (bh := true) ?_ (by simp; omega) ?_
  · intro c hc
    simp only [List.mem_append, List.mem_cons, List.mem_nil_iff, or_false] at hc
    rcases hc with (hc | hc) | hc | hc
    · omega
    · have := hL c hc; omega
    · omega
    · omega
  · unfold spF
    rw [List.foldl_append, sL]
    have e2 : spStep ⟨c0 :: L2, (c0 :: L2).length, false⟩ 46 = ⟨c0 :: L2, (c0 :: L2).length, true⟩ := rfl
    have e3 : spStep ⟨c0 :: L2, (c0 :: L2).length, true⟩ 48 = ⟨c0 :: L2 ++ [48], (c0 :: L2).length, true⟩ := by
      unfold spStep
      rw [if_neg (by decide), if_neg (by intro h; have := h.2; simp at this)]
      rfl
    rw [List.foldl_cons, List.foldl_cons, List.foldl_nil, e2, e3]
/-- Read at n's text with '.0' behind it -/
theorem read_point (n : Int) (r : Nat) (h1 : -9223372036854775808 ≤ n) (h2 : n ≤ 9223372036854775807) (hN : Near (n.natAbs * 2 ^ 1074) 1 r) (w : World) (hE : NEnv w) :
    Calls Tryz.prog 10 #[.string (strN (wtx n) ++ ⟨#[46, 48]⟩)] w fun e w' => e = .returned (.tuple #[.agg #[.int .i64 3, .int .i64 0, .float .f64 (r + sgn (decide (n < 0)))], .int .i64 0]) ∧ Below w.heap.size w w' := by
  have hS : strN (wtx n) ++ ⟨#[46, 48]⟩ = strN (wtx n ++ [46, 48]) := by
    rw [show (⟨#[46, 48]⟩ : ByteArray) = strN [46, 48] from rfl, strN_app]
  have hlt : ∀ c ∈ wtx n ++ [46, 48], c < 256 := by
    intro c hc
    rcases List.mem_append.1 hc with hc | hc
    · have := wtx_chars n c hc; omega
    · simp at hc; omega
  have hT : nats (strN (wtx n ++ [46, 48])) = wtx n ++ [46, 48] := nats_strN _ hlt
  have hw := wtx_len n h1 h2
  have hz : (strN (wtx n ++ [46, 48])).size = (wtx n).length + 2 := by rw [strN_size]; simp
  have hf := adv_point n
  have hr : r < 9218868437227405312 := near_int hN (by omega)
  rw [hS]
  have hEl : ∀ k, k < (strN (wtx n ++ [46, 48])).size → isE ((nats (strN (wtx n ++ [46, 48]))).getD k 0) = true → k + 1 < (strN (wtx n ++ [46, 48])).size := by
    rw [hT, strN_size]
    exact e_last (st := 0) (by rw [hf]; decide)
  refine read_text hT (by simp; omega) hf hr ?_ w hE
  intro w hE
  by_cases h0 : n = 0
  · subst h0
    have hr0 : r = 0 := by
      rewrite [show (0 : Int).natAbs = 0 from rfl] at hN
      exact near_zero _ r hN
    subst hr0
    have hs : SpOf (nats (strN (wtx 0 ++ [46, 48]))) [] (-1) := by
      rw [hT, show wtx 0 = [48] from by decide]
      exact ⟨by decide, by decide, by decide⟩
    exact toFloat_zero (x := -1) (spAt_pos (by omega) (by omega) hEl hs) w hE
  · obtain ⟨c0, L2, hd, e1, e2⟩ := dgs_head n.natAbs (by omega)
    have hL : ∀ c ∈ L2, 48 ≤ c ∧ c ≤ 57 := fun c hc => dgs_bytes n.natAbs c (by rw [hd]; simp [hc])
    have hsp := sp_point c0 L2 e1 e2 hL
    rw [← hd] at hsp
    have hlen := dgs_len10 18 n.natAbs (by have : (10 : Nat) ^ (18 + 1) = 10000000000000000000 := by decide
                                           omega)
    have htf := tf_of_in hr (in_zero r n.natAbs hN) (by omega) (by omega) (by omega) (by omega) 1 (by omega)
    rw [Int.add_zero, show List.replicate 1 48 = [48] from rfl] at htf
    by_cases hneg : n < 0
    · rw [decide_eq_true hneg]
      have hw2 : wtx n = 45 :: dgs n.natAbs := by unfold wtx; rw [if_pos hneg]
      rw [hw2] at hT hEl hz hw ⊢
      exact toFloat_any rfl (spAt_neg (T := dgs n.natAbs ++ [46, 48]) hT (by omega) (by omega) hEl hsp) htf w hE
    · rw [decide_eq_false hneg]
      have hw2 : wtx n = dgs n.natAbs := by unfold wtx; rw [if_neg hneg]
      rw [hw2] at hT hEl hz hw ⊢
      exact toFloat_any rfl (spAt_pos (by omega) (by omega) hEl (by rw [hT]; exact hsp)) htf w hE
/-- a float that is whole comes back -/
theorem back_whole {s : Bool} {a r : Nat} {k : Int} (h : wholeOf s a = some k) (hN : Near (k.natAbs * 2 ^ 1074) 1 r) : wholeOf (decide (k < 0)) r = some k ∧ FloatKind.f64.format.order (r + sgn (decide (k < 0))) (a + sgn s) = some .eq ∧ -9223372036854775808 ≤ k ∧ k ≤ 9223372036854775807 := by
  have hP := pow_pos' 1074
  have h' := h
  unfold wholeOf at h
  obtain ⟨P, hPe⟩ : ∃ P, 2 ^ 1074 = P := ⟨_, rfl⟩
  rw [hPe] at h hP hN
  split at h
  · cases h
  · rename_i ha
    split at h
    · rename_i hz
      have hVa : V a = V a / P * P := (Nat.div_mul_cancel (Nat.dvd_of_mod_eq_zero hz)).symm
      obtain ⟨m, hm⟩ : ∃ m, V a / P = m := ⟨_, rfl⟩
      rw [hm] at h hVa
      have hk : k.natAbs = m ∧ (s = true → k = -(m : Int)) ∧ (s = false → k = (m : Int)) ∧ -9223372036854775808 ≤ k ∧ k ≤ 9223372036854775807 := by
        cases s
        · simp only [Bool.false_eq_true, if_false] at h
          split at h
          · injection h with h
            subst h
            exact ⟨by omega, (fun h => by cases h), (fun _ => rfl), by omega, by omega⟩
          · cases h
        · simp only [if_true] at h
          split at h
          · injection h with h
            subst h
            exact ⟨by omega, (fun _ => rfl), (fun h => by cases h), by omega, by omega⟩
          · cases h
      obtain ⟨k1, k2, k3, k4, k5⟩ := hk
      have hra : r = a := by
        rw [k1] at hN
        exact hN.unique (near_exact hVa (by omega)) (by decide)
      subst hra
      refine ⟨?_, ?_, k4, k5⟩
      · by_cases h0 : k = 0
        · subst h0
          have hm0 : m = 0 := by simpa using k1.symm
          subst hm0
          have hV0 : V r = 0 := by rw [hVa, Nat.zero_mul]
          unfold wholeOf
          rewrite [if_neg ha, hV0, hPe]
          simp
        · have hs : decide (k < 0) = s := by
            cases s
            · have := k3 rfl
              exact decide_eq_false (by omega)
            · have := k2 rfl
              exact decide_eq_true (by omega)
          rw [hs]
          exact h'
      · have ho : FloatKind.f64.format.order (r + sgn (decide (k < 0))) (r + sgn s) = some (compare (sV (decide (k < 0)) r) (sV s r)) := order_num (decide (k < 0)) s r r (by omega) (by omega)
        rw [ho]
        by_cases h0 : k = 0
        · subst h0
          have hm0 : m = 0 := by simpa using k1.symm
          subst hm0
          have hV0 : V r = 0 := by rw [hVa, Nat.zero_mul]
          have e : ∀ t : Bool, sV t r = 0 := fun t => by unfold sV; rw [hV0]; cases t <;> rfl
          rw [e, e]
          rfl
        · have hs : decide (k < 0) = s := by
            cases s
            · have := k3 rfl
              exact decide_eq_false (by omega)
            · have := k2 rfl
              exact decide_eq_true (by omega)
          rw [hs, cmp_eq rfl]
    · cases h
end Go.Proofs.YtbkdhejcbcgalaaGreatDoor.pg
