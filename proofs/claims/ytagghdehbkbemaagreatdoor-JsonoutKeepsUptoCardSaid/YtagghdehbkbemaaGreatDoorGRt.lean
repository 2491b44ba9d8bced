/- The reference's noughts and TextBits, walked. The reference's TextBits, walked: of a float below nought. FloatText and TextBits answer the same text. -/
import Derived.Test.YtagghdehbkbemaaGreatDoorGRb3
import Derived.Test.YtagghdehbkbemaaGreatDoorGFlt
import Derived.Test.YtagghdehbkbemaaGreatDoorGDig
section
namespace Go.Proofs.YtagghdehbkbemaaGreatDoor.rt
open Go.RowKit mem fl big sh uw pg
set_option linter.unusedVariables false

theorem rep_snoc (i : Nat) : List.replicate i 48 ++ [48] = List.replicate (i + 1) 48 := by
  rw [List.replicate_succ']
set_option maxRecDepth 100000 in
theorem rnoughts_any (n : Nat) (w : World) (hn : n ≤ 100000) : Calls Tryz.prog 62 #[.int .i64 (n : Int)] w fun e w' => e = .returned (.string (strN (List.replicate n 48))) ∧ w = w' := by
  go_enter Tryz.func62, Tryz.ntmps62
  go_wp2_with fail
  go_loopw [3, 4] (fun v3 v4 wr => ∃ (i : Nat) (S : ByteArray), i ≤ n ∧ v3 = .string S ∧ v4 = .int .i64 (i : Int) ∧ wr = w ∧ S.size = i ∧ Hid (S = strN (List.replicate i 48))) (fun _ v4 _ => n - (intOf v4).toNat)
  case atStart => exact ⟨0, ⟨#[]⟩, by omega, rfl, rfl, rfl, rfl, Lib.hid rfl⟩
  case round =>
    obtain ⟨i, S, hi, rfl, rfl, rfl, hsz, hst⟩ := hrel
    by_cases hlt : i < n
    · have hk : ¬ 9223372036854775807 < i + 1 := by omega
      go_wp2_with fail
      refine ⟨⟨i + 1, S ++ ⟨#[48]⟩, by omega, rfl, rfl, trivial, by rw [ByteArray.size_append, hsz]; rfl, Lib.hid ?_⟩, by simp [intOf]; omega⟩
      rw [hst.out, ← rep_snoc, ← strN_app]
      rfl
    · obtain rfl : i = n := by omega
      go_wp2_with fail
      go_ret
      exact ⟨by rw [hst.out]; rfl, rfl⟩
theorem bit63_hi (a : Nat) (h : a < 9223372036854775808) : bits .and .u64 ((a + 9223372036854775808 : Nat) : Int) 9223372036854775808 = 9223372036854775808 := by
  have h52 : (2 : Nat) ^ 63 = 9223372036854775808 := by decide
  have h1 := u64_and_nat (a + 9223372036854775808) 9223372036854775808 (by omega) (by decide)
  rw [show ((a + 9223372036854775808) &&& 9223372036854775808) = ((a + 9223372036854775808) &&& 2 ^ 63) by rw [h52], nat_bit 63, h52] at h1
  have e : (a + 9223372036854775808) / 9223372036854775808 = 1 := by omega
  rw [e] at h1
  exact h1

set_option maxRecDepth 100000 in
set_option maxHeartbeats 4000000 in
theorem tb_pos (a : Nat) (w : World) (ha : a < 9223372036854775808) :
    Calls Tryz.prog 46 #[.int .u64 ((a : Nat) : Int)] w (TtPost false a w) := by
  have q1 := clear_sign false a ha
  have q2 : bits .and .u64 ((a : Nat) : Int) 9223372036854775808 = 0 := bit63_lo a ha
  rw [show a + sgn false = a from rfl] at q1
  obtain ⟨Z, q2, q3⟩ : ∃ Z : Int, bits .and .u64 (a : Int) 9223372036854775808 = Z ∧ (Z != 0) = false := ⟨_, q2, by decide⟩
  have HA := Lib.hid ha
  clear ha
  by_cases hi : 9218868437227405312 ≤ a
  · have HI := Lib.hid hi
    have hd : decide ((a : Int) ≥ 9218868437227405312) = true := decide_eq_true (by omega)
    have hd2 : decide ((9218868437227405312 : Int) ≤ a) = true := decide_eq_true (by omega)
    clear hi
    go_enter Tryz.func46, Tryz.ntmps46
    go_wp2_with fail
    go_ret
    exact ⟨Below.refl _ _, .inl ⟨HI.out, rfl⟩⟩
  by_cases h0 : a = 0
  · have y0 : ((a : Int) == 0) = true := by rw [h0]; rfl
    have y1 : decide ((a : Int) ≥ 9218868437227405312) = false := decide_eq_false (by omega)
    have y2 : decide ((9218868437227405312 : Int) ≤ a) = false := decide_eq_false (by omega)
    have H0 := Lib.hid h0
    clear hi h0
    go_enter Tryz.func46, Tryz.ntmps46
    go_wp2_with fail
    go_ret
    exact ⟨Below.refl _ _, .inr (.inl ⟨H0.out, rfl⟩)⟩
  have h0p : 0 < a := by omega
  have h1p : a < 9218868437227405312 := by omega
  have HS := Lib.hid (shortest_any a w h0p h1p)
  have z0 : ((a : Int) == 0) = false := beq_false_of_ne (by omega)
  have z1 : decide ((a : Int) ≥ 9218868437227405312) = false := decide_eq_false (by omega)
  have z2 : decide ((9218868437227405312 : Int) ≤ a) = false := decide_eq_false (by omega)
  have HP0 := Lib.hid (And.intro h0p h1p)
  clear hi h0 h0p h1p
  go_enter Tryz.func46, Tryz.ntmps46
  go_wp2_with fail
  refine (HS.out).mono ?_
  rintro e w2 ⟨r, y, hC, hr10, hbd, rfl, hb2⟩
  have hfin : ∀ (T : ByteArray) (w' : World), T = strN ([] ++ layT (dgs r) ((dgs r).length + y)) → Below w2.heap.size w2 w' → TtPost false a w (.returned (.string T)) w' := by
    intro T w' hT hb
    exact ⟨hb2.trans (hb.mono hb2.size), .inr (.inr ⟨HP0.out.1, HP0.out.2, r, y, hC, hr10, hbd, by rw [hT]; rfl⟩)⟩
  have HFin := Lib.hid hfin
  obtain ⟨hr0, h20, hb1, hb3⟩ := hbd
  have hn0 : 0 < (dgs r).length := by rw [dgs_length]; exact Lib.nDigits_pos r
  obtain ⟨L, hL⟩ : ∃ L, dgs r = L := ⟨_, rfl⟩
  rw [hL] at h20 hb1 hb3 hn0 HFin ⊢
  obtain ⟨p, hp⟩ : ∃ p : Int, (L.length : Int) + y = p := ⟨_, rfl⟩
  rw [hp] at hb1 hb3 HFin ⊢
  have hsz : (strN L).size = L.length := strN_size L
  obtain ⟨n, hnn⟩ : ∃ n, L.length = n := ⟨_, rfl⟩
  obtain ⟨S, hS⟩ : ∃ S, strN L = S := ⟨_, rfl⟩
  rw [hS] at hsz ⊢
  rw [hnn] at hsz h20 hn0
  have HN := Lib.hid hnn
  have HSS := Lib.hid hS
  have HB2 := Lib.hid hb2
  have HW := Lib.hid (fun w => wholeText_any (p - 1) w (by omega) (by omega))
  unfold WtPost at HW
  clear hS hnn hC hr10 hb2 hr0 hL hp hfin
  by_cases h1 : 1 ≤ p ∧ p ≤ 21
  · obtain ⟨k, rfl⟩ : ∃ k : Nat, p = k := ⟨p.toNat, by omega⟩
    have hk1 : 1 ≤ k := by omega
    have hk2 : k ≤ 21 := by omega
    have d1 : decide ((k : Int) ≥ 1) = true := decide_eq_true (by omega)
    have d2 : decide ((k : Int) ≤ 21) = true := decide_eq_true (by omega)
    by_cases h2 : n ≤ k
    · have hT : layT L (k : Int) = L ++ List.replicate (k - n) 48 ++ [46, 48] := by
        unfold layT
        rw [if_pos ⟨by omega, by omega, by have := HN.out; omega⟩, HN.out]
        rfl
      have HT := Lib.hid hT
      have hkn : (k : Int) - n = ((k - n : Nat) : Int) := by omega
      have HQ := Lib.hid (fun w => rnoughts_any (k - n) w (by omega))
      obtain ⟨j, hj⟩ : ∃ j, k - n = j := ⟨_, rfl⟩
      rw [hj] at HQ HT hkn
      have hzs : (strN (List.replicate j 48)).size = j := by rw [strN_size, List.length_replicate]
      obtain ⟨Z, hZ⟩ : ∃ Z, strN (List.replicate j 48) = Z := ⟨_, rfl⟩
      rw [hZ] at hzs HQ
      have HZ := Lib.hid hZ
      have hjb : j ≤ 21 := by omega
      clear hT h1 hj hZ
      go_wp2_with fail
      refine (HQ.out _).mono ?_
      rintro e w3 ⟨rfl, rfl⟩
      go_wp2_with fail
      go_ret
      refine HFin.out _ _ ?_ (Below.refl _ _)
      rw [HT.out, List.nil_append, ← strN_app, ← strN_app, HSS.out, HZ.out]
      rfl
    · have hT : layT L (k : Int) = L.take k ++ [46] ++ L.drop k := by
        unfold layT
        rw [if_neg (by have := HN.out; omega), if_pos ⟨by omega, by omega⟩]
        rfl
      have HT := Lib.hid hT
      have hkn : k < n := by omega
      have e1 : S.extract 0 k = strN (L.take k) := by rw [← HSS.out]; exact strN_take L k
      have e2 : S.extract k n = strN (L.drop k) := by
        have := strN_drop L k
        rw [HSS.out] at this
        rw [← this]
        congr 1
        omega
      have E1 := Lib.hid e1
      have E2 := Lib.hid e2
      have hz1 : (S.extract 0 k).size = k := by simp; omega
      have hz2 : (S.extract k n).size = n - k := by simp; omega
      clear hT h1 e1 e2
      go_wp2_with fail
      go_quiet (fail)
      go_wp2_with fail
      go_ret
      refine HFin.out _ _ ?_ (below_drewN (Below.refl _ _) _)
      rw [HT.out]
      rw [List.nil_append, ← strN_app, ← strN_app, ← E1.out, ← E2.out]
      rfl
  · by_cases h3 : -5 ≤ p ∧ p ≤ 0
    · obtain ⟨k, hk⟩ : ∃ k : Nat, -p = k := ⟨(-p).toNat, by omega⟩
      have hT : layT L p = [48, 46] ++ List.replicate k 48 ++ L := by
        unfold layT
        rw [if_neg (by omega), if_neg h1, if_pos h3, hk]
        rfl
      have HT := Lib.hid hT
      have HQ := Lib.hid (fun w => rnoughts_any k w (by omega))
      obtain ⟨h3a, h3b⟩ := h3
      have hzs : (strN (List.replicate k 48)).size = k := by rw [strN_size, List.length_replicate]
      obtain ⟨Z, hZ⟩ : ∃ Z, strN (List.replicate k 48) = Z := ⟨_, rfl⟩
      rw [hZ] at hzs HQ
      have HZ := Lib.hid hZ
      have hjb : k ≤ 21 := by omega
      clear hT h1 hZ
      go_wp2_with fail
      refine (HQ.out _).mono ?_
      rintro e w3 ⟨rfl, rfl⟩
      go_wp2_with fail
      go_ret
      refine HFin.out _ _ ?_ (Below.refl _ _)
      rw [HT.out, List.nil_append, ← strN_app, ← strN_app, HSS.out, HZ.out]
      rfl
    · have hwl : (wtx (p - 1)).length ≤ 30 := by
        unfold wtx
        split
        · rw [List.length_cons, uw.dgs_length]
          have := uw.nd20 (p - 1).natAbs (by omega)
          omega
        · rw [uw.dgs_length]
          have := uw.nd20 (p - 1).natAbs (by omega)
          omega
      have hzs : (strN (wtx (p - 1))).size ≤ 30 := by rw [strN_size]; exact hwl
      obtain ⟨Z, hZ⟩ : ∃ Z, strN (wtx (p - 1)) = Z := ⟨_, rfl⟩
      rw [hZ] at hzs HW
      have HZ := Lib.hid hZ
      clear hwl hZ
      by_cases hn1 : 1 < n
      · have hT : layT L p = L.take 1 ++ [46] ++ L.drop 1 ++ [101] ++ wtx (p - 1) := by
          unfold layT
          rw [if_neg (by omega), if_neg h1, if_neg h3, if_pos (by rw [HN.out]; exact hn1)]
        have HT := Lib.hid hT
        have e1 : S.extract 0 1 = strN (L.take 1) := by rw [← HSS.out]; exact strN_take L 1
        have e2 : S.extract 1 n = strN (L.drop 1) := by
          have := strN_drop L 1
          rw [HSS.out] at this
          rw [← this]
          congr 1
          omega
        have E1 := Lib.hid e1
        have E2 := Lib.hid e2
        have hwp : IntKind.i64.wrap (p - 1) = p - 1 := by rw [IntKind.wrap_i64]; omega
        have hle : (1 : Int) ≤ n := by omega
        have hz1 : (S.extract 0 1).size = 1 := by simp; omega
        obtain ⟨m1, hm1⟩ : ∃ m1, n - 1 = m1 := ⟨_, rfl⟩
        have hz2 : (S.extract 1 n).size = m1 := by simp; omega
        obtain ⟨zl, hzl⟩ : ∃ zl, Z.size = zl := ⟨_, rfl⟩
        have k1 : ¬ 9223372036854775807 < 2 + m1 := by omega
        have k2 : ¬ 9223372036854775807 < 2 + m1 + 1 := by omega
        have k3 : ¬ 9223372036854775807 < 2 + m1 + 1 + zl := by omega
        have k4 : ¬ 9223372036854775807 < 3 + m1 := by omega
        have k5 : ¬ 9223372036854775807 < 3 + m1 + 1 := by omega
        have k6 : ¬ 9223372036854775807 < 3 + m1 + 1 + zl := by omega
        clear hT e1 e2 hm1
        by_cases hp : p < -5
        · clear h1 h3
          go_wp2_with fail
          go_region_law (first
            | (go_simp; go_at_call 30; go_must (refine (HW.out _).mono ?_; rintro e4 w4 ⟨rfl, hb4⟩; have HB4 : Hid (Below w2.heap.size w2 w4) := Lib.hid ((Below.refl _ _).drew.trans hb4); clear hb4)))
          all_goals
            go_wp2_with fail
            go_ret
            refine HFin.out _ _ ?_ (by first | exact HB4.out | exact HB4.out.drew)
            rw [HT.out, List.nil_append, ← strN_app, ← strN_app, ← strN_app, ← strN_app, ← E1.out, ← E2.out, HZ.out]
            rfl
        · have hp21 : 21 < p := by omega
          clear h1 h3 hp
          go_wp2_with fail
          go_region_law (first
            | (go_simp; go_at_call 30; go_must (refine (HW.out _).mono ?_; rintro e4 w4 ⟨rfl, hb4⟩; have HB4 : Hid (Below w2.heap.size w2 w4) := Lib.hid ((Below.refl _ _).drew.trans hb4); clear hb4)))
          all_goals
            go_wp2_with fail
            go_ret
            refine HFin.out _ _ ?_ (by first | exact HB4.out | exact HB4.out.drew)
            rw [HT.out, List.nil_append, ← strN_app, ← strN_app, ← strN_app, ← strN_app, ← E1.out, ← E2.out, HZ.out]
            rfl
      · have hT : layT L p = L ++ [101] ++ wtx (p - 1) := by
          unfold layT
          rw [if_neg (by omega), if_neg h1, if_neg h3, if_neg (by rw [HN.out]; exact hn1)]
        have HT := Lib.hid hT
        have hn2 : n = 1 := by omega
        clear hT hn1
        by_cases hp : p < -5
        · clear h1 h3
          go_wp2_with fail
          refine (HW.out _).mono ?_
          rintro e w3 ⟨rfl, hb⟩
          have HB := Lib.hid hb
          clear hb
          go_wp2_with fail
          go_ret
          refine HFin.out _ _ ?_ HB.out
          rw [HT.out, List.nil_append, ← strN_app, ← strN_app, HSS.out, HZ.out]
          rfl
        · have hp21 : 21 < p := by omega
          clear h1 h3 hp
          go_wp2_with fail
          refine (HW.out _).mono ?_
          rintro e w3 ⟨rfl, hb⟩
          have HB := Lib.hid hb
          clear hb
          go_wp2_with fail
          go_ret
          refine HFin.out _ _ ?_ HB.out
          rw [HT.out, List.nil_append, ← strN_app, ← strN_app, HSS.out, HZ.out]
          rfl
end Go.Proofs.YtagghdehbkbemaaGreatDoor.rt
end
section
namespace Go.Proofs.YtagghdehbkbemaaGreatDoor.rt
open Go.RowKit mem fl big sh uw pg
set_option linter.unusedVariables false

set_option maxRecDepth 100000 in
set_option maxHeartbeats 4000000 in
theorem tb_neg (a : Nat) (w : World) (ha : a < 9223372036854775808) :
    Calls Tryz.prog 46 #[.int .u64 ((a + 9223372036854775808 : Nat) : Int)] w (TtPost true a w) := by
  have q1 := clear_sign true a ha
  have q2 : bits .and .u64 ((a + 9223372036854775808 : Nat) : Int) 9223372036854775808 = 9223372036854775808 := bit63_hi a ha
  rw [show a + sgn true = a + 9223372036854775808 from rfl] at q1
  obtain ⟨W, hW⟩ : ∃ W : Nat, a + 9223372036854775808 = W := ⟨_, rfl⟩
  rw [hW] at q1 q2 ⊢
  obtain ⟨Z, q2, q3⟩ : ∃ Z : Int, bits .and .u64 (W : Int) 9223372036854775808 = Z ∧ (Z != 0) = true := ⟨_, q2, by decide⟩
  have HA := Lib.hid ha
  clear hW ha
  by_cases hi : 9218868437227405312 ≤ a
  · have HI := Lib.hid hi
    have hd : decide ((a : Int) ≥ 9218868437227405312) = true := decide_eq_true (by omega)
    have hd2 : decide ((9218868437227405312 : Int) ≤ a) = true := decide_eq_true (by omega)
    clear hi
    go_enter Tryz.func46, Tryz.ntmps46
    go_wp2_with fail
    go_ret
    exact ⟨Below.refl _ _, .inl ⟨HI.out, rfl⟩⟩
  by_cases h0 : a = 0
  · have y0 : ((a : Int) == 0) = true := by rw [h0]; rfl
    have y1 : decide ((a : Int) ≥ 9218868437227405312) = false := decide_eq_false (by omega)
    have y2 : decide ((9218868437227405312 : Int) ≤ a) = false := decide_eq_false (by omega)
    have H0 := Lib.hid h0
    clear hi h0
    go_enter Tryz.func46, Tryz.ntmps46
    go_wp2_with fail
    go_ret
    exact ⟨Below.refl _ _, .inr (.inl ⟨H0.out, rfl⟩)⟩
  have h0p : 0 < a := by omega
  have h1p : a < 9218868437227405312 := by omega
  have HS := Lib.hid (shortest_any a w h0p h1p)
  have z0 : ((a : Int) == 0) = false := beq_false_of_ne (by omega)
  have z1 : decide ((a : Int) ≥ 9218868437227405312) = false := decide_eq_false (by omega)
  have z2 : decide ((9218868437227405312 : Int) ≤ a) = false := decide_eq_false (by omega)
  have HP0 := Lib.hid (And.intro h0p h1p)
  clear hi h0 h0p h1p
  go_enter Tryz.func46, Tryz.ntmps46
  go_wp2_with fail
  refine (HS.out).mono ?_
  rintro e w2 ⟨r, y, hC, hr10, hbd, rfl, hb2⟩
  have hfin : ∀ (T : ByteArray) (w' : World), T = strN ([45] ++ layT (dgs r) ((dgs r).length + y)) → Below w2.heap.size w2 w' → TtPost true a w (.returned (.string T)) w' := by
    intro T w' hT hb
    exact ⟨hb2.trans (hb.mono hb2.size), .inr (.inr ⟨HP0.out.1, HP0.out.2, r, y, hC, hr10, hbd, by rw [hT]; rfl⟩)⟩
  have HFin := Lib.hid hfin
  obtain ⟨hr0, h20, hb1, hb3⟩ := hbd
  have hn0 : 0 < (dgs r).length := by rw [dgs_length]; exact Lib.nDigits_pos r
  obtain ⟨L, hL⟩ : ∃ L, dgs r = L := ⟨_, rfl⟩
  rw [hL] at h20 hb1 hb3 hn0 HFin ⊢
  obtain ⟨p, hp⟩ : ∃ p : Int, (L.length : Int) + y = p := ⟨_, rfl⟩
  rw [hp] at hb1 hb3 HFin ⊢
  have hsz : (strN L).size = L.length := strN_size L
  obtain ⟨n, hnn⟩ : ∃ n, L.length = n := ⟨_, rfl⟩
  obtain ⟨S, hS⟩ : ∃ S, strN L = S := ⟨_, rfl⟩
  rw [hS] at hsz ⊢
  rw [hnn] at hsz h20 hn0
  have HN := Lib.hid hnn
  have HSS := Lib.hid hS
  have HB2 := Lib.hid hb2
  have HW := Lib.hid (fun w => wholeText_any (p - 1) w (by omega) (by omega))
  unfold WtPost at HW
  clear hS hnn hC hr10 hb2 hr0 hL hp hfin
  by_cases h1 : 1 ≤ p ∧ p ≤ 21
  · obtain ⟨k, rfl⟩ : ∃ k : Nat, p = k := ⟨p.toNat, by omega⟩
    have hk1 : 1 ≤ k := by omega
    have hk2 : k ≤ 21 := by omega
    have d1 : decide ((k : Int) ≥ 1) = true := decide_eq_true (by omega)
    have d2 : decide ((k : Int) ≤ 21) = true := decide_eq_true (by omega)
    by_cases h2 : n ≤ k
    · have hT : layT L (k : Int) = L ++ List.replicate (k - n) 48 ++ [46, 48] := by
        unfold layT
        rw [if_pos ⟨by omega, by omega, by have := HN.out; omega⟩, HN.out]
        rfl
      have HT := Lib.hid hT
      have hkn : (k : Int) - n = ((k - n : Nat) : Int) := by omega
      have HQ := Lib.hid (fun w => rnoughts_any (k - n) w (by omega))
      obtain ⟨j, hj⟩ : ∃ j, k - n = j := ⟨_, rfl⟩
      rw [hj] at HQ HT hkn
      have hzs : (strN (List.replicate j 48)).size = j := by rw [strN_size, List.length_replicate]
      obtain ⟨Z, hZ⟩ : ∃ Z, strN (List.replicate j 48) = Z := ⟨_, rfl⟩
      rw [hZ] at hzs HQ
      have HZ := Lib.hid hZ
      have hjb : j ≤ 21 := by omega
      clear hT h1 hj hZ
      go_wp2_with fail
      refine (HQ.out _).mono ?_
      rintro e w3 ⟨rfl, rfl⟩
      go_wp2_with fail
      go_ret
      refine HFin.out _ _ ?_ (Below.refl _ _)
      rw [HT.out, ← List.append_assoc, ← List.append_assoc, ← strN_app, ← strN_app, ← strN_app, HSS.out, HZ.out]
      rfl
    · have hT : layT L (k : Int) = L.take k ++ [46] ++ L.drop k := by
        unfold layT
        rw [if_neg (by have := HN.out; omega), if_pos ⟨by omega, by omega⟩]
        rfl
      have HT := Lib.hid hT
      have hkn : k < n := by omega
      have e1 : S.extract 0 k = strN (L.take k) := by rw [← HSS.out]; exact strN_take L k
      have e2 : S.extract k n = strN (L.drop k) := by
        have := strN_drop L k
        rw [HSS.out] at this
        rw [← this]
        congr 1
        omega
      have E1 := Lib.hid e1
      have E2 := Lib.hid e2
      have hz1 : (S.extract 0 k).size = k := by simp; omega
      have hz2 : (S.extract k n).size = n - k := by simp; omega
      clear hT h1 e1 e2
      go_wp2_with fail
      go_quiet (fail)
      go_wp2_with fail
      go_ret
      refine HFin.out _ _ ?_ (below_drewN (Below.refl _ _) _)
      rw [HT.out]
      rw [← List.append_assoc, ← List.append_assoc, ← strN_app, ← strN_app, ← strN_app, ← E1.out, ← E2.out]
      rfl
  · by_cases h3 : -5 ≤ p ∧ p ≤ 0
    · obtain ⟨k, hk⟩ : ∃ k : Nat, -p = k := ⟨(-p).toNat, by omega⟩
      have hT : layT L p = [48, 46] ++ List.replicate k 48 ++ L := by
        unfold layT
        rw [if_neg (by omega), if_neg h1, if_pos h3, hk]
        rfl
      have HT := Lib.hid hT
      have HQ := Lib.hid (fun w => rnoughts_any k w (by omega))
      obtain ⟨h3a, h3b⟩ := h3
      have hzs : (strN (List.replicate k 48)).size = k := by rw [strN_size, List.length_replicate]
      obtain ⟨Z, hZ⟩ : ∃ Z, strN (List.replicate k 48) = Z := ⟨_, rfl⟩
      rw [hZ] at hzs HQ
      have HZ := Lib.hid hZ
      have hjb : k ≤ 21 := by omega
      clear hT h1 hZ
      go_wp2_with fail
      refine (HQ.out _).mono ?_
      rintro e w3 ⟨rfl, rfl⟩
      go_wp2_with fail
      go_ret
      refine HFin.out _ _ ?_ (Below.refl _ _)
      rw [HT.out, ← List.append_assoc, ← List.append_assoc, ← strN_app, ← strN_app, ← strN_app, HSS.out, HZ.out]
      rfl
    · have hwl : (wtx (p - 1)).length ≤ 30 := by
        unfold wtx
        split
        · rw [List.length_cons, uw.dgs_length]
          have := uw.nd20 (p - 1).natAbs (by omega)
          omega
        · rw [uw.dgs_length]
          have := uw.nd20 (p - 1).natAbs (by omega)
          omega
      have hzs : (strN (wtx (p - 1))).size ≤ 30 := by rw [strN_size]; exact hwl
      obtain ⟨Z, hZ⟩ : ∃ Z, strN (wtx (p - 1)) = Z := ⟨_, rfl⟩
      rw [hZ] at hzs HW
      have HZ := Lib.hid hZ
      clear hwl hZ
      by_cases hn1 : 1 < n
      · have hT : layT L p = L.take 1 ++ [46] ++ L.drop 1 ++ [101] ++ wtx (p - 1) := by
          unfold layT
          rw [if_neg (by omega), if_neg h1, if_neg h3, if_pos (by rw [HN.out]; exact hn1)]
        have HT := Lib.hid hT
        have e1 : S.extract 0 1 = strN (L.take 1) := by rw [← HSS.out]; exact strN_take L 1
        have e2 : S.extract 1 n = strN (L.drop 1) := by
          have := strN_drop L 1
          rw [HSS.out] at this
          rw [← this]
          congr 1
          omega
        have E1 := Lib.hid e1
        have E2 := Lib.hid e2
        have hwp : IntKind.i64.wrap (p - 1) = p - 1 := by rw [IntKind.wrap_i64]; omega
        have hle : (1 : Int) ≤ n := by omega
        have hz1 : (S.extract 0 1).size = 1 := by simp; omega
        obtain ⟨m1, hm1⟩ : ∃ m1, n - 1 = m1 := ⟨_, rfl⟩
        have hz2 : (S.extract 1 n).size = m1 := by simp; omega
        obtain ⟨zl, hzl⟩ : ∃ zl, Z.size = zl := ⟨_, rfl⟩
        have k1 : ¬ 9223372036854775807 < 2 + m1 := by omega
        have k2 : ¬ 9223372036854775807 < 2 + m1 + 1 := by omega
        have k3 : ¬ 9223372036854775807 < 2 + m1 + 1 + zl := by omega
        have k4 : ¬ 9223372036854775807 < 3 + m1 := by omega
        have k5 : ¬ 9223372036854775807 < 3 + m1 + 1 := by omega
        have k6 : ¬ 9223372036854775807 < 3 + m1 + 1 + zl := by omega
        clear hT e1 e2 hm1
        by_cases hp : p < -5
        · clear h1 h3
          go_wp2_with fail
          go_region_law (first
            | (go_simp; go_at_call 30; go_must (refine (HW.out _).mono ?_; rintro e4 w4 ⟨rfl, hb4⟩; have HB4 : Hid (Below w2.heap.size w2 w4) := Lib.hid ((Below.refl _ _).drew.trans hb4); clear hb4)))
          all_goals
            go_wp2_with fail
            go_ret
            refine HFin.out _ _ ?_ (by first | exact HB4.out | exact HB4.out.drew)
            rw [HT.out, ← List.append_assoc, ← List.append_assoc, ← List.append_assoc, ← List.append_assoc, ← strN_app, ← strN_app, ← strN_app, ← strN_app, ← strN_app, ← E1.out, ← E2.out, HZ.out]
            rfl
        · have hp21 : 21 < p := by omega
          clear h1 h3 hp
          go_wp2_with fail
          go_region_law (first
            | (go_simp; go_at_call 30; go_must (refine (HW.out _).mono ?_; rintro e4 w4 ⟨rfl, hb4⟩; have HB4 : Hid (Below w2.heap.size w2 w4) := Lib.hid ((Below.refl _ _).drew.trans hb4); clear hb4)))
          all_goals
            go_wp2_with fail
            go_ret
            refine HFin.out _ _ ?_ (by first | exact HB4.out | exact HB4.out.drew)
            rw [HT.out, ← List.append_assoc, ← List.append_assoc, ← List.append_assoc, ← List.append_assoc, ← strN_app, ← strN_app, ← strN_app, ← strN_app, ← strN_app, ← E1.out, ← E2.out, HZ.out]
            rfl
      · have hT : layT L p = L ++ [101] ++ wtx (p - 1) := by
          unfold layT
          rw [if_neg (by omega), if_neg h1, if_neg h3, if_neg (by rw [HN.out]; exact hn1)]
        have HT := Lib.hid hT
        have hn2 : n = 1 := by omega
        clear hT hn1
        by_cases hp : p < -5
        · clear h1 h3
          go_wp2_with fail
          refine (HW.out _).mono ?_
          rintro e w3 ⟨rfl, hb⟩
          have HB := Lib.hid hb
          clear hb
          go_wp2_with fail
          go_ret
          refine HFin.out _ _ ?_ HB.out
          rw [HT.out, ← List.append_assoc, ← List.append_assoc, ← strN_app, ← strN_app, ← strN_app, HSS.out, HZ.out]
          rfl
        · have hp21 : 21 < p := by omega
          clear h1 h3 hp
          go_wp2_with fail
          refine (HW.out _).mono ?_
          rintro e w3 ⟨rfl, hb⟩
          have HB := Lib.hid hb
          clear hb
          go_wp2_with fail
          go_ret
          refine HFin.out _ _ ?_ HB.out
          rw [HT.out, ← List.append_assoc, ← List.append_assoc, ← strN_app, ← strN_app, ← strN_app, HSS.out, HZ.out]
          rfl
end Go.Proofs.YtagghdehbkbemaaGreatDoor.rt
end
section
namespace Go.Proofs.YtagghdehbkbemaaGreatDoor.rt
open Go.RowKit mem fl big sh uw pg
set_option linter.unusedVariables false

theorem tb_any (s : Bool) (a : Nat) (w : World) (ha : a < 9223372036854775808) : Calls Tryz.prog 46 #[.int .u64 ((a + sgn s : Nat) : Int)] w (TtPost s a w) := by
  cases s
  · exact tb_pos a w ha
  · exact tb_neg a w ha
theorem tt_same {s : Bool} {a : Nat} {w1 w2 w1' w2' : World} {e1 e2 : Ending} (h1 : TtPost s a w1 e1 w1') (h2 : TtPost s a w2 e2 w2') : e1 = e2 := by
  obtain ⟨_, h1⟩ := h1
  obtain ⟨_, h2⟩ := h2
  rcases h1 with ⟨a1, rfl⟩ | ⟨a1, rfl⟩ | ⟨a1, b1, q, y, c1, d1, _, rfl⟩
  · rcases h2 with ⟨a2, rfl⟩ | ⟨a2, rfl⟩ | ⟨a2, b2, r, z, c2, d2, _, rfl⟩
    · rfl
    · omega
    · omega
  · rcases h2 with ⟨a2, rfl⟩ | ⟨a2, rfl⟩ | ⟨a2, b2, r, z, c2, d2, _, rfl⟩
    · omega
    · rfl
    · omega
  · rcases h2 with ⟨a2, rfl⟩ | ⟨a2, rfl⟩ | ⟨a2, b2, r, z, c2, d2, _, rfl⟩
    · omega
    · omega
    · obtain ⟨rfl, rfl⟩ := c1.uniq c2 d1 d2
      rfl
/-- a text is answered -/
theorem tt_string {s : Bool} {a : Nat} {w w' : World} {e : Ending} (h : TtPost s a w e w') : ∃ S : ByteArray, e = .returned (.string S) ∧ Below w.heap.size w w' := by
  obtain ⟨hb, h⟩ := h
  rcases h with ⟨_, rfl⟩ | ⟨_, rfl⟩ | ⟨_, _, q, y, _, _, _, rfl⟩
  · exact ⟨_, rfl, hb⟩
  · exact ⟨_, rfl, hb⟩
  · exact ⟨_, rfl, hb⟩
end Go.Proofs.YtagghdehbkbemaaGreatDoor.rt
end
