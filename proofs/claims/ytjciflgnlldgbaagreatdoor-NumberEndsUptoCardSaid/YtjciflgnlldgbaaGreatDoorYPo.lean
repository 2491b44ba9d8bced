/- The program's power, walked: an exponent's digits, told off up to 2^40. -/
import Derived.Test.YtjciflgnlldgbaaGreatDoorGDig
namespace Go.Proofs.YtjciflgnlldgbaaGreatDoor.pg
open Go.RowKit mem fl big
set_option linter.unusedVariables false

theorem digit_any (c : Nat) (w : World) (hc : c < 256) : Calls Tryz.prog 48 #[.int .i32 (c : Int)] w fun e w' => e = .returned (.bool (decide (48 ≤ c ∧ c ≤ 57))) ∧ w = w' := by
  by_cases h1 : 48 ≤ c
  · by_cases h2 : c ≤ 57
    · have e : decide (48 ≤ c ∧ c ≤ 57) = true := decide_eq_true ⟨h1, h2⟩
      rw [e]
      have d1 : decide ((c : Int) ≥ 48) = true := decide_eq_true (by omega)
      have d2 : decide ((c : Int) ≤ 57) = true := decide_eq_true (by omega)
      go_enter Tryz.func48, Tryz.ntmps48
      go_wp2_with fail
      go_ret
      exact ⟨rfl, rfl⟩
    · have e : decide (48 ≤ c ∧ c ≤ 57) = false := decide_eq_false (by omega)
      rw [e]
      have d1 : decide ((c : Int) ≥ 48) = true := decide_eq_true (by omega)
      have d2 : decide ((c : Int) ≤ 57) = false := decide_eq_false (by omega)
      go_enter Tryz.func48, Tryz.ntmps48
      go_wp2_with fail
      go_ret
      exact ⟨rfl, rfl⟩
  · have e : decide (48 ≤ c ∧ c ≤ 57) = false := decide_eq_false (by omega)
    rw [e]
    have d1 : decide ((c : Int) ≥ 48) = false := decide_eq_false (by omega)
    go_enter Tryz.func48, Tryz.ntmps48
    go_wp2_with fail
    go_ret
    exact ⟨rfl, rfl⟩
def pwStep (n c : Nat) : Nat := if (48 ≤ c ∧ c ≤ 57) ∧ n < 1099511627776 then n * 10 + (c - 48) else n
def pwF (l : List Nat) : Nat := l.foldl pwStep 0
def pwV (l : List Nat) : Int := if l.head? = some 45 then -((min (pwF l) 1099511627776 : Nat) : Int) else ((min (pwF l) 1099511627776 : Nat) : Int)
theorem pwF_snoc (l : List Nat) (c : Nat) : pwF (l ++ [c]) = pwStep (pwF l) c := by unfold pwF; rw [List.foldl_append]; rfl
theorem pwStep_bd {n c : Nat} (h : n ≤ 10995116277769) : pwStep n c ≤ 10995116277769 := by unfold pwStep; split <;> omega
set_option maxRecDepth 100000 in
set_option maxHeartbeats 2000000 in
theorem power_any (s : ByteArray) (w : World) (h0 : 0 < s.size) (hn : s.size ≤ 1100000) :
    Calls Tryz.prog 46 #[.string s] w fun e w' => e = .returned (.int .i64 (pwV (nats s))) ∧ w' = w := by
  have HSn := Lib.hid (nats_snoc s)
  have HLn := Lib.hid (nats_length s)
  obtain ⟨c0, hc0⟩ : ∃ c0, (s[0]'h0).toNat = c0 := ⟨_, rfl⟩
  have hhd : (nats s).head? = some c0 := by
    have := nats_get s 0 h0
    rw [hc0] at this
    rw [List.head?_eq_getElem?, List.getElem?_eq_getElem (by rw [nats_length]; exact h0), this]
  have HPV : Hid (pwV (nats s) = if (c0 == 45) = true then -((min (pwF (nats s)) 1099511627776 : Nat) : Int) else ((min (pwF (nats s)) 1099511627776 : Nat) : Int)) := Lib.hid (by
    unfold pwV
    rw [hhd]
    by_cases h : c0 = 45
    · subst h; simp
    · simp [h])
  obtain ⟨b0, hb0⟩ : ∃ b0, (c0 == 45) = b0 := ⟨_, rfl⟩
  have hb1 : ((c0 : Int) == 45) = b0 := by rw [← hb0]; rw [Bool.eq_iff_iff]; simp; omega
  rw [hb0] at HPV
  obtain ⟨PV, hPV⟩ : ∃ PV, pwV (nats s) = PV := ⟨_, rfl⟩
  rw [hPV] at HPV ⊢
  have HD := Lib.hid digit_any
  generalize nats s = l at *
  clear hhd hb0 hPV
  go_enter Tryz.func46, Tryz.ntmps46
  go_wp2_with fail
  go_loopw [4, 5] (fun v4 v5 wr => ∃ (n i : Nat), i ≤ s.size ∧ n ≤ 10995116277769 ∧ v4 = .int .i64 (n : Int) ∧ v5 = .int .i64 (i : Int) ∧ wr = w ∧ Hid (pwF (l.take i) = n)) (fun _ v5 _ => s.size - (intOf v5).toNat)
  case atStart => exact ⟨0, 0, by omega, by omega, rfl, rfl, rfl, Lib.hid rfl⟩
  case round =>
    obtain ⟨n, i, hi, hnb, rfl, rfl, rfl, hst⟩ := hrel
    by_cases hlt : i < s.size
    · have hsn := HSn.out i hlt
      obtain ⟨c, hch⟩ : ∃ c, (s[i]).toNat = c := ⟨_, rfl⟩
      have hcb : c < 256 := by rw [← hch]; exact UInt8.toNat_lt _
      rw [hch] at hsn
      have hstep : pwF (l.take (i + 1)) = pwStep n c := by rw [hsn, pwF_snoc, hst.out]
      have HS := Lib.hid hstep
      clear hsn hstep hst
      go_wp2_with fail
      refine (HD.out c _ hcb).mono ?_
      rintro e w2 ⟨rfl, rfl⟩
      by_cases hd : 48 ≤ c ∧ c ≤ 57
      · have e1 : decide (48 ≤ c ∧ c ≤ 57) = true := decide_eq_true hd
        rw [e1]
        by_cases hf : n < 1099511627776
        · have hs2 : pwStep n c = n * 10 + (c - 48) := by unfold pwStep; rw [if_pos ⟨hd, hf⟩]
          have d2 : decide ((n : Int) < 1099511627776) = true := decide_eq_true (by omega)
          have HS2 := Lib.hid (HS.out.trans hs2)
          have hd1 := hd.1
          have hd2 := hd.2
          clear HS hs2 hd e1
          go_wp2_with fail
          exact ⟨⟨n * 10 + (c - 48), i + 1, by omega, by omega, congrArg (Value.int .i64) (by omega), rfl, trivial, HS2⟩, by simp [intOf]; omega⟩
        · have hs2 : pwStep n c = n := by unfold pwStep; rw [if_neg (by omega)]
          have d2 : decide ((n : Int) < 1099511627776) = false := decide_eq_false (by omega)
          have HS2 := Lib.hid (HS.out.trans hs2)
          clear HS hs2 hd e1
          go_wp2_with fail
          exact ⟨⟨n, i + 1, by omega, by omega, rfl, rfl, trivial, HS2⟩, by simp [intOf]; omega⟩
      · have e1 : decide (48 ≤ c ∧ c ≤ 57) = false := decide_eq_false hd
        rw [e1]
        have hs2 : pwStep n c = n := by unfold pwStep; rw [if_neg (by omega)]
        have HS2 := Lib.hid (HS.out.trans hs2)
        clear HS hs2 hd e1
        go_wp2_with fail
        exact ⟨⟨n, i + 1, by omega, by omega, rfl, rfl, trivial, HS2⟩, by simp [intOf]; omega⟩
    · have hil : i = s.size := by omega
      subst hil
      have hfin : pwF l = n := by have := hst.out; rw [← HLn.out, List.take_length] at this; exact this
      have HF := Lib.hid hfin
      clear hfin hst
      cases b0
      · have HP2 := Lib.hid (HPV.out.trans (if_neg (by decide)))
        go_wp2_with fail
        all_goals
          go_ret
          refine ⟨ret_int ?_, rfl⟩
          rw [HP2.out, HF.out]
          omega
      · have HP2 := Lib.hid (HPV.out.trans (if_pos rfl))
        go_wp2_with fail
        all_goals
          go_ret
          refine ⟨ret_int ?_, rfl⟩
          rw [HP2.out, HF.out]
          omega
end Go.Proofs.YtjciflgnlldgbaaGreatDoor.pg
