/- The reference's One. -/
import Derived.Test.YtjbfhkcbgafeaaaDoorRefN
namespace Go.Proofs.YtjbfhkcbgafeaaaDoor.app
open Go.RowKit mem txt esc
set_option linter.unusedVariables false

/-- a slice of bytes in memory -/
def BytesAt (w : World) (ad : Addr) (n : Nat) (b : Nat → Nat) : Prop := ad.block < w.heap.size ∧ ∀ i, i < n → w.cell? (ad.add i) = some (.int .u8 (b i : Nat))
theorem BytesAt.below {w w' : World} {ad : Addr} {n : Nat} {b : Nat → Nat} (h : BytesAt w ad n b) (hb : Below w.heap.size w w') : BytesAt w' ad n b :=
  ⟨Nat.lt_of_lt_of_le h.1 hb.size, fun i hi => (hb.cell (p := ad.add i) (by rw [add_block]; exact h.1)).trans (h.2 i hi)⟩
theorem BytesAt.rd {w : World} {ad : Addr} {n : Nat} {b : Nat → Nat} (h : BytesAt w ad n b) {k : Nat} (hk : k ≤ n) : Rd w w.heap.size (some ad) (zs (bsZ b k)) := by
  intro j u hu
  refine ⟨ad, rfl, h.1, ?_⟩
  have hj : j < k := by
    have := (List.getElem?_eq_some_iff.1 hu).1
    simpa [zs, bsZ] using this
  rw [h.2 j (by omega)]
  rw [← hu]
  simp [zs, bsZ, hj]
theorem bsZ_length (b : Nat → Nat) (k : Nat) : (bsZ b k).length = k := by simp [bsZ]
theorem one_none {b : Nat → Nat} (hb : ∀ i, b i < 256) {n k : Nat} (hn : 0 < n) (h : ∀ j, 1 ≤ j → j < k → j ≤ n → ¬ putZ (valP b j) = bsZ b j) (hk : k = 5 ∨ n < k) : oneB b n = (0, 0) := by
  unfold oneB
  by_cases he : (decB b n).1 = 65533 ∧ (decB b n).2 = 1
  · rw [if_pos he]
  · exfalso
    obtain ⟨h1, h2, h3⟩ := decB_width b n hn
    exact h _ h1 (by omega) h3 (mt_from b hb n he)
theorem one_some {b : Nat → Nat} (hb : ∀ i, b i < 256) {n k : Nat} (h1 : 1 ≤ k) (h4 : k ≤ 4) (hk : k ≤ n) (h : putZ (valP b k) = bsZ b k) : oneB b n = (valP b k, k) := by
  have := mt_to b hb n k h1 h4 hk h
  unfold oneB
  rw [this]
  rw [if_neg]
  rintro ⟨e1, e2⟩
  simp only at e1 e2
  subst e2
  rw [val1] at e1
  omega
theorem val_lt (b : Nat → Nat) {k : Nat} (h1 : 1 ≤ k) (h4 : k ≤ 4) : valP b k < 33554432 := by
  obtain ⟨hF0, hF1⟩ := fst_pos k h1 h4
  exact numP_lt b (fstF k) hF1 hF0 k h4

set_option maxRecDepth 100000 in
set_option maxHeartbeats 2000000 in
theorem one_any (b : Nat → Nat) (hb : ∀ i, b i < 256) (n : Nat) (hn : 0 < n) (hn2 : n ≤ 1099511627776) (ad : Addr) (c : Nat) (hc : n ≤ c) (hc2 : c ≤ maxLen) (w : World) (h : BytesAt w ad n b) :
    Calls Tryd.prog 26 #[.slice (some ad) n c] w fun e w' => e = .returned (.tuple #[.int .i32 ((oneB b n).1 : Nat), .int .i64 ((oneB b n).2 : Nat)]) ∧ Below w.heap.size w w' := by
  have HB := Lib.hid hb
  have H := Lib.hid h
  have hcm : c ≤ 9223372036854775807 := hc2
  clear hb h hc2
  go_enter Tryd.func26, Tryd.ntmps26
  go_wp2_with fail
  go_loopw [4] (fun v4 wr => ∃ k : Nat, 1 ≤ k ∧ k ≤ 5 ∧ v4 = .int .i64 (k : Int) ∧ Below w.heap.size w wr ∧ Hid (∀ j, 1 ≤ j → j < k → j ≤ n → ¬ putZ (valP b j) = bsZ b j)) (fun v4 _ => 5 - (intOf v4).toNat)
  case atStart => exact ⟨1, Nat.le_refl _, by omega, rfl, Below.refl _ _, Lib.hid (fun j h1 h2 => by omega)⟩
  case round =>
    obtain ⟨k, hk1, hk5, rfl, hbw, hno⟩ := hrel
    by_cases hk4 : k ≤ 4
    · have d1 : decide ((k : Int) ≤ 4) = true := decide_eq_true (by omega)
      by_cases hkn : k ≤ n
      · have d2 : decide ((k : Int) ≤ (n : Int)) = true := decide_eq_true (by omega)
        have hkc : (k : Int) ≤ (c : Int) := by omega
        have hkc2 : k ≤ c := by omega
        have hk0 : (0 : Int) ≤ (k : Int) := by omega
        have HBW := Lib.hid hbw
        clear hbw
        go_wp2_with fail
        have HS := Lib.hid (H.out.below HBW.out)
        refine (number_any k hk1 hk4 b HB.out ad c wr HS.out.1 (fun i hi => HS.out.2 i (by omega))).mono ?_
        rintro e w1 ⟨rfl, hb1⟩
        have HB1 := Lib.hid (HBW.out.trans (hb1.mono HBW.out.size))
        clear hb1
        have hvl := val_lt b hk1 hk4
        have HM := Lib.hid (fun h => one_some HB.out hk1 hk4 hkn h)
        have HN := Lib.hid (fun (h : ¬ putZ (valP b k) = bsZ b k) j (h1 : 1 ≤ j) (h2 : j < k + 1) (h3 : j ≤ n) => (by
          by_cases e : j = k
          · subst e; exact h
          · exact hno.out j h1 (by omega) h3 : ¬ putZ (valP b j) = bsZ b j))
        obtain ⟨V, hV⟩ : ∃ V, valP b k = V := ⟨_, rfl⟩
        rw [hV] at hvl HM HN ⊢
        clear hV
        go_wp2_with fail
        refine (put_any V hvl w1).mono ?_
        rintro e w2 ⟨A2, c2, rfl, hrd, hA2, hc21, hc22, hb2⟩
        have HB2 := Lib.hid (HB1.out.trans (hb2.mono HB1.out.size))
        have HR2 := Lib.hid hrd
        have hp8 : (putZ V).length ≤ 4 := by
          unfold putZ
          split
          · exact (Lib.encodeRuneZ_length _).2
          · simp
        clear hb2 hrd hA2
        by_cases hlen : (putZ V).length = k
        · have HSM := Lib.hid (same_any (putZ V) (bsZ b k) A2 (some ad) c2 c w2 HR2.out ((H.out.below HB2.out).rd hkn) (by omega) (by rw [bsZ_length]; omega))
          rw [bsZ_length, hlen] at HSM
          rw [hlen]
          go_wp2_with fail
          refine HSM.out.mono ?_
          rintro e w3 ⟨rfl, m, rfl⟩
          have HB3 := Lib.hid (below_drewN' HB2.out m)
          generalize w2.drewN m = w3 at *
          by_cases hmt : putZ V = bsZ b k
          · rw [decide_eq_true hmt]
            have ho := HM.out hmt
            have HO := Lib.hid ho
            clear ho HSM HN HM hmt
            go_wp2_with fail
            go_ret2
            rw [HO.out]
            exact ⟨rfl, HB3.out⟩
          · rw [decide_eq_false hmt]
            clear HSM HM hlen
            go_wp2_with fail
            exact ⟨⟨k + 1, by omega, by omega, by simp, HB3.out, Lib.hid (HN.out hmt)⟩, by simp [intOf]; omega⟩
        · have b1 : (((putZ V).length : Int) == (k : Int)) = false := by simp; omega
          have hmt : ¬ putZ V = bsZ b k := fun e => hlen (by rw [e, bsZ_length])
          have HMT := Lib.hid hmt
          clear hmt hlen
          generalize (putZ V).length = lv at *
          go_wp2_with fail
          exact ⟨⟨k + 1, by omega, by omega, by simp, HB2.out, Lib.hid (HN.out HMT.out)⟩, by simp [intOf]; omega⟩
      · have d2 : decide ((k : Int) ≤ (n : Int)) = false := decide_eq_false (by omega)
        have HO := Lib.hid (one_none HB.out hn hno.out (.inr (by omega)))
        go_wp2_with fail
        go_ret2
        rw [HO.out]
        exact ⟨rfl, hbw⟩
    · have hk5 : k = 5 := by omega
      have HO := Lib.hid (one_none HB.out hn hno.out (.inl hk5))
      subst hk5
      go_wp2_with fail
      go_ret2
      rw [HO.out]
      exact ⟨rfl, hbw⟩
end Go.Proofs.YtjbfhkcbgafeaaaDoor.app
