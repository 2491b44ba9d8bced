/- The reference's number. The reference's One. The reference's Decode. The reference's char. -/
import Derived.Test.YtagghdehbkbemaaGreatDoorGUn
section
namespace Go.Proofs.YtagghdehbkbemaaGreatDoor.app
open Go.RowKit mem txt esc
set_option linter.unusedVariables false

def fA : Array Value := #[.int .i64 0, .int .i64 128, .int .i64 32, .int .i64 16, .int .i64 8]
theorem fA_at : ∀ k, k ≤ 4 → fA[k]? = some (.int .i64 (fstF k : Nat))
  | 0, _ => rfl
  | 1, _ => rfl
  | 2, _ => rfl
  | 3, _ => rfl
  | 4, _ => rfl
  | n + 5, h => by omega
theorem fst_pos : ∀ k, 1 ≤ k → k ≤ 4 → 0 < fstF k ∧ fstF k ≤ 128
  | 1, _, _ => by decide
  | 2, _, _ => by decide
  | 3, _, _ => by decide
  | 4, _, _ => by decide
  | n + 5, _, h => by omega
theorem add_0 (ad : Addr) : ad.add 0 = ad := by unfold Addr.add; split <;> simp_all

set_option maxRecDepth 100000 in
set_option maxHeartbeats 1000000 in
theorem number_any (k : Nat) (hk1 : 1 ≤ k) (hk4 : k ≤ 4) (b : Nat → Nat) (hb : ∀ i, b i < 256) (ad : Addr) (c : Nat) (w : World) (hblk : ad.block < w.heap.size) (hc : ∀ i, i < k → w.cell? (ad.add i) = some (.int .u8 (b i : Nat))) :
    Calls Tryz.prog 78 #[.slice (some ad) k c] w fun e w' => e = .returned (.int .i32 (valP b k : Nat)) ∧ Below w.heap.size w w' := by
  obtain ⟨hF0, hF1⟩ := fst_pos k hk1 hk4
  unfold valP
  have hf := fA_at k hk4
  have hlt := numP_lt b (fstF k) hF1 hF0
  obtain ⟨F, hF⟩ : ∃ F, fstF k = F := ⟨_, rfl⟩
  rw [hF] at hF0 hF1 hf hlt ⊢
  have HLT := Lib.hid hlt
  have HC := Lib.hid hc
  have HB := Lib.hid hb
  clear hF hlt hc hb
  go_enter Tryz.func78, Tryz.ntmps78
  go_upto_region 2 with (fail)
  have hbA : Below w.heap.size w (w.alloc (.cells fA 3)) := (Below.refl _ _).alloc (Nat.le_refl _) _
  have hT : (w.alloc (.cells fA 3)).cell? ⟨w.heap.size, k, none⟩ = some (.int .i64 (F : Nat)) := by
    rw [cell_of_row (w.alloc (.cells fA 3)) w.heap.size k fA 3 (0, 0) (heap_alloc_new w _)]
    exact hf
  have hcW : ∀ i, i < k → (w.alloc (.cells fA 3)).cell? (ad.add i) = some (.int .u8 (b i : Nat)) := fun i hi => (hbA.cell (p := ad.add i) (by rw [add_block]; exact hblk)).trans (HC.out i hi)
  have h0 := hcW 0 hk1
  rw [add_0] at h0
  have HW := Lib.hid hcW
  have HA := Lib.hid hbA
  obtain ⟨x0, hx0⟩ : ∃ x, b 0 = x := ⟨_, rfl⟩
  have hx256 : x0 < 256 := by rw [← hx0]; exact HB.out 0
  rw [hx0] at h0
  have hmod : (x0 : Int) % (F : Int) = ((numP b F 1 : Nat) : Int) := by
    show _ = ((b 0 % F : Nat) : Int)
    rw [hx0]
    omega
  clear hcW hf hbA
  rw [show fA = #[.int .i64 0, .int .i64 128, .int .i64 32, .int .i64 16, .int .i64 8] from rfl] at hT h0 HW HA
  generalize w.alloc (.cells #[.int .i64 0, .int .i64 128, .int .i64 32, .int .i64 16, .int .i64 8] 3) = W at *
  have hk3 : (k : Int) < 5 := by omega
  have hk0 : (0 : Int) < (k : Int) := by omega
  go_big_quiet (fail)
  rw [hmod]
  have hc4 : ∀ i, i < k → (W.drewN nq).cell? (ad.add i) = some (.int .u8 (b i : Nat)) := HW.out
  have HC4 := Lib.hid hc4
  have HB4 := Lib.hid (below_drewN' HA.out nq)
  generalize W.drewN nq = W4 at *
  clear hc4 hmod hT h0 hx0 hx256 HW HA
  go_wp2_with fail
  go_loopw [4, 5] (fun v4 v5 wr => ∃ i : Nat, 1 ≤ i ∧ i ≤ k ∧ v5 = .int .i64 (i : Int) ∧ v4 = .int .i64 ((numP b F i : Nat) : Int) ∧ wr = W4) (fun _ v5 _ => k - (intOf v5).toNat)
  case atStart => exact ⟨1, Nat.le_refl _, hk1, rfl, rfl, rfl⟩
  case round =>
    obtain ⟨i, hi1, hik, rfl, rfl, rfl⟩ := hrel
    have hN := HLT.out i (by omega)
    by_cases hi : i < k
    · have hi3 : (i : Int) < (k : Int) := by omega
      have hci := HC4.out i hi
      have hy256 := HB.out i
      have hstep : numP b F (i + 1) = numP b F i * 64 + b i % 64 := by
        obtain ⟨j, rfl⟩ : ∃ j, i = j + 1 := ⟨i - 1, by omega⟩
        rfl
      obtain ⟨N, hNN⟩ : ∃ N, numP b F i = N := ⟨_, rfl⟩
      obtain ⟨y, hy⟩ : ∃ y, b i = y := ⟨_, rfl⟩
      rw [hNN] at hN hstep ⊢
      rw [hy] at hci hstep hy256
      obtain ⟨M, hM⟩ : ∃ M, N * 64 + y % 64 = M := ⟨_, rfl⟩
      have hM3 : (N : Int) * 64 + (y : Int) % 64 = (M : Int) := by omega
      rw [hM] at hstep
      have HST := Lib.hid hstep
      have hMl : M < 2147483712 := by omega
      clear hNN hy hM hstep
      go_wp2_with fail
      exact ⟨⟨i + 1, by omega, by omega, by simp, by rw [HST.out], by simp⟩, by simp [intOf]; omega⟩
    · have hiE : i = k := by omega
      subst hiE
      obtain ⟨N, hNN⟩ : ∃ N, numP b F i = N := ⟨_, rfl⟩
      rw [hNN] at hN ⊢
      have HNN := Lib.hid hNN
      clear hNN
      go_wp2_with fail
      go_ret
      rw [HNN.out]
      exact ⟨rfl, HB4.out⟩
end Go.Proofs.YtagghdehbkbemaaGreatDoor.app
end
section
namespace Go.Proofs.YtagghdehbkbemaaGreatDoor.app
open Go.RowKit mem txt esc
set_option linter.unusedVariables false

/-- a slice of bytes in memory -/
def BytesAt (w : World) (ad : Addr) (n : Nat) (b : Nat → Nat) : Prop := ad.block < w.heap.size ∧ ∀ i, i < n → w.cell? (ad.add i) = some (.int .u8 (b i : Nat))
theorem BytesAt.below {w w' : World} {ad : Addr} {n : Nat} {b : Nat → Nat} (h : BytesAt w ad n b) (hb : Below w.heap.size w w') : BytesAt w' ad n b :=
  ⟨Nat.lt_of_lt_of_le h.1 hb.size, fun i hi => (hb.cell (p := ad.add i) (by rw [add_block]; exact h.1)).trans (h.2 i hi)⟩
theorem BytesAt.rd {w : World} {ad : Addr} {n : Nat} {b : Nat → Nat} (h : BytesAt w ad n b) {k : Nat} (hk : k ≤ n) : Rd w w.heap.size (some ad) (zs (bsZ b k)) := by
  intro j u hu
  refine ⟨ad, rfl, h.1, ?_⟩
  have hj : j < k := by
    have := (List.getElem?_eq_some_iff.1 hu).1
    simpa [zs, bsZ] using this
  rw [h.2 j (by omega)]
  rw [← hu]
  simp [zs, bsZ, hj]
theorem bsZ_length (b : Nat → Nat) (k : Nat) : (bsZ b k).length = k := by simp [bsZ]
theorem one_none {b : Nat → Nat} (hb : ∀ i, b i < 256) {n k : Nat} (hn : 0 < n) (h : ∀ j, 1 ≤ j → j < k → j ≤ n → ¬ putZ (valP b j) = bsZ b j) (hk : k = 5 ∨ n < k) : oneB b n = (0, 0) := by
  unfold oneB
  by_cases he : (decB b n).1 = 65533 ∧ (decB b n).2 = 1
  · rw [if_pos he]
  · exfalso
    obtain ⟨h1, h2, h3⟩ := decB_width b n hn
    exact h _ h1 (by omega) h3 (mt_from b hb n he)
theorem one_some {b : Nat → Nat} (hb : ∀ i, b i < 256) {n k : Nat} (h1 : 1 ≤ k) (h4 : k ≤ 4) (hk : k ≤ n) (h : putZ (valP b k) = bsZ b k) : oneB b n = (valP b k, k) := by
  have := mt_to b hb n k h1 h4 hk h
  unfold oneB
  rw [this]
  rw [if_neg]
  rintro ⟨e1, e2⟩
  simp only at e1 e2
  subst e2
  rw [val1] at e1
  omega
theorem val_lt (b : Nat → Nat) {k : Nat} (h1 : 1 ≤ k) (h4 : k ≤ 4) : valP b k < 33554432 := by
  obtain ⟨hF0, hF1⟩ := fst_pos k h1 h4
  exact numP_lt b (fstF k) hF1 hF0 k h4

set_option maxRecDepth 100000 in
set_option maxHeartbeats 2000000 in
theorem one_any (b : Nat → Nat) (hb : ∀ i, b i < 256) (n : Nat) (hn : 0 < n) (hn2 : n ≤ 1099511627776) (ad : Addr) (c : Nat) (hc : n ≤ c) (hc2 : c ≤ maxLen) (w : World) (h : BytesAt w ad n b) :
    Calls Tryz.prog 63 #[.slice (some ad) n c] w fun e w' => e = .returned (.tuple #[.int .i32 ((oneB b n).1 : Nat), .int .i64 ((oneB b n).2 : Nat)]) ∧ Below w.heap.size w w' := by
  have HB := Lib.hid hb
  have H := Lib.hid h
  have hcm : c ≤ 9223372036854775807 := hc2
  clear hb h hc2
  go_enter Tryz.func63, Tryz.ntmps63
  go_wp2_with fail
  go_loopw [4] (fun v4 wr => ∃ k : Nat, 1 ≤ k ∧ k ≤ 5 ∧ v4 = .int .i64 (k : Int) ∧ Below w.heap.size w wr ∧ Hid (∀ j, 1 ≤ j → j < k → j ≤ n → ¬ putZ (valP b j) = bsZ b j)) (fun v4 _ => 5 - (intOf v4).toNat)
  case atStart => exact ⟨1, Nat.le_refl _, by omega, rfl, Below.refl _ _, Lib.hid (fun j h1 h2 => by omega)⟩
  case round =>
    obtain ⟨k, hk1, hk5, rfl, hbw, hno⟩ := hrel
    by_cases hk4 : k ≤ 4
    · have d1 : decide ((k : Int) ≤ 4) = true := decide_eq_true (by omega)
      by_cases hkn : k ≤ n
      · have d2 : decide ((k : Int) ≤ (n : Int)) = true := decide_eq_true (by omega)
        have hkc : (k : Int) ≤ (c : Int) := by omega
        have hkc2 : k ≤ c := by omega
        have hk0 : (0 : Int) ≤ (k : Int) := by omega
        have HBW := Lib.hid hbw
        clear hbw
        go_wp2_with fail
        have HS := Lib.hid (H.out.below HBW.out)
        refine (number_any k hk1 hk4 b HB.out ad c wr HS.out.1 (fun i hi => HS.out.2 i (by omega))).mono ?_
        rintro e w1 ⟨rfl, hb1⟩
        have HB1 := Lib.hid (HBW.out.trans (hb1.mono HBW.out.size))
        clear hb1
        have hvl := val_lt b hk1 hk4
        have HM := Lib.hid (fun h => one_some HB.out hk1 hk4 hkn h)
        have HN := Lib.hid (fun (h : ¬ putZ (valP b k) = bsZ b k) j (h1 : 1 ≤ j) (h2 : j < k + 1) (h3 : j ≤ n) => (by
          by_cases e : j = k
          · subst e; exact h
          · exact hno.out j h1 (by omega) h3 : ¬ putZ (valP b j) = bsZ b j))
        obtain ⟨V, hV⟩ : ∃ V, valP b k = V := ⟨_, rfl⟩
        rw [hV] at hvl HM HN ⊢
        clear hV
        go_wp2_with fail
        refine (put_any V hvl w1).mono ?_
        rintro e w2 ⟨A2, c2, rfl, hrd, hA2, hc21, hc22, hb2⟩
        have HB2 := Lib.hid (HB1.out.trans (hb2.mono HB1.out.size))
        have HR2 := Lib.hid hrd
        have hp8 : (putZ V).length ≤ 4 := by
          unfold putZ
          split
          · exact (Lib.encodeRuneZ_length _).2
          · simp
        clear hb2 hrd hA2
        by_cases hlen : (putZ V).length = k
        · have HSM := Lib.hid (same_any (putZ V) (bsZ b k) A2 (some ad) c2 c w2 HR2.out ((H.out.below HB2.out).rd hkn) (by omega) (by rw [bsZ_length]; omega))
          rw [bsZ_length, hlen] at HSM
          rw [hlen]
          go_wp2_with fail
          refine HSM.out.mono ?_
          rintro e w3 ⟨rfl, m, rfl⟩
          have HB3 := Lib.hid (below_drewN' HB2.out m)
          generalize w2.drewN m = w3 at *
          by_cases hmt : putZ V = bsZ b k
          · rw [decide_eq_true hmt]
            have ho := HM.out hmt
            have HO := Lib.hid ho
            clear ho HSM HN HM hmt
            go_wp2_with fail
            go_ret2
            rw [HO.out]
            exact ⟨rfl, HB3.out⟩
          · rw [decide_eq_false hmt]
            clear HSM HM hlen
            go_wp2_with fail
            exact ⟨⟨k + 1, by omega, by omega, by simp, HB3.out, Lib.hid (HN.out hmt)⟩, by simp [intOf]; omega⟩
        · have b1 : (((putZ V).length : Int) == (k : Int)) = false := by simp; omega
          have hmt : ¬ putZ V = bsZ b k := fun e => hlen (by rw [e, bsZ_length])
          have HMT := Lib.hid hmt
          clear hmt hlen
          generalize (putZ V).length = lv at *
          go_wp2_with fail
          exact ⟨⟨k + 1, by omega, by omega, by simp, HB2.out, Lib.hid (HN.out HMT.out)⟩, by simp [intOf]; omega⟩
      · have d2 : decide ((k : Int) ≤ (n : Int)) = false := decide_eq_false (by omega)
        have HO := Lib.hid (one_none HB.out hn hno.out (.inr (by omega)))
        go_wp2_with fail
        go_ret2
        rw [HO.out]
        exact ⟨rfl, hbw⟩
    · have hk5 : k = 5 := by omega
      have HO := Lib.hid (one_none HB.out hn hno.out (.inl hk5))
      subst hk5
      go_wp2_with fail
      go_ret2
      rw [HO.out]
      exact ⟨rfl, hbw⟩
end Go.Proofs.YtagghdehbkbemaaGreatDoor.app
end
section
namespace Go.Proofs.YtagghdehbkbemaaGreatDoor.app
open Go.RowKit mem txt esc
set_option linter.unusedVariables false

def rz (l : List Nat) : List Value := l.map fun r => Value.int .i32 (r : Nat)
theorem rz_append (l r : List Nat) : rz (l ++ r) = rz l ++ rz r := by simp [rz]
theorem infoR : (Tryz.prog.info? 21).map (fun i => (i.zero, i.size, i.bytes)) = some (some (.int .i32 0), 1, 4) := by kernel_rfl
theorem add_add (ad : Addr) (p i : Nat) : (ad.add p).add i = ad.add (p + i) := by
  unfold Addr.add
  split
  · simp_all
  · rename_i h
    split <;> split <;> simp_all <;> omega
theorem BytesAt.drop {w : World} {ad : Addr} {l : List UInt8} (h : BytesAt w ad l.length (bytesOf l)) (p : Nat) : BytesAt w (ad.add p) (l.drop p).length (bytesOf (l.drop p)) := by
  refine ⟨by rw [add_block]; exact h.1, fun i hi => ?_⟩
  rw [List.length_drop] at hi
  rw [add_add, bytesOf_drop]
  exact h.2 _ (by omega)
def DecPost (l : List UInt8) (w : World) (e : Ending) (w' : World) : Prop :=
  ∃ v' n, e = .returned (.tuple #[v', .int .i64 (n : Nat)]) ∧ (Lib.validD l = true → n = l.length ∧ w'.ownsRow w.heap.size 21 1 v' (runes l).length (rz (runes l))) ∧ (Lib.validD l = false → n < l.length) ∧ Below w.heap.size w w'

set_option maxRecDepth 100000 in
set_option maxHeartbeats 2000000 in
theorem decode_any (l : List UInt8) (hL : l.length ≤ 4194304) (ad : Addr) (c : Nat) (hc : l.length ≤ c) (hc2 : c ≤ maxLen) (w : World) (h : BytesAt w ad l.length (bytesOf l)) :
    Calls Tryz.prog 48 #[.slice (some ad) l.length c] w (DecPost l w) := by
  obtain ⟨iv, hiv, hv0, hv1, hv2⟩ := info_parts infoR
  have H := Lib.hid h
  have hcm : c ≤ 9223372036854775807 := hc2
  clear h hc2
  obtain ⟨L, hLL⟩ : ∃ L, l.length = L := ⟨_, rfl⟩
  have HL := Lib.hid hLL
  rw [hLL] at hL hc ⊢
  clear hLL
  go_enter Tryz.func48, Tryz.ntmps48
  go_wp2_with fail
  go_loopw [4, 5] (fun v4 v5 wr => ∃ (p : Nat) (done : List Nat) (vv : Value), p ≤ L ∧ v5 = .int .i64 (p : Int) ∧ vv = v4 ∧ Hid (wr.ownsRow w.heap.size 21 1 vv done.length (rz done)) ∧ Below w.heap.size w wr ∧ Hid (done ++ runes (l.drop p) = runes l) ∧ Hid (Lib.validD (l.drop p) = Lib.validD l) ∧ done.length ≤ p) (fun _ v5 _ => L - (intOf v5).toNat)
  case atStart => exact ⟨0, [], _, Nat.zero_le _, rfl, rfl, Lib.hid (World.ownsRow_nil _ _ _ _), Below.refl _ _, Lib.hid rfl, Lib.hid rfl, Nat.zero_le _⟩
  case round =>
    obtain ⟨p, done, vv, hp, rfl, rfl, hown, hb, hru, hva, hdl⟩ := hrel
    by_cases hpL : p < L
    · have hp3 : (p : Int) < (L : Int) := by omega
      have hp4 : (p : Int) ≤ (L : Int) := by omega
      have hp5 : (L : Int) ≤ (c : Int) := by omega
      have HBW := Lib.hid hb
      have hbz := hb.size
      clear hb
      go_wp2_with fail
      have hlen : (l.drop p).length = L - p := by rw [List.length_drop, HL.out]
      have hbt := (H.out.below HBW.out).drop p
      rw [hlen] at hbt
      refine (one_any (bytesOf (l.drop p)) (bytesOf_lt _) (L - p) (by omega) (by omega) (ad.add p) (c - p) (by omega) (by unfold maxLen; omega) wr hbt).mono ?_
      rintro e w1 ⟨rfl, hb1⟩
      have hone : oneB (bytesOf (l.drop p)) (L - p) = if (Lib.decodeL (l.drop p)).1 = 65533 ∧ (Lib.decodeL (l.drop p)).2 = 1 then (0, 0) else Lib.decodeL (l.drop p) := by
        unfold oneB
        rw [← hlen, decB_of]
      have hne : l.drop p ≠ [] := by
        intro h0
        rw [h0] at hlen
        simp at hlen
        omega
      have hvs := Lib.validD_step (l.drop p) hne
      have hrs := runes_step (l.drop p) hne
      have hwd := Lib.decodeL_width (l.drop p)
      have hle := Lib.decodeL_le (l.drop p) hne
      have hrl := Lib.decodeL_rune (l.drop p)
      rw [hlen] at hle
      rw [hone]
      have HB1 := Lib.hid (HBW.out.trans (hb1.mono HBW.out.size))
      have HO1 := Lib.hid (own_kept hown.out fun g hg => hb1.block g (hown.out.lt g hg).2)
      clear hone hbt hb1 hown
      by_cases he : (Lib.decodeL (l.drop p)).1 = 65533 ∧ (Lib.decodeL (l.drop p)).2 = 1
      · rw [if_pos he] at hvs ⊢
        have HV := Lib.hid (show Lib.validD l = false by rw [← hva.out, hvs])
        clear hvs hrs hwd hle he hru hva hrl
        go_wp2_with fail
        go_ret2
        refine ⟨vv, p, rfl, fun h => (by rw [HV.out] at h; cases h), fun _ => (by rw [HL.out]; exact hpL), HB1.out⟩
      · rw [if_neg he] at hvs ⊢
        rw [List.drop_drop] at hvs hrs
        have HRU := Lib.hid hru.out
        have HVA := Lib.hid hva.out
        rw [hrs] at HRU
        rw [hvs] at HVA
        clear hvs hrs he hru hva hlen hne
        obtain ⟨r, hr⟩ : ∃ r, (Lib.decodeL (l.drop p)).1 = r := ⟨_, rfl⟩
        obtain ⟨k, hk⟩ : ∃ k, (Lib.decodeL (l.drop p)).2 = k := ⟨_, rfl⟩
        rw [hr] at hrl HRU ⊢
        rw [hk] at hwd hle HRU HVA ⊢
        clear hr hk
        have hk0 : ((k : Int) == 0) = false := by simp; omega
        obtain ⟨q, hq⟩ : ∃ q, p + k = q := ⟨_, rfl⟩
        have hq3 : (p : Int) + (k : Int) = (q : Int) := by omega
        rw [hq] at HRU HVA
        have hqL : q ≤ L := by omega
        have hpq : p + 1 ≤ q := by omega
        clear hq
        have hz1 : w.heap.size ≤ w1.heap.size := HB1.out.size
        go_wp2_with (at_builtin; go_must (refine wpList_app _ rfl (.tmp 21) (.tmp 23) _ rfl w.heap.size 21 iv (.int .i32 0) 1 4 Tryz.underlying79 hiv hv0 hv1 hv2 rfl (by omega) vv done.length (rz done) rfl (HO1.out.alloc _) (w1.heap.size + 1) (some ⟨w1.heap.size, 0, none⟩) 1 1 [.int .i32 r] rfl rfl (Rd.new w1 [.int .i32 r] 21) (by simp) (by intro u hu; simp at hu; subst hu; rfl) (by unfold maxLen; omega) (by omega) (by simp; omega) ?_; intro v' w5 hown' hgrow' hat'; have HO' := Lib.hid hown'; have HG' := Lib.hid hgrow'; clear hown' hgrow' hat'))
        refine ⟨⟨q, done ++ [r], _, hqL, by simp, rfl, Lib.hid ?_, below_app1 HB1.out HO1.out (Nat.le_refl _) hz1 HG'.out, Lib.hid (by rw [List.append_assoc]; exact HRU.out), HVA, by simp; omega⟩, by simp [intOf]; omega⟩
        rw [rz_append, List.length_append]
        exact HO'.out
    · have hpE : p = L := by omega
      have hend : l.drop p = [] := List.drop_eq_nil_of_le (by rw [HL.out]; omega)
      have hv : Lib.validD l = true := by rw [← hva.out, hend]; rfl
      have hr : runes l = done := by rw [← hru.out, hend, runes_nil, List.append_nil]
      have HV := Lib.hid hv
      have HR := Lib.hid hr
      have HP := Lib.hid hpE
      clear hv hr hend hpE hru hva
      go_wp2_with fail
      go_ret2
      refine ⟨vv, p, rfl, fun _ => ⟨(by rw [HP.out, HL.out]), (by rw [HR.out]; exact hown.out)⟩, fun h => (by rw [HV.out] at h; cases h), hb⟩
end Go.Proofs.YtagghdehbkbemaaGreatDoor.app
end
section
namespace Go.Proofs.YtagghdehbkbemaaGreatDoor.app
open Go.RowKit mem txt esc
set_option linter.unusedVariables false

def cdN (n : Nat) : Nat := if n = 0 then 8 else if n = 1 then 9 else if n = 2 then 10 else if n = 3 then 12 else 13
def nmN (n : Nat) : Nat := if n = 0 then 98 else if n = 1 then 116 else if n = 2 then 110 else if n = 3 then 102 else 114
def cdA : Array Value := #[.int .i32 8, .int .i32 9, .int .i32 10, .int .i32 12, .int .i32 13]
theorem cdA_at : ∀ n : Nat, n < 5 → cdA[n]? = some (.int .i32 (cdN n : Nat))
  | 0, _ => rfl
  | 1, _ => rfl
  | 2, _ => rfl
  | 3, _ => rfl
  | 4, _ => rfl
  | n + 5, h => by omega
theorem nm_at : ∀ (n : Nat) (h : n < 5), ((⟨#[98, 116, 110, 102, 114]⟩ : ByteArray)[n]'h).toNat = nmN n
  | 0, _ => rfl
  | 1, _ => rfl
  | 2, _ => rfl
  | 3, _ => rfl
  | 4, _ => rfl
  | n + 5, h => by omega
theorem esc_cd : ∀ n : Nat, n < 5 → escZ (cdN n) = [92, (nmN n : Int)]
  | 0, _ => by decide
  | 1, _ => by decide
  | 2, _ => by decide
  | 3, _ => by decide
  | 4, _ => by decide
  | n + 5, h => by omega
theorem esc_none {r : Nat} (h1 : r ≠ 34) (h2 : r ≠ 92) (h : ∀ j, j < 5 → cdN j ≠ r) : escZ r = if 32 ≤ r then Lib.encodeRuneZ r else [92, 117, 48, 48, hexd (r / 16), hexd (r % 16)] := by
  have a0 : r ≠ 8 := fun e => h 0 (by omega) e.symm
  have a1 : r ≠ 9 := fun e => h 1 (by omega) e.symm
  have a2 : r ≠ 10 := fun e => h 2 (by omega) e.symm
  have a3 : r ≠ 12 := fun e => h 3 (by omega) e.symm
  have a4 : r ≠ 13 := fun e => h 4 (by omega) e.symm
  by_cases c : 32 ≤ r
  · have : escB r = 0 := by unfold escB; rw [if_neg (by omega), if_pos c]
    unfold escZ
    rw [if_pos this, if_pos c]
  · have : escB r = 117 := by unfold escB; rw [if_neg (by omega), if_neg c, if_neg a0, if_neg a1, if_neg a2, if_neg a3, if_neg a4]
    unfold escZ
    rw [if_neg (by rw [this]; omega), if_pos this, if_neg c]

theorem NewB.more {xs : List Int} {w w1 w2 : World} {e : Ending} (h : NewB xs w1 e w2) (hb : Below w.heap.size w w1) : NewB xs w e w2 := by
  obtain ⟨A, c, h1, h2, h3, h4, h5, h6⟩ := h
  exact ⟨A, c, h1, h2, h3, h4, h5, hb.trans (h6.mono hb.size)⟩

theorem newBat {xs : List Int} {w w1 : World} {k c g : Nat} (hb : Below w.heap.size w w1) (hg : w1.heap.size = g) (hk : xs.length = k) (hc : c = k) (h8 : k ≤ 8) :
    NewB xs w (.returned (.slice (some ⟨g, 0, none⟩) k c)) (w1.alloc (.cells (zs xs).toArray 5)) := by
  subst hg
  exact newB hb hk hc h8

set_option maxRecDepth 100000 in
set_option maxHeartbeats 2000000 in
theorem char_any (r : Nat) (hr : r < 55296 ∨ (57343 < r ∧ r ≤ 1114111)) (w : World) : Calls Tryz.prog 49 #[.int .i32 r] w (NewB (escZ r) w) := by
  have hbA : Below w.heap.size w (w.alloc (.cells cdA 21)) := (Below.refl _ _).alloc (Nat.le_refl _) _
  have hT : ∀ n, n < 5 → (w.alloc (.cells cdA 21)).cell? ⟨w.heap.size, n, none⟩ = some (.int .i32 (cdN n : Nat)) := fun n hn => by
    rw [cell_of_row (w.alloc (.cells cdA 21)) w.heap.size n cdA 21 (0, 0) (heap_alloc_new w _)]
    exact cdA_at n hn
  have HT := Lib.hid hT
  have HA := Lib.hid hbA
  clear hT hbA
  rw [show cdA = #[.int .i32 8, .int .i32 9, .int .i32 10, .int .i32 12, .int .i32 13] from rfl] at HT HA
  by_cases c1 : r = 34
  · subst c1
    rw [show escZ 34 = [92, 34] by decide]
    go_enter Tryz.func49, Tryz.ntmps49
    go_wp2
    go_ret
    exact newBat (xs := [92, 34]) HA.out (by simp) rfl rfl (by simp)
  by_cases c2 : r = 92
  · subst c2
    rw [show escZ 92 = [92, 92] by decide]
    go_enter Tryz.func49, Tryz.ntmps49
    go_wp2
    go_ret
    exact newBat (xs := [92, 92]) HA.out (by simp) rfl rfl (by simp)
  have b1 : ((r : Int) == 34) = false := by simp; omega
  have b2 : ((r : Int) == 92) = false := by simp; omega
  have HE := Lib.hid (esc_none c1 c2)
  have HR := Lib.hid hr
  have hr2 : r ≤ 1114111 := by omega
  clear c1 c2 hr
  go_enter Tryz.func49, Tryz.ntmps49
  go_wp2_with fail
  obtain ⟨W, hW⟩ : ∃ W, w.alloc (.cells #[.int .i32 8, .int .i32 9, .int .i32 10, .int .i32 12, .int .i32 13] 21) = W := ⟨_, rfl⟩
  rw [hW] at HT HA ⊢
  have HW := Lib.hid hW
  clear hW
  go_loopw [5] (fun v5 wr => ∃ i : Nat, i ≤ 5 ∧ v5 = .int .i64 (i : Int) ∧ wr = W ∧ Hid (∀ j, j < i → cdN j ≠ r)) (fun v5 _ => 5 - (intOf v5).toNat)
  case atStart => exact ⟨0, Nat.zero_le _, rfl, rfl, Lib.hid fun j hj => by omega⟩
  case round =>
    obtain ⟨i, hi, rfl, rfl, hno⟩ := hrel
    by_cases hi5 : i < 5
    · have hc := HT.out i hi5
      have hi3 : (i : Int) < 5 := by omega
      obtain ⟨X, hX⟩ : ∃ X, ((⟨#[98, 116, 110, 102, 114]⟩ : ByteArray)[i]'hi5).toNat = X := ⟨_, rfl⟩
      have hX2 : nmN i = X := by rw [← hX]; exact (nm_at i hi5).symm
      have HES := Lib.hid (esc_cd i hi5)
      rw [hX2] at HES
      clear hX2
      obtain ⟨D, hD⟩ : ∃ D, cdN i = D := ⟨_, rfl⟩
      rw [hD] at hc HES
      have HD := Lib.hid hD
      clear hD
      by_cases hDr : D = r
      · subst hDr
        go_wp2
        go_ret
        rw [HES.out]
        exact newB (xs := [92, (X : Int)]) HA.out rfl rfl (by simp)
      · have hb : ((D : Int) == (r : Int)) = false := by simp; omega
        have HDR := Lib.hid hDr
        clear hDr
        go_wp2
        exact ⟨⟨i + 1, by omega, by simp, by simp, Lib.hid fun j hj => by
          by_cases e : j = i
          · subst e
            rw [HD.out]
            exact HDR.out
          · exact hno.out j (by omega)⟩, by simp [intOf]; omega⟩
    · have hiE : i = 5 := by omega
      subst hiE
      have hez := HE.out hno.out
      by_cases c3 : 32 ≤ r
      · have d3 : decide ((r : Int) ≥ 32) = true := decide_eq_true (by omega)
        have HZ := Lib.hid (show escZ r = putZ r by rw [hez, if_pos c3]; unfold putZ; rw [if_pos HR.out])
        clear hez hno
        go_wp2_with fail
        refine (put_any r (by omega) wr).mono ?_
        intro e w2 hn
        rw [← HZ.out] at hn
        obtain ⟨A, c, rfl, hn2⟩ := hn.more HA.out
        have HN := Lib.hid hn2
        clear hn hn2
        go_wp2_with fail
        go_ret
        exact ⟨A, c, rfl, HN.out⟩
      · have d3 : decide ((r : Int) ≥ 32) = false := decide_eq_false (by omega)
        obtain ⟨x, hx⟩ : ∃ x, r / 16 = x := ⟨_, rfl⟩
        obtain ⟨y, hy⟩ : ∃ y, r % 16 = y := ⟨_, rfl⟩
        have hx1 : (r : Int) / 16 = (x : Int) := by omega
        have hy1 : (r : Int) % 16 = (y : Int) := by omega
        have hx2 : x < 16 := by omega
        have hy2 : y < 16 := by omega
        obtain ⟨X, hX⟩ : ∃ X, ((⟨#[48, 49, 50, 51, 52, 53, 54, 55, 56, 57, 97, 98, 99, 100, 101, 102]⟩ : ByteArray)[x]'hx2).toNat = X := ⟨_, rfl⟩
        obtain ⟨Y, hY⟩ : ∃ Y, ((⟨#[48, 49, 50, 51, 52, 53, 54, 55, 56, 57, 97, 98, 99, 100, 101, 102]⟩ : ByteArray)[y]'hy2).toNat = Y := ⟨_, rfl⟩
        have hX2 : hexd x = (X : Int) := by rw [← hX]; exact (digits_at x hx2).symm
        have hY2 : hexd y = (Y : Int) := by rw [← hY]; exact (digits_at y hy2).symm
        have HZ := Lib.hid (show escZ r = [92, 117, 48, 48, (X : Int), (Y : Int)] by rw [hez, if_neg c3, hx, hy, hX2, hY2])
        have hx3 : (x : Int) < 16 := by omega
        have hy3 : (y : Int) < 16 := by omega
        clear hez hno hx hy hX2 hY2
        go_upto_region 13 with (fail)
        go_region
        all_goals
          go_wp2_with fail
          go_ret
          rw [HZ.out]
          exact newB (xs := [92, 117, 48, 48, (X : Int), (Y : Int)]) HA.out.drew rfl rfl (by simp)
end Go.Proofs.YtagghdehbkbemaaGreatDoor.app
end
