/- The reference's ReadNum, walked: Form, small. The reference's ReadNum, walked. -/
import Derived.Test.YtjciflgnlldgbaaGreatDoorGRga
import Derived.Test.YtjciflgnlldgbaaGreatDoorGRb
import Derived.Test.YtjciflgnlldgbaaGreatDoorGPfp
section
namespace Go.Proofs.YtjciflgnlldgbaaGreatDoor.dcm
open Go.RowKit mem fl big us uw pg
set_option linter.unusedVariables false
set_option linter.unusedSimpArgs false

theorem adv_take (l : List Nat) (i : Nat) (h : i < l.length) : pfx.adv 0 (l.take (i + 1)) = pfx.nx (pfx.adv 0 (l.take i)) (l.getD i 0 : Int) := by
  rw [List.take_succ_eq_append_getElem h, pfx.adv_app, List.getD_eq_getElem?_getD, List.getElem?_eq_getElem h]
  rfl
theorem adv_dead (l : List Nat) (i : Nat) (h : pfx.adv 0 (l.take i) = 9) : form l = 0 := by
  unfold form
  rw [← List.take_append_drop i l, pfx.adv_app, h]
  exact fm9 _
set_option maxRecDepth 100000 in
set_option maxHeartbeats 4000000 in
theorem form_ref (s : ByteArray) (w : World) (hn : s.size ≤ 1100000) :
    Calls Tryz.prog 22 #[.string s] w fun e w' => e = .returned (.int .i64 (form (nats s))) ∧ w' = w := by
  have HL := Lib.hid (nats_length s)
  have HG := Lib.hid (fun i (h : i < s.size) => (show (nats s).getD i 0 = (s[i]).toNat by
    have := nats_get s i h
    rw [List.getD_eq_getElem?_getD, List.getElem?_eq_getElem (by rw [nats_length]; exact h)]
    exact this))
  have HS := Lib.hid (fun s c w => pfx.step_any s c w)
  have HF := Lib.hid (fun s w => pfx.form_any s w)
  generalize nats s = l at *
  go_enter Tryz.func22, Tryz.ntmps22
  go_wp2_with fail
  go_loop [3, 4] (fun v3 v4 => ∃ (i : Nat) (st : Int), i ≤ s.size ∧ v3 = .int .i64 st ∧ v4 = .int .i64 (i : Int) ∧ 0 ≤ st ∧ st ≤ 8 ∧ Hid (pfx.adv 0 (l.take i) = st)) (fun _ v4 => s.size - (intOf v4).toNat)
  case atStart => exact ⟨0, 0, by omega, rfl, rfl, by omega, by omega, Lib.hid rfl⟩
  case round =>
    obtain ⟨i, st, hi, rfl, rfl, h0, h8, hst⟩ := hrel
    by_cases hlt : i < s.size
    · have hli : (i : Int) < (s.size : Int) := by omega
      obtain ⟨c, hc⟩ : ∃ c, (s[i]).toNat = c := ⟨_, rfl⟩
      have hcb : c < 256 := by rw [← hc]; exact (s[i]).toNat_lt
      have hgc := HG.out i hlt
      rw [hc] at hgc
      have hadv := adv_take l i (by rw [HL.out]; exact hlt)
      rw [hst.out, hgc] at hadv
      have hstep := pfx.stp_nx st (c : Int) h0 h8
      have hnr := pfx.nx_range st (c : Int)
      obtain ⟨nv, hnv⟩ : ∃ nv, pfx.nx st (c : Int) = nv := ⟨_, rfl⟩
      rw [hnv] at hadv hstep hnr
      have HA := Lib.hid hadv
      have HSt := Lib.hid (HS.out st (c : Int) w)
      by_cases h9 : nv = 9
      · rw [if_pos h9] at hstep
        rw [hstep] at HSt
        have hf0 : Hid (form l = 0) := Lib.hid (adv_dead l (i + 1) (by rw [HA.out, h9]))
        clear hgc hadv hstep hnr hnv h9 h0 h8
        go_wp2_with fail
        refine HSt.out.mono ?_
        rintro e w2 ⟨rfl, rfl⟩
        go_wp2_with fail
        go_ret
        exact ⟨by rw [hf0.out]; rfl, rfl⟩
      · rw [if_neg h9] at hstep
        rw [hstep] at HSt
        have hnn : decide (nv < 0) = false := decide_eq_false (by omega)
        have hb1 : 0 ≤ nv := by omega
        have hb2 : nv ≤ 8 := by omega
        have HB := Lib.hid (And.intro hb1 hb2)
        clear hgc hadv hstep hnr hnv h9 h0 h8 hb1 hb2
        go_wp2_with fail
        refine HSt.out.mono ?_
        rintro e w2 ⟨rfl, rfl⟩
        go_wp2_with fail
        exact ⟨⟨i + 1, nv, by omega, rfl, by simp, HB.out.1, HB.out.2, HA⟩, by simp [intOf]; omega⟩
    · have hie : i = s.size := by omega
      have hfin : Hid (form l = pfx.fm st) := Lib.hid (by
        have := hst.out
        rw [hie, ← HL.out, List.take_length] at this
        unfold form
        rw [this])
      have hli : ¬ ((i : Int) < (s.size : Int)) := by omega
      clear hst
      have HFt := Lib.hid (HF.out st w)
      go_wp2_with fail
      refine HFt.out.mono ?_
      rintro e w2 ⟨rfl, rfl⟩
      go_wp2_with fail
      go_ret
      exact ⟨by rw [hfin.out]; rfl, rfl⟩
theorem dvn_mono_take (ds : List Nat) (j : Nat) : dvn (ds.take j) ≤ dvn ds := by
  have h8 := dvn_app (ds.take j) (ds.drop j)
  rw [List.take_append_drop] at h8
  rw [h8]
  exact Nat.le_trans (Nat.le_mul_of_pos_right _ (Nat.pow_pos (by decide))) (Nat.le_add_right _ _)
set_option maxRecDepth 100000 in
set_option maxHeartbeats 4000000 in
theorem small_ref (s : ByteArray) (w : World) (hn : s.size ≤ 1100000) (h1 : form (nats s) = 1) :
    Calls Tryz.prog 23 #[.string s] w fun e w' => ∃ v : Int, e = .returned (.tuple #[.int .i64 v, .bool (decide (fits (nats s)))]) ∧ (fits (nats s) → v = wholeZ (nats s)) ∧ w' = w := by
  obtain ⟨neg, ds, hl, hds, hne, hng, hz⟩ := whole_shape h1
  have hlen := nats_length s
  obtain ⟨off, hoff⟩ : ∃ off : Nat, off = if neg = true then 1 else 0 := ⟨_, rfl⟩
  obtain ⟨k, hk⟩ : ∃ k, ds.length = k := ⟨_, rfl⟩
  have hk0 : 0 < k := by rw [← hk]; exact List.length_pos_iff.2 hne
  have hsz : s.size = off + k := by
    rw [← hlen, hl, List.length_append, hk, hoff]
    cases neg <;> rfl
  have HG := Lib.hid (fun j (h : j < k) (h2 : off + j < s.size) => (show (s[off + j]).toNat = ds.getD j 0 by
    have := nats_get s (off + j) h2
    rw [← this]
    simp only [hl]
    rw [List.getElem_append_right (by rw [hoff]; cases neg <;> simp)]
    rw [List.getD_eq_getElem?_getD, List.getElem?_eq_getElem (by omega), Option.getD_some]
    congr 1
    rw [hoff]
    cases neg <;> simp))
  have HD := Lib.hid (fun j (h : j < k) => (show 48 ≤ ds.getD j 0 ∧ ds.getD j 0 ≤ 57 by
    rw [List.getD_eq_getElem?_getD, List.getElem?_eq_getElem (by omega)]
    exact hds _ (List.getElem_mem _)))
  have hs0 : 0 < s.size := by omega
  have h0 : ∀ h : 0 < s.size, neg = true → (s[0]).toNat = 45 := fun h hn => by
    have := nats_get s 0 h
    rw [← this]
    simp only [hl, hn, if_true]
    rfl
  have h0' : ∀ h : 0 < s.size, neg = false → 48 ≤ (s[0]).toNat ∧ (s[0]).toNat ≤ 57 := fun h hn => by
    have e0 : off = 0 := by rw [hoff, hn]; rfl
    have h3 := HG.out 0 hk0 (by omega)
    have h4 := HD.out 0 hk0
    rw [← h3] at h4
    simpa [e0] using h4
  have HZ := Lib.hid hz
  have HK := Lib.hid hk
  have hno : Hid (9223372036854775808 < dvn ds → ¬ fits (nats s)) := Lib.hid fun h => by
    unfold fits
    rw [HZ.out]
    cases neg <;> simp <;> omega
  have hyes : Hid (dvn ds ≤ 9223372036854775808 → (fits (nats s) ↔ (neg = true ∨ dvn ds < 9223372036854775808))) := Lib.hid fun h => by
    unfold fits
    rw [HZ.out]
    cases neg <;> simp <;> omega
  have hsn : s.size ≤ 1100000 := hn
  generalize wholeZ (nats s) = Z at *
  clear hl hds hne hng hz hlen hk h1 hn
  generalize hfd : decide (fits (nats s)) = fd
  have HFd := Lib.hid hfd
  have HSz := Lib.hid hsz
  have HOff := Lib.hid hoff
  clear hfd hsz hoff
  go_enter Tryz.func23, Tryz.ntmps23
  obtain ⟨c0, hc0⟩ : ∃ c0, (s[0]).toNat = c0 := ⟨_, rfl⟩
  have hq : ((c0 : Int) == 45) = neg := by
    cases neg
    · have := h0' hs0 rfl
      rw [hc0] at this
      exact beq_false_of_ne (by omega)
    · have := h0 hs0 rfl
      rw [hc0] at this
      rw [this]; rfl
  have HC0 := Lib.hid (fun hn : neg = true => (by have := h0 hs0 hn; rw [hc0] at this; exact this : c0 = 45))
  clear h0 h0'
  go_wp2_with fail
  clear hq
  go_loop [5, 6, 7] (fun v5 v6 v7 => ∃ (i u : Nat), i ≤ s.size ∧ v5 = .int .u64 (u : Int) ∧ v6 = .int .i64 (i : Int) ∧ u ≤ 9223372036854775808 ∧ Hid (u = dvn (ds.take (i - off)))) (fun _ v6 _ => s.size - (intOf v6).toNat)
  case atStart => exact ⟨0, 0, by omega, rfl, rfl, by omega, Lib.hid (by rw [Nat.zero_sub]; rfl)⟩
  case round =>
    obtain ⟨i, u, hi, rfl, rfl, hu, hst⟩ := hrel
    have hsz := HSz.out
    have hoff := HOff.out
    by_cases hlt : i < s.size
    · have hli : (i : Int) < (s.size : Int) := by omega
      by_cases hio : i < off
      · have hi0 : i = 0 := by rw [hoff] at hio; cases neg <;> simp at hio; omega
        subst hi0
        have hneg : neg = true := by rw [hoff] at hio; cases neg <;> simp at hio; rfl
        have hc45 : c0 = 45 := by
          have := HC0.out hneg
          exact this
        rw [hc45] at hc0
        have hst' : Hid (u = dvn (ds.take (0 + 1 - off))) := Lib.hid (by
          have := hst.out
          rw [show 0 + 1 - off = 0 - off by omega]
          exact this)
        clear hio hneg hst hli hsz hoff
        go_wp2_with fail
        exact ⟨⟨1, u, by omega, rfl, rfl, hu, hst'⟩, by simp [intOf]; omega⟩
      · obtain ⟨j, hj⟩ : ∃ j, i = off + j := ⟨i - off, by omega⟩
        have hjk : j < k := by omega
        have hgc := HG.out j hjk (by omega)
        have hdc := HD.out j hjk
        obtain ⟨d0, hd0⟩ : ∃ d0, ds.getD j 0 = d0 := ⟨_, rfl⟩
        rw [hd0] at hgc hdc
        obtain ⟨d, rfl⟩ : ∃ d, d0 = 48 + d := ⟨d0 - 48, by omega⟩
        have hcc : (s[i]).toNat = 48 + d := by subst hj; exact hgc
        have hst' : Hid (u * 10 + d = dvn (ds.take (i + 1 - off))) := Lib.hid (by
          have h9 := hst.out
          rw [show i - off = j by omega] at h9
          rw [show i + 1 - off = j + 1 by omega, dvn_take ds j (by rw [HK.out]; exact hjk), ← h9, hd0]
          omega)
        have hd9 : d ≤ 9 := by omega
        have p1 : (((48 + d : Nat) : Int) == 45) = false := beq_false_of_ne (by omega)
        have p1' : ((48 + (d : Int)) == 45) = false := beq_false_of_ne (by omega)
        have p2 : (48 + (d : Int)) - 48 = (d : Int) := by omega
        have hmono := dvn_mono_take ds (i + 1 - off)
        rw [← hst'.out] at hmono
        obtain ⟨q, hqq⟩ : ∃ q : Nat, (9223372036854775808 - d) / 10 = q := ⟨_, rfl⟩
        have hqi : (9223372036854775808 - (d : Int)) / 10 = (q : Int) := by omega
        by_cases hov : 9223372036854775808 < u * 10 + d
        · have hfd2 : fd = false := by
            rw [← HFd.out]
            exact decide_eq_false (hno.out (by omega))
          have hnf : Hid (¬ fits (nats s)) := Lib.hid (hno.out (by omega))
          have p3 : decide ((u : Int) > (q : Int)) = true := decide_eq_true (by omega)
          have p4 : decide ((q : Int) < (u : Int)) = true := decide_eq_true (by omega)
          have p5 : q < u := by omega
          subst hfd2
          clear hgc hdc hd0 hst hmono hqq hov hj hio hst' hsz hoff
          go_wp2_with fail
          go_ret2
          exact ⟨0, rfl, fun hh => absurd hh hnf.out, rfl⟩
        · have p3 : decide ((u : Int) > (q : Int)) = false := decide_eq_false (by omega)
          have p4 : decide ((q : Int) < (u : Int)) = false := decide_eq_false (by omega)
          have p5 : ¬ (q < u) := by omega
          have hov2 : u * 10 + d ≤ 9223372036854775808 := by omega
          clear hgc hdc hd0 hst hmono hqq hov hj hio hsz hoff
          go_wp2_with fail
          exact ⟨⟨i + 1, u * 10 + d, by omega, congrArg (Value.int .u64) (by omega), by simp, hov2, hst'⟩, by simp [intOf]; omega⟩
    · have hie : i = s.size := by omega
      have hut : u = dvn ds := by
        have h9 := hst.out
        rw [hie, hsz, show off + k - off = k by omega, ← HK.out, List.take_length] at h9
        exact h9
      have hfit := hyes.out (by omega)
      have hli : ¬ ((i : Int) < (s.size : Int)) := by omega
      have HUt := Lib.hid hut
      have HFit := Lib.hid hfit
      clear hst hut hfit hsz hoff
      cases neg
      · have hfd2 : fd = decide (u < 9223372036854775808) := by
          rw [← HFd.out, HUt.out]
          exact decide_eq_decide.2 (by rw [HFit.out]; simp)
        have hzz : Z = (u : Int) := by rw [HZ.out, HUt.out]; rfl
        by_cases hu9 : u < 9223372036854775808
        · rw [decide_eq_true hu9] at hfd2
          have p3 : decide ((u : Int) < 9223372036854775808) = true := decide_eq_true (by omega)
          have uI : (u : Int) ≤ 9223372036854775807 := by omega
          have HZZ := Lib.hid hzz
          subst hfd2
          clear hzz hie hu hu9
          go_wp2_with fail
          go_ret2
          exact ⟨u, rfl, fun _ => HZZ.out.symm, rfl⟩
        · rw [decide_eq_false hu9] at hfd2
          have hue : u = 9223372036854775808 := by omega
          have hnf : Hid (¬ fits (nats s)) := Lib.hid (of_decide_eq_false (HFd.out.trans hfd2))
          have hui : (u : Int) = 9223372036854775808 := by omega
          have HUi := Lib.hid hui
          rw [hui]
          subst hfd2
          clear hzz hie hu9 hu hue hui
          go_wp2_with fail
          go_ret2
          exact ⟨_, rfl, fun hh => absurd hh hnf.out, rfl⟩
      · have hfd2 : fd = true := by
          rw [← HFd.out]
          exact decide_eq_true (HFit.out.2 (.inl rfl))
        have hzz : Z = -(u : Int) := by rw [HZ.out, HUt.out]; rfl
        have HZZ := Lib.hid hzz
        subst hfd2
        clear hzz hie
        by_cases hu9 : u < 9223372036854775808
        · have uI : (u : Int) ≤ 9223372036854775807 := by omega
          clear hu hu9
          go_wp2_with fail
          go_ret2
          exact ⟨-(u : Int), rfl, fun _ => HZZ.out.symm, rfl⟩
        · have hui : (u : Int) = 9223372036854775808 := by omega
          have HUi := Lib.hid hui
          rw [hui]
          clear hu9 hu hui
          go_wp2_with fail
          go_ret2
          exact ⟨_, rfl, fun _ => by rw [HZZ.out, HUi.out]; decide +kernel, rfl⟩
end Go.Proofs.YtjciflgnlldgbaaGreatDoor.dcm
end
section
namespace Go.Proofs.YtjciflgnlldgbaaGreatDoor.dcm
open Go.RowKit mem fl big us uw pg
set_option linter.unusedVariables false

def refV (k v : Int) (b : Nat) (e : Int) : Value := .tuple #[.agg #[.int .i64 k, .int .i64 v, .int .u64 (b : Int)], .int .i64 e]
def rfltV (neg : Bool) (R : Nat) : Value := if R = 9218868437227405312 then refV 0 0 0 7 else refV 3 0 (R + sgn neg) 0
def ansR (l : List Nat) (R : Nat) : Value := if form l = 0 then refV 0 0 0 20 else if form l = 1 ∧ fits l then refV 2 (wholeZ l) 0 0 else rfltV (decide (l.head? = some 45)) R
theorem rnum_cells {wr : World} {g : Nat} {v0 v1 v2 : Value} (h : wr.heap[g]? = some (.cells #[.int .i64 0, .int .i64 0, .int .u64 0] 33 (0, 0))) :
    (((wr.setCell ⟨g, 0, none⟩ v0).setCell ⟨g, 1, none⟩ v1).setCell ⟨g, 2, none⟩ v2).heap[g]? = some (.cells #[v0, v1, v2] 33 (0, 0)) := by
  have := blk_set (blk_set (blk_set h 0 v0) 1 v1) 2 v2
  simpa using this
theorem nt_alp {l : List Nat} (h : form l ≠ 0) : ∀ c ∈ l, Alp c := by
  obtain ⟨neg, M, Rr, hle, hM, hRs, _, _⟩ := nt_shape h
  intro c hc
  rw [hle] at hc
  unfold Alp
  rcases List.mem_append.1 hc with hc | hc
  · cases neg <;> simp at hc
    omega
  · rcases List.mem_append.1 hc with hc | hc
    · have := hM c hc
      unfold Dig at this
      omega
    · rcases hRs with rfl | ⟨e, X, rfl, he, sg, ds, rfl, hsg, hds, _⟩
      · simp at hc
      · rcases List.mem_cons.1 hc with rfl | hc
        · omega
        · rcases List.mem_append.1 hc with hc | hc
          · rcases hsg with rfl | rfl | rfl <;> simp at hc <;> omega
          · have := hds c hc
            unfold Dig at this
            omega
theorem bits_ref {P z : Nat} (hz : z = 1074) (hP : P = 2 ^ z) (s : ByteArray) (hn : s.size ≤ 1100000) (hf : form (nats s) ≠ 0) (w : World) :
    Calls Tryz.prog 24 #[.string s] w fun e w' => ∃ R, (Sd P (nats s) R ∧ R ≤ 9218868437227405312) ∧ e = .returned (.tuple #[.int .u64 ((R + sgn (decide ((nats s).head? = some 45)) : Nat) : Int), .bool (decide (R < 9218868437227405312))]) ∧ Below w.heap.size w w' := by
  have hal := nt_alp hf
  refine (readBits_any s w (fun k hk => by
    have := hal _ (List.getElem_mem (show k < (nats s).length by rw [nats_length]; exact hk))
    rwa [nats_get s k hk] at this) hn).mono ?_
  rintro e w' ⟨r, he, hN, hb⟩
  have hPz : P = 2 ^ 1074 := by rw [hP, hz]
  have hD : Dec P (dvn (cutF (nats s)).digits) (cutF (nats s)).power r := by
    unfold Dec
    rw [hPz]
    exact hN
  have hs := cut_split hz hP hf (by rw [nats_length]; exact hn) hD
  refine ⟨r, ⟨hs.dec, hN.1⟩, ?_, hb⟩
  rw [he, hs.neg]
set_option maxRecDepth 100000 in
set_option maxHeartbeats 4000000 in
theorem refnum_none (s : ByteArray) (hn : s.size ≤ 1100000) (hf : form (nats s) = 0) (w : World) :
    Calls Tryz.prog 9 #[.string s] w fun e w' => e = .returned (refV 0 0 0 20) ∧ Below w.heap.size w w' := by
  have HF := Lib.hid (fun w => form_ref s w hn)
  rw [hf] at HF
  have hg1 := heap_alloc_new w (.cells #[.int .i64 0, .int .i64 0, .int .u64 0] 33)
  have hb1 : Below w.heap.size w (w.alloc (.cells #[.int .i64 0, .int .i64 0, .int .u64 0] 33)) := (Below.refl _ _).alloc (Nat.le_refl _) _
  have hs1 : w.heap.size < (w.alloc (.cells #[.int .i64 0, .int .i64 0, .int .u64 0] 33)).heap.size := by simp
  clear hf hn
  go_enter Tryz.func9, Tryz.ntmps9
  go_wp2_with fail
  generalize w.alloc (.cells #[.int .i64 0, .int .i64 0, .int .u64 0] 33) = w1 at *
  have HB1 := Lib.hid hb1
  have HG1 := Lib.hid hg1
  clear hb1 hg1
  refine (HF.out _).mono ?_
  rintro e w1b ⟨rfl, rfl⟩
  have hg2 := HG1.out
  have HB2 := HB1
  have z0 := blk_frozen hg2 0
  have z1 := blk_frozen hg2 1
  have z2 := blk_frozen hg2 2
  have y0 := blk_cell hg2 (i := 0) (by simp)
  have y1 := blk_cell hg2 (i := 1) (by simp)
  have y2 := blk_cell hg2 (i := 2) (by simp)
  simp at y0 y1 y2
  have HG2 := Lib.hid hg2
  clear hg2
  go_wp2_with fail
  have hfc := rnum_cells (v0 := .int .i64 0) (v1 := .int .i64 0) (v2 := .int .u64 0) HG2.out
  have r0 := blk_cell hfc (i := 0) (by simp)
  have r1 := blk_cell hfc (i := 1) (by simp)
  have r2 := blk_cell hfc (i := 2) (by simp)
  simp only [List.getElem_toArray, List.getElem_cons_zero, List.getElem_cons_succ] at r0 r1 r2
  refine bodyPost_ret (v := .tuple #[.agg #[.int .i64 0, .int .i64 0, .int .u64 0], .int .i64 20]) (by simp [results, Tryz.results9, go_sem, r0, r1, r2]) rfl ?_
  exact ⟨rfl, ((HB2.out.setCell (by simp) _).setCell (by simp) _).setCell (by simp) _⟩
set_option maxRecDepth 100000 in
set_option maxHeartbeats 4000000 in
theorem refnum_whole (s : ByteArray) (hn : s.size ≤ 1100000) (hf : form (nats s) = 1) (hft : fits (nats s)) (w : World) :
    Calls Tryz.prog 9 #[.string s] w fun e w' => e = .returned (refV 2 (wholeZ (nats s)) 0 0) ∧ Below w.heap.size w w' := by
  have HF := Lib.hid (fun w => form_ref s w hn)
  rw [hf] at HF
  have HS := Lib.hid (fun w => small_ref s w hn hf)
  rw [decide_eq_true hft] at HS
  have HFt := Lib.hid hft
  have hg1 := heap_alloc_new w (.cells #[.int .i64 0, .int .i64 0, .int .u64 0] 33)
  have hb1 : Below w.heap.size w (w.alloc (.cells #[.int .i64 0, .int .i64 0, .int .u64 0] 33)) := (Below.refl _ _).alloc (Nat.le_refl _) _
  have hs1 : w.heap.size < (w.alloc (.cells #[.int .i64 0, .int .i64 0, .int .u64 0] 33)).heap.size := by simp
  clear hf hn hft
  generalize wholeZ (nats s) = Z at *
  go_enter Tryz.func9, Tryz.ntmps9
  go_wp2_with fail
  generalize w.alloc (.cells #[.int .i64 0, .int .i64 0, .int .u64 0] 33) = w1 at *
  have HB1 := Lib.hid hb1
  have HG1 := Lib.hid hg1
  clear hb1 hg1
  refine (HF.out _).mono ?_
  rintro e w1b ⟨rfl, rfl⟩
  go_wp2_with fail
  refine (HS.out _).mono ?_
  rintro e w2 ⟨v, rfl, hv, rfl⟩
  have hv := hv HFt.out
  subst hv
  have hg2 := HG1.out
  have HB2 := HB1
  have z0 := blk_frozen hg2 0
  have z1 := blk_frozen hg2 1
  have z2 := blk_frozen hg2 2
  have y0 := blk_cell hg2 (i := 0) (by simp)
  have y1 := blk_cell hg2 (i := 1) (by simp)
  have y2 := blk_cell hg2 (i := 2) (by simp)
  simp at y0 y1 y2
  have HG2 := Lib.hid hg2
  clear hg2
  clear HS HF
  go_wp2_with fail
  have hfc := rnum_cells (v0 := .int .i64 2) (v1 := .int .i64 v) (v2 := .int .u64 0) HG2.out
  have r0 := blk_cell hfc (i := 0) (by simp)
  have r1 := blk_cell hfc (i := 1) (by simp)
  have r2 := blk_cell hfc (i := 2) (by simp)
  simp only [List.getElem_toArray, List.getElem_cons_zero, List.getElem_cons_succ] at r0 r1 r2
  refine bodyPost_ret (v := .tuple #[.agg #[.int .i64 2, .int .i64 v, .int .u64 0], .int .i64 0]) (by simp [results, Tryz.results9, go_sem, r0, r1, r2]) rfl ?_
  exact ⟨rfl, ((HB2.out.setCell (by simp) _).setCell (by simp) _).setCell (by simp) _⟩
set_option maxRecDepth 100000 in
set_option maxHeartbeats 4000000 in
theorem refnum_flt {P z : Nat} (hz : z = 1074) (hP : P = 2 ^ z) (s : ByteArray) (hn : s.size ≤ 1100000) (hf : form (nats s) = 2) (w : World) :
    Calls Tryz.prog 9 #[.string s] w fun e w' => ∃ R, (Sd P (nats s) R ∧ R ≤ 9218868437227405312) ∧ e = .returned (rfltV (decide ((nats s).head? = some 45)) R) ∧ Below w.heap.size w w' := by
  have HF := Lib.hid (fun w => form_ref s w hn)
  have HBi := Lib.hid (fun w => bits_ref hz hP s hn (by rw [hf]; decide) w)
  rw [hf] at HF
  have hg1 := heap_alloc_new w (.cells #[.int .i64 0, .int .i64 0, .int .u64 0] 33)
  have hb1 : Below w.heap.size w (w.alloc (.cells #[.int .i64 0, .int .i64 0, .int .u64 0] 33)) := (Below.refl _ _).alloc (Nat.le_refl _) _
  have hs1 : w.heap.size < (w.alloc (.cells #[.int .i64 0, .int .i64 0, .int .u64 0] 33)).heap.size := by simp
  clear hf hn hz hP 
  generalize decide ((nats s).head? = some 45) = neg at *
  go_enter Tryz.func9, Tryz.ntmps9
  go_wp2_with fail
  generalize w.alloc (.cells #[.int .i64 0, .int .i64 0, .int .u64 0] 33) = w1 at *
  have HB1 := Lib.hid hb1
  have HG1 := Lib.hid hg1
  clear hb1 hg1
  refine (HF.out _).mono ?_
  rintro e w1b ⟨rfl, rfl⟩
  go_wp2_with fail
  refine (HBi.out _).mono ?_
  rintro e w3 ⟨R, ⟨hQ, hR⟩, rfl, hb3⟩
  have hg2 := (hb3.block _ hs1).trans HG1.out
  have HB2 := Lib.hid (HB1.out.trans (hb3.mono (Nat.le_of_lt hs1)))
  have HQ := Lib.hid (And.intro hQ hR)
  clear hb3 HG1 HB1 HBi HF hQ hs1
  have z0 := blk_frozen hg2 0
  have z1 := blk_frozen hg2 1
  have z2 := blk_frozen hg2 2
  have y0 := blk_cell hg2 (i := 0) (by simp)
  have y1 := blk_cell hg2 (i := 1) (by simp)
  have y2 := blk_cell hg2 (i := 2) (by simp)
  simp at y0 y1 y2
  have HG2 := Lib.hid hg2
  clear hg2
  by_cases hi : R = 9218868437227405312
  · have hd : decide (R < 9218868437227405312) = false := decide_eq_false (by omega)
    have HFv := Lib.hid (show rfltV neg R = refV 0 0 0 7 from if_pos hi)
    rw [hd]
    clear hd hi hR
    go_wp2_with fail
    have hfc := rnum_cells (v0 := .int .i64 0) (v1 := .int .i64 0) (v2 := .int .u64 0) HG2.out
    have r0 := blk_cell hfc (i := 0) (by simp)
    have r1 := blk_cell hfc (i := 1) (by simp)
    have r2 := blk_cell hfc (i := 2) (by simp)
    simp only [List.getElem_toArray, List.getElem_cons_zero, List.getElem_cons_succ] at r0 r1 r2
    refine bodyPost_ret (v := .tuple #[.agg #[.int .i64 0, .int .i64 0, .int .u64 0], .int .i64 7]) (by simp [results, Tryz.results9, go_sem, r0, r1, r2]) rfl ?_
    exact ⟨R, HQ.out, by rw [HFv.out]; rfl, ((HB2.out.setCell (by simp) _).setCell (by simp) _).setCell (by simp) _⟩
  · have hd : decide (R < 9218868437227405312) = true := decide_eq_true (by omega)
    have HFv := Lib.hid (show rfltV neg R = refV 3 0 (R + sgn neg) 0 from if_neg hi)
    rw [hd]
    clear hd hi hR
    generalize R + sgn neg = b at *
    go_wp2_with fail
    have hfc := rnum_cells (v0 := .int .i64 3) (v1 := .int .i64 0) (v2 := .int .u64 (b : Int)) HG2.out
    have r0 := blk_cell hfc (i := 0) (by simp)
    have r1 := blk_cell hfc (i := 1) (by simp)
    have r2 := blk_cell hfc (i := 2) (by simp)
    simp only [List.getElem_toArray, List.getElem_cons_zero, List.getElem_cons_succ] at r0 r1 r2
    refine bodyPost_ret (v := .tuple #[.agg #[.int .i64 3, .int .i64 0, .int .u64 (b : Int)], .int .i64 0]) (by simp [results, Tryz.results9, go_sem, r0, r1, r2]) rfl ?_
    exact ⟨R, HQ.out, by rw [HFv.out]; rfl, ((HB2.out.setCell (by simp) _).setCell (by simp) _).setCell (by simp) _⟩
set_option maxRecDepth 100000 in
set_option maxHeartbeats 4000000 in
theorem refnum_rng {P z : Nat} (hz : z = 1074) (hP : P = 2 ^ z) (s : ByteArray) (hn : s.size ≤ 1100000) (hf : form (nats s) = 1) (hft : ¬ fits (nats s)) (w : World) :
    Calls Tryz.prog 9 #[.string s] w fun e w' => ∃ R, (Sd P (nats s) R ∧ R ≤ 9218868437227405312) ∧ e = .returned (rfltV (decide ((nats s).head? = some 45)) R) ∧ Below w.heap.size w w' := by
  have HF := Lib.hid (fun w => form_ref s w hn)
  have HBi := Lib.hid (fun w => bits_ref hz hP s hn (by rw [hf]; decide) w)
  rw [hf] at HF
  have HS := Lib.hid (fun w => small_ref s w hn hf)
  rw [decide_eq_false hft] at HS
  have hg1 := heap_alloc_new w (.cells #[.int .i64 0, .int .i64 0, .int .u64 0] 33)
  have hb1 : Below w.heap.size w (w.alloc (.cells #[.int .i64 0, .int .i64 0, .int .u64 0] 33)) := (Below.refl _ _).alloc (Nat.le_refl _) _
  have hs1 : w.heap.size < (w.alloc (.cells #[.int .i64 0, .int .i64 0, .int .u64 0] 33)).heap.size := by simp
  clear hf hn hz hP hft
  generalize decide ((nats s).head? = some 45) = neg at *
  go_enter Tryz.func9, Tryz.ntmps9
  go_wp2_with fail
  generalize w.alloc (.cells #[.int .i64 0, .int .i64 0, .int .u64 0] 33) = w1 at *
  have HB1 := Lib.hid hb1
  have HG1 := Lib.hid hg1
  clear hb1 hg1
  refine (HF.out _).mono ?_
  rintro e w1b ⟨rfl, rfl⟩
  go_wp2_with fail
  refine (HS.out _).mono ?_
  rintro e w2 ⟨v, rfl, _, rfl⟩
  clear HS
  go_wp2_with fail
  refine (HBi.out _).mono ?_
  rintro e w3 ⟨R, ⟨hQ, hR⟩, rfl, hb3⟩
  have hg2 := (hb3.block _ hs1).trans HG1.out
  have HB2 := Lib.hid (HB1.out.trans (hb3.mono (Nat.le_of_lt hs1)))
  have HQ := Lib.hid (And.intro hQ hR)
  clear hb3 HG1 HB1 HBi HF hQ hs1
  have z0 := blk_frozen hg2 0
  have z1 := blk_frozen hg2 1
  have z2 := blk_frozen hg2 2
  have y0 := blk_cell hg2 (i := 0) (by simp)
  have y1 := blk_cell hg2 (i := 1) (by simp)
  have y2 := blk_cell hg2 (i := 2) (by simp)
  simp at y0 y1 y2
  have HG2 := Lib.hid hg2
  clear hg2
  by_cases hi : R = 9218868437227405312
  · have hd : decide (R < 9218868437227405312) = false := decide_eq_false (by omega)
    have HFv := Lib.hid (show rfltV neg R = refV 0 0 0 7 from if_pos hi)
    rw [hd]
    clear hd hi hR
    go_wp2_with fail
    have hfc := rnum_cells (v0 := .int .i64 0) (v1 := .int .i64 0) (v2 := .int .u64 0) HG2.out
    have r0 := blk_cell hfc (i := 0) (by simp)
    have r1 := blk_cell hfc (i := 1) (by simp)
    have r2 := blk_cell hfc (i := 2) (by simp)
    simp only [List.getElem_toArray, List.getElem_cons_zero, List.getElem_cons_succ] at r0 r1 r2
    refine bodyPost_ret (v := .tuple #[.agg #[.int .i64 0, .int .i64 0, .int .u64 0], .int .i64 7]) (by simp [results, Tryz.results9, go_sem, r0, r1, r2]) rfl ?_
    exact ⟨R, HQ.out, by rw [HFv.out]; rfl, ((HB2.out.setCell (by simp) _).setCell (by simp) _).setCell (by simp) _⟩
  · have hd : decide (R < 9218868437227405312) = true := decide_eq_true (by omega)
    have HFv := Lib.hid (show rfltV neg R = refV 3 0 (R + sgn neg) 0 from if_neg hi)
    rw [hd]
    clear hd hi hR
    generalize R + sgn neg = b at *
    go_wp2_with fail
    have hfc := rnum_cells (v0 := .int .i64 3) (v1 := .int .i64 0) (v2 := .int .u64 (b : Int)) HG2.out
    have r0 := blk_cell hfc (i := 0) (by simp)
    have r1 := blk_cell hfc (i := 1) (by simp)
    have r2 := blk_cell hfc (i := 2) (by simp)
    simp only [List.getElem_toArray, List.getElem_cons_zero, List.getElem_cons_succ] at r0 r1 r2
    refine bodyPost_ret (v := .tuple #[.agg #[.int .i64 3, .int .i64 0, .int .u64 (b : Int)], .int .i64 0]) (by simp [results, Tryz.results9, go_sem, r0, r1, r2]) rfl ?_
    exact ⟨R, HQ.out, by rw [HFv.out]; rfl, ((HB2.out.setCell (by simp) _).setCell (by simp) _).setCell (by simp) _⟩
/-- ReadNum of any text -/
theorem refnum_any {P z : Nat} (hz : z = 1074) (hP : P = 2 ^ z) (s : ByteArray) (hn : s.size ≤ 1100000) (w : World) :
    Calls Tryz.prog 9 #[.string s] w fun e w' => ∃ R, (asks (nats s) → Sd P (nats s) R ∧ R ≤ 9218868437227405312) ∧ e = .returned (ansR (nats s) R) ∧ Below w.heap.size w w' := by
  rcases fm_range (pfx.adv 0 (nats s)) with hfm | hfm | hfm
  · have hf : form (nats s) = 0 := hfm
    refine (refnum_none s hn hf w).mono ?_
    rintro e w' ⟨he, hb⟩
    refine ⟨0, fun ha => ?_, by rw [he]; unfold ansR; rw [if_pos hf], hb⟩
    rcases ha with ha | ⟨ha, _⟩ <;> rw [hf] at ha <;> exact absurd ha (by decide)
  · have hf : form (nats s) = 1 := hfm
    by_cases hft : fits (nats s)
    · refine (refnum_whole s hn hf hft w).mono ?_
      rintro e w' ⟨he, hb⟩
      refine ⟨0, fun ha => ?_, by rw [he]; unfold ansR; rw [if_neg (by rw [hf]; decide), if_pos ⟨hf, hft⟩], hb⟩
      rcases ha with ha | ⟨_, ha⟩
      · rw [hf] at ha; exact absurd ha (by decide)
      · exact absurd hft ha
    · refine (refnum_rng hz hP s hn hf hft w).mono ?_
      rintro e w' ⟨R, hQ, he, hb⟩
      exact ⟨R, fun _ => hQ, by rw [he]; unfold ansR; rw [if_neg (by rw [hf]; decide), if_neg (fun hh => hft hh.2)], hb⟩
  · have hf : form (nats s) = 2 := hfm
    refine (refnum_flt hz hP s hn hf w).mono ?_
    rintro e w' ⟨R, hQ, he, hb⟩
    exact ⟨R, fun _ => hQ, by rw [he]; unfold ansR; rw [if_neg (by rw [hf]; decide), if_neg (fun hh => by rw [hf] at hh; exact absurd hh.1 (by decide))], hb⟩
end Go.Proofs.YtjciflgnlldgbaaGreatDoor.dcm
end
