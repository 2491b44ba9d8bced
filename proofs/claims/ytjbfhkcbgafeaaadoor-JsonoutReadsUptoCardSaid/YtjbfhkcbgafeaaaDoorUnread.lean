/- unread: the reading back of what is between the quotes. -/
import Derived.Test.YtjbfhkcbgafeaaaDoorPlain
import Derived.Deep.QuietTactic
import Derived.BigQuiet
import Derived.Deep.RegionWith
namespace Go.Proofs.YtjbfhkcbgafeaaaDoor.app
open Go.RowKit mem txt esc
set_option linter.unusedVariables false

theorem strOf_get (Z : List Int) (k x : Nat) (hx : x < 256) (h : Z[k]? = some (x : Int)) : ∃ hk : k < (strOf Z).size, ((strOf Z)[k]'hk).toNat = x := by
  have hl : k < Z.length := (List.getElem?_eq_some_iff.1 h).1
  have hk : k < (strOf Z).size := by rw [strOf_size]; exact hl
  refine ⟨hk, ?_⟩
  have e1 : (strOf Z)[k]'hk = (strOf Z).data[k]'hk := rfl
  rw [e1]
  have e2 : (strOf Z).data[k]'hk = UInt8.ofNat (Z[k]'hl).toNat := by simp [strOf]
  rw [e2, (List.getElem?_eq_some_iff.1 h).2, UInt8.toNat_ofNat']
  simp
  omega
theorem drop_step {Z : List Int} {i : Nat} {x : Int} {z : List Int} (h : Z.drop i = x :: z) : Z[i]? = some x ∧ Z.drop (i + 1) = z := by
  have h1 : (Z.drop i)[0]? = some x := by rw [h]; rfl
  rw [List.getElem?_drop] at h1
  refine ⟨by simpa using h1, ?_⟩
  have h2 : (Z.drop i).drop 1 = z := by rw [h]; rfl
  rw [List.drop_drop] at h2
  exact h2
theorem un_len {z o : List Int} (h : Un z o) : o.length ≤ z.length := by
  induction h with
  | nil => simp
  | byte _ _ _ _ _ _ _ _ ih => simp; omega
  | esc _ _ _ _ _ ih => simp; omega
  | sm _ _ _ _ _ _ _ _ _ _ ih => simp; omega

theorem fr_lt (n : Nat) : frN n < 256 := by
  unfold frN
  repeat' split
  all_goals omega
theorem fr_ne (n : Nat) : frN n ≠ 117 := by
  unfold frN
  repeat' split
  all_goals omega
theorem to_pos (n : Nat) : 0 < toN n := by
  unfold toN
  repeat' split
  all_goals omega
theorem below_drewN {B : Nat} {w w' : World} (h : Below B w w') (n : Nat) : Below B w (w'.drewN n) := ⟨h.os, h.tape, h.output, h.size, h.block⟩
/-- the bytes, in a row of its own -/
def UnPost (Y : List Int) (w : World) (e : Ending) (w' : World) : Prop :=
  ∃ v', e = .returned (.tuple #[v', .bool true]) ∧ w'.ownsRow w.heap.size 5 1 v' Y.length (zs Y) ∧ Below w.heap.size w w'
/-- the call's state between two rounds -/
def UnSt (Z Y : List Int) (w : World) (v4 : Value) (i : Nat) (wr : World) : Prop :=
  ∃ (z o pre : List Int), wr.ownsRow w.heap.size 5 1 v4 pre.length (zs pre) ∧ Below w.heap.size w wr ∧ i ≤ Z.length ∧ Z.drop i = z ∧ Un z o ∧ pre ++ o = Y ∧ pre.length ≤ i
theorem UnSt.out {Z Y : List Int} {w wr : World} {v : Value} {i : Nat} (h : UnSt Z Y w v i wr) (hi : Z.length ≤ i) : wr.ownsRow w.heap.size 5 1 v Y.length (zs Y) ∧ Below w.heap.size w wr := by
  obtain ⟨z, o, pre, h1, h2, h3, h4, h5, h6, h7⟩ := h
  rw [List.drop_eq_nil_of_le hi] at h4
  subst h4
  cases h5
  rw [List.append_nil] at h6
  subst h6
  exact ⟨h1, h2⟩
/-- a step: n bytes read, one laid -/
theorem UnSt.step {Z Y z o pre : List Int} {w wr w5 : World} {v v' : Value} {x : Int} {i n : Nat} (hown : wr.ownsRow w.heap.size 5 1 v pre.length (zs pre))
    (h1 : w5.ownsRow w.heap.size 5 1 v' (pre.length + 1) (zs pre ++ [.int .u8 x])) (h2 : Below w.heap.size w w5) (h3 : i + n ≤ Z.length) (h4 : Z.drop (i + n) = z) (h5 : Un z o) (h6 : pre ++ x :: o = Y) (h7 : pre.length ≤ i) (hn : 1 ≤ n) : UnSt Z Y w v' (i + n) w5 := by
  refine ⟨z, o, pre ++ [x], ?_, h2, h3, h4, h5, by rw [List.append_assoc]; exact h6, by simp; omega⟩
  rw [zs_append]
  simpa [zs] using h1


set_option maxRecDepth 100000 in
set_option maxHeartbeats 4000000 in
theorem unread_any (Z Y : List Int) (hZ : Z.length ≤ 1099511627776) (h0 : Un Z Y) (w : World) : Calls Tryd.prog 10 #[.string (strOf Z)] w (UnPost Y w) := by
  obtain ⟨iv, hiv, hv0, hv1, hv2⟩ := info_parts infoB
  have hsz : (strOf Z).size = Z.length := strOf_size Z
  have HB := Lib.hid (strOf_get Z)
  have H0 := Lib.hid h0
  clear h0
  generalize strOf Z = T at *
  obtain ⟨L, hL⟩ : ∃ L, Z.length = L := ⟨_, rfl⟩
  rw [hL] at hsz hZ
  have HL := Lib.hid hL
  clear hL
  go_enter Tryd.func10, Tryd.ntmps10
  go_wp2_with fail
  go_loopw [4, 5] (fun v4 v5 wr => ∃ (i : Nat) (vv : Value), i ≤ L ∧ v5 = .int .i64 (i : Int) ∧ vv = v4 ∧ Hid (UnSt Z Y w vv i wr)) (fun _ v5 _ => L - (intOf v5).toNat)
  case atStart =>
    exact ⟨0, _, Nat.zero_le _, rfl, rfl, Lib.hid ⟨Z, Y, [], World.ownsRow_nil _ _ _ _, Below.refl _ _, Nat.zero_le _, rfl, H0.out, rfl, Nat.le_refl _⟩⟩
  case round =>
    obtain ⟨i, vv, hiL, rfl, rfl, hst⟩ := hrel
    by_cases hi : i < L
    · obtain ⟨z, o, pre, hown, hb, hi1, hdz, hun, hy, hpl⟩ := hst.out
      have HO := Lib.hid hown
      have hbz := hb.size
      have HBl := Lib.hid hb
      have hpl2 : pre.length ≤ L := by omega
      have HY := Lib.hid hy
      clear hown hst hb hi1 hy
      cases hun with
      | nil =>
        exfalso
        have := congrArg List.length hdz
        rw [List.length_drop, HL.out] at this
        simp at this
        omega
      | byte x z o h1 h2 h3 h4 hun =>
        obtain ⟨g1, g2⟩ := drop_step hdz
        obtain ⟨k1, k2⟩ := HB.out i x h2 g1
        have HU := Lib.hid hun
        have HD := Lib.hid g2
        clear hun g2 g1 hdz
        have b1 : ((x : Int) == 34) = false := by simp; omega
        have b2 : decide ((x : Int) < 32) = false := decide_eq_false (by omega)
        have b3 : ((x : Int) == 92) = false := by simp; omega
        have b4 : ((x : Int) != 92) = true := by simp; omega
        have hi3 : (i : Int) < (L : Int) := by omega
        go_wp2_with (at_builtin; go_must (refine wpList_app _ rfl (.tmp 25) (.tmp 27) _ rfl w.heap.size 5 iv (.int .u8 0) 1 1 Tryd.underlying30 hiv hv0 hv1 hv2 rfl (by omega) vv pre.length (zs pre) rfl (HO.out.alloc _) (wr.heap.size + 1) (some ⟨wr.heap.size, 0, none⟩) 1 1 [.int .u8 x] rfl rfl (Rd.new wr [.int .u8 x] 5) (by simp) (by intro u hu; simp at hu; subst hu; rfl) (by unfold maxLen; omega) (by omega) (by simp; omega) ?_; intro v' w5 hown' hgrow' hat'; have HO' := Lib.hid hown'; have HG' := Lib.hid hgrow'; clear hown' hgrow' hat'))
        exact ⟨⟨i + 1, _, by omega, by simp, rfl, Lib.hid (UnSt.step HO.out HO'.out (below_app1 HBl.out HO.out (Nat.le_refl _) hbz HG'.out) (by rw [HL.out]; omega) HD.out HU.out HY.out hpl (Nat.le_refl _))⟩, by simp [intOf]; omega⟩
      | esc n z o hn hun =>
        obtain ⟨g1, g2⟩ := drop_step hdz
        obtain ⟨k1, k2⟩ := HB.out i 92 (by omega) g1
        obtain ⟨j, hj⟩ : ∃ j, i + 1 = j := ⟨_, rfl⟩
        rw [hj] at g2
        obtain ⟨g3, g4⟩ := drop_step g2
        obtain ⟨m1, m2⟩ := HB.out j (frN n) (by have := fr_lt n; omega) g3
        have HU := Lib.hid hun
        have HD := Lib.hid g4
        clear hun g4 g3 g2 g1 hdz
        have ej : (i : Int) + 1 = (j : Int) := by omega
        have hjL : j < L := by omega
        have hj3 : (j : Int) < (L : Int) := by omega
        have hi3 : (i : Int) < (L : Int) := by omega
        have hj4 : decide ((j : Int) ≥ (L : Int)) = false := decide_eq_false (by omega)
        have b5 : ((frN n : Int) != 117) = true := by have := fr_ne n; simp; omega
        have b6 : ((toN n : Int) == 0) = false := by have := to_pos n; simp; omega
        have HP := Lib.hid (plain_at n hn)
        obtain ⟨fr, hfr⟩ : ∃ x, frN n = x := ⟨_, rfl⟩
        obtain ⟨tb, hto⟩ : ∃ x, toN n = x := ⟨_, rfl⟩
        rw [hfr] at m2 b5 HP
        rw [hto] at b6 HP HY
        clear hfr hto
        go_wp2_with fail
        refine (HP.out _).mono ?_
        rintro e w' ⟨rfl, o1, rfl⟩
        go_wp2_with fail
        refine (HP.out _).mono ?_
        rintro e w' ⟨rfl, o2, rfl⟩
        have HO2 := Lib.hid ((HO.out.alloc o1).alloc o2)
        have HB2 := Lib.hid ((HBl.out.alloc hbz o1).alloc (by simp; omega) o2)
        have hz2 : w.heap.size ≤ ((wr.alloc o1).alloc o2).heap.size := HB2.out.size
        generalize (wr.alloc o1).alloc o2 = wz at *
        go_wp2_with (at_builtin; go_must (refine wpList_app _ rfl (.tmp 44) (.tmp 49) _ rfl w.heap.size 5 iv (.int .u8 0) 1 1 Tryd.underlying30 hiv hv0 hv1 hv2 rfl (by omega) vv pre.length (zs pre) rfl (HO2.out.alloc _) (wz.heap.size + 1) (some ⟨wz.heap.size, 0, none⟩) 1 1 [.int .u8 tb] rfl rfl (Rd.new wz [.int .u8 tb] 5) (by simp) (by intro u hu; simp at hu; subst hu; rfl) (by unfold maxLen; omega) (by omega) (by simp; omega) ?_; intro v' w5 hown' hgrow' hat'; have HO' := Lib.hid hown'; have HG' := Lib.hid hgrow'; clear hown' hgrow' hat'))
        exact ⟨⟨j + 1, _, by omega, by simp, rfl, Lib.hid (by
          have := UnSt.step (n := 2) HO2.out HO'.out (below_app1 HB2.out HO2.out (Nat.le_refl _) hz2 HG'.out) (i := i) (Z := Z) (by rw [HL.out]; omega) (by rw [show i + 2 = j + 1 by omega]; exact HD.out) HU.out HY.out hpl (by omega)
          rw [show i + 2 = j + 1 by omega] at this
          exact this)⟩, by simp [intOf]; omega⟩
      | sm r z o h1 h2 h3 h4 h5 h6 hun =>
        obtain ⟨a, ha⟩ : ∃ a, r / 16 = a := ⟨_, rfl⟩
        obtain ⟨b, hb⟩ : ∃ b, r % 16 = b := ⟨_, rfl⟩
        have ha16 : a < 16 := by omega
        have hb16 : b < 16 := by omega
        have hrab : r = a * 16 + b := by omega
        obtain ⟨X, hX⟩ : ∃ X : Nat, hexd a = (X : Int) := ⟨(hexd a).toNat, by have := hexd_byte ha16; omega⟩
        obtain ⟨V, hV⟩ : ∃ V : Nat, hexd b = (V : Int) := ⟨(hexd b).toNat, by have := hexd_byte hb16; omega⟩
        have hX2 := hexd_byte ha16
        have hV2 := hexd_byte hb16
        have HS1 := Lib.hid (small_at a ha16 X hX)
        have HS2 := Lib.hid (small_at b hb16 V hV)
        rw [ha, hb, hX, hV] at hdz
        rw [hX] at hX2
        rw [hV] at hV2
        obtain ⟨g1, g2⟩ := drop_step hdz
        obtain ⟨k1, k2⟩ := HB.out i 92 (by omega) g1
        obtain ⟨j, hj⟩ : ∃ j, i + 1 = j := ⟨_, rfl⟩
        rw [hj] at g2
        obtain ⟨g3, g4⟩ := drop_step g2
        obtain ⟨l1, l2⟩ := HB.out j 117 (by omega) g3
        obtain ⟨j1, hj1⟩ : ∃ j1, j + 1 = j1 := ⟨_, rfl⟩
        rw [hj1] at g4
        obtain ⟨g5, g6⟩ := drop_step g4
        obtain ⟨m1, m2⟩ := HB.out j1 48 (by omega) g5
        obtain ⟨j2, hj2⟩ : ∃ j2, j1 + 1 = j2 := ⟨_, rfl⟩
        rw [hj2] at g6
        obtain ⟨g7, g8⟩ := drop_step g6
        obtain ⟨n1, n2⟩ := HB.out j2 48 (by omega) g7
        obtain ⟨j3, hj3⟩ : ∃ j3, j2 + 1 = j3 := ⟨_, rfl⟩
        rw [hj3] at g8
        obtain ⟨g9, g10⟩ := drop_step g8
        obtain ⟨o1, o2⟩ := HB.out j3 X (by omega) g9
        obtain ⟨j4, hj4⟩ : ∃ j4, j3 + 1 = j4 := ⟨_, rfl⟩
        rw [hj4] at g10
        obtain ⟨g11, g12⟩ := drop_step g10
        obtain ⟨p1, p2⟩ := HB.out j4 V (by omega) g11
        have HU := Lib.hid hun
        have HD := Lib.hid g12
        clear hun g12 g11 g10 g9 g8 g7 g6 g5 g4 g3 g2 g1 hdz hX hV
        have ej : (i : Int) + 1 = (j : Int) := by omega
        have ej1 : (j : Int) + 1 = (j1 : Int) := by omega
        have ej2 : (j : Int) + 2 = (j2 : Int) := by omega
        have ej3 : (j : Int) + 3 = (j3 : Int) := by omega
        have ej4 : (j : Int) + 4 = (j4 : Int) := by omega
        have q0 : (i : Int) < (L : Int) := by omega
        have q1 : (j : Int) < (L : Int) := by omega
        have q2 : (j1 : Int) < (L : Int) := by omega
        have q3 : (j2 : Int) < (L : Int) := by omega
        have q4 : (j3 : Int) < (L : Int) := by omega
        have q5 : (j4 : Int) < (L : Int) := by omega
        have d1 : decide ((j : Int) ≥ (L : Int)) = false := decide_eq_false (by omega)
        have d2 : decide ((j4 : Int) ≥ (L : Int)) = false := decide_eq_false (by omega)
        have d3 : decide ((a : Int) < 0) = false := decide_eq_false (by omega)
        have d4 : decide ((b : Int) < 0) = false := decide_eq_false (by omega)
        have d5 : decide ((r : Int) ≥ 32) = false := decide_eq_false (by omega)
        have c1 : ((r : Int) == 8) = false := by simp; omega
        have c2 : ((r : Int) == 9) = false := by simp; omega
        have c3 : ((r : Int) == 10) = false := by simp; omega
        have c4 : ((r : Int) == 12) = false := by simp; omega
        have c5 : ((r : Int) == 13) = false := by simp; omega
        obtain ⟨c, hc⟩ : ∃ c, a * 16 = c := ⟨_, rfl⟩
        have f1 : (a : Int) * 16 = (c : Int) := by omega
        have f2 : (c : Int) + (b : Int) = (r : Int) := by omega
        have f3 : (r : Int) % 256 = (r : Int) := by omega
        have HI := Lib.hid hj
        have HI1 := Lib.hid (show j4 = j + 4 by omega)
        clear ha hb hj hj1 hj2 hj3 hj4 hX2 hV2 hrab hc
        go_wp2_with fail
        refine (HS1.out _).mono ?_
        rintro e w' ⟨rfl, rfl⟩
        go_wp2_with fail
        refine (HS2.out _).mono ?_
        rintro e w' ⟨rfl, rfl⟩
        go_upto_region 19 with (fail)
        go_big_quiet (first | (go_at_call_of 19 X; refine Calls.quiet_of_same (HS1.out _)) | (go_at_call_of 19 V; refine Calls.quiet_of_same (HS2.out _)))
        have HO2 := Lib.hid (show World.ownsRow (w'.drewN nq) w.heap.size 5 1 vv pre.length (zs pre) from HO.out)
        have HB2 := Lib.hid (below_drewN HBl.out nq)
        have hz2 : w.heap.size ≤ (w'.drewN nq).heap.size := hbz
        generalize w'.drewN nq = wz at *
        go_wp2_with (at_builtin; go_must (refine wpList_app _ rfl (.tmp 120) (.tmp 123) _ rfl w.heap.size 5 iv (.int .u8 0) 1 1 Tryd.underlying30 hiv hv0 hv1 hv2 rfl (by omega) vv pre.length (zs pre) rfl (HO2.out.alloc _) (wz.heap.size + 1) (some ⟨wz.heap.size, 0, none⟩) 1 1 [.int .u8 r] rfl rfl (Rd.new wz [.int .u8 r] 5) (by simp) (by intro u hu; simp at hu; subst hu; rfl) (by unfold maxLen; omega) (by omega) (by simp; omega) ?_; intro v' w5 hown' hgrow' hat'; have HO' := Lib.hid hown'; have HG' := Lib.hid hgrow'; clear hown' hgrow' hat'))
        exact ⟨⟨j4 + 1, _, by omega, by simp, rfl, Lib.hid (by
          have hji := HI.out
          have hj4 := HI1.out
          have := UnSt.step (n := 6) HO2.out HO'.out (below_app1 HB2.out HO2.out (Nat.le_refl _) hz2 HG'.out) (i := i) (Z := Z) (by rw [HL.out]; omega) (by rw [show i + 6 = j4 + 1 by omega]; exact HD.out) HU.out HY.out hpl (by omega)
          rw [show i + 6 = j4 + 1 by omega] at this
          exact this)⟩, by have := HI.out; have := HI1.out; simp [intOf]; omega⟩
    · have hiE : i = L := by omega
      subst hiE
      have hfin := UnSt.out hst.out (by rw [HL.out]; exact Nat.le_refl _)
      have HF := Lib.hid hfin
      clear hfin hst
      go_wp2_with fail
      go_ret2
      exact ⟨_, rfl, HF.out.1, HF.out.2⟩
end Go.Proofs.YtjbfhkcbgafeaaaDoor.app
