/- The reference's whole numbers: up, plus, wide, order. -/
import Derived.Test.YtlkeemphdocpoaaBig
import Derived.WalkLawsBesides
import Derived.WalkSpells
import Derived.Outline
namespace Go.Proofs.Ytlkeemphdocpoaa.big
open Go.RowKit mem fl
set_option linter.unusedVariables false


theorem Bn.zero (w : World) (B : Nat) : Bn w B (.slice none 0 0) 0 := ⟨none, 0, rfl, Rd.nil, Nat.le_refl _⟩
theorem below_grown {w w' : World} (h : Below w.heap.size w w') : w.grownBy w' none := ⟨h.os, h.tape, h.output, h.size, fun k hk _ => h.block k hk⟩
theorem rd_none {w : World} {B : Nat} {A : Option Addr} {l : List Nat} (h : Rd w B A (us l)) : A = none → l.length = 0 := by
  rintro rfl
  by_cases hz : l.length = 0
  · exact hz
  · obtain ⟨ad, h1, _⟩ := h 0 _ (us_get (l := l) (k := 0) (by omega))
    cases h1
theorem us_one (l : List Nat) : ∀ u ∈ us l, u.oneCell' = true := by
  intro u hu
  simp only [us, List.mem_map] at hu
  obtain ⟨x, _, rfl⟩ := hu
  rfl
theorem made_zero (n : Nat) : (madeCells (Value.int IntKind.u32 0).cells (n * 1)).toList = us (List.replicate n 0) := by
  rw [Nat.mul_one]
  show (madeCells #[_] n).toList = _
  simp [madeCells, us, List.eq_replicate_iff]
  intro a _
  rw [Nat.mod_one]
  rfl
theorem pow_u32 (k : Nat) : (2 : Int) ^ (k % 32) % 4294967296 = ((2 ^ (k % 32) : Nat) : Int) := by
  have h1 : 2 ^ (k % 32) < 2 ^ 32 := Nat.pow_lt_pow_right (by omega) (by omega)
  have h2 : ((2 ^ (k % 32) : Nat) : Int) = (2 : Int) ^ (k % 32) := by simp
  rw [← h2]
  obtain ⟨x, hx⟩ : ∃ x, 2 ^ (k % 32) = x := ⟨_, rfl⟩
  rw [hx] at h1 ⊢
  omega
theorem pow_lt32 (k : Nat) : 2 ^ (k % 32) < 4294967296 := Nat.pow_lt_pow_right (n := 32) (by omega) (by omega)
theorem up_words (N k : Nat) (h : N ≠ 0) : List.replicate (k / 32) 0 ++ wd (N * 2 ^ (k % 32) + 0) = wd (N * 2 ^ k) := by
  rw [Nat.add_zero, wd_up _ _ (Nat.mul_ne_zero h (Nat.ne_of_gt (Nat.two_pow_pos _)))]
  congr 1
  have : (4294967296 : Nat) = 2 ^ 32 := rfl
  rw [this, ← Nat.pow_mul, Nat.mul_left_comm, ← Nat.pow_add, Nat.div_add_mod]
theorem bn_own {w : World} {base n N : Nat} {v : Value} (h : w.ownsRow base 60 1 v n (us (wd N))) : Bn w w.heap.size v N := by
  obtain ⟨A2, c2, rfl, hA2, hc2, hm2⟩ := own_form h
  have := h.1
  rw [us_length] at this
  have e : n = (wd N).length := by simpa using this.symm
  subst e
  exact ⟨A2, c2, rfl, Rd.of_own h, hc2⟩
set_option maxHeartbeats 1000000 in
theorem up_any (v0 : Value) (N k : Nat) (w : World) (hv : Bn w w.heap.size v0 N) (hk : k ≤ 1000000) (hn : (wd N).length ≤ 400000) :
    Calls Try.prog 34 #[v0, .int .i64 (k : Int)] w (BnPost (N * 2 ^ k) w) := by
  obtain ⟨iv, hiv, hv0, hv1, hv2⟩ := info_parts infoW
  obtain ⟨A, cap, rfl, hr, hcap⟩ := hv
  by_cases h0 : N = 0
  · subst h0
    go_enter Try.func34, Try.ntmps34
    have e : (wd 0).length = 0 := rfl
    rw [e]
    clear hr hcap hn e
    go_wp2_with fail
    go_ret
    exact ⟨_, rfl, by rw [Nat.zero_mul]; exact Bn.zero _ _, Below.refl _ _⟩
  · have hlen : 0 < (wd N).length := by rw [wd_pos h0]; simp
    have HBn := Lib.hid (show Bn w w.heap.size (.slice A (wd N).length cap) N from ⟨A, cap, rfl, hr, hcap⟩)
    clear hr
    obtain ⟨L, hL⟩ : ∃ L, (wd N).length = L := ⟨_, rfl⟩
    have HL := Lib.hid hL
    rw [hL] at hlen hcap hn HBn ⊢
    clear hL
    have h0L : ((L : Int) == 0) = false := by simp; omega
    go_enter Try.func34, Try.ntmps34
    go_wp2_with (refine wpList_make_full _ rfl (.tmp 10) (.tmp 10) 49 rfl w.heap.size 60 iv _ 1 Try.underlying49 hiv hv0 hv1 .i64 .i64 ((k : Int) / 32) ((k : Int) / 32) (k / 32) rfl rfl (by simp) (by simp) (by rw [hv2]; omega) (by unfold maxLen; omega) (Nat.le_refl _) ?_; intro w6 hown6 hgrow6)
    have hF6 : w6.ownsRow w.heap.size 60 1 (.slice (some ⟨w.heap.size, 0, none⟩) (k / 32) (k / 32)) (k / 32) (us (List.replicate (k / 32) 0)) := by
      have := hown6
      rw [made_zero] at this
      exact this
    have HF6 := Lib.hid hF6
    have hs6 := hgrow6.size
    have hb6 : Below w.heap.size w w6 := (Below.refl _ _).grown hgrow6 (Nat.le_refl _) (fun k hk => by cases hk)
    have HB6 := Lib.hid hb6
    have HV6 := Lib.hid ((HBn.out.below hb6).more hs6)
    clear hown6 hF6 hgrow6 hb6 HBn
    have hsh := pow_u32 k
    have hp32 := pow_lt32 k
    rw [hsh]
    clear hsh
    refine (times_any _ N (2 ^ (k % 32)) 0 w6 HV6.out hp32 (by omega) (by rw [HL.out]; omega)).mono ?_
    rintro e w7 ⟨v7, rfl, hbn7, hb7⟩
    have HO7 := Lib.hid (HF6.out.kept (below_grown hb7) (by cases h : Value.ownBlock (.slice (some ⟨w.heap.size, 0, none⟩) (k / 32) (k / 32)) <;> simp))
    have HBl7 := Lib.hid (HB6.out.trans (hb7.mono hs6))
    have hs7 := hb7.size
    obtain ⟨A7, c7, rfl, hr7, hc7⟩ := hbn7
    have HR7 := Lib.hid hr7
    have HN7 := Lib.hid (rd_none hr7)
    clear hr7 hb7 HF6 HB6 HV6
    have hl7 : (wd (N * 2 ^ (k % 32) + 0)).length ≤ L + 1 := by
      have h1 := val_lt (wd N) (wds_wd N)
      rw [val_wd, HL.out] at h1
      refine wd_len_le ?_
      rw [Nat.pow_succ, Nat.add_zero]
      exact Nat.mul_lt_mul_of_lt_of_lt h1 hp32
    obtain ⟨M, hM⟩ : ∃ M, N * 2 ^ (k % 32) + 0 = M := ⟨_, rfl⟩
    have hfin := up_words N k h0
    rw [hM] at hl7 HR7 HN7 hc7 hfin ⊢
    clear hM
    obtain ⟨l, hl⟩ : ∃ l, wd M = l := ⟨_, rfl⟩
    rw [hl] at hl7 HR7 HN7 hc7 hfin ⊢
    have HFin := Lib.hid hfin
    clear hfin hl
    obtain ⟨L7, hL7⟩ : ∃ L7, l.length = L7 := ⟨_, rfl⟩
    rw [hL7] at hl7 HN7 hc7 ⊢
    have HL7 := Lib.hid hL7
    clear hL7 hp32
    go_wp2_with (at_builtin; go_must (refine wpList_app _ rfl (.tmp 18) (.tmp 19) _ rfl w.heap.size 60 iv (.int .u32 0) 1 4 Try.underlying49 hiv hv0 hv1 hv2 rfl (by omega) (.slice (some ⟨w.heap.size, 0, none⟩) (k / 32) (k / 32)) (k / 32) (us (List.replicate (k / 32) 0)) rfl HO7.out w7.heap.size A7 L7 c7 (us l) rfl (by rw [us_length, HL7.out]; simp) HR7.out HN7.out (us_one l) (by unfold maxLen; omega) (by omega) (by omega) ?_; intro v' w5 hown' hgrow' hat'; have HO' := Lib.hid hown'; have HG' := Lib.hid hgrow'; clear hown' hgrow' hat'))
    go_ret
    have hbf := below_app HBl7.out HO7.out (Nat.le_refl _) (by omega) HG'.out
    refine ⟨_, rfl, ?_, hbf⟩
    have ho := HO'.out
    rw [← us_app, HFin.out] at ho
    exact bn_own ho

/-- plus between two rounds -/
def PlSt (a b : List Nat) (w : World) (v : Value) (carry i : Nat) (wr : World) : Prop :=
  ∃ r : List Nat, wr.ownsRow w.heap.size 60 1 v i (us r) ∧ Below w.heap.size w wr ∧ r.length = i ∧ Wds r ∧ val r + 4294967296 ^ i * carry = val (a.take i) + val (b.take i)

theorem PlSt.step {a b r : List Nat} {w w5 : World} {v' : Value} {i s carry x y : Nat} (ho : w5.ownsRow w.heap.size 60 1 v' (i + 1) (us r ++ [.int .u32 ((s % 4294967296 : Nat) : Int)])) (hs : s = carry + x + y) (hb : Below w.heap.size w w5) (hl : r.length = i) (hw : Wds r)
    (h : val (r ++ [(carry + x + y) % 4294967296]) + 4294967296 ^ (i + 1) * ((carry + x + y) / 4294967296) = val (a.take (i + 1)) + val (b.take (i + 1))) : PlSt a b w v' (s / 4294967296) (i + 1) w5 := by
  subst hs
  refine ⟨r ++ [(carry + x + y) % 4294967296], ?_, hb, by rw [List.length_append, hl]; rfl, hw.app (by intro z hz; simp at hz; omega), h⟩
  rw [us_app]
  exact ho
theorem PlSt.step0 {a b r : List Nat} {w w5 : World} {v' : Value} {i carry x y : Nat} (ho : w5.ownsRow w.heap.size 60 1 v' (i + 1) (us r ++ [.int .u32 (carry : Int)])) (hs : carry < 4294967296 ∧ x = 0 ∧ y = 0) (hb : Below w.heap.size w w5) (hl : r.length = i) (hw : Wds r)
    (h : val (r ++ [(carry + x + y) % 4294967296]) + 4294967296 ^ (i + 1) * ((carry + x + y) / 4294967296) = val (a.take (i + 1)) + val (b.take (i + 1))) : PlSt a b w v' (carry / 4294967296) (i + 1) w5 := by
  obtain ⟨h1, rfl, rfl⟩ := hs
  exact PlSt.step (s := carry) (carry := carry) (x := 0) (y := 0) (by rw [Nat.mod_eq_of_lt h1]; exact ho) rfl hb hl hw h
theorem wds_get {l : List Nat} (h : Wds l) (k : Nat) : l.getD k 0 < 4294967296 := by
  rw [List.getD_eq_getElem?_getD]
  by_cases hk : k < l.length
  · rw [List.getElem?_eq_getElem hk]
    exact h _ (List.getElem_mem hk)
  · rw [List.getElem?_eq_none (by omega)]
    simp
set_option maxHeartbeats 2000000 in
theorem plus_any (v0 v1 : Value) (N M : Nat) (w : World) (hv0 : Bn w w.heap.size v0 N) (hv1 : Bn w w.heap.size v1 M) (hn : (wd N).length ≤ 900000) (hm : (wd M).length ≤ 900000) :
    Calls Try.prog 36 #[v0, v1] w (BnPost (N + M) w) := by
  obtain ⟨iv, hiv, hz0, hz1, hz2⟩ := info_parts infoW
  obtain ⟨A, cap, rfl, hr, hcap⟩ := hv0
  obtain ⟨A', cap', rfl, hr', hcap'⟩ := hv1
  have HWa := Lib.hid (wds_get (wds_wd N))
  have HWb := Lib.hid (wds_get (wds_wd M))
  have HVa := Lib.hid (val_wd N)
  have HVb := Lib.hid (val_wd M)
  have HR := Lib.hid hr
  have HR' := Lib.hid hr'
  clear hr hr'
  generalize wd N = a at *
  generalize wd M = b at *
  obtain ⟨L, hL⟩ : ∃ L, a.length = L := ⟨_, rfl⟩
  obtain ⟨L', hL'⟩ : ∃ L, b.length = L := ⟨_, rfl⟩
  rw [hL] at hn hcap ⊢
  rw [hL'] at hm hcap' ⊢
  have HL := Lib.hid hL
  have HL' := Lib.hid hL'
  clear hL hL'
  go_enter Try.func36, Try.ntmps36
  go_wp2_with fail
  go_loopw [5, 6, 7] (fun v5 v6 v7 wr => ∃ (i carry : Nat) (vv : Value), (i ≤ L ∨ i ≤ L' ∨ i ≤ max L L' + 1) ∧ carry < 4294967296 ∧ (max L L' < i → carry = 0) ∧ v7 = .int .i64 (i : Int) ∧ v6 = .int .u64 (carry : Int) ∧ vv = v5 ∧ Hid (PlSt a b w vv carry i wr)) (fun _ _ v7 _ => max L L' + 1 - (intOf v7).toNat)
  case atStart =>
    exact ⟨0, 0, _, .inl (Nat.zero_le _), by omega, fun _ => rfl, rfl, rfl, rfl, Lib.hid ⟨[], World.ownsRow_nil _ _ _ _, Below.refl _ _, rfl, (by intro x hx; simp at hx), by simp [val]⟩⟩
  case round =>
    obtain ⟨i, carry, vv, hiL, hcb, hcz, rfl, rfl, rfl, hst⟩ := hrel
    obtain ⟨r, hown, hb, hrl, hrw, hsum⟩ := hst.out
    have HO := Lib.hid hown
    have hbz := hb.size
    have HBl := Lib.hid hb
    have HRl := Lib.hid hrl
    have HRw := Lib.hid hrw
    have HS := Lib.hid hsum
    have HCz := Lib.hid hcz
    have hia : i ≤ max L L' + 1 := by omega
    clear hst hb hown hrl hrw hsum hcz hiL
    by_cases hgo : i < L ∨ i < L' ∨ 0 < carry
    · have hi2 : i ≤ max L L' := by
        by_cases h : max L L' < i
        · have := HCz.out h
          omega
        · omega
      have hxl := HWa.out i
      have hyl := HWb.out i
      obtain ⟨x, hx⟩ : ∃ x, a.getD i 0 = x := ⟨_, rfl⟩
      obtain ⟨y, hy⟩ : ∃ x, b.getD i 0 = x := ⟨_, rfl⟩
      have hxc : ¬ i < L → x = 0 := fun h => by rw [← hx, List.getD_eq_getElem?_getD, List.getElem?_eq_none (by rw [HL.out]; omega)]; rfl
      have hyc : ¬ i < L' → y = 0 := fun h => by rw [← hy, List.getD_eq_getElem?_getD, List.getElem?_eq_none (by rw [HL'.out]; omega)]; rfl
      have hcx : i < L → ∃ ad, A = some ad ∧ wr.cell? (ad.add i) = some (.int .u32 (x : Int)) := fun hi => by
        have hgx := us_get (l := a) (k := i) (by rw [HL.out]; exact hi)
        rw [hx] at hgx
        obtain ⟨ad, rfl, hab, hcell⟩ := HR.out i _ hgx
        exact ⟨ad, rfl, (HBl.out.cell (p := ad.add i) (by rw [add_block]; exact hab)).trans hcell⟩
      have hcy : i < L' → ∃ ad, A' = some ad ∧ wr.cell? (ad.add i) = some (.int .u32 (y : Int)) := fun hi => by
        have hgx := us_get (l := b) (k := i) (by rw [HL'.out]; exact hi)
        rw [hy] at hgx
        obtain ⟨ad, rfl, hab, hcell⟩ := HR'.out i _ hgx
        exact ⟨ad, rfl, (HBl.out.cell (p := ad.add i) (by rw [add_block]; exact hab)).trans hcell⟩
      rw [hx] at hxl
      rw [hy] at hyl
      have hst := plus_step (r := r) (a := a) (b := b) (i := i) (carry := carry) HRl.out HS.out
      rw [hx, hy] at hst
      have HSt := Lib.hid hst
      have HXc := Lib.hid hxc
      have HYc := Lib.hid hyc
      have HCx := Lib.hid hcx
      have HCy := Lib.hid hcy
      clear hst hx hy hxc hyc hcx hcy
      have hmx : max L L' ≤ 900000 := by omega
      obtain ⟨X, hX⟩ : ∃ X, max L L' = X := ⟨_, rfl⟩
      have HXm := Lib.hid hX
      have hLX : L ≤ X := by omega
      have hLX' : L' ≤ X := by omega
      rw [hX] at hmx hi2 hia
      rw [hX]
      clear hX
      by_cases h1 : i < L <;> by_cases h2 : i < L'
      · obtain ⟨ad, rfl, hcell⟩ := HCx.out h1
        obtain ⟨ad', rfl, hcell'⟩ := HCy.out h2
        clear hgo
        go_wp2_with (at_builtin; go_must (refine wpList_app _ rfl (.tmp 48) (.tmp 51) _ rfl w.heap.size 60 iv (.int .u32 0) 1 4 Try.underlying49 hiv hz0 hz1 hz2 rfl (by omega) vv i (us r) rfl (HO.out.alloc _) (wr.heap.size + 1) (some ⟨wr.heap.size, 0, none⟩) 1 1 [.int .u32 ((carry + x + y) % 4294967296 : Nat)] rfl rfl (Rd.new wr [.int .u32 ((carry + x + y) % 4294967296 : Nat)] 60) (by simp) (by intro u hu; simp at hu; subst hu; rfl) (by unfold maxLen; omega) (by omega) (by simp; omega) ?_; intro v' w5 hown' hgrow' hat'; have HO' := Lib.hid hown'; have HG' := Lib.hid hgrow'; clear hown' hgrow' hat'))
        exact ⟨⟨i + 1, (carry + x + y) / 4294967296, _, .inr (.inr (by omega)), by omega, fun h => by first | omega | (have := HXc.out (by omega); have := HYc.out (by omega); omega), by simp, by simp <;> omega, rfl, Lib.hid (PlSt.step (s := carry + x + y) (carry := carry) (x := _) (y := _) HO'.out (by omega) (below_app1 HBl.out HO.out (Nat.le_refl _) hbz HG'.out) HRl.out HRw.out HSt.out)⟩, by simp [intOf]; omega⟩
      · obtain ⟨ad, rfl, hcell⟩ := HCx.out h1
        have hy0 := HYc.out h2
        subst hy0
        clear hgo
        go_wp2_with (at_builtin; go_must (refine wpList_app _ rfl (.tmp 48) (.tmp 51) _ rfl w.heap.size 60 iv (.int .u32 0) 1 4 Try.underlying49 hiv hz0 hz1 hz2 rfl (by omega) vv i (us r) rfl (HO.out.alloc _) (wr.heap.size + 1) (some ⟨wr.heap.size, 0, none⟩) 1 1 [.int .u32 ((carry + x) % 4294967296 : Nat)] rfl rfl (Rd.new wr [.int .u32 ((carry + x) % 4294967296 : Nat)] 60) (by simp) (by intro u hu; simp at hu; subst hu; rfl) (by unfold maxLen; omega) (by omega) (by simp; omega) ?_; intro v' w5 hown' hgrow' hat'; have HO' := Lib.hid hown'; have HG' := Lib.hid hgrow'; clear hown' hgrow' hat'))
        exact ⟨⟨i + 1, (carry + x) / 4294967296, _, .inr (.inr (by omega)), by omega, fun h => by first | omega | (have := HXc.out (by omega); have := HYc.out (by omega); omega), by simp, by simp <;> omega, rfl, Lib.hid (PlSt.step (s := carry + x) (carry := carry) (x := _) (y := _) HO'.out (by omega) (below_app1 HBl.out HO.out (Nat.le_refl _) hbz HG'.out) HRl.out HRw.out HSt.out)⟩, by simp [intOf]; omega⟩
      · obtain ⟨ad', rfl, hcell'⟩ := HCy.out h2
        have hx0 := HXc.out h1
        subst hx0
        clear hgo
        go_wp2_with (at_builtin; go_must (refine wpList_app _ rfl (.tmp 48) (.tmp 51) _ rfl w.heap.size 60 iv (.int .u32 0) 1 4 Try.underlying49 hiv hz0 hz1 hz2 rfl (by omega) vv i (us r) rfl (HO.out.alloc _) (wr.heap.size + 1) (some ⟨wr.heap.size, 0, none⟩) 1 1 [.int .u32 ((carry + y) % 4294967296 : Nat)] rfl rfl (Rd.new wr [.int .u32 ((carry + y) % 4294967296 : Nat)] 60) (by simp) (by intro u hu; simp at hu; subst hu; rfl) (by unfold maxLen; omega) (by omega) (by simp; omega) ?_; intro v' w5 hown' hgrow' hat'; have HO' := Lib.hid hown'; have HG' := Lib.hid hgrow'; clear hown' hgrow' hat'))
        exact ⟨⟨i + 1, (carry + y) / 4294967296, _, .inr (.inr (by omega)), by omega, fun h => by first | omega | (have := HXc.out (by omega); have := HYc.out (by omega); omega), by simp, by simp <;> omega, rfl, Lib.hid (PlSt.step (s := carry + y) (carry := carry) (x := _) (y := _) HO'.out (by omega) (below_app1 HBl.out HO.out (Nat.le_refl _) hbz HG'.out) HRl.out HRw.out HSt.out)⟩, by simp [intOf]; omega⟩
      · have hy0 := HYc.out h2
        have hx0 := HXc.out h1
        subst hx0
        subst hy0
        have hc0 : 0 < carry := by omega
        have hc3 : (carry : Int) % 4294967296 = (carry : Int) := by omega
        have hc4 : (carry : Int) / 4294967296 = 0 := by omega
        clear hgo
        go_wp2_with (at_builtin; go_must (refine wpList_app _ rfl (.tmp 48) (.tmp 51) _ rfl w.heap.size 60 iv (.int .u32 0) 1 4 Try.underlying49 hiv hz0 hz1 hz2 rfl (by omega) vv i (us r) rfl (HO.out.alloc _) (wr.heap.size + 1) (some ⟨wr.heap.size, 0, none⟩) 1 1 [.int .u32 (carry : Nat)] rfl rfl (Rd.new wr [.int .u32 (carry : Nat)] 60) (by simp) (by intro u hu; simp at hu; subst hu; rfl) (by unfold maxLen; omega) (by omega) (by simp; omega) ?_; intro v' w5 hown' hgrow' hat'; have HO' := Lib.hid hown'; have HG' := Lib.hid hgrow'; clear hown' hgrow' hat'))
        exact ⟨⟨i + 1, (carry) / 4294967296, _, .inr (.inr (by omega)), by omega, fun h => by first | omega | (have := HXc.out (by omega); have := HYc.out (by omega); omega), by simp, by simp <;> omega, rfl, Lib.hid (PlSt.step0 (carry := carry) (x := _) (y := _) HO'.out (by omega) (below_app1 HBl.out HO.out (Nat.le_refl _) hbz HG'.out) HRl.out HRw.out HSt.out)⟩, by simp [intOf]; omega⟩
    · have hc0 : carry = 0 := by omega
      subst hc0
      have hend := plus_end (r := r) (a := a) (b := b) (i := i) (by rw [HL.out]; omega) (by rw [HL'.out]; omega) HS.out
      rw [HVa.out, HVb.out] at hend
      have HE1 := Lib.hid hend
      have h1 : ¬ i < L := by omega
      have h2 : ¬ i < L' := by omega
      clear hgo hend
      go_wp2_with fail
      refine (trim_own HO.out HRl.out HRw.out (by omega) HE1.out).mono ?_
      rintro e w' ⟨v3, rfl, hbn, rfl⟩
      have HBN := Lib.hid hbn
      clear hbn
      go_wp2_with fail
      go_ret
      exact ⟨_, rfl, HBN.out, HBl.out⟩
end Go.Proofs.Ytlkeemphdocpoaa.big
