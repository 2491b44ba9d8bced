/- The reference's decimal texts, walked: Digits, WholeText. -/
import Derived.Test.YtlkeemphdocpoaaDig
namespace Go.Proofs.Ytlkeemphdocpoaa.big
open Go.RowKit mem fl
set_option linter.unusedVariables false


def DgPost (u : Nat) (w : World) (e : Ending) (w' : World) : Prop := e = .returned (.string (strN (dgs u))) ∧ Below w.heap.size w w'
/-- while the digits are turned about -/
def TuSt (L : List Nat) (w : World) (A : Option Addr) (c i : Nat) (wr : World) : Prop :=
  ∃ g, A = some ⟨g, 0, none⟩ ∧ wr.ownsRow w.heap.size 5 1 (.slice A L.length c) L.length (ns (swp L i)) ∧ Below w.heap.size w wr

set_option maxHeartbeats 2000000 in
theorem digits_any (u : Nat) (w : World) (hu : u < 18446744073709551616) :
    Calls Try.prog 25 #[.int .u64 (u : Int)] w (DgPost u w) := by
  obtain ⟨iv, hiv, hv0, hv1, hv2⟩ := info_parts infoB
  go_enter Try.func25, Try.ntmps25
  go_wp2_with fail
  go_loopw [0, 3] (fun v0 v3 wr => ∃ (r n : Nat) (A : Option Addr) (c : Nat), r < 18446744073709551616 ∧ n ≤ 20 ∧ v0 = .int .u64 (r : Int) ∧ v3 = .slice A n c ∧ Hid (∃ l, l.length = n ∧ DgSt u w (.slice A n c) l r wr ∧ (0 < r → r * 10 ^ n ≤ u))) (fun v0 v3 _ => (intOf v0).toNat + (match v3 with | .slice _ 0 _ => 1 | _ => 0))
  case atStart =>
    refine ⟨u, 0, none, 0, hu, by omega, rfl, rfl, Lib.hid ⟨[], rfl, ⟨World.ownsRow_nil _ _ _ _, Below.refl _ _, fun _ => rfl, fun h => absurd rfl h.2⟩, fun _ => by omega⟩⟩
  case round =>
    obtain ⟨r, n, A, c, hr, hn, rfl, rfl, hst⟩ := hrel
    obtain ⟨l, hl, ⟨hown, hb, hd1, hd2⟩, hle⟩ := hst.out
    by_cases hgo : 0 < r ∨ n = 0
    · have hn19 : n ≤ 19 := by
        by_cases h0 : 0 < r
        · exact pow_le_20 hu h0 (hle h0)
        · omega
      have hdg : dg u = l ++ dg r := hd1 (by
        rcases hgo with h | h
        · exact .inl h
        · exact .inr (List.eq_nil_of_length_eq_zero (by omega)))
      have HDg := Lib.hid hdg
      have HL := Lib.hid hl
      have hown2 : wr.ownsRow w.heap.size 5 1 (.slice A n c) n (ns l) := by rw [hl] at hown; exact hown
      have HO := Lib.hid hown2
      have hbz := hb.size
      have HBl := Lib.hid hb
      have HLe := Lib.hid hle
      have h2 : ¬ 0 < r → ((n : Int) == 0) = true := fun h => by simp; omega
      clear hst hl hown hown2 hb hd1 hd2 hle hdg
      have hnext : ∀ w5 v', World.ownsRow w5 w.heap.size 5 1 v' (n + 1) (ns l ++ [.int .u8 ((48 + r % 10 : Nat) : Int)]) → Below w.heap.size w w5 → ∃ A' c', v' = .slice A' (n + 1) c' ∧ Hid (∃ l', l'.length = n + 1 ∧ DgSt u w (.slice A' (n + 1) c') l' (r / 10) w5 ∧ (0 < r / 10 → r / 10 * 10 ^ (n + 1) ≤ u)) := by
        intro w5 v' ho hb5
        obtain ⟨A', c', rfl, _⟩ := own_form ho
        refine ⟨A', c', rfl, Lib.hid ⟨l ++ [48 + r % 10], by rw [List.length_append, HL.out]; rfl, ⟨?_, hb5, ?_, ?_⟩, ?_⟩⟩
        · rw [ns_app, List.length_append, HL.out]
          exact ho
        · intro h
          have h0 : 0 < r / 10 := by
            rcases h with h | h
            · exact h
            · simp at h
          rw [HDg.out, dg_step r, if_neg (by omega)]
          simp
        · intro h
          rw [HDg.out, dg_step r, if_pos h.1]
        · intro h
          have h3 := HLe.out (by omega)
          rw [Nat.pow_succ]
          have h4 : r / 10 * (10 ^ n * 10) = (r / 10 * 10) * 10 ^ n := by rw [Nat.mul_comm (10 ^ n) 10, Nat.mul_assoc]
          rw [h4]
          exact Nat.le_trans (Nat.mul_le_mul_right _ (by omega)) h3
      have HNx := Lib.hid hnext
      clear hnext
      have hnl : ((48 : Int) + (r : Int) % 10) % 256 = 48 + (r : Int) % 10 := by omega
      by_cases h0 : 0 < r
      · go_wp2_with (at_builtin; go_must (refine wpList_app _ rfl (.tmp 14) (.tmp 19) _ rfl w.heap.size 5 iv (.int .u8 0) 1 1 Try.underlying56 hiv hv0 hv1 hv2 rfl (by omega) (.slice A n c) n (ns l) rfl (HO.out.alloc _) (wr.heap.size + 1) (some ⟨wr.heap.size, 0, none⟩) 1 1 [.int .u8 ((48 + r % 10 : Nat) : Int)] rfl rfl (Rd.new wr [.int .u8 ((48 + r % 10 : Nat) : Int)] 5) (by simp) (by intro u hu; simp at hu; subst hu; rfl) (by unfold maxLen; omega) (by omega) (by simp; omega) ?_; intro v' w5 hown' hgrow' hat'; have HO' := Lib.hid hown'; have HG' := Lib.hid hgrow'; clear hown' hgrow' hat'))
        obtain ⟨A', c', rfl, hN⟩ := HNx.out _ _ HO'.out (below_app1 HBl.out HO.out (Nat.le_refl _) hbz HG'.out)
        exact ⟨⟨r / 10, n + 1, A', c', by omega, by omega, by simp, rfl, hN⟩, by simp [intOf]; omega⟩
      · have h3 := h2 h0
        clear h2
        obtain rfl : r = 0 := by omega
        obtain rfl : n = 0 := by omega
        go_wp2_with (at_builtin; go_must (refine wpList_app _ rfl (.tmp 14) (.tmp 19) _ rfl w.heap.size 5 iv (.int .u8 0) 1 1 Try.underlying56 hiv hv0 hv1 hv2 rfl (by omega) (.slice A 0 c) 0 (ns l) rfl (HO.out.alloc _) (wr.heap.size + 1) (some ⟨wr.heap.size, 0, none⟩) 1 1 [.int .u8 48] rfl rfl (Rd.new wr [.int .u8 48] 5) (by simp) (by intro u hu; simp at hu; subst hu; rfl) (by unfold maxLen; omega) (by omega) (by simp; omega) ?_; intro v' w5 hown' hgrow' hat'; have HO' := Lib.hid hown'; have HG' := Lib.hid hgrow'; clear hown' hgrow' hat'))
        obtain ⟨A', c', rfl, hN⟩ := HNx.out _ _ HO'.out (below_app1 HBl.out HO.out (Nat.le_refl _) hbz HG'.out)
        exact ⟨⟨0, 0 + 1, A', c', by omega, by omega, by simp, rfl, hN⟩, by simp [intOf]⟩
    · obtain rfl : r = 0 := by omega
      have hdl := hd2 ⟨rfl, by intro h; subst h; simp at hl; omega⟩
      have hn1 : 1 ≤ n := by omega
      have hown2 : wr.ownsRow w.heap.size 5 1 (.slice A n c) n (ns l) := by rw [hl] at hown; exact hown
      obtain ⟨g, c2, cur, hsl, hbg, hgl, hnc, hcm, _⟩ := own_block hown2 hn1
      injection hsl with hA _ hcc
      subst hA
      subst hcc
      have HL := Lib.hid hl
      have HDl := Lib.hid hdl
      have HBl := Lib.hid hb
      have HO := Lib.hid hown2
      have h2 : ((n : Int) == 0) = false := by simp; omega
      clear hst hl hown hown2 hb hd1 hd2 hle hdl hgo
      go_wp2_with fail
      go_loopw [4] (fun v4 wr => ∃ i : Nat, i ≤ n / 2 ∧ v4 = .int .i64 (i : Int) ∧ g < wr.heap.size ∧ Hid (wr.ownsRow w.heap.size 5 1 (.slice (some ⟨g, 0, none⟩) n c) n (ns (swp l i)) ∧ Below w.heap.size w wr)) (fun v4 _ => n / 2 - (intOf v4).toNat)
      case atStart => exact ⟨0, by omega, rfl, hgl, Lib.hid ⟨by rw [swp_zero]; exact HO.out, HBl.out⟩⟩
      case round =>
        clear HO HBl hgl hr
        obtain ⟨i, hi, rfl, hgl, hst⟩ := hrel
        obtain ⟨hown, hb⟩ := hst.out
        have HO := Lib.hid hown
        have HBl := Lib.hid hb
        clear hst hown hb
        by_cases hlt : i < n / 2
        · obtain ⟨j, hj⟩ : ∃ j, n - 1 - i = j := ⟨_, rfl⟩
          have hjn : j < n := by omega
          have hij : i < j := by omega
          have hlen : (swp l i).length = n := by rw [swp_length, HL.out]
          obtain ⟨x, hx⟩ : ∃ x, l.getD i 0 = x := ⟨_, rfl⟩
          obtain ⟨y, hy⟩ : ∃ y, l.getD j 0 = y := ⟨_, rfl⟩
          have hci : wr.cell? ⟨g, i, none⟩ = some (.int .u8 (x : Int)) := by
            rw [World.ownsRow.cellAt HO.out i (by omega), ns_get (by omega), swp_get l i i (by rw [HL.out]; omega), if_neg (by rw [HL.out]; omega), hx]
          have hcj : wr.cell? ⟨g, j, none⟩ = some (.int .u8 (y : Int)) := by
            rw [World.ownsRow.cellAt HO.out j (by omega), ns_get (by omega), swp_get l i j (by rw [HL.out]; omega), if_neg (by rw [HL.out]; omega), hy]
          have hfi := World.ownsRow.frozenAt HO.out i
          have hfj := World.ownsRow.frozenAt HO.out j
          have hnx : ((wr.setCell ⟨g, i, none⟩ (.int .u8 (y : Int))).setCell ⟨g, j, none⟩ (.int .u8 (x : Int))).ownsRow w.heap.size 5 1 (.slice (some ⟨g, 0, none⟩) n c) n (ns (swp l (i + 1))) := by
            have h1 := (World.ownsRow.stored HO.out i (.int .u8 (y : Int))).1
            have h2 := (World.ownsRow.stored h1 j (.int .u8 (x : Int))).1
            rw [ns_set, ns_set, ← hx, ← hy, ← hj] at h2
            have h3 := swp_step l i (by rw [HL.out]; exact hlt)
            rw [HL.out] at h3
            rw [h3] at h2
            rw [← hx, ← hy, ← hj]
            exact h2
          have HNx := Lib.hid hnx
          have HNb := Lib.hid ((HBl.out.setCell (p := ⟨g, i, none⟩) hbg (.int .u8 (y : Int))).setCell (p := ⟨g, j, none⟩) hbg (.int .u8 (x : Int)))
          have hji : (n : Int) - 1 - (i : Int) = (j : Int) := by omega
          have hjn2 : (j : Int) < (n : Int) := by omega
          have hin : (i : Int) < (n : Int) := by omega
          have hlt2 : (i : Int) < (n : Int) / 2 := by omega
          clear hx hy hj hnx hlen
          go_wp2_with fail
          exact ⟨⟨i + 1, by omega, by simp, by simpa using hgl, Lib.hid ⟨HNx.out, HNb.out⟩⟩, by simp [intOf]; omega⟩
        · obtain rfl : i = n / 2 := by omega
          have hlr : (l.reverse).length = n := by rw [List.length_reverse, HL.out]
          have hown3 : wr.ownsRow w.heap.size 5 1 (.slice (some ⟨g, 0, none⟩) n c) n (ns (l.reverse)) := by
            have := HO.out
            have e := swp_end l
            rw [HL.out] at e
            rw [e] at this
            exact this
          have hcv := conv_bytes (w := wr) (some ⟨g, 0, none⟩) (l.reverse) c (Rd.of_own hown3)
          rw [hlr] at hcv
          have hd : l.reverse = dgs u := by unfold dgs; rw [HDl.out]
          rw [hd] at hcv
          have hlt2 : ¬ ((n / 2 : Nat) : Int) < (n : Int) / 2 := by omega
          clear hd hown3 hlr
          go_wp2_with fail
          go_ret
          exact ⟨rfl, HBl.out⟩

/-- the text of a whole number -/
def wtx (n : Int) : List Nat := if n < 0 then 45 :: dgs n.natAbs else dgs n.natAbs
def WtPost (n : Int) (w : World) (e : Ending) (w' : World) : Prop := e = .returned (.string (strN (wtx n))) ∧ Below w.heap.size w w'
theorem strN_app (a b : List Nat) : strN a ++ strN b = strN (a ++ b) := by
  apply ByteArray.ext
  apply Array.toList_inj.1
  simp [strN]
set_option maxHeartbeats 1000000 in
theorem wholeText_any (n : Int) (w : World) (h1 : -9223372036854775808 ≤ n) (h2 : n ≤ 9223372036854775807) :
    Calls Try.prog 19 #[.int .i64 n] w (WtPost n w) := by
  by_cases h0 : n < 0
  · obtain ⟨m, hm⟩ : ∃ m : Nat, n = -(m : Int) := ⟨n.natAbs, by omega⟩
    subst hm
    have hm0 : 0 < m := by omega
    have hwr : IntKind.u64.wrap (-IntKind.u64.wrap (-(m : Int))) = (m : Int) := by rw [IntKind.wrap_u64, IntKind.wrap_u64]; omega
    have HWr := Lib.hid hwr
    have hw : strN [45] ++ strN (dgs m) = strN (wtx (-(m : Int))) := by
      rw [strN_app]
      unfold wtx
      rw [if_pos h0]
      congr 2
      rw [Int.natAbs_neg]
      rfl
    have h45 : strN [45] = ⟨#[45]⟩ := rfl
    rw [h45] at hw
    have HW := Lib.hid hw
    clear hw hwr h45 h0
    go_enter Try.func19, Try.ntmps19
    go_wp2_with fail
    rw [HWr.out]
    refine (digits_any m w (by omega)).mono ?_
    rintro e w2 ⟨rfl, hb⟩
    have HB := Lib.hid hb
    clear hb
    have hsz : (strN (dgs m)).size ≤ 20 := by
      rw [strN_size]
      unfold dgs
      rw [List.length_reverse]
      exact (dg_len 20 m (by omega) (by have : (10 : Nat) ^ 20 = 100000000000000000000 := by decide
                                        omega)).2
    generalize strN (dgs m) = sd at *
    go_wp2_with fail
    go_ret
    exact ⟨by rw [← HW.out]; rfl, HB.out⟩
  · obtain ⟨m, hm⟩ : ∃ m : Nat, n = (m : Int) := ⟨n.natAbs, by omega⟩
    subst hm
    have hw : wtx (m : Int) = dgs m := by unfold wtx; rw [if_neg h0]; rfl
    have HW := Lib.hid hw
    clear hw
    go_enter Try.func19, Try.ntmps19
    go_wp2_with fail
    refine (digits_any m w (by omega)).mono ?_
    rintro e w2 ⟨rfl, hb⟩
    have HB := Lib.hid hb
    clear hb
    rw [← HW.out]
    go_wp2_with fail
    go_ret
    exact ⟨rfl, HB.out⟩
end Go.Proofs.Ytlkeemphdocpoaa.big
