/- NumberWholes: the walk. -/
import Derived.Test.YtlkeemphdocpoaaOw
import Derived.IntWalk
import Derived.Deep.RegionWith
namespace Go.Proofs.Ytlkeemphdocpoaa.big
open Go.RowKit mem fl
set_option linter.unusedVariables false

theorem V4 : V 4616189618054758400 = 4 * 2 ^ 1074 := by
  have h := V_at 1024 4503599627370496 (by omega) (by omega)
  have e : 1024 * 4503599627370496 + 4503599627370496 = 4616189618054758400 := by decide
  rw [e] at h
  rewrite [h, show (4503599627370496 : Nat) = 2 ^ 52 by decide, show (4 : Nat) = 2 ^ 2 by decide]
  exact p2mul 52 1024 2 1074 (by omega)
theorem V5 : V 4617315517961601024 = 5 * 2 ^ 1074 := by
  have h := V_at 1024 5629499534213120 (by omega) (by omega)
  have e : 1024 * 4503599627370496 + 5629499534213120 = 4617315517961601024 := by decide
  rw [e] at h
  rewrite [h, show (5629499534213120 : Nat) = 5 * 2 ^ 50 by decide]
  exact p2mulc 5 50 1024 1074 (by omega)
theorem whole4 : wholeOf true 4616189618054758400 = some (-4) := by
  exact (wo_mul (neg := true) (by omega) V4).trans rfl
theorem whole5 : wholeOf false 4617315517961601024 = some 5 := by
  exact (wo_mul (neg := false) (by omega) V5).trans rfl
theorem start4 (w : World) : Calls Try.prog 4 #[.float .f64 13839561654909534208] w fun e w' => e = .returned (.tuple #[.int .i64 (-4), .bool true]) ∧ w = w' := by
  have h := whole_any true 4616189618054758400 w (by omega)
  refine h.mono ?_
  rintro e w' ⟨n, ok, rfl, h1, h2, rfl⟩
  cases ok
  · have := (h2 rfl).2
    rw [whole4] at this
    cases this
  · have := h1 rfl
    rw [whole4] at this
    injection this with this
    subst this
    exact ⟨rfl, rfl⟩
theorem start5 (w : World) : Calls Try.prog 5 #[.int .i64 5] w fun e w' => e = .returned (.tuple #[.float .f64 4617315517961601024, .bool true]) ∧ w = w' := by
  refine (ofWhole_any 5 w).mono ?_
  rintro e w' ⟨r, rfl, hn, rfl⟩
  have e5 : (5 : Int).natAbs = 5 := rfl
  rw [e5] at hn
  have hr : r = 4617315517961601024 := hn.unique (near_exact (r := 4617315517961601024) V5 (by omega)) (by decide)
  subst hr
  have e1 : decide ((5 : Int) < 0) = false := by decide
  rw [e1, whole5]
  exact ⟨rfl, rfl⟩

/-- what comes in: bits, whole numbers -/
def u64s (l : List Nat) : List Value := l.map fun x : Nat => .int .u64 (x : Int)
def i64s (l : List Int) : List Value := l.map (.int .i64)
theorem u64s_get {l : List Nat} {k : Nat} (h : k < l.length) : (u64s l)[k]? = some (.int .u64 (l.getD k 0 : Int)) := by
  unfold u64s
  rw [List.getElem?_map, List.getElem?_eq_getElem h, List.getD_eq_getElem?_getD, List.getElem?_eq_getElem h]
  rfl
theorem i64s_get {l : List Int} {k : Nat} (h : k < l.length) : (i64s l)[k]? = some (.int .i64 (l.getD k 0)) := by
  unfold i64s
  rw [List.getElem?_map, List.getElem?_eq_getElem h, List.getD_eq_getElem?_getD, List.getElem?_eq_getElem h]
  rfl
theorem u64_parts (x : Nat) (h : x < 18446744073709551616) : ∃ a s, x = a + sgn s ∧ a < 9223372036854775808 := by
  by_cases hx : x < 9223372036854775808
  · exact ⟨x, false, rfl, hx⟩
  · exact ⟨x - 9223372036854775808, true, by unfold sgn; rw [if_pos rfl]; omega, by omega⟩
def NwPost (w : World) (e : Ending) (w' : World) : Prop := e = .returned (.bool true) ∧ Below w.heap.size w w'
theorem wrap_i64 {x : Int} (h1 : -9223372036854775808 ≤ x) (h2 : x ≤ 9223372036854775807) : IntKind.i64.wrap x = x := by rw [IntKind.wrap_i64]; omega

set_option maxRecDepth 100000 in
set_option maxHeartbeats 8000000 in
theorem numberWholes_any (A A' : Option Addr) (c c' n n' : Nat) (l : List Nat) (l' : List Int) (w : World) (hr : Rd w w.heap.size A (u64s l)) (hr' : Rd w w.heap.size A' (i64s l')) (hl : l.length = n) (hl' : l'.length = n')
    (hb : ∀ k, k < n → l.getD k 0 < 18446744073709551616) (hb' : ∀ k, k < n' → -9223372036854775808 ≤ l'.getD k 0 ∧ l'.getD k 0 ≤ 9223372036854775807) (hn : n ≤ 4611686018427387904) (hn' : n' ≤ 4611686018427387904) :
    Calls Try.prog 3 #[.slice A n c, .slice A' n' c'] w (NwPost w) := by
  have hbits := run_f64bits
  have hfrom := run_f64from
  have HR := Lib.hid hr
  have HR' := Lib.hid hr'
  have HL := Lib.hid hl
  have HL' := Lib.hid hl'
  have HB := Lib.hid hb
  have HB' := Lib.hid hb'
  clear hr hr' hl hl' hb hb'
  have hfit : fits (-2147483648) = true := by decide
  have hsm : sameB false 4602678819172646912 false 4602678819172646912 = true := by decide
  have hord : FloatKind.f64.format.order 4617315517961601024 4617315517961601024 = some .eq := order_self false 4617315517961601024 (by omega)
  have HFit := Lib.hid hfit
  have HSm := Lib.hid hsm
  have HN := Lib.hid hn
  have HN' := Lib.hid hn'
  clear hfit hsm hn hn'
  go_enter Try.func3, Try.ntmps3
  go_wp2_with fail
  refine (start4 w).mono ?_
  rintro e w' ⟨rfl, rfl⟩
  go_wp2_with fail
  refine (start5 w).mono ?_
  rintro e w' ⟨rfl, rfl⟩
  go_wp2_with fail
  refine (fits_any (-2147483648) w).mono ?_
  rintro e w' ⟨rfl, rfl⟩
  rw [HFit.out]
  go_wp2_with fail
  refine (same_any false false 4602678819172646912 4602678819172646912 w (by omega) (by omega)).mono ?_
  rintro e w' ⟨rfl, rfl⟩
  rw [HSm.out]
  go_wp2_with fail
  go_loopw [9] (fun v9 wr => ∃ i : Nat, i ≤ n ∧ v9 = .int .i64 (i : Int) ∧ Hid (Below w.heap.size w wr)) (fun v9 _ => n - (intOf v9).toNat)
  case atStart => exact ⟨0, Nat.zero_le _, rfl, Lib.hid (Below.refl _ _)⟩
  case round =>
    obtain ⟨i, hi, rfl, hbl⟩ := hrel
    have HBl := Lib.hid hbl.out
    clear hbl
    by_cases hlt : i < n
    · obtain ⟨j, hj⟩ : ∃ j, (i + 1) % n = j := ⟨_, rfl⟩
      have hjn : j < n := by rw [← hj]; exact Nat.mod_lt _ (by omega)
      obtain ⟨ad, rfl, hab, hc1⟩ := HR.out i _ (u64s_get (by rw [HL.out]; exact hlt))
      obtain ⟨ad2, had2, hab2, hc2⟩ := HR.out j _ (u64s_get (by rw [HL.out]; exact hjn))
      injection had2 with had2
      subst had2
      have hx := HB.out i hlt
      have hy := HB.out j hjn
      obtain ⟨x, hxx⟩ : ∃ x, l.getD i 0 = x := ⟨_, rfl⟩
      obtain ⟨y, hyy⟩ : ∃ y, l.getD j 0 = y := ⟨_, rfl⟩
      have hij : (i = j) → x = y := fun h => by rw [← hxx, ← hyy, h]
      rw [hxx] at hx hc1
      rw [hyy] at hy hc2
      clear hxx hyy hij
      have hc1' := (HBl.out.cell (p := ad.add i) (by rw [add_block]; exact hab)).trans hc1
      have hc2' := (HBl.out.cell (p := ad.add j) (by rw [add_block]; exact hab2)).trans hc2
      clear hc1 hc2
      obtain ⟨i1, hi1⟩ : ∃ i1, i + 1 = i1 := ⟨_, rfl⟩
      rw [hi1] at hj
      have hi1n : i1 ≤ n := by omega
      have hn4 := HN.out
      have hw1 : IntKind.i64.wrap ((i : Int) + 1) = (i1 : Int) := by rw [wrap_i64 (by omega) (by omega)]; omega
      have hw2 : ((i1 : Int)).tmod (n : Int) = (j : Int) := by rw [← hj]; rfl
      have hw3 : IntKind.i64.wrap (j : Int) = (j : Int) := wrap_i64 (by omega) (by omega)
      have hjlt : (j : Int) < (n : Int) := by omega
      have hilt : (i : Int) < (n : Int) := by omega
      have hn0 : ((n : Int) == 0) = false := by simp; omega
      have hn00 : ¬ (n : Int) = 0 := by omega
      clear hj hi1n hn4
      have HX := Lib.hid hx
      have HY := Lib.hid hy
      have HI1 := Lib.hid hi1
      clear hx hy hi1
      obtain ⟨xa, xs, hxe, hxa⟩ := u64_parts x HX.out
      obtain ⟨ya, ys, hye, hya⟩ := u64_parts y HY.out
      have HXe := Lib.hid hxe
      have HYe := Lib.hid hye
      have HXa := Lib.hid hxa
      have HYa := Lib.hid hya
      clear hxe hye hxa hya
      go_wp2_with fail
      go_quiet (fail)
      clear hw1 hw2 hw3
      have HBl2 := Lib.hid (Below.drewN HBl.out nq)
      generalize wr.drewN nq = w1 at *
      clear hc1' hc2' HBl
      go_wp2_with fail
      have hwh := whole_any xs xa w1 HXa.out
      rw [← HXe.out] at hwh
      refine hwh.mono ?_
      clear hwh
      rintro e w' ⟨k, ok, rfl, g1, g2, rfl⟩
      have hwb := wholeBits_any xs xa w1 HXa.out
      rw [← HXe.out] at hwb
      have HWb := Lib.hid hwb
      clear hwb
      have hall : ∀ k2 ok2, (ok2 = true → wholeOf xs xa = some k2) → (ok2 = false → wholeOf xs xa = none) → ok = ok2 ∧ (ok = true → k = k2) ∧ (ok = false → k = 0) := by
        intro k2 ok2 h3 h4
        cases ok
        · obtain ⟨h5, h6⟩ := g2 rfl
          cases ok2
          · exact ⟨rfl, by simp, fun _ => h5⟩
          · rw [h3 rfl] at h6; cases h6
        · have h6 := g1 rfl
          cases ok2
          · rw [h4 rfl] at h6; cases h6
          · rw [h3 rfl] at h6; injection h6 with h6; exact ⟨rfl, fun _ => h6.symm, by simp⟩
      have HAll := Lib.hid hall
      clear hall g1 g2
      go_wp2_with fail
      refine HWb.out.mono ?_
      rintro e w' ⟨k2, ok2, rfl, g3, g4, rfl⟩
      obtain ⟨hok, hk1, hk2⟩ := HAll.out k2 ok2 g3 g4
      subst hok
      have HSa := Lib.hid (same_any xs ys xa ya w1 HXa.out HYa.out)
      have HSb := Lib.hid (sameBits_any xs ys xa ya w1 HXa.out HYa.out)
      have HSc := Lib.hid (same_any xs xs xa xa w1 HXa.out HXa.out)
      have hself : sameB xs xa xs xa = true := by unfold sameB; simp
      unfold SmPost at HSa HSc
      unfold SbPost at HSb
      rw [← HXe.out, ← HYe.out] at HSa HSb
      rw [← HXe.out, hself] at HSc
      generalize sameB xs xa ys ya = q at *
      clear g3 g4 HAll HWb hself
      have hend : ∃ i9 : Nat, i9 = i := ⟨i, rfl⟩
      clear hend
      have hnn := HN.out
      have hib : (i : Int) ≤ 4611686018427387904 := by omega
      clear hnn
      cases ok
      · have hk0 := hk2 rfl
        subst hk0
        clear hk1 hk2
        go_wp2_with fail
        refine HSa.out.mono ?_
        rintro e w' ⟨rfl, rfl⟩
        go_wp2_with fail
        refine HSb.out.mono ?_
        rintro e w' ⟨rfl, rfl⟩
        cases q
        all_goals
          go_wp2_with fail
          refine HSc.out.mono ?_
          rintro e w' ⟨rfl, rfl⟩
          go_wp2_with fail
          exact ⟨⟨i + 1, by omega, by simp, HBl2⟩, by simp [intOf]; omega⟩
      · have hk0 := hk1 rfl
        subst hk0
        clear hk1 hk2
        go_wp2_with fail
        refine HSa.out.mono ?_
        rintro e w' ⟨rfl, rfl⟩
        go_wp2_with fail
        refine HSb.out.mono ?_
        rintro e w' ⟨rfl, rfl⟩
        cases q
        all_goals
          go_wp2_with fail
          refine HSc.out.mono ?_
          rintro e w' ⟨rfl, rfl⟩
          go_wp2_with fail
          exact ⟨⟨i + 1, by omega, by simp, HBl2⟩, by simp [intOf]; omega⟩
    · clear HR HB
      go_wp2_with fail
      go_loopw [16] (fun v16 wr => ∃ i : Nat, i ≤ n' ∧ v16 = .int .i64 (i : Int) ∧ Hid (Below w.heap.size w wr)) (fun v16 _ => n' - (intOf v16).toNat)
      case atStart => exact ⟨0, Nat.zero_le _, rfl, HBl⟩
      case round =>
        clear HBl hi hlt
        obtain ⟨m, hm, rfl, hbl⟩ := hrel
        have HBl := Lib.hid hbl.out
        clear hbl
        by_cases hlt : m < n'
        · obtain ⟨ad, rfl, hab, hc1⟩ := HR'.out m _ (i64s_get (by rw [HL'.out]; exact hlt))
          obtain ⟨hx1, hx2⟩ := HB'.out m hlt
          obtain ⟨x, hxx⟩ : ∃ x, l'.getD m 0 = x := ⟨_, rfl⟩
          rw [hxx] at hx1 hx2 hc1
          have hc1' := (HBl.out.cell (p := ad.add m) (by rw [add_block]; exact hab)).trans hc1
          have HC := Lib.hid hc1
          have HAb := Lib.hid hab
          clear hxx hc1 hab
          have hnn := HN'.out
          have hib : (m : Int) ≤ 4611686018427387904 := by omega
          clear hnn
          have hmlt : (m : Int) < (n' : Int) := by omega
          have HX1 := Lib.hid hx1
          have HX2 := Lib.hid hx2
          clear hx1 hx2
          go_wp2_with fail
          refine (ofWhole_any x _).mono ?_
          rintro e w' ⟨r, rfl, hn1, rfl⟩
          go_wp2_with fail
          refine (ofWholeBits_any x _ HX1.out HX2.out).mono ?_
          rintro e w2 ⟨r2, rfl, hn2, hb2⟩
          have hrr : r2 = r := hn2.unique hn1 (by decide)
          subst hrr
          have HBl2 := Lib.hid (HBl.out.trans (hb2.mono HBl.out.size))
          clear hn1 hn2 hb2
          have hc2 := (HBl2.out.cell (p := ad.add m) (by rw [add_block]; exact HAb.out)).trans HC.out
          clear hc1'
          generalize decide (wholeOf (decide (x < 0)) r2 = some x) = ok at *
          generalize r2 + sgn (decide (x < 0)) = y at *
          have HFa : Hid (∀ w, Calls Try.prog 6 #[.int .i64 x] w fun e w' => e = .returned (.bool (fits x)) ∧ w' = w) := Lib.hid (fun w => (fits_any x w).mono fun e w' h => ⟨h.1, h.2.symm⟩)
          have HFb : Hid (∀ w, Calls Try.prog 13 #[.int .i64 x] w fun e w' => e = .returned (.bool (fits x)) ∧ w' = w) := Lib.hid (fun w => (refFits_any x w).mono fun e w' h => ⟨h.1, h.2.symm⟩)
          generalize fits x = ft at *
          clear HBl
          cases ok
          all_goals
            go_wp2_with fail
            go_big_quiet (first | (go_at_call_of 6 x; refine Calls.quiet_of_same (HFa.out _)) | (go_at_call_of 13 x; refine Calls.quiet_of_same (HFb.out _)))
            go_wp2_with fail
            exact ⟨⟨m + 1, by omega, by simp, Lib.hid (Below.drewN HBl2.out nq)⟩, by simp [intOf]; omega⟩
        · go_wp2_with fail
          go_ret
          exact ⟨rfl, HBl.out⟩
end Go.Proofs.Ytlkeemphdocpoaa.big
