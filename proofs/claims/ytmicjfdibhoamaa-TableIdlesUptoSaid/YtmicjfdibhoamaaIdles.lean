/- The walk of TableIdles. -/
import Derived.Test.YtmicjfdibhoamaaIdles2
namespace Go.Proofs.Ytmicjfdibhoamaa.val
open Go.RowKit mem
attribute [local go_sem] run_store_float

set_option maxRecDepth 100000 in
set_option maxHeartbeats 20000000 in
theorem idles_any (es : List (C × O)) (tr : List C) (hes : szE es ≤ 1048576) (htr : tr.length ≤ 1048576) (hok : ∀ e ∈ es, e.1.ok) (hokt : ∀ c ∈ tr, c.ok) (A : Option Addr) (c : Nat) (A' : Option Addr) (c' : Nat) (hnil : A' = none → tr.length = 0) (w : World) (S : Nat → Prop)
    (hE : LAt 13 IsE w S es A) (hT : LAt 4 IsC w S tr A') (hB : Bel S w.heap.size) :
    Calls Try.prog 3 #[.slice A es.length c, .slice A' tr.length c'] w (TruePost w) := by
  have hl1 := szE_len es
  have HEs := Lib.hid hE
  have HTr := Lib.hid hT
  have HB := Lib.hid hB
  have HK := Lib.hid hok
  have HKt := Lib.hid hokt
  have HN := Lib.hid hnil
  obtain ⟨ii, hiv, hv0, hv1, hv2⟩ := info_parts infoI
  obtain ⟨ic, hic, hc0, hc1, hc2⟩ := info_parts infoC
  clear hE hT hB hok hokt hnil
  go_enter Try.func3, Try.ntmps3
  go_wp2_with fail
  refine (call_exact w kW).mono ?_
  rintro e w' ⟨rfl, rfl⟩
  go_wp2_with fail
  have g1 : ((w.alloc (.cells #[.string kW.p, .string kW.q, .string kW.f, .string kW.a] 25)).alloc (.cells #[.string kW.p, .string kW.q, .string kW.f, .string kW.a] 25)).heap[w.heap.size + 1]? = some (.cells #[.string kW.p, .string kW.q, .string kW.f, .string kW.a] 25) := by simpa using heap_alloc_new (w.alloc (.cells #[.string kW.p, .string kW.q, .string kW.f, .string kW.a] 25)) (.cells #[.string kW.p, .string kW.q, .string kW.f, .string kW.a] 25)
  have hb1 : Below w.heap.size w ((w.alloc (.cells #[.string kW.p, .string kW.q, .string kW.f, .string kW.a] 25)).alloc (.cells #[.string kW.p, .string kW.q, .string kW.f, .string kW.a] 25)) := ((Below.refl _ _).alloc (Nat.le_refl _) _).alloc (by simp) _
  have hs1 : w.heap.size + 2 ≤ ((w.alloc (.cells #[.string kW.p, .string kW.q, .string kW.f, .string kW.a] 25)).alloc (.cells #[.string kW.p, .string kW.q, .string kW.f, .string kW.a] 25)).heap.size := by simp
  generalize ((w.alloc (.cells #[.string kW.p, .string kW.q, .string kW.f, .string kW.a] 25)).alloc (.cells #[.string kW.p, .string kW.q, .string kW.f, .string kW.a] 25)) = w1 at *
  have m0 := True.intro
  have m1 := True.intro
  have m2 := True.intro
  have m3 := True.intro
  have G1 := Lib.hid g1
  clear g1
  clear m0 m1 m2 m3
  have g5 : w1.heap[w.heap.size + 1]? = some (.cells #[.string kW.p, .string kW.q, .string kW.f, .string kW.a] 25) := G1.out
  refine idles2 _ _ _ _ _ _ _ _ _ _ _ _ _ _ _ _ _ _ _ _ _ _ _ _ _ _ _ _ _ _ _ _ _ _ _ _ _ _ _ _ _ _ _ _ _ _ _ _ _ _ _ _ _ _ _ _ _ _ _ _ _ _ (w.heap.size + 1) w1 g5 ?_
  intro v11 v12 v13 v14 v15 v16 v17 v18 v19 v20 v21 v22 w2 hb2
  have hs2 := hb2.size
  have hb02 : Below w.heap.size w w2 := hb1.trans (hb2.mono (by omega))
  clear g5 G1
  go_wp2_with fail
  refine (wide_any es hes A c w2 S (HEs.out.below recE HB.out hb02) (HB.out.mono (by omega))).mono ?_
  rintro e w3 ⟨rfl, hb3⟩
  have hs3 := hb3.size
  have hb03 : Below w.heap.size w w3 := hb02.trans (hb3.mono (by omega))
  cases hw : wideN es 0 with
  | true =>
    clear hw
    go_wp2_with fail
    go_ret
    exact ⟨rfl, hb03⟩
  | false =>
    clear hw
    go_wp2_with fail
    refine (copyEntries_own es hes A c w3 S (HEs.out.below recE HB.out hb03) (HB.out.mono (by omega))).mono ?_
    rintro e w4 ⟨A4, c4, rfl, hO4, hb4⟩
    have hs4 := hb4.size
    have hb04 : Below w.heap.size w w4 := hb03.trans (hb4.mono (by omega))
    have HO4 := Lib.hid hO4
    obtain ⟨css, hElT, hRdT⟩ := (HTr.out.below recC HB.out hb04).cells recC (HB.out.mono (show w.heap.size ≤ w4.heap.size by omega))
    have HEl := Lib.hid hElT
    have HRd := Lib.hid hRdT
    have hlen := Lib.hid (elems_flat recC hElT)
    have hone := Lib.hid (elems_one recC hElT)
    have hbe : Below w4.heap.size w4 (w4.alloc (.cells #[] 25)) := (Below.refl _ _).alloc (Nat.le_refl _) _
    clear hO4 hElT hRdT
    go_wp2_with (at_builtin; go_must (refine wpList_app _ rfl (.tmp 28) (.tmp 29) _ rfl w4.heap.size 25 ic _ 4 64 Try.underlying23 hic hc0 hc1 hc2 rfl (by omega) (.slice (some ⟨w4.heap.size, 0, none⟩) 0 0) 0 [] rfl (own_empty_at (heap_alloc_new w4 _) (Nat.le_refl _)) w4.heap.size A' tr.length c' css.flatten rfl hlen.out (HRd.out.below hbe) HN.out hone.out (by unfold maxLen; omega) (by omega) (by simp) ?_); intro v5 w5 hown5 hgrow5 hat5; obtain ⟨A5, c5, rfl, _⟩ := own_form hown5)
    have hs5 := hgrow5.size
    simp only [World.size_alloc] at hs5
    have hb45 : Below w4.heap.size w4 w5 := hbe.grown hgrow5 (by simp) (fun k hk => by simp [Value.ownBlock] at hk; omega)
    have hb05 : Below w.heap.size w w5 := hb04.trans (hb45.mono (by omega))
    simp only [Nat.zero_add, List.nil_append] at hown5
    have hL5 : LAt 4 IsC w5 (fun b => True ∧ b < w5.heap.size) tr A5 := by
      have e5 : Elems IsC w5 (fun _ => True) tr css := HEl.out.keep recC (fun p hp => hb45.cell (Nat.lt_of_lt_of_le (HB.out _ hp) (show w.heap.size ≤ w4.heap.size by omega))) (fun _ _ => trivial)
      exact lat_more recC (LAt.of_own recC (S := fun _ => False) (n := tr.length) (c := c5) hown5 ⟨HEl.out.1, fun j y ds h1 h2 => HEl.out.2 j y ds h1 h2⟩) (fun b hb => ⟨trivial, by rcases hb with hb | hb; exact hb.elim; exact hb.2⟩)
    obtain ⟨A4', c4', ee, _, hL4⟩ := (HO4.out.below recE hb45).lat recE
    injection ee with ee1 _ ee2
    subst ee1 ee2
    have HRI := Lib.hid (refIdle_any es tr hes htr A4 c4 A5 c5 w5 (fun b => b < w5.heap.size) (lat_more recE hL4 (fun b hb => hb.2)) (lat_more recC hL5 (fun b hb => hb.2)) (fun b hb => hb))
    clear hown5 hgrow5 hat5 hL5 hL4 HEl HRd hlen hone hbe HO4
    go_wp2_with fail
    refine HRI.out.mono ?_
    rintro e w6 ⟨v6, rfl, hO6, hb6⟩
    obtain ⟨A6, c6, rfl, _⟩ := own_form hO6
    have hs6 := hb6.size
    have hb06 : Below w.heap.size w w6 := hb05.trans (hb6.mono (by omega))
    have HO6 := Lib.hid hO6
    obtain ⟨I, HIe⟩ : ∃ I, Hid (idl es tr es.length = I) := ⟨_, Lib.hid rfl⟩
    have hIl : I.length ≤ es.length := by have := idl_le es tr es.length; rw [HIe.out] at this; exact this
    rw [HIe.out] at HO6
    rw [HIe.out]
    clear hO6 HRI
    have HQ := Lib.hid (fun (W : World) (hW : Below w6.heap.size w6 W) => idle_any es tr hes htr HK.out HKt.out A c A' c' W S (HEs.out.below recE HB.out (hb06.trans (hW.mono (by omega)))) (HTr.out.below recC HB.out (hb06.trans (hW.mono (by omega)))) (HB.out.mono (by have := hW.size; omega)))
    rw [HIe.out] at HQ
    go_wp2_with fail
    refine (HQ.out w6 (Below.refl _ _)).mono ?_
    rintro e w7 ⟨v7, rfl, hO7, hb7⟩
    obtain ⟨A7, c7, rfl, _⟩ := own_form hO7
    have hs7 := hb7.size
    have HO7 := Lib.hid hO7
    clear hO7
    go_wp2_with fail
    refine (sameInts_refl I (by omega) A7 A6 c7 c6 w7.heap.size w6.heap.size w7 (Rd.of_own HO7.out) ((Rd.of_own HO6.out).below hb7) (Nat.le_refl _) hs7).mono ?_
    rintro e w8 ⟨rfl, hb8⟩
    have hs8 := hb8.size
    have hb68 : Below w6.heap.size w6 w8 := hb7.trans (hb8.mono hs7)
    have HO8 := Lib.hid (own_below HO7.out hb8)
    clear HO7
    go_wp2_with fail
    go_loopw [41] (fun vi W => ∃ (q : Nat) (xs : List Value), q ≤ I.length ∧ vi = .int .i64 (q : Int) ∧ Hid (W.ownsRow w6.heap.size 3 1 (.slice A7 I.length c7) I.length xs) ∧ Below w6.heap.size w6 W) (fun i _ => I.length - (intOf i).toNat)
    case atStart => exact ⟨0, _, Nat.zero_le _, rfl, HO8, hb68⟩
    case round =>
      obtain ⟨q, xs, hq, rfl, HO, hb⟩ := hrel
      clear HO8
      have hszr := hb.size
      by_cases hlt : q < I.length
      · obtain ⟨bf, cf', cur, hef, hbf1, hbf2, _⟩ := own_block HO.out (by omega)
        injection hef with hef1 hef2 hef3
        subst hef1 hef3
        have hcell := HO.out.cellAt q (by omega)
        have hfz := HO.out.frozenAt q
        obtain ⟨hst, hgs⟩ := HO.out.stored q (.int .i64 (-7))
        have HSt := Lib.hid hst
        have hxq : xs[q]? = some (xs[q]'(by rw [HO.out.1]; omega)) := List.getElem?_eq_getElem _
        rw [hxq] at hcell
        have hbn := hb.setCell (p := ⟨bf, q, none⟩) hbf1 (.int .i64 (-7))
        clear hst hgs hxq
        go_wp2_with fail
        go_roundw
        case rel => exact ⟨q + 1, _, by omega, by go_num, HSt, hbn⟩
        case measure => simp [intOf]; omega
      · obtain rfl : q = I.length := by omega
        have HO9 := Lib.hid HO.out
        have hb9 := hb
        clear HO hb
        obtain ⟨w9, rfl⟩ : ∃ w9 : World, w9 = wr := ⟨_, rfl⟩
        go_wp2_with fail
        go_loopw [7, 9] (fun v7 vi W => ∃ (q n : Nat) (vv : Value) (xs : List Value), q ≤ 70 ∧ n ≤ I.length + q ∧ vi = .int .i64 (q : Int) ∧ vv = v7 ∧ Hid (W.ownsRow w6.heap.size 3 1 vv n xs) ∧ Below w6.heap.size w6 W) (fun _ i _ => 70 - (intOf i).toNat)
        case atStart => exact ⟨0, I.length, _, _, by omega, by omega, rfl, rfl, HO9, hb9⟩
        case round =>
          obtain ⟨q, n, vv, xs, hq, hn, rfl, rfl, HO, hb⟩ := hrel
          clear HO9
          have hszr := hb.size
          by_cases hlt : q < 70
          · go_wp2_with (at_builtin; go_must (refine wpList_app _ rfl (.tmp 52) (.tmp 53) _ rfl w6.heap.size 3 ii _ 1 8 Try.underlying28 hiv hv0 hv1 hv2 rfl (by omega) vv n xs rfl (HO.out.alloc _) (wr.heap.size + 1) (some ⟨wr.heap.size, 0, none⟩) 1 1 [.int .i64 (-9)] rfl rfl (Rd.new wr [.int .i64 (-9)] 3) (fun h => by cases h) (by simp; rfl) (by unfold maxLen; omega) (by omega) (by simp; omega) ?_); intro v5' w5' hown5 hgrow5 hat5)
            have HOn := Lib.hid hown5
            have hbn := below_app1 hb HO.out (Nat.le_refl _) hszr hgrow5
            clear hown5 hgrow5 hat5
            go_wp2_with fail
            go_roundw
            case rel => exact ⟨q + 1, n + 1, _, _, by omega, by omega, by go_num, rfl, HOn, hbn⟩
            case measure => simp [intOf]; omega
          · obtain rfl : q = 70 := by omega
            go_wp2_with fail
            refine (HQ.out wr hb).mono ?_
            rintro e w10 ⟨v10, rfl, hO10, hb10⟩
            obtain ⟨A10, c10, rfl, _⟩ := own_form hO10
            have HO10 := Lib.hid hO10
            have hb610 : Below w6.heap.size w6 w10 := hb.trans (hb10.mono hszr)
            have hs10 := hb10.size
            clear hO10
            go_wp2_with fail
            refine (sameInts_refl I (by omega) A10 A6 c10 c6 w10.heap.size w6.heap.size w10 (Rd.of_own HO10.out) ((Rd.of_own HO6.out).below hb610) (Nat.le_refl _) (by omega)).mono ?_
            rintro e w11 ⟨rfl, hb11⟩
            have hbe : Below w.heap.size w w11 := (hb06.trans (hb610.mono (by omega))).trans (hb11.mono (by omega))
            go_wp2_with fail
            go_ret
            exact ⟨rfl, hbe⟩
end Go.Proofs.Ytmicjfdibhoamaa.val
