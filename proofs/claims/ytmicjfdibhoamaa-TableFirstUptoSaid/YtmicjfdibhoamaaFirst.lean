/- The walk of TableFirst. -/
import Derived.Test.YtmicjfdibhoamaaFirst7
import Derived.Test.YtmicjfdibhoamaaFirst3
namespace Go.Proofs.Ytmicjfdibhoamaa.val
open Go.RowKit mem
attribute [local go_sem] run_store_float

set_option maxRecDepth 100000 in
set_option maxHeartbeats 40000000 in
theorem first_any (es : List (C × O)) (e0 : C × O) (hsz : szE es + sz e0.2.v ≤ 1048576) (hok : ∀ e ∈ es, e.1.ok) (hok0 : e0.1.ok) (A : Option Addr) (c : Nat) (hnil : A = none → es.length = 0) (cs : List Value) (w : World) (S : Nat → Prop) (hE : LAt 13 IsE w S es A) (hR : IsE w S e0 cs) (hB : Bel S w.heap.size) :
    Calls Try.prog 4 #[.slice A es.length c, .agg cs.toArray] w (TruePost w) := by
  have hl1 := szE_len es
  have HEs := Lib.hid hE
  have HB := Lib.hid hB
  have HK := Lib.hid hok
  have HN := Lib.hid hnil
  obtain ⟨iv, hiv, hv0, hv1, hv2⟩ := info_parts infoE
  obtain ⟨⟨x1, x2, x3, x4⟩, xf, v⟩ := e0
  have HR := Lib.hid hR
  obtain ⟨ds, rfl, hv⟩ := hR
  simp only at hok0 hsz
  obtain ⟨k2, b2, i2, f2, t2, y2, is2, fs2⟩ := v
  simp only [IsV] at hv
  obtain ⟨A2, c2, A2', c2', rfl, _⟩ := hv
  clear hE hB hok hnil
  go_enter Try.func4, Try.ntmps4
  go_wp2_with fail
  refine (works_any _).mono ?_
  rintro e w1 ⟨rfl, hb1⟩
  have gE := blk_below (heap_alloc_new w (.cells #[.string x1, .string x2, .string x3, .string x4, .bool xf, .int .i64 k2, .bool b2, .int .i64 i2, .float .f64 f2, .string t2, .string y2, .slice A2 is2.length c2, .slice A2' fs2.length c2'] 39)) hb1 (by simp)
  have hbw : Below w.heap.size w w1 := ((Below.refl _ _).alloc (Nat.le_refl _) _).trans (hb1.mono (by simp))
  have hs1 := hbw.size
  have glE := blk_lt gE
  obtain ⟨m0, m1, m2, m3, m4, m5, m6, m7, m8, m9, m10, m11, m12⟩ := blk13 gE
  have GE := Lib.hid gE
  clear gE hb1
  go_wp2_with fail
  obtain ⟨css0, hEl0, hRd0⟩ := (HEs.out.below recE HB.out hbw).cells recE (HB.out.mono hs1)
  have EL := Lib.hid hEl0
  have RD := Lib.hid hRd0
  have hlen := Lib.hid (elems_flat recE hEl0)
  have hone := Lib.hid (elems_one recE hEl0)
  have HR1 := Lib.hid (recE.keep (fun p hp => hbw.cell (HB.out _ hp)) (fun _ h => h) HR.out)
  clear hEl0 hRd0
  refine first3 _ _ _ _ _ _ _ _ _ _ _ _ _ _ _ _ _ _ _ _ _ _ _ _ _ _ _ _ _ _ _ _ _ _ _ _ _ _ _ _ _ _ _ _ _ _ _ _ _ _ _ _ _ _ _ _ _ _ _ _ _ _ _ _ _ _ _ _ _ _ _ _ _ _ _ _ _ _ _ _ _ _ _ _ _ _ _ _ _ _ _ _ _ _ _ _ _ _ _ _ _ _ _ _ _ _ _ _ _ _ _ _ _ _ _ _ _ _ _ _ _ _ _ _ _ _ _ _ _ _ _ _ _ _ _ _ _ _ _ _ _ _ _ _ _ _ _ _ _ _ _ _ _ _ _ _ _ _ _ _ _ _ _ _ _ _ _ _ _ _ _ _ _ _ _ _ _ _ _ _ _ _ _ _ _ _ _ _ _ _ _ _ es A c w.heap.size w.heap.size w1 S css0 x1 x2 x3 x4 xf k2 b2 i2 f2 t2 y2 is2 fs2 A2 c2 A2' c2' hl1 (by simpa using hsz) HB hs1 HN EL RD hlen hone HR1 GE ?_
  intro v24 v25 v26 v27 v28 v29 w2 hb2
  clear m0 m1 m2 m3 m4 m5 m6 m7 m8 m9 m10 m11 m12 RD hlen hone EL
  have hs2 := hb2.size
  have hbw2 : Below w.heap.size w w2 := hbw.trans (hb2.mono hs1)
  cases hw : wideN (es ++ [(⟨x1, x2, x3, x4⟩, ⟨xf, .mk k2 b2 i2 f2 t2 y2 is2 fs2⟩)]) 0 with
  | true =>
    clear hw
    go_wp2_with fail
    go_ret
    exact ⟨rfl, hbw2⟩
  | false =>
    clear hw
    go_wp2_with fail
    refine (copyEntries_own es (by omega) A c _ S (HEs.out.below recE HB.out hbw2) (HB.out.mono (by omega))).mono ?_
    rintro e w3 ⟨A3, c3, rfl, hO3, hb3⟩
    go_wp2_with fail
    refine (tabNew_own es _ rfl (by omega) HK.out A3 c3 _ _ hO3).mono ?_
    rintro e w4 ⟨rfl, hT1, hb4⟩
    have hs3 := hb3.size
    have hs4 := hb4.size
    have hb14 : Below w1.heap.size w1 w4 := (hb2.trans (hb3.mono hs2)).trans (hb4.mono (by omega))
    have HT1 := Lib.hid hT1
    clear hT1 hO3 hb3 hb4
    generalize w3.heap.size = g1 at *
    obtain ⟨m0, m1, m2, m3, m4, m5, m6, m7, m8, m9, m10, m11, m12⟩ := blk13 (blk_below GE.out hb14 (by omega))
    go_wp2_with fail
    have hb4a : Below w4.heap.size w4 (w4.alloc (.cells #[.string x1, .string x2, .string x3, .string x4, .bool xf, .int .i64 k2, .bool b2, .int .i64 i2, .float .f64 f2, .string t2, .string y2, .slice A2 is2.length c2, .slice A2' fs2.length c2'] 39)) := (Below.refl _ _).alloc (Nat.le_refl _) _
    refine (copyOne w1 _ S (⟨x1, x2, x3, x4⟩, ⟨xf, .mk k2 b2 i2 f2 t2 y2 is2 fs2⟩) _ _ w4.heap.size (heap_alloc_new w4 (.cells #[.string x1, .string x2, .string x3, .string x4, .bool xf, .int .i64 k2, .bool b2, .int .i64 i2, .float .f64 f2, .string t2, .string y2, .slice A2 is2.length c2, .slice A2' fs2.length c2'] 39)) HR1.out (HB.out.mono hs1) (hb14.trans (hb4a.mono (by omega))) (by simp only; omega)).mono ?_
    rintro e w5 ⟨A5, c5, rfl, hO5, hb5⟩
    have hs5 := hb5.size
    simp only [World.size_alloc] at hO5 hs5 hb5
    have hb45 : Below w4.heap.size w4 w5 := hb4a.trans (hb5.mono (by omega))
    have HO5 := Lib.hid hO5
    clear hO5 hb5 hb4a m0 m1 m2 m3 m4 m5 m6 m7 m8 m9 m10 m11 m12
    go_wp2_with fail
    refine (copyEntries_own es (by omega) A c _ S (HEs.out.below recE HB.out (hbw.trans ((hb14.trans (hb45.mono (by omega))).mono hs1))) (HB.out.mono (by omega))).mono ?_
    rintro e w6 ⟨A6, c6, rfl, hO6, hb6⟩
    have hs6 := hb6.size
    obtain ⟨css5, css6, htw⟩ := OwnL.two recE (HO5.out.below recE hb6) hO6 hs5 (fun k hk => (HO5.out.lt k hk).2)
    have TW := Lib.hid htw
    have hb46 : Below w4.heap.size w4 w6 := hb45.trans (hb6.mono (by omega))
    clear htw HO5 hO6 hb45 hb6
    go_wp2_with (at_builtin; refine wpList_app _ rfl (.tmp 36) (.tmp 38) _ rfl (w4.heap.size + 1) 39 iv _ 13 184 Try.underlying22 hiv hv0 hv1 hv2 rfl (by omega) (.slice A5 1 c5) 1 css5.flatten rfl TW.out.1 w6.heap.size A6 es.length c6 css6.flatten rfl TW.out.2.2.1 TW.out.2.1 TW.out.2.2.2.1 TW.out.2.2.2.2.1 (by unfold maxLen; omega) (by omega) (by omega) ?_; intro v7 w7 hown7 hgrow7 hat7; obtain ⟨A7, c7, rfl, hO7⟩ := TW.out.2.2.2.2.2 v7 w7 hown7 hgrow7 hat7)
    have hs7 := hgrow7.size
    have hb47 : Below w4.heap.size w4 w7 := hb46.grown hgrow7 (by omega) (fun k hk => by have := (TW.out.1.lt k hk).1; omega)
    clear hgrow7 hat7 hown7 TW hb46
    have HK1 : Hid (∀ e ∈ (⟨x1, x2, x3, x4⟩, ⟨xf, .mk k2 b2 i2 f2 t2 y2 is2 fs2⟩) :: es, C.ok e.1) := Lib.hid (fun e he => by
      rcases List.mem_cons.1 he with rfl | he
      · exact hok0
      · exact HK.out e he)
    refine (tabNew_own ((⟨x1, x2, x3, x4⟩, ⟨xf, .mk k2 b2 i2 f2 t2 y2 is2 fs2⟩) :: es) _ (by simp; omega) (by simp only [szE]; omega) HK1.out A7 c7 _ _ hO7).mono ?_
    rintro e w8 ⟨rfl, hT8, hb8⟩
    have hs8 := hb8.size
    have hb48 : Below w4.heap.size w4 w8 := hb47.trans (hb8.mono (by omega))
    have T1 := Lib.hid (HT1.out.below hb48)
    have T2 := Lib.hid hT8
    have hb18 : Below w1.heap.size w1 w8 := hb14.trans (hb48.mono (by omega))
    clear HT1 hT8 hb8 hb47 hO7 hb48 hb14
    generalize w7.heap.size = g2 at *
    obtain ⟨m0, m1, m2, m3, m4, m5, m6, m7, m8, m9, m10, m11, m12⟩ := blk13 (blk_below GE.out hb18 (by omega))
    have HK2 : Hid (∀ e ∈ es ++ [(⟨x1, x2, x3, x4⟩, ⟨xf, .mk k2 b2 i2 f2 t2 y2 is2 fs2⟩)], C.ok e.1) := Lib.hid (fun e he => by
      rcases List.mem_append.1 he with he | he
      · exact HK.out e he
      · rcases List.mem_cons.1 he with rfl | he
        · exact hok0
        · cases he)
    have HC := Lib.hid (fun (W : World) (hW : Below w8.heap.size w8 W) => copyEntries_own es (by omega) A c W S (HEs.out.below recE HB.out (hbw.trans ((hb18.trans (hW.mono (by omega))).mono hs1))) (HB.out.mono (by have := hW.size; omega)))
    have HD := Lib.hid (fun (W : World) (g : Nat) (hW : Below w8.heap.size w8 W) (hg : W.heap[g]? = some (.cells #[.string x1, .string x2, .string x3, .string x4, .bool xf, .int .i64 k2, .bool b2, .int .i64 i2, .float .f64 f2, .string t2, .string y2, .slice A2 is2.length c2, .slice A2' fs2.length c2'] 39)) => copyOne w1 W S (⟨x1, x2, x3, x4⟩, ⟨xf, .mk k2 b2 i2 f2 t2 y2 is2 fs2⟩) _ _ g hg HR1.out (HB.out.mono hs1) (hb18.trans (hW.mono (by omega))) (by simp only; omega))
    go_wp2_with fail
    refine first7 _ _ _ _ _ _ _ _ _ _ _ _ _ _ _ _ _ _ _ _ _ _ _ _ _ _ _ _ _ _ _ _ _ _ _ _ _ _ _ _ _ _ _ _ _ _ _ _ _ _ _ _ _ _ _ _ _ _ _ _ _ _ _ _ _ _ _ _ _ _ _ _ _ _ _ _ _ _ _ _ _ _ _ _ _ _ _ _ _ _ _ _ _ _ _ _ _ _ _ _ _ _ _ _ _ _ _ _ _ _ _ _ _ _ _ _ _ _ _ _ _ _ _ _ _ _ _ _ _ _ _ _ _ _ _ _ _ _ _ _ _ _ _ _ _ _ _ _ _ _ _ _ _ _ _ _ _ _ _ _ _ _ _ _ _ _ _ _ _ _ _ _ _ _ _ _ _ _ _ _ _ _ _ _ _ _ _ _ _ _ _ es A c w.heap.size w8 x1 x2 x3 x4 xf k2 b2 i2 f2 t2 y2 is2 fs2 A2 c2 A2' c2' hl1 (by simpa using hsz) HK2 HC HD (Lib.hid (blk_below GE.out hb18 (by omega))) ?_
    intro v41 v42 v43 v44 v45 v46 v47 g3 w9 hT3 hb9
    have HT3 := Lib.hid hT3
    clear hT3
    have hs9 := hb9.size
    have T1' := Lib.hid (T1.out.below hb9)
    have T2' := Lib.hid (T2.out.below hb9)
    have hb19 : Below w1.heap.size w1 w9 := hb18.trans (hb9.mono (by omega))
    clear T1 T2 HC HD m0 m1 m2 m3 m4 m5 m6 m7 m8 m9 m10 m11 m12 hb18 hb9 HK1 HK2
    obtain ⟨m0, m1, m2, m3, m4, m5, m6, m7, m8, m9, m10, m11, m12⟩ := blk13 (blk_below GE.out hb19 (by omega))
    have gl9 : w.heap.size < w9.heap.size := by have := hb19.size; omega
    have HV9 := Lib.hid (isE_v HR1.out)
    have hBel1 := Lib.hid (HB.out.mono hs1)
    obtain ⟨oN, HoN⟩ : ∃ o : O, Hid (O.nrm ⟨xf, .mk k2 b2 i2 f2 t2 y2 is2 fs2⟩ = o) := ⟨_, rfl⟩
    have HsN := Lib.hid (show sz oN.v ≤ 1048576 by have := nrm_sz ⟨xf, .mk k2 b2 i2 f2 t2 y2 is2 fs2⟩; rw [HoN.out] at this; simp only at this; omega)
    go_upto_if 65 with (fail)
    go_cut [66] (fun _ wx => ∃ k b i f t y A n c A' n' c', Hid (OutAt wx S w9.heap.size oN k b i f t y A n c A' n' c') ∧ Below w9.heap.size w9 wx)
    case first =>
      cases xf
      · go_wp2_with fail
        go_meet
        case rel => exact ⟨k2, b2, i2, f2, t2, y2, A2, is2.length, c2, A2', fs2.length, c2', Lib.hid (by obtain rfl := HoN.out; exact ⟨heap_alloc_new w9 _, ⟨_, rfl, IsV.keep (fun p hp => ((hb19.alloc (by omega) _).cell (hBel1.out _ hp))) (fun _ h => h) _ _ HV9.out⟩⟩), (Below.refl _ _).alloc (Nat.le_refl _) _⟩
      · go_wp2_with fail
        go_meet
        case rel => exact ⟨0, false, 0, 0, ⟨#[]⟩, ⟨#[]⟩, none, 0, 0, none, 0, 0, Lib.hid (by obtain rfl := HoN.out; exact ⟨heap_alloc_new w9 _, out0 _ _⟩), (Below.refl _ _).alloc (Nat.le_refl _) _⟩
    case rest =>
      obtain ⟨k0, b0, i0, f0, t0, y0, A0, n0, c0, A0', n0', c0', HW0, hb10⟩ := hcut
      obtain ⟨w10, rfl⟩ : ∃ w10 : World, w10 = wc := ⟨_, rfl⟩
      clear m0 m1 m2 m3 m4 m5 m6 m7 m8 m9 m10 m11 m12
      have hs10 := hb10.size
      have glW := HW0.out.lt
      obtain ⟨m0, m1, m2, m3, m4, m5, m6, m7, m8, m9, m10, m11, m12⟩ := blk13 (blk_below GE.out (hb19.trans (hb10.mono (by have := hb19.size; omega))) (by omega))
      have gl10 : w.heap.size < w10.heap.size := by omega
      go_wp2_with fail
      clear m0 m1 m2 m3 m4 m5 m6 m7 m8 m9 m10 m11 m12
      refine (tabFind_es w9 _ g2 _ T2'.out hb10 ⟨x1, x2, x3, x4⟩ hok0 _ oN HoN (get_head _ _ _) (by simp only; omega)).mono ?_
      rintro e w11 ⟨hb11, k1, b1, i1, f1, t1, y1, A1, n1, c1, A1', n1', c1', rfl, hO1⟩
      have hs11 := hb11.size
      have gl11 : w9.heap.size < w11.heap.size := by omega
      have HW1 := Lib.hid (HW0.out.below (HB.out.mono (by omega)) glW hb11)
      have HO1 := Lib.hid (outAt_new hO1 (fun b hb => hb.2))
      obtain ⟨e0, e1, e2, e3, e4, e5, e6, e7, e8⟩ := HW1.out.cells
      have hb12 : Below w11.heap.size w11 (w11.alloc (.cells #[.bool oN.fail, .int .i64 k1, .bool b1, .int .i64 i1, .float .f64 f1, .string t1, .string y1, .slice A1 n1 c1, .slice A1' n1' c1'] 37)) := (Below.refl _ _).alloc (Nat.le_refl _) _
      have hs12 : w11.heap.size + 1 ≤ (w11.alloc (.cells #[.bool oN.fail, .int .i64 k1, .bool b1, .int .i64 i1, .float .f64 f1, .string t1, .string y1, .slice A1 n1 c1, .slice A1' n1' c1'] 37)).heap.size := by simp
      clear hO1
      go_wp2_with fail
      generalize (w11.alloc (.cells #[.bool oN.fail, .int .i64 k1, .bool b1, .int .i64 i1, .float .f64 f1, .string t1, .string y1, .slice A1 n1 c1, .slice A1' n1' c1'] 37)) = w12 at *
      have HW2 := Lib.hid (HW1.out.below (HB.out.mono (by omega)) gl11 hb12)
      refine (sameAt HO1.out HW2.out (fun b hb => by have := hb.2; omega) (HB.out.mono (by omega)) HsN.out (Below.refl _ _)).mono ?_
      rintro e w13 ⟨rfl, hb13⟩
      have hs13 := hb13.size
      have gl13 : w11.heap.size < w13.heap.size := by omega
      have HW3 := Lib.hid (HW2.out.below (HB.out.mono (by omega)) (by omega) hb13)
      have hb9d : Below w9.heap.size w9 w13 := ((hb10.trans (hb11.mono hs10)).trans (hb12.mono (by omega))).trans (hb13.mono (by omega))
      have T9 := HO1.out.below (B := w12.heap.size) (fun b hb => by have := hb.2; omega) (by omega) hb13
      have G9 := Lib.hid T9.1
      have hb1d := hb19.trans (hb9d.mono (by have := hb19.size; omega))
      obtain ⟨m0, m1, m2, m3, m4, m5, m6, m7, m8, m9, m10, m11, m12⟩ := blk13 (blk_below GE.out hb1d (by omega))
      clear e0 e1 e2 e3 e4 e5 e6 e7 e8 T9 HO1 HW1 HW2 HW0 hb10 hb11 hb12 hb13
      go_wp2_with fail
      cases hg : get es ⟨x1, x2, x3, x4⟩ with
      | none =>
        have HG := Lib.hid hg
        clear hg
        refine (tabFind_no w9 _ g1 _ T1'.out hb9d ⟨x1, x2, x3, x4⟩ hok0 HG.out).mono ?_
        rintro e w14 ⟨rfl, hb14⟩
        have hs14 := hb14.size
        have hb9e : Below w9.heap.size w9 (w14.alloc (.cells #[.bool false, .int .i64 0, .bool false, .int .i64 0, .float .f64 0, .string ⟨#[]⟩, .string ⟨#[]⟩, .slice none 0 0, .slice none 0 0] 37)) := (hb9d.trans (hb14.mono (by have := hb9d.size; omega))).alloc (by have := hb9d.size; omega) _
        have hb13e : Below w13.heap.size w13 (w14.alloc (.cells #[.bool false, .int .i64 0, .bool false, .int .i64 0, .float .f64 0, .string ⟨#[]⟩, .string ⟨#[]⟩, .slice none 0 0, .slice none 0 0] 37)) := hb14.alloc hs14 _
        have hse : w14.heap.size + 1 ≤ (w14.alloc (.cells #[.bool false, .int .i64 0, .bool false, .int .i64 0, .float .f64 0, .string ⟨#[]⟩, .string ⟨#[]⟩, .slice none 0 0, .slice none 0 0] 37)).heap.size := by simp
        clear m0 m1 m2 m3 m4 m5 m6 m7 m8 m9 m10 m11 m12
        obtain ⟨m0, m1, m2, m3, m4, m5, m6, m7, m8, m9, m10, m11, m12⟩ := blk13 (blk_below GE.out (hb1d.trans (hb14.mono (by have := hb1d.size; omega))) (by omega))
        have gl14 : w.heap.size < w14.heap.size := by omega
        go_wp2_with fail
        generalize (w14.alloc (.cells #[.bool false, .int .i64 0, .bool false, .int .i64 0, .float .f64 0, .string ⟨#[]⟩, .string ⟨#[]⟩, .slice none 0 0, .slice none 0 0] 37)) = w15 at *
        have HF := Lib.hid (tabFind_es w9 w15 g3 _ HT3.out hb9e ⟨x1, x2, x3, x4⟩ hok0 _ oN HoN (get_last _ _ _ HG.out) (by simp only; omega))
        refine HF.out.mono ?_
        rintro e w16 ⟨hb16, k6, b6, i6, f6, t6, y6, A6, n6, c6, A6', n6', c6', rfl, hO6⟩
        have hs16 := hb16.size
        have hb13f : Below w13.heap.size w13 w16 := hb13e.trans (hb16.mono (by omega))
        have G9f := blk_below G9.out hb13f (by omega)
        obtain ⟨j0, j1, j2, j3, j4, j5, j6, j7, j8⟩ := blk9 G9f
        obtain ⟨q0, q1, q2, q3, q4, q5, q6, q7, q8⟩ := blk9f G9f
        have S9 := Lib.hid (blk_set9 G9f (.bool oN.fail) (.int .i64 k6) (.bool b6) (.int .i64 i6) (.float .f64 f6) (.string t6) (.string y6) (.slice A6 n6 c6) (.slice A6' n6' c6'))
        have GR := grown9 w16 w11.heap.size (.bool oN.fail) (.int .i64 k6) (.bool b6) (.int .i64 i6) (.float .f64 f6) (.string t6) (.string y6) (.slice A6 n6 c6) (.slice A6' n6' c6')
        have hbS := Lib.hid (grown_below GR (Nat.le_refl w11.heap.size) (by omega))
        have hsS := GR.size
        have HO6 := Lib.hid hO6
        have HX := Lib.hid (HW3.out.below (HB.out.mono (by omega)) (by omega) hb13f)
        obtain ⟨e0, e1, e2, e3, e4, e5, e6, e7, e8⟩ := HX.out.cells
        have glx := HX.out.lt
        have nex : w9.heap.size ≠ w11.heap.size := by omega
        clear hO6 HF m0 m1 m2 m3 m4 m5 m6 m7 m8 m9 m10 m11 m12 G9f
        have HGR := Lib.hid GR
        clear GR
        go_wp2_with fail
        generalize (((((((((w16.setCell ⟨w11.heap.size, 0, none⟩ (.bool oN.fail)).setCell ⟨w11.heap.size, 1, none⟩ (.int .i64 k6)).setCell ⟨w11.heap.size, 2, none⟩ (.bool b6)).setCell ⟨w11.heap.size, 3, none⟩ (.int .i64 i6)).setCell ⟨w11.heap.size, 4, none⟩ (.float .f64 f6)).setCell ⟨w11.heap.size, 5, none⟩ (.string t6)).setCell ⟨w11.heap.size, 6, none⟩ (.string y6)).setCell ⟨w11.heap.size, 7, none⟩ (.slice A6 n6 c6)).setCell ⟨w11.heap.size, 8, none⟩ (.slice A6' n6' c6')) = w17 at *
        have HO9 := Lib.hid (show OutAt w17 (New w15.heap.size w16) w11.heap.size oN k6 b6 i6 f6 t6 y6 A6 n6 c6 A6' n6' c6' from ⟨S9.out, outCells_grown HO6.out HGR.out (fun b hb => ⟨hb.2, by have := hb.1; omega⟩)⟩)
        have HX17 := Lib.hid (HX.out.grown HGR.out nex (fun b hb => by have := HB.out b hb; omega))
        clear e0 e1 e2 e3 e4 e5 e6 e7 e8 j0 j1 j2 j3 j4 j5 j6 j7 j8 q0 q1 q2 q3 q4 q5 q6 q7 q8
        refine (sameAt HO9.out HX17.out (fun b hb => by have := hb.2; omega) (HB.out.mono (by omega)) HsN.out (Below.refl _ _)).mono ?_
        rintro e w18 ⟨rfl, hb18⟩
        have hs18 := hb18.size
        have hb9h : Below w9.heap.size w9 w18 := ((hb9e.trans (hb16.mono (by have := hb9e.size; omega))).trans (hbS.out.mono (by omega))).trans (hb18.mono (by omega))
        have hl2 := tabR_len es []
        obtain ⟨L, HL⟩ : ∃ L : Nat, Hid ((tabR es).length = L) := ⟨_, rfl⟩
        have hLb : L ≤ 1048576 := by have := HL.out; simp [tabR] at this hl2; omega
        clear hl2 HX HX17 HO9 S9 HGR hbS HO6 hb16 hb18 hb9e hb13e hb13f
        go_wp2_with fail
        refine (tabLen_int w9 _ g1 _ T1'.out hb9h (L : Int) (by rw [HL.out])).mono ?_
        rintro e w' ⟨rfl, rfl⟩
        go_wp2_with fail
        refine (tabLen_int w9 _ g2 _ T2'.out hb9h ((L : Int) + 1) (by rw [tabR_ahead_len, HL.out, HG.out]; simp)).mono ?_
        rintro e w' ⟨rfl, rfl⟩
        go_wp2_with fail
        refine (tabLen_int w9 _ g3 _ HT3.out hb9h ((L : Int) + 1) (by rw [tabR_behind_len, HL.out, HG.out]; simp)).mono ?_
        rintro e w' ⟨rfl, rfl⟩
        go_wp2_with fail
        go_loopw [138] (fun vi W => ∃ q : Nat, q ≤ es.length ∧ vi = .int .i64 (q : Int) ∧ Below w9.heap.size w9 W) (fun i _ => es.length - (intOf i).toNat)
        case atStart => exact ⟨0, Nat.zero_le _, rfl, hb9h⟩
        case round =>
          obtain ⟨q, hq, rfl, hbq⟩ := hrel
          have hszq := hbq.size
          have hb1q := hb19.trans (hbq.mono (by have := hb19.size; omega))
          have gW : w.heap.size < wr.heap.size := by omega
          by_cases hlt : q < es.length
          · have hx : es[q]? = some es[q] := List.getElem?_eq_getElem hlt
            have hck := HK.out _ (List.getElem_mem hlt)
            obtain ⟨ad, cs, rfl, hadB, hcs, ds, rfl, hvx⟩ := (HEs.out.below recE HB.out (hbw.trans (hb1q.mono hs1))) q _ hx
            have hmem := Lib.hid (List.getElem_mem hlt)
            generalize es[q] = x at *
            obtain ⟨⟨z1, z2, z3, z4⟩, xg, v⟩ := x
            obtain ⟨k7, b7, i7, f7, t7, y7, is7, fs7⟩ := v
            simp only [IsV] at hvx
            obtain ⟨A7, c7, A7', c7', rfl, _⟩ := hvx
            obtain ⟨d0, d1, d2, d3, d4, d5, d6, d7, d8, d9, d10, d11, d12⟩ := hcs.thirteen
            simp only at d0 d1 d2 d3 d4 hck
            clear hcs hx
            obtain ⟨m0, m1, m2, m3, m4, m5, m6, m7, m8, m9, m10, m11, m12⟩ := blk13 (blk_below GE.out hb1q (by omega))
            go_upto_region 28 with (fail)
            go_cut [146] (fun s wx => ∃ b : Bool, s = .bool b ∧ Hid (b = decide ((⟨z1, z2, z3, z4⟩ : C) = ⟨x1, x2, x3, x4⟩)) ∧ wx = (wr.alloc (.cells #[.string z1, .string z2, .string z3, .string z4, .bool xg, .int .i64 k7, .bool b7, .int .i64 i7, .float .f64 f7, .string t7, .string y7, .slice A7 is7.length c7, .slice A7' fs7.length c7'] 39)))
            case first =>
              go_wp2_with fail
              all_goals
                go_meet
                case rel => first | exact ⟨_, rfl, c_eq (by assumption) (by assumption) (by assumption) (by assumption), rfl⟩ | exact ⟨_, rfl, c_ne1 (by assumption), rfl⟩ | exact ⟨_, rfl, c_ne2 (by assumption), rfl⟩ | exact ⟨_, rfl, c_ne3 (by assumption), rfl⟩ | exact ⟨_, rfl, c_ne4 (by assumption), rfl⟩
            case rest =>
            obtain ⟨b, rfl, Hb, rfl⟩ := hcut
            cases b with
            | true =>
              go_wp2_with fail
              go_roundw
              case rel => exact ⟨q + 1, by omega, by go_num, hbq.alloc (by omega) _⟩
              case measure => simp [intOf]; omega
            | false =>
              have hne := Lib.hid (of_decide_eq_false Hb.out.symm)
              obtain ⟨oo, hgo⟩ := get_of_mem hmem.out
              have HGo := Lib.hid hgo
              have hgsz := get_sz hgo
              obtain ⟨oQ, HoQ⟩ : ∃ o : O, Hid (oo.nrm = o) := ⟨_, rfl⟩
              have HsQ := Lib.hid (show sz oQ.v ≤ 1048576 by have := nrm_sz oo; rw [HoQ.out] at this; omega)
              have HGa := Lib.hid ((get_skip ⟨xf, .mk k2 b2 i2 f2 t2 y2 is2 fs2⟩ es (Ne.symm hne.out)).trans hgo)
              have HGb := Lib.hid (get_app_some [(⟨x1, x2, x3, x4⟩, ⟨xf, .mk k2 b2 i2 f2 t2 y2 is2 fs2⟩)] hgo)
              have gZ := heap_alloc_new wr (.cells #[.string z1, .string z2, .string z3, .string z4, .bool xg, .int .i64 k7, .bool b7, .int .i64 i7, .float .f64 f7, .string t7, .string y7, .slice A7 is7.length c7, .slice A7' fs7.length c7'] 39)
              have hbq20 : Below w9.heap.size w9 (wr.alloc (.cells #[.string z1, .string z2, .string z3, .string z4, .bool xg, .int .i64 k7, .bool b7, .int .i64 i7, .float .f64 f7, .string t7, .string y7, .slice A7 is7.length c7, .slice A7' fs7.length c7'] 39)) := hbq.alloc hszq _
              have hs20 : wr.heap.size + 1 ≤ (wr.alloc (.cells #[.string z1, .string z2, .string z3, .string z4, .bool xg, .int .i64 k7, .bool b7, .int .i64 i7, .float .f64 f7, .string t7, .string y7, .slice A7 is7.length c7, .slice A7' fs7.length c7'] 39)).heap.size := by simp
              clear hgo d0 d1 d2 d3 d4 d5 d6 d7 d8 d9 d10 d11 d12 m0 m1 m2 m3 m4 m5 m6 m7 m8 m9 m10 m11 m12
              generalize (wr.alloc (.cells #[.string z1, .string z2, .string z3, .string z4, .bool xg, .int .i64 k7, .bool b7, .int .i64 i7, .float .f64 f7, .string t7, .string y7, .slice A7 is7.length c7, .slice A7' fs7.length c7'] 39)) = w20 at *
              have GZ := Lib.hid gZ
              clear gZ
              obtain ⟨r0, r1, r2, r3, r4, r5, r6, r7, r8, r9, r10, r11, r12⟩ := blk13 GZ.out
              go_wp2_with fail
              clear r0 r1 r2 r3 r4 r5 r6 r7 r8 r9 r10 r11 r12
              refine (tabFind_es w9 _ g1 _ T1'.out hbq20 ⟨z1, z2, z3, z4⟩ hck oo oQ HoQ HGo.out (by omega)).mono ?_
              rintro e w21 ⟨hb21, ka, ba, ia, fa, ta, ya, Aa, na, ca, Aa', na', ca', rfl, hOa⟩
              have hs21 := hb21.size
              have HOa := Lib.hid (outAt_new hOa (fun b hb => hb.2))
              clear hOa
              have hbq21 : Below w9.heap.size w9 (w21.alloc (.cells #[.bool oQ.fail, .int .i64 ka, .bool ba, .int .i64 ia, .float .f64 fa, .string ta, .string ya, .slice Aa na ca, .slice Aa' na' ca'] 37)) := (hbq20.trans (hb21.mono hbq20.size)).alloc (by have := hbq20.size; omega) _
              have hs21b : w21.heap.size + 1 ≤ (w21.alloc (.cells #[.bool oQ.fail, .int .i64 ka, .bool ba, .int .i64 ia, .float .f64 fa, .string ta, .string ya, .slice Aa na ca, .slice Aa' na' ca'] 37)).heap.size := by simp
              have gl21 : wr.heap.size < w21.heap.size := by omega
              obtain ⟨r0, r1, r2, r3, r4, r5, r6, r7, r8, r9, r10, r11, r12⟩ := blk13 (blk_below GZ.out hb21 (by omega))
              have GZ1 := Lib.hid (blk_alloc (blk_below GZ.out hb21 (by omega)) (.cells #[.bool oQ.fail, .int .i64 ka, .bool ba, .int .i64 ia, .float .f64 fa, .string ta, .string ya, .slice Aa na ca, .slice Aa' na' ca'] 37))
              go_wp2_with fail
              generalize (w21.alloc (.cells #[.bool oQ.fail, .int .i64 ka, .bool ba, .int .i64 ia, .float .f64 fa, .string ta, .string ya, .slice Aa na ca, .slice Aa' na' ca'] 37)) = w21b at *
              clear r0 r1 r2 r3 r4 r5 r6 r7 r8 r9 r10 r11 r12
              refine (tabFind_es w9 _ g2 _ T2'.out hbq21 ⟨z1, z2, z3, z4⟩ hck oo oQ HoQ HGa.out (by omega)).mono ?_
              rintro e w22 ⟨hb22, ke, be, ie, fe, te, ye, Ae, ne, ce, Ae', ne', ce', rfl, hOe⟩
              have hs22 := hb22.size
              have HOe := Lib.hid (outAt_new hOe (fun b hb => hb.2))
              clear hOe
              have hbq22 : Below w9.heap.size w9 (w22.alloc (.cells #[.bool oQ.fail, .int .i64 ke, .bool be, .int .i64 ie, .float .f64 fe, .string te, .string ye, .slice Ae ne ce, .slice Ae' ne' ce'] 37)) := (hbq21.trans (hb22.mono hbq21.size)).alloc (by have := hbq21.size; omega) _
              have hs22b : w22.heap.size + 1 ≤ (w22.alloc (.cells #[.bool oQ.fail, .int .i64 ke, .bool be, .int .i64 ie, .float .f64 fe, .string te, .string ye, .slice Ae ne ce, .slice Ae' ne' ce'] 37)).heap.size := by simp
              have gl22 : wr.heap.size < w22.heap.size := by omega
              have hb21c : Below w21b.heap.size w21b (w22.alloc (.cells #[.bool oQ.fail, .int .i64 ke, .bool be, .int .i64 ie, .float .f64 fe, .string te, .string ye, .slice Ae ne ce, .slice Ae' ne' ce'] 37)) := hb22.alloc hs22 _
              obtain ⟨r0, r1, r2, r3, r4, r5, r6, r7, r8, r9, r10, r11, r12⟩ := blk13 (blk_below GZ1.out hb22 (by omega))
              go_wp2_with fail
              generalize (w22.alloc (.cells #[.bool oQ.fail, .int .i64 ke, .bool be, .int .i64 ie, .float .f64 fe, .string te, .string ye, .slice Ae ne ce, .slice Ae' ne' ce'] 37)) = w22b at *
              clear r0 r1 r2 r3 r4 r5 r6 r7 r8 r9 r10 r11 r12
              refine (tabFind_es w9 _ g3 _ HT3.out hbq22 ⟨z1, z2, z3, z4⟩ hck oo oQ HoQ HGb.out (by omega)).mono ?_
              rintro e w23 ⟨hb23, kh, bh, ih, fh, th, yh, Ah, nh, ch, Ah', nh', ch', rfl, hOh⟩
              have hs23 := hb23.size
              have HOh := Lib.hid (outAt_new hOh (fun b hb => hb.2))
              clear hOh
              have hbq23 : Below w9.heap.size w9 (w23.alloc (.cells #[.bool oQ.fail, .int .i64 kh, .bool bh, .int .i64 ih, .float .f64 fh, .string th, .string yh, .slice Ah nh ch, .slice Ah' nh' ch'] 37)) := (hbq22.trans (hb23.mono hbq22.size)).alloc (by have := hbq22.size; omega) _
              have hs23b : w23.heap.size + 1 ≤ (w23.alloc (.cells #[.bool oQ.fail, .int .i64 kh, .bool bh, .int .i64 ih, .float .f64 fh, .string th, .string yh, .slice Ah nh ch, .slice Ah' nh' ch'] 37)).heap.size := by simp
              have hb22c : Below w22b.heap.size w22b (w23.alloc (.cells #[.bool oQ.fail, .int .i64 kh, .bool bh, .int .i64 ih, .float .f64 fh, .string th, .string yh, .slice Ah nh ch, .slice Ah' nh' ch'] 37)) := hb23.alloc hs23 _
              have gl1 : w21.heap.size < w23.heap.size := by omega
              have gl2 : w22.heap.size < w23.heap.size := by omega
              have hb21d := hb21c.trans (hb23.mono (by omega))
              have HA3 := Lib.hid (HOa.out.below (B := w21b.heap.size) (fun b hb => by have := hb.2; omega) (by omega) hb21d)
              have HE3 := Lib.hid (HOe.out.below (B := w22b.heap.size) (fun b hb => by have := hb.2; omega) (by omega) hb23)
              obtain ⟨u0, u1, u2, u3, u4, u5, u6, u7, u8⟩ := HA3.out.cells
              obtain ⟨v0, v1, v2, v3, v4, v5, v6, v7, v8⟩ := HE3.out.cells
              go_wp2_with fail
              have hb23b : Below w23.heap.size w23 (w23.alloc (.cells #[.bool oQ.fail, .int .i64 kh, .bool bh, .int .i64 ih, .float .f64 fh, .string th, .string yh, .slice Ah nh ch, .slice Ah' nh' ch'] 37)) := (Below.refl _ _).alloc (Nat.le_refl _) _
              generalize (w23.alloc (.cells #[.bool oQ.fail, .int .i64 kh, .bool bh, .int .i64 ih, .float .f64 fh, .string th, .string yh, .slice Ah nh ch, .slice Ah' nh' ch'] 37)) = w24 at *
              clear u0 u1 u2 u3 u4 u5 u6 u7 u8 v0 v1 v2 v3 v4 v5 v6 v7 v8
              have HA4 := Lib.hid (HA3.out.below (B := w23.heap.size) (fun b hb => by have := hb.2; omega) (by omega) hb23b)
              have HE4 := Lib.hid (HE3.out.below (B := w23.heap.size) (fun b hb => by have := hb.2; omega) (by omega) hb23b)
              refine (sameAt HA4.out HE4.out (fun b hb => by have := hb.2; omega) (fun b hb => by have := hb.2; omega) HsQ.out (Below.refl _ _)).mono ?_
              rintro e w25 ⟨rfl, hb25⟩
              have hs25 := hb25.size
              have HA5 := Lib.hid (HA4.out.below (B := w24.heap.size) (fun b hb => by have := hb.2; omega) (by omega) hb25)
              have HH5 := Lib.hid (HOh.out.below (B := w24.heap.size) (fun b hb => by have := hb.2; omega) (by omega) hb25)
              obtain ⟨u0, u1, u2, u3, u4, u5, u6, u7, u8⟩ := HA5.out.cells
              obtain ⟨v0, v1, v2, v3, v4, v5, v6, v7, v8⟩ := HH5.out.cells
              go_wp2_with fail
              refine (sameAt HA5.out HH5.out (fun b hb => by have := hb.2; omega) (fun b hb => by have := hb.2; omega) HsQ.out (Below.refl _ _)).mono ?_
              rintro e w26 ⟨rfl, hb26⟩
              have hbz : Below w9.heap.size w9 w26 := (hbq23.trans (hb25.mono (by have := hbq23.size; omega))).trans (hb26.mono (by have := hbq23.size; omega))
              clear u0 u1 u2 u3 u4 u5 u6 u7 u8 v0 v1 v2 v3 v4 v5 v6 v7 v8
              go_wp2_with fail
              go_roundw
              case rel => exact ⟨q + 1, by omega, by go_num, hbz⟩
              case measure => simp [intOf]; omega
          · obtain rfl : q = es.length := by omega
            go_wp2_with fail
            go_ret
            exact ⟨rfl, (hbw.trans ((hb19.mono (Nat.le_refl _)).trans (hbq.mono (by have := hb19.size; omega)) |>.mono hs1))⟩
      | some oo =>
        have HG := Lib.hid hg
        have hgsz := get_sz hg
        clear hg
        obtain ⟨oP, HoP⟩ : ∃ o : O, Hid (oo.nrm = o) := ⟨_, rfl⟩
        have HsP := Lib.hid (show sz oP.v ≤ 1048576 by have := nrm_sz oo; rw [HoP.out] at this; omega)
        refine (tabFind_es w9 _ g1 _ T1'.out hb9d ⟨x1, x2, x3, x4⟩ hok0 oo oP HoP HG.out (by omega)).mono ?_
        rintro e w14 ⟨hb14, k4, b4, i4, f4, t4, y4, A4, n4, c4, A4', n4', c4', rfl, hO4⟩
        have hs14 := hb14.size
        have HO4 := Lib.hid (outAt_new hO4 (fun b hb => hb.2))
        clear hO4
        have hb9e : Below w9.heap.size w9 (w14.alloc (.cells #[.bool oP.fail, .int .i64 k4, .bool b4, .int .i64 i4, .float .f64 f4, .string t4, .string y4, .slice A4 n4 c4, .slice A4' n4' c4'] 37)) := (hb9d.trans (hb14.mono (by have := hb9d.size; omega))).alloc (by have := hb9d.size; omega) _
        have hb13e : Below w13.heap.size w13 (w14.alloc (.cells #[.bool oP.fail, .int .i64 k4, .bool b4, .int .i64 i4, .float .f64 f4, .string t4, .string y4, .slice A4 n4 c4, .slice A4' n4' c4'] 37)) := hb14.alloc hs14 _
        have hse : w14.heap.size + 1 ≤ (w14.alloc (.cells #[.bool oP.fail, .int .i64 k4, .bool b4, .int .i64 i4, .float .f64 f4, .string t4, .string y4, .slice A4 n4 c4, .slice A4' n4' c4'] 37)).heap.size := by simp
        clear m0 m1 m2 m3 m4 m5 m6 m7 m8 m9 m10 m11 m12
        obtain ⟨m0, m1, m2, m3, m4, m5, m6, m7, m8, m9, m10, m11, m12⟩ := blk13 (blk_below GE.out (hb1d.trans (hb14.mono (by have := hb1d.size; omega))) (by omega))
        have gl14 : w.heap.size < w14.heap.size := by omega
        go_wp2_with fail
        generalize (w14.alloc (.cells #[.bool oP.fail, .int .i64 k4, .bool b4, .int .i64 i4, .float .f64 f4, .string t4, .string y4, .slice A4 n4 c4, .slice A4' n4' c4'] 37)) = w15 at *
        have HF := Lib.hid (tabFind_es w9 w15 g3 _ HT3.out hb9e ⟨x1, x2, x3, x4⟩ hok0 _ oP HoP (get_had _ _ _ _ HG.out) (by omega))
        refine HF.out.mono ?_
        rintro e w16 ⟨hb16, k6, b6, i6, f6, t6, y6, A6, n6, c6, A6', n6', c6', rfl, hO6⟩
        have hs16 := hb16.size
        have hb13f : Below w13.heap.size w13 w16 := hb13e.trans (hb16.mono (by omega))
        have G9f := blk_below G9.out hb13f (by omega)
        obtain ⟨j0, j1, j2, j3, j4, j5, j6, j7, j8⟩ := blk9 G9f
        obtain ⟨q0, q1, q2, q3, q4, q5, q6, q7, q8⟩ := blk9f G9f
        have S9 := Lib.hid (blk_set9 G9f (.bool oP.fail) (.int .i64 k6) (.bool b6) (.int .i64 i6) (.float .f64 f6) (.string t6) (.string y6) (.slice A6 n6 c6) (.slice A6' n6' c6'))
        have GR := grown9 w16 w11.heap.size (.bool oP.fail) (.int .i64 k6) (.bool b6) (.int .i64 i6) (.float .f64 f6) (.string t6) (.string y6) (.slice A6 n6 c6) (.slice A6' n6' c6')
        have hbS := Lib.hid (grown_below GR (Nat.le_refl w11.heap.size) (by omega))
        have hsS := GR.size
        have HO6 := Lib.hid hO6
        have HX := Lib.hid (HO4.out.below (B := w15.heap.size) (fun b hb => by have := hb.2; omega) (by omega) hb16)
        obtain ⟨e0, e1, e2, e3, e4, e5, e6, e7, e8⟩ := HX.out.cells
        have glx := HX.out.lt
        have nex : w14.heap.size ≠ w11.heap.size := by omega
        clear hO6 HF m0 m1 m2 m3 m4 m5 m6 m7 m8 m9 m10 m11 m12 G9f
        have HGR := Lib.hid GR
        clear GR
        go_wp2_with fail
        generalize (((((((((w16.setCell ⟨w11.heap.size, 0, none⟩ (.bool oP.fail)).setCell ⟨w11.heap.size, 1, none⟩ (.int .i64 k6)).setCell ⟨w11.heap.size, 2, none⟩ (.bool b6)).setCell ⟨w11.heap.size, 3, none⟩ (.int .i64 i6)).setCell ⟨w11.heap.size, 4, none⟩ (.float .f64 f6)).setCell ⟨w11.heap.size, 5, none⟩ (.string t6)).setCell ⟨w11.heap.size, 6, none⟩ (.string y6)).setCell ⟨w11.heap.size, 7, none⟩ (.slice A6 n6 c6)).setCell ⟨w11.heap.size, 8, none⟩ (.slice A6' n6' c6')) = w17 at *
        have HO9 := Lib.hid (show OutAt w17 (New w15.heap.size w16) w11.heap.size oP k6 b6 i6 f6 t6 y6 A6 n6 c6 A6' n6' c6' from ⟨S9.out, outCells_grown HO6.out HGR.out (fun b hb => ⟨hb.2, by have := hb.1; omega⟩)⟩)
        have HX17 := Lib.hid (HX.out.grown HGR.out nex (fun b hb => by have := hb.1; have := hb.2; omega))
        clear e0 e1 e2 e3 e4 e5 e6 e7 e8 j0 j1 j2 j3 j4 j5 j6 j7 j8 q0 q1 q2 q3 q4 q5 q6 q7 q8
        refine (sameAt HO9.out HX17.out (fun b hb => by have := hb.2; omega) (fun b hb => by have := hb.2; omega) HsP.out (Below.refl _ _)).mono ?_
        rintro e w18 ⟨rfl, hb18⟩
        have hs18 := hb18.size
        have hb9h : Below w9.heap.size w9 w18 := ((hb9e.trans (hb16.mono (by have := hb9e.size; omega))).trans (hbS.out.mono (by omega))).trans (hb18.mono (by omega))
        have hl2 := tabR_len es []
        obtain ⟨L, HL⟩ : ∃ L : Nat, Hid ((tabR es).length = L) := ⟨_, rfl⟩
        have hLb : L ≤ 1048576 := by have := HL.out; simp [tabR] at this hl2; omega
        clear hl2 HX HX17 HO9 S9 HGR hbS HO6 hb16 hb18 hb9e hb13e hb13f
        go_wp2_with fail
        refine (tabLen_int w9 _ g1 _ T1'.out hb9h (L : Int) (by rw [HL.out])).mono ?_
        rintro e w' ⟨rfl, rfl⟩
        go_wp2_with fail
        refine (tabLen_int w9 _ g2 _ T2'.out hb9h (L : Int) (by rw [tabR_ahead_len, HL.out, HG.out]; simp)).mono ?_
        rintro e w' ⟨rfl, rfl⟩
        go_wp2_with fail
        refine (tabLen_int w9 _ g3 _ HT3.out hb9h (L : Int) (by rw [tabR_behind_len, HL.out, HG.out]; simp)).mono ?_
        rintro e w' ⟨rfl, rfl⟩
        go_wp2_with fail
        go_loopw [138] (fun vi W => ∃ q : Nat, q ≤ es.length ∧ vi = .int .i64 (q : Int) ∧ Below w9.heap.size w9 W) (fun i _ => es.length - (intOf i).toNat)
        case atStart => exact ⟨0, Nat.zero_le _, rfl, hb9h⟩
        case round =>
          obtain ⟨q, hq, rfl, hbq⟩ := hrel
          have hszq := hbq.size
          have hb1q := hb19.trans (hbq.mono (by have := hb19.size; omega))
          have gW : w.heap.size < wr.heap.size := by omega
          by_cases hlt : q < es.length
          · have hx : es[q]? = some es[q] := List.getElem?_eq_getElem hlt
            have hck := HK.out _ (List.getElem_mem hlt)
            obtain ⟨ad, cs, rfl, hadB, hcs, ds, rfl, hvx⟩ := (HEs.out.below recE HB.out (hbw.trans (hb1q.mono hs1))) q _ hx
            have hmem := Lib.hid (List.getElem_mem hlt)
            generalize es[q] = x at *
            obtain ⟨⟨z1, z2, z3, z4⟩, xg, v⟩ := x
            obtain ⟨k7, b7, i7, f7, t7, y7, is7, fs7⟩ := v
            simp only [IsV] at hvx
            obtain ⟨A7, c7, A7', c7', rfl, _⟩ := hvx
            obtain ⟨d0, d1, d2, d3, d4, d5, d6, d7, d8, d9, d10, d11, d12⟩ := hcs.thirteen
            simp only at d0 d1 d2 d3 d4 hck
            clear hcs hx
            obtain ⟨m0, m1, m2, m3, m4, m5, m6, m7, m8, m9, m10, m11, m12⟩ := blk13 (blk_below GE.out hb1q (by omega))
            go_upto_region 28 with (fail)
            go_cut [146] (fun s wx => ∃ b : Bool, s = .bool b ∧ Hid (b = decide ((⟨z1, z2, z3, z4⟩ : C) = ⟨x1, x2, x3, x4⟩)) ∧ wx = (wr.alloc (.cells #[.string z1, .string z2, .string z3, .string z4, .bool xg, .int .i64 k7, .bool b7, .int .i64 i7, .float .f64 f7, .string t7, .string y7, .slice A7 is7.length c7, .slice A7' fs7.length c7'] 39)))
            case first =>
              go_wp2_with fail
              all_goals
                go_meet
                case rel => first | exact ⟨_, rfl, c_eq (by assumption) (by assumption) (by assumption) (by assumption), rfl⟩ | exact ⟨_, rfl, c_ne1 (by assumption), rfl⟩ | exact ⟨_, rfl, c_ne2 (by assumption), rfl⟩ | exact ⟨_, rfl, c_ne3 (by assumption), rfl⟩ | exact ⟨_, rfl, c_ne4 (by assumption), rfl⟩
            case rest =>
            obtain ⟨b, rfl, Hb, rfl⟩ := hcut
            cases b with
            | true =>
              go_wp2_with fail
              go_roundw
              case rel => exact ⟨q + 1, by omega, by go_num, hbq.alloc (by omega) _⟩
              case measure => simp [intOf]; omega
            | false =>
              have hne := Lib.hid (of_decide_eq_false Hb.out.symm)
              obtain ⟨oo, hgo⟩ := get_of_mem hmem.out
              have HGo := Lib.hid hgo
              have hgsz := get_sz hgo
              obtain ⟨oQ, HoQ⟩ : ∃ o : O, Hid (oo.nrm = o) := ⟨_, rfl⟩
              have HsQ := Lib.hid (show sz oQ.v ≤ 1048576 by have := nrm_sz oo; rw [HoQ.out] at this; omega)
              have HGa := Lib.hid ((get_skip ⟨xf, .mk k2 b2 i2 f2 t2 y2 is2 fs2⟩ es (Ne.symm hne.out)).trans hgo)
              have HGb := Lib.hid (get_app_some [(⟨x1, x2, x3, x4⟩, ⟨xf, .mk k2 b2 i2 f2 t2 y2 is2 fs2⟩)] hgo)
              have gZ := heap_alloc_new wr (.cells #[.string z1, .string z2, .string z3, .string z4, .bool xg, .int .i64 k7, .bool b7, .int .i64 i7, .float .f64 f7, .string t7, .string y7, .slice A7 is7.length c7, .slice A7' fs7.length c7'] 39)
              have hbq20 : Below w9.heap.size w9 (wr.alloc (.cells #[.string z1, .string z2, .string z3, .string z4, .bool xg, .int .i64 k7, .bool b7, .int .i64 i7, .float .f64 f7, .string t7, .string y7, .slice A7 is7.length c7, .slice A7' fs7.length c7'] 39)) := hbq.alloc hszq _
              have hs20 : wr.heap.size + 1 ≤ (wr.alloc (.cells #[.string z1, .string z2, .string z3, .string z4, .bool xg, .int .i64 k7, .bool b7, .int .i64 i7, .float .f64 f7, .string t7, .string y7, .slice A7 is7.length c7, .slice A7' fs7.length c7'] 39)).heap.size := by simp
              clear hgo d0 d1 d2 d3 d4 d5 d6 d7 d8 d9 d10 d11 d12 m0 m1 m2 m3 m4 m5 m6 m7 m8 m9 m10 m11 m12
              generalize (wr.alloc (.cells #[.string z1, .string z2, .string z3, .string z4, .bool xg, .int .i64 k7, .bool b7, .int .i64 i7, .float .f64 f7, .string t7, .string y7, .slice A7 is7.length c7, .slice A7' fs7.length c7'] 39)) = w20 at *
              have GZ := Lib.hid gZ
              clear gZ
              obtain ⟨r0, r1, r2, r3, r4, r5, r6, r7, r8, r9, r10, r11, r12⟩ := blk13 GZ.out
              go_wp2_with fail
              clear r0 r1 r2 r3 r4 r5 r6 r7 r8 r9 r10 r11 r12
              refine (tabFind_es w9 _ g1 _ T1'.out hbq20 ⟨z1, z2, z3, z4⟩ hck oo oQ HoQ HGo.out (by omega)).mono ?_
              rintro e w21 ⟨hb21, ka, ba, ia, fa, ta, ya, Aa, na, ca, Aa', na', ca', rfl, hOa⟩
              have hs21 := hb21.size
              have HOa := Lib.hid (outAt_new hOa (fun b hb => hb.2))
              clear hOa
              have hbq21 : Below w9.heap.size w9 (w21.alloc (.cells #[.bool oQ.fail, .int .i64 ka, .bool ba, .int .i64 ia, .float .f64 fa, .string ta, .string ya, .slice Aa na ca, .slice Aa' na' ca'] 37)) := (hbq20.trans (hb21.mono hbq20.size)).alloc (by have := hbq20.size; omega) _
              have hs21b : w21.heap.size + 1 ≤ (w21.alloc (.cells #[.bool oQ.fail, .int .i64 ka, .bool ba, .int .i64 ia, .float .f64 fa, .string ta, .string ya, .slice Aa na ca, .slice Aa' na' ca'] 37)).heap.size := by simp
              have gl21 : wr.heap.size < w21.heap.size := by omega
              obtain ⟨r0, r1, r2, r3, r4, r5, r6, r7, r8, r9, r10, r11, r12⟩ := blk13 (blk_below GZ.out hb21 (by omega))
              have GZ1 := Lib.hid (blk_alloc (blk_below GZ.out hb21 (by omega)) (.cells #[.bool oQ.fail, .int .i64 ka, .bool ba, .int .i64 ia, .float .f64 fa, .string ta, .string ya, .slice Aa na ca, .slice Aa' na' ca'] 37))
              go_wp2_with fail
              generalize (w21.alloc (.cells #[.bool oQ.fail, .int .i64 ka, .bool ba, .int .i64 ia, .float .f64 fa, .string ta, .string ya, .slice Aa na ca, .slice Aa' na' ca'] 37)) = w21b at *
              clear r0 r1 r2 r3 r4 r5 r6 r7 r8 r9 r10 r11 r12
              refine (tabFind_es w9 _ g2 _ T2'.out hbq21 ⟨z1, z2, z3, z4⟩ hck oo oQ HoQ HGa.out (by omega)).mono ?_
              rintro e w22 ⟨hb22, ke, be, ie, fe, te, ye, Ae, ne, ce, Ae', ne', ce', rfl, hOe⟩
              have hs22 := hb22.size
              have HOe := Lib.hid (outAt_new hOe (fun b hb => hb.2))
              clear hOe
              have hbq22 : Below w9.heap.size w9 (w22.alloc (.cells #[.bool oQ.fail, .int .i64 ke, .bool be, .int .i64 ie, .float .f64 fe, .string te, .string ye, .slice Ae ne ce, .slice Ae' ne' ce'] 37)) := (hbq21.trans (hb22.mono hbq21.size)).alloc (by have := hbq21.size; omega) _
              have hs22b : w22.heap.size + 1 ≤ (w22.alloc (.cells #[.bool oQ.fail, .int .i64 ke, .bool be, .int .i64 ie, .float .f64 fe, .string te, .string ye, .slice Ae ne ce, .slice Ae' ne' ce'] 37)).heap.size := by simp
              have gl22 : wr.heap.size < w22.heap.size := by omega
              have hb21c : Below w21b.heap.size w21b (w22.alloc (.cells #[.bool oQ.fail, .int .i64 ke, .bool be, .int .i64 ie, .float .f64 fe, .string te, .string ye, .slice Ae ne ce, .slice Ae' ne' ce'] 37)) := hb22.alloc hs22 _
              obtain ⟨r0, r1, r2, r3, r4, r5, r6, r7, r8, r9, r10, r11, r12⟩ := blk13 (blk_below GZ1.out hb22 (by omega))
              go_wp2_with fail
              generalize (w22.alloc (.cells #[.bool oQ.fail, .int .i64 ke, .bool be, .int .i64 ie, .float .f64 fe, .string te, .string ye, .slice Ae ne ce, .slice Ae' ne' ce'] 37)) = w22b at *
              clear r0 r1 r2 r3 r4 r5 r6 r7 r8 r9 r10 r11 r12
              refine (tabFind_es w9 _ g3 _ HT3.out hbq22 ⟨z1, z2, z3, z4⟩ hck oo oQ HoQ HGb.out (by omega)).mono ?_
              rintro e w23 ⟨hb23, kh, bh, ih, fh, th, yh, Ah, nh, ch, Ah', nh', ch', rfl, hOh⟩
              have hs23 := hb23.size
              have HOh := Lib.hid (outAt_new hOh (fun b hb => hb.2))
              clear hOh
              have hbq23 : Below w9.heap.size w9 (w23.alloc (.cells #[.bool oQ.fail, .int .i64 kh, .bool bh, .int .i64 ih, .float .f64 fh, .string th, .string yh, .slice Ah nh ch, .slice Ah' nh' ch'] 37)) := (hbq22.trans (hb23.mono hbq22.size)).alloc (by have := hbq22.size; omega) _
              have hs23b : w23.heap.size + 1 ≤ (w23.alloc (.cells #[.bool oQ.fail, .int .i64 kh, .bool bh, .int .i64 ih, .float .f64 fh, .string th, .string yh, .slice Ah nh ch, .slice Ah' nh' ch'] 37)).heap.size := by simp
              have hb22c : Below w22b.heap.size w22b (w23.alloc (.cells #[.bool oQ.fail, .int .i64 kh, .bool bh, .int .i64 ih, .float .f64 fh, .string th, .string yh, .slice Ah nh ch, .slice Ah' nh' ch'] 37)) := hb23.alloc hs23 _
              have gl1 : w21.heap.size < w23.heap.size := by omega
              have gl2 : w22.heap.size < w23.heap.size := by omega
              have hb21d := hb21c.trans (hb23.mono (by omega))
              have HA3 := Lib.hid (HOa.out.below (B := w21b.heap.size) (fun b hb => by have := hb.2; omega) (by omega) hb21d)
              have HE3 := Lib.hid (HOe.out.below (B := w22b.heap.size) (fun b hb => by have := hb.2; omega) (by omega) hb23)
              obtain ⟨u0, u1, u2, u3, u4, u5, u6, u7, u8⟩ := HA3.out.cells
              obtain ⟨v0, v1, v2, v3, v4, v5, v6, v7, v8⟩ := HE3.out.cells
              go_wp2_with fail
              have hb23b : Below w23.heap.size w23 (w23.alloc (.cells #[.bool oQ.fail, .int .i64 kh, .bool bh, .int .i64 ih, .float .f64 fh, .string th, .string yh, .slice Ah nh ch, .slice Ah' nh' ch'] 37)) := (Below.refl _ _).alloc (Nat.le_refl _) _
              generalize (w23.alloc (.cells #[.bool oQ.fail, .int .i64 kh, .bool bh, .int .i64 ih, .float .f64 fh, .string th, .string yh, .slice Ah nh ch, .slice Ah' nh' ch'] 37)) = w24 at *
              clear u0 u1 u2 u3 u4 u5 u6 u7 u8 v0 v1 v2 v3 v4 v5 v6 v7 v8
              have HA4 := Lib.hid (HA3.out.below (B := w23.heap.size) (fun b hb => by have := hb.2; omega) (by omega) hb23b)
              have HE4 := Lib.hid (HE3.out.below (B := w23.heap.size) (fun b hb => by have := hb.2; omega) (by omega) hb23b)
              refine (sameAt HA4.out HE4.out (fun b hb => by have := hb.2; omega) (fun b hb => by have := hb.2; omega) HsQ.out (Below.refl _ _)).mono ?_
              rintro e w25 ⟨rfl, hb25⟩
              have hs25 := hb25.size
              have HA5 := Lib.hid (HA4.out.below (B := w24.heap.size) (fun b hb => by have := hb.2; omega) (by omega) hb25)
              have HH5 := Lib.hid (HOh.out.below (B := w24.heap.size) (fun b hb => by have := hb.2; omega) (by omega) hb25)
              obtain ⟨u0, u1, u2, u3, u4, u5, u6, u7, u8⟩ := HA5.out.cells
              obtain ⟨v0, v1, v2, v3, v4, v5, v6, v7, v8⟩ := HH5.out.cells
              go_wp2_with fail
              refine (sameAt HA5.out HH5.out (fun b hb => by have := hb.2; omega) (fun b hb => by have := hb.2; omega) HsQ.out (Below.refl _ _)).mono ?_
              rintro e w26 ⟨rfl, hb26⟩
              have hbz : Below w9.heap.size w9 w26 := (hbq23.trans (hb25.mono (by have := hbq23.size; omega))).trans (hb26.mono (by have := hbq23.size; omega))
              clear u0 u1 u2 u3 u4 u5 u6 u7 u8 v0 v1 v2 v3 v4 v5 v6 v7 v8
              go_wp2_with fail
              go_roundw
              case rel => exact ⟨q + 1, by omega, by go_num, hbz⟩
              case measure => simp [intOf]; omega
          · obtain rfl : q = es.length := by omega
            go_wp2_with fail
            go_ret
            exact ⟨rfl, (hbw.trans ((hb19.mono (Nat.le_refl _)).trans (hbq.mono (by have := hb19.size; omega)) |>.mono hs1))⟩
end Go.Proofs.Ytmicjfdibhoamaa.val
