/- The reference's idle rows. -/
import Derived.Test.YtmicjfdibhoamaaRefRow
namespace Go.Proofs.Ytmicjfdibhoamaa.val
open Go.RowKit mem
attribute [local go_sem] run_store_float

theorem kys_rowsOf (tr : List C) : kys (rowsOf tr) = tr := by
  induction tr with
  | nil => rfl
  | cons c r ih =>
    have h : kys (rowsOf (c :: r)) = c :: kys (rowsOf r) := rfl
    rw [h, ih]
theorem idle_ref {es : List (C × O)} {tr : List C} {q : Nat} {c : C} (h : (kys es)[q]? = some c) : idleAt es tr q = (!firstB (kys es) q || decide (rowAt tr c < 0)) := by
  have hq : q < es.length := by
    have := (List.getElem?_eq_some_iff.1 h).1
    rw [kys_len] at this
    exact this
  have hx : es[q]? = some es[q] := List.getElem?_eq_getElem hq
  rw [idleAt_eq hx]
  have hc : es[q].1 = c := by
    have h2 := h
    simp [kys, hx] at h2
    exact h2
  rw [hc]
  have h1 : decide (c ∈ keys es q) = !firstB (kys es) q := by
    unfold firstB
    rw [keyAt_get h]
    have : keys es q = (kys es).take q := by simp [keys, kys, List.map_take]
    rw [this]
    by_cases hm : c ∈ (kys es).take q
    · rw [decide_eq_true hm, decide_eq_false (not_not_intro hm)]
      rfl
    · rw [decide_eq_false hm, decide_eq_true hm]
      rfl
  have h2 : decide (rowAt tr c < 0) = !decide (c ∈ tr) := by
    by_cases hm : c ∈ tr
    · rw [decide_eq_true hm, decide_eq_false (fun h => rowAt_neg.1 h hm)]
      rfl
    · rw [decide_eq_false hm, decide_eq_true (rowAt_neg.2 hm)]
      rfl
  rw [h1, h2]

theorem RefAt.own {w : World} {base : Nat} {cs : List C} {Ac : Option Addr} {n1 cc : Nat} {v2 : Value} {Af : Option Addr} {n3 cf : Nat} {v4 : Value} (h : RefAt w base cs [.slice Ac n1 cc, v2, .slice Af n3 cf, v4]) :
    w.ownsRow base 25 4 (.slice Ac cs.length cc) cs.length (ccs cs) ∧ w.ownsRow base 4 1 (.slice Af cs.length cf) cs.length ((List.range cs.length).map fun k => .bool (firstB cs k)) := by
  obtain ⟨Ac', cc', Ao, co, Af', cf', Au, nu, cu, l, hv, h1, h2, h3, h4⟩ := h
  injection hv with e1 hv
  injection hv with e2 hv
  injection hv with e3 hv
  injection e1 with a1 a2 a3
  injection e3 with b1 b2 b3
  subst a1 a3 b1 b3
  exact ⟨h1, h4⟩

set_option maxRecDepth 100000 in
set_option maxHeartbeats 8000000 in
theorem refIdle_any (es : List (C × O)) (tr : List C) (hes : szE es ≤ 1048576) (htr : tr.length ≤ 1048576) (A : Option Addr) (c : Nat) (A' : Option Addr) (c' : Nat) (w : World) (S : Nat → Prop)
    (hE : LAt 13 IsE w S es A) (hT : LAt 4 IsC w S tr A') (hB : Bel S w.heap.size) :
    Calls Try.prog 13 #[.slice A es.length c, .slice A' tr.length c'] w (IntsPost w (idl es tr es.length)) := by
  have hl1 := szE_len es
  have HTr := Lib.hid hT
  have HB := Lib.hid hB
  have HC1 := Lib.hid (refNew_any es hes A c w S hE hB)
  obtain ⟨ii, hiv, hv0, hv1, hv2⟩ := info_parts infoI
  obtain ⟨ie, hev, he0, he1, he2⟩ := info_parts infoE
  clear hE hT hB
  go_enter Try.func13, Try.ntmps13
  go_wp2_with fail
  refine HC1.out.mono ?_
  rintro e w1 ⟨vs, rfl, hRA, hb1⟩
  obtain ⟨cs, hcs⟩ : ∃ cs, Hid (kys es = cs) := ⟨_, rfl⟩
  rw [hcs.out] at hRA
  have HCL : Hid (cs.length = es.length) := Lib.hid (by rw [← hcs.out, kys_len])
  have hcb : cs.length ≤ 1048576 := by rw [HCL.out]; omega
  have HRA := Lib.hid hRA
  obtain ⟨Ac, cc, Ao, co, Af, cf, Au, nu, cu, l, rfl, -⟩ := hRA
  have hs1 := hb1.size
  have gA := Lib.hid (heap_alloc_new w1 (.cells #[.slice Ac cs.length cc, .slice Ao cs.length co, .slice Af cs.length cf, .slice Au nu cu] 55))
  have hb2 : Below w1.heap.size w1 (w1.alloc (.cells #[.slice Ac cs.length cc, .slice Ao cs.length co, .slice Af cs.length cf, .slice Au nu cu] 55)) := (Below.refl _ _).alloc (Nat.le_refl _) _
  have hs2 : w1.heap.size + 1 ≤ (w1.alloc (.cells #[.slice Ac cs.length cc, .slice Ao cs.length co, .slice Af cs.length cf, .slice Au nu cu] 55)).heap.size := by simp
  clear HC1
  go_wp2_with fail
  have HR2 := Lib.hid (HRA.out.below hb2)
  have hb02 : Below w.heap.size w (w1.alloc (.cells #[.slice Ac cs.length cc, .slice Ao cs.length co, .slice Af cs.length cf, .slice Au nu cu] 55)) := hb1.trans (hb2.mono hs1)
  clear HRA
  generalize (w1.alloc (.cells #[.slice Ac cs.length cc, .slice Ao cs.length co, .slice Af cs.length cf, .slice Au nu cu] 55)) = w2 at *
  go_loopw [6, 17] (fun v6 vi W => ∃ (q : Nat) (vv : Value), q ≤ tr.length ∧ vi = .int .i64 (q : Int) ∧ vv = v6 ∧ Hid (OwnL 39 13 IsE W w2.heap.size vv (rowsOf (tr.take q))) ∧ Below w2.heap.size w2 W) (fun _ i _ => tr.length - (intOf i).toNat)
  case atStart => exact ⟨0, _, Nat.zero_le _, rfl, rfl, Lib.hid ⟨[], World.ownsRow_nil _ _ _ _, Elems.nil⟩, Below.refl _ _⟩
  case round =>
    obtain ⟨q, vv, hq, rfl, rfl, HO, hbq⟩ := hrel
    have hszq := hbq.size
    by_cases hlq : q < tr.length
    · have hx : tr[q]? = some tr[q] := List.getElem?_eq_getElem hlq
      have hts := Lib.hid (List.take_succ_eq_append_getElem hlq)
      obtain ⟨ad, ds, rfl, hadB, hcs', rfl⟩ := (HTr.out.below recC HB.out (hb02.trans (hbq.mono (by omega)))) q _ hx
      generalize tr[q] = x at *
      obtain ⟨x1, x2, x3, x4⟩ := x
      obtain ⟨d0, d1, d2, d3⟩ := hcs'.four
      simp only at d0 d1 d2 d3
      clear hcs' hx
      obtain ⟨css, hown, hel⟩ := HO.out
      have hlr : (rowsOf (tr.take q)).length ≤ q := by simp [rowsOf]; omega
      have HW := Lib.hid (hown.alloc (.cells #[.string x1, .string x2, .string x3, .string x4] 25))
      have HL := Lib.hid (hel.below recE ((Below.refl _ _).alloc (Nat.le_refl _) (.cells #[.string x1, .string x2, .string x3, .string x4] 25)))
      have hba := hbq.alloc hszq (.cells #[.string x1, .string x2, .string x3, .string x4] 25)
      have hsa : wr.heap.size + 1 ≤ (wr.alloc (.cells #[.string x1, .string x2, .string x3, .string x4] 25)).heap.size := by simp
      clear hown hel
      go_wp2_with (at_builtin; go_must (refine wpList_app _ rfl (.tmp 21) (.tmp 24) _ rfl w2.heap.size 39 ie _ 13 184 Try.underlying22 hev he0 he1 he2 rfl (by omega) vv (rowsOf (tr.take q)).length css.flatten rfl (HW.out.alloc _) (wr.heap.size + 1 + 1) (some ⟨wr.heap.size + 1, 0, none⟩) 1 1 ([.string x1, .string x2, .string x3, .string x4, .bool false, .int .i64 0, .bool false, .int .i64 0, .float .f64 0, .string ⟨#[]⟩, .string ⟨#[]⟩, .slice none 0 0, .slice none 0 0] : List Value) rfl rfl (Rd.newAt (wr.alloc (.cells #[.string x1, .string x2, .string x3, .string x4] 25)) (wr.heap.size + 1) ([.string x1, .string x2, .string x3, .string x4, .bool false, .int .i64 0, .bool false, .int .i64 0, .float .f64 0, .string ⟨#[]⟩, .string ⟨#[]⟩, .slice none 0 0, .slice none 0 0] : List Value) 39 (by simp)) (fun h => by cases h) (isE_one' (isV_V0 wr (fun _ => True)) x1 x2 x3 x4 false) (by unfold maxLen; omega) (by omega) (by simp; omega) ?_); intro v6 w6' hown6 hgrow6 hat6)
      have HOn : Hid (OwnL 39 13 IsE w6' w2.heap.size v6 (rowsOf (tr.take (q + 1)))) := Lib.hid (by
        have : rowsOf (tr.take (q + 1)) = rowsOf (tr.take q) ++ [(⟨x1, x2, x3, x4⟩, O0)] := by rw [hts.out]; simp [rowsOf]
        rw [this]
        exact OwnL.push recE HL.out ⟨_, rfl, isV_V0 _ _⟩ hown6 hgrow6 hat6)
      have hbn := below_app1 hba HW.out (Nat.le_refl _) (by omega) hgrow6
      clear hown6 hgrow6 hat6
      go_wp2_with fail
      go_roundw
      case rel => exact ⟨q + 1, _, by omega, by go_num, rfl, HOn, hbn⟩
      case measure => simp [intOf]; omega
    · obtain rfl : q = tr.length := by omega
      have hOe := HO.out
      rw [List.take_of_length_le (Nat.le_refl _)] at hOe
      obtain ⟨A8, c8, rfl, _, hLe⟩ := hOe.lat recE
      have hnw := refNew_any (rowsOf tr) (by rw [rowsOf_sz]; exact htr) A8 c8 wr _ hLe (fun b hb => hb.2)
      have HNW := Lib.hid hnw
      have HR3 := Lib.hid (HR2.out.below hbq)
      have gA3 := Lib.hid (blk_below gA.out hbq (by omega))
      have hbw3 : Below w.heap.size w wr := hb02.trans (hbq.mono (by omega))
      clear hOe hLe hnw HO HR2 gA
      go_wp2_with fail
      refine HNW.out.mono ?_
      rintro e w3 ⟨vs, rfl, hRB, hb3⟩
      rw [kys_rowsOf] at hRB
      have HRB := Lib.hid hRB
      obtain ⟨Bc, dc, Bo, do', Bf, df, Bu, mu, du, l2, rfl, -⟩ := hRB
      have hs3 := hb3.size
      have gB := Lib.hid (heap_alloc_new w3 (.cells #[.slice Bc tr.length dc, .slice Bo tr.length do', .slice Bf tr.length df, .slice Bu mu du] 55))
      have hb34 : Below w3.heap.size w3 (w3.alloc (.cells #[.slice Bc tr.length dc, .slice Bo tr.length do', .slice Bf tr.length df, .slice Bu mu du] 55)) := (Below.refl _ _).alloc (Nat.le_refl _) _
      have hb4 : Below wr.heap.size wr (w3.alloc (.cells #[.slice Bc tr.length dc, .slice Bo tr.length do', .slice Bf tr.length df, .slice Bu mu du] 55)) := hb3.trans (hb34.mono (by omega))
      have gA4 := Lib.hid (blk_below gA3.out hb4 (by omega))
      have hs4 : w3.heap.size + 1 ≤ (w3.alloc (.cells #[.slice Bc tr.length dc, .slice Bo tr.length do', .slice Bf tr.length df, .slice Bu mu du] 55)).heap.size := by simp
      have HR4 := Lib.hid (HR3.out.below hb4)
      have HS4 := Lib.hid (HRB.out.below hb34)
      have hbw4 : Below w.heap.size w (w3.alloc (.cells #[.slice Bc tr.length dc, .slice Bo tr.length do', .slice Bf tr.length df, .slice Bu mu du] 55)) := hbw3.trans (hb4.mono (by omega))
      have gl4 : w1.heap.size < w3.heap.size := by omega
      have T0 := cell_of_row _ w1.heap.size 0 _ _ (0, 0) gA4.out
      clear HNW HR3 HRB gA3 hb3 hb34
      go_wp2_with fail
      clear T0
      generalize (w3.alloc (.cells #[.slice Bc tr.length dc, .slice Bo tr.length do', .slice Bf tr.length df, .slice Bu mu du] 55)) = w4 at *
      go_loopw [10, 32] (fun v10 vi W => ∃ (q : Nat) (vv : Value), q ≤ cs.length ∧ vi = .int .i64 (q : Int) ∧ vv = v10 ∧ Hid (W.ownsRow w4.heap.size 3 1 vv (idl es tr q).length ((idl es tr q).map iv)) ∧ Below w4.heap.size w4 W) (fun _ i _ => cs.length - (intOf i).toNat)
      case atStart => exact ⟨0, _, Nat.zero_le _, rfl, rfl, Lib.hid (World.ownsRow_nil _ _ _ _), Below.refl _ _⟩
      case round =>
        obtain ⟨q, vv, hq, rfl, rfl, HO, hbz⟩ := hrel
        have hszz := hbz.size
        by_cases hlt : q < cs.length
        · have hx : cs[q]? = some cs[q] := List.getElem?_eq_getElem hlt
          have hwz : Below w.heap.size w wr := hbw4.trans (hbz.mono hbw4.size)
          obtain ⟨o1, o4⟩ := (HR4.out.below hbz).own
          have HIx := Lib.hid (idle_ref (es := es) (tr := tr) (q := q) (c := cs[q]) (by rw [hcs.out]; exact hx))
          rw [hcs.out] at HIx
          obtain ⟨ad, xa, rfl, hadB, hxa, rfl⟩ := ccs_lat o1 rfl q _ hx
          obtain ⟨af, rfl, hafB, hf⟩ := (Rd.of_own o4).at_ (k := q) (by simpa using hlt)
          have hfb : ((List.range cs.length).map fun k => Value.bool (firstB cs k))[q]'(by simpa using hlt) = .bool (firstB cs q) := by simp
          rw [hfb] at hf
          have hidl := idl_le es tr q
          generalize cs[q] = x at *
          obtain ⟨d0, d1, d2, d3⟩ := hxa.four
          obtain ⟨x1, x2, x3, x4⟩ := x
          simp only at d0 d1 d2 d3
          have T2 := cell_of_row _ w1.heap.size 2 _ _ (0, 0) (blk_alloc (blk_below gA4.out hbz (by omega)) (.cells #[.string x1, .string x2, .string x3, .string x4] 25))
          obtain ⟨m0, m1, m2, m3⟩ := blk4 (blk_alloc (blk_below gB.out hbz (blk_lt gB.out)) (.cells #[.string x1, .string x2, .string x3, .string x4] 25))
          obtain ⟨n0, n1, n2, n3⟩ := blk4 (heap_alloc_new wr (.cells #[.string x1, .string x2, .string x3, .string x4] 25))
          have hf' := ((((Below.refl wr.heap.size wr).alloc (Nat.le_refl _) (.cells #[.string x1, .string x2, .string x3, .string x4] 25))).cell (World.block_lt_of_cell? wr _ hf)).trans hf
          have HSz := Lib.hid (HS4.out.below (hbz.alloc hszz (.cells #[.string x1, .string x2, .string x3, .string x4] 25)))
          have hza : Below w4.heap.size w4 (wr.alloc (.cells #[.string x1, .string x2, .string x3, .string x4] 25)) := hbz.alloc hszz _
          have glz : w1.heap.size < wr.heap.size := by omega
          have glb : w3.heap.size < wr.heap.size := by have := blk_lt gB.out; omega
          have hq0 : (0 : Int) ≤ (q : Int) := by omega
          have hqn : (q : Int) < (cs.length : Int) := by omega
          have HOa := Lib.hid (HO.out.alloc (.cells #[.string x1, .string x2, .string x3, .string x4] 25))
          have hsza : wr.heap.size + 1 ≤ (wr.alloc (.cells #[.string x1, .string x2, .string x3, .string x4] 25)).heap.size := by simp
          clear o1 o4 hxa hfb hf hx
          cases hb : firstB cs q with
          | false =>
            rw [hb] at hf' HIx
            have HIn : Hid (idl es tr (q + 1) = idl es tr q ++ [q]) := Lib.hid (by simp only [idl]; rw [HIx.out]; rfl)
            clear hb
            go_wp2_with (at_builtin; go_must (refine wpList_app _ rfl (.tmp 49) (.tmp 51) _ rfl w4.heap.size 3 ii _ 1 8 Try.underlying28 hiv hv0 hv1 hv2 rfl (by omega) vv (idl es tr q).length ((idl es tr q).map iv) rfl (HOa.out.alloc _) (wr.heap.size + 1 + 1) (some ⟨wr.heap.size + 1, 0, none⟩) 1 1 [.int .i64 (q : Int)] rfl rfl (Rd.newAt (wr.alloc (.cells #[.string x1, .string x2, .string x3, .string x4] 25)) (wr.heap.size + 1) [.int .i64 (q : Int)] 3 (by simp)) (fun h => by cases h) (by simp; rfl) (by unfold maxLen; omega) (by omega) (by simp; omega) ?_); intro v5 w5 hown5 hgrow5 hat5)
            have HOn : Hid (w5.ownsRow w4.heap.size 3 1 v5 (idl es tr (q + 1)).length ((idl es tr (q + 1)).map iv)) := Lib.hid (by rw [HIn.out, List.length_append, List.map_append]; exact hown5)
            have hbn := below_app1 hza HOa.out (Nat.le_refl _) (by simp; omega) hgrow5
            clear hown5 hgrow5 hat5
            go_wp2_with fail
            go_roundw
            case rel => exact ⟨q + 1, _, by omega, by go_num, rfl, HOn, hbn⟩
            case measure => simp [intOf]; omega
          | true =>
            rw [hb] at hf' HIx
            clear hb
            go_wp2_with fail
            refine (refRow_any tr htr _ _ _ HSz.out ⟨x1, x2, x3, x4⟩).mono ?_
            rintro e wc ⟨rfl, hbc⟩
            have hsc := hbc.size
            simp only [World.size_alloc] at hsc
            have HOc := Lib.hid (own_below HOa.out hbc)
            have hzc : Below w4.heap.size w4 wc := hza.trans (hbc.mono (by simp; omega))
            clear T2 m0 m1 m2 m3 n0 n1 n2 n3 d0 d1 d2 d3 hf'
            by_cases hr : rowAt tr ⟨x1, x2, x3, x4⟩ < 0
            · have HIn : Hid (idl es tr (q + 1) = idl es tr q ++ [q]) := Lib.hid (by simp only [idl]; rw [HIx.out, decide_eq_true hr]; rfl)
              go_wp2_with (at_builtin; go_must (refine wpList_app _ rfl (.tmp 49) (.tmp 51) _ rfl w4.heap.size 3 ii _ 1 8 Try.underlying28 hiv hv0 hv1 hv2 rfl (by omega) vv (idl es tr q).length ((idl es tr q).map iv) rfl (HOc.out.alloc _) (wc.heap.size + 1) (some ⟨wc.heap.size, 0, none⟩) 1 1 [.int .i64 (q : Int)] rfl rfl (Rd.new wc [.int .i64 (q : Int)] 3) (fun h => by cases h) (by simp; rfl) (by unfold maxLen; omega) (by omega) (by simp; omega) ?_); intro v5 w5 hown5 hgrow5 hat5)
              have HOn : Hid (w5.ownsRow w4.heap.size 3 1 v5 (idl es tr (q + 1)).length ((idl es tr (q + 1)).map iv)) := Lib.hid (by rw [HIn.out, List.length_append, List.map_append]; exact hown5)
              have hbn := below_app1 hzc HOc.out (Nat.le_refl _) (by omega) hgrow5
              clear hown5 hgrow5 hat5
              go_wp2_with fail
              go_roundw
              case rel => exact ⟨q + 1, _, by omega, by go_num, rfl, HOn, hbn⟩
              case measure => simp [intOf]; omega
            · have HIn : Hid (idl es tr (q + 1) = idl es tr q) := Lib.hid (by simp only [idl]; rw [HIx.out, decide_eq_false hr]; simp)
              have hr' : 0 ≤ rowAt tr ⟨x1, x2, x3, x4⟩ := by omega
              go_wp2_with fail
              go_roundw
              case rel => exact ⟨q + 1, _, by omega, by go_num, rfl, Lib.hid (by rw [HIn.out]; exact HOc.out), hzc⟩
              case measure => simp [intOf]; omega
        · obtain rfl : q = cs.length := by omega
          go_wp2_with fail
          go_ret
          exact ⟨_, rfl, by rw [← HCL.out]; exact own_base HO.out (by have := hbw4.size; omega), hbw4.trans (hbz.mono hbw4.size)⟩
end Go.Proofs.Ytmicjfdibhoamaa.val
