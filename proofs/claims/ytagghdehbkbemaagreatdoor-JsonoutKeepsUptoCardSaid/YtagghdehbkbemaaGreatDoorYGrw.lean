/- grown: hands back the value that it was given, each list made anew with two spare records behind it. -/
import Derived.Test.YtagghdehbkbemaaGreatDoorGGrv
import Derived.OwnWalk
import Derived.Handy
import Derived.WalkSpells
import Derived.Deep.DeepMust
import Derived.Deep.RegionHeld3
import Derived.Deep.DeepCutAuto
import Derived.Deep.RegionLaw
import Derived.KernelRfl
namespace Go.Proofs.YtagghdehbkbemaaGreatDoor.val
open Go.RowKit mem
attribute [local go_sem] run_store_float
set_option linter.unusedVariables false

theorem infoV : (Tryz.prog.info? 27).map (fun i => (i.zero, i.size, i.bytes)) = some (some (.agg #[.int .i64 0, .bool false, .int .i64 0, .float .f64 0, .string ⟨#[]⟩, .string ⟨#[]⟩, .slice none 0 0, .slice none 0 0]), 8, 112) := by kernel_rfl
theorem infoM : (Tryz.prog.info? 41).map (fun i => (i.zero, i.size, i.bytes)) = some (some (.agg #[.string ⟨#[]⟩, .int .i64 0, .bool false, .int .i64 0, .float .f64 0, .string ⟨#[]⟩, .string ⟨#[]⟩, .slice none 0 0, .slice none 0 0]), 9, 128) := by kernel_rfl

def GrPost (w : World) (x : V) (e : Ending) (w' : World) : Prop := ∃ g c g' c', e = .returned (.agg (gcs x g c g' c').toArray) ∧ Grn w' w.heap.size x g c g' c' ∧ Below w.heap.size w w'

set_option maxRecDepth 100000 in
set_option maxHeartbeats 8000000 in
theorem grown_any : ∀ (N : Nat) (v : V), sz v ≤ N → N ≤ 1048576 → ∀ (cs : List Value) (w : World) (S : Nat → Prop), IsV w S v cs → Bel S w.heap.size →
    Calls Tryz.prog 6 #[.agg cs.toArray] w (GrPost w v) := by
  intro N
  induction N with
  | zero => intro v hv; have := sz_pos v; omega
  | succ N ih =>
    intro v hv hN cs w S hV hB
    obtain ⟨k, b, i, f, t, y, is, fs⟩ := v
    simp only [IsV] at hV
    obtain ⟨A, c, A', c', rfl, hA, hA', his, hfs⟩ := hV
    simp only [sz] at hv
    have hl1 := szs_len is
    have hl2 := szf_len fs
    have IH := Lib.hid ih
    have HB := Lib.hid hB
    have HI := Lib.hid his
    have HF := Lib.hid hfs
    obtain ⟨iv, hiv, hv0, hv1, hv2⟩ := info_parts infoV
    obtain ⟨im, him, hm0, hm1', hm2'⟩ := info_parts infoM
    clear ih hB his hfs hA hA'
    go_enter Tryz.func6, Tryz.ntmps6
    go_upto_region 2 with (fail)
    have g1 : (((w.alloc (.cells #[.int .i64 k, .bool b, .int .i64 i, .float .f64 f, .string t, .string y, .slice A is.length c, .slice A' fs.length c'] 27)).alloc (.cells #[.int .i64 0, .bool false, .int .i64 0, .float .f64 0, .string { data := #[] }, .string { data := #[] }, .slice none 0 0, .slice none 0 0] 27)).alloc (.cells #[.int .i64 k, .bool b, .int .i64 i, .float .f64 f, .string t, .string y, .slice A is.length c, .slice A' fs.length c'] 27)).heap[w.heap.size]? = some (.cells #[.int .i64 k, .bool b, .int .i64 i, .float .f64 f, .string t, .string y, .slice A is.length c, .slice A' fs.length c'] 27) := blk_alloc (blk_alloc (heap_alloc_new _ _) _) _
    have g2 : (((w.alloc (.cells #[.int .i64 k, .bool b, .int .i64 i, .float .f64 f, .string t, .string y, .slice A is.length c, .slice A' fs.length c'] 27)).alloc (.cells #[.int .i64 0, .bool false, .int .i64 0, .float .f64 0, .string { data := #[] }, .string { data := #[] }, .slice none 0 0, .slice none 0 0] 27)).alloc (.cells #[.int .i64 k, .bool b, .int .i64 i, .float .f64 f, .string t, .string y, .slice A is.length c, .slice A' fs.length c'] 27)).heap[w.heap.size + 1]? = some (.cells #[.int .i64 0, .bool false, .int .i64 0, .float .f64 0, .string { data := #[] }, .string { data := #[] }, .slice none 0 0, .slice none 0 0] 27) := by
      refine blk_alloc ?_ _
      have := heap_alloc_new (w.alloc (.cells #[.int .i64 k, .bool b, .int .i64 i, .float .f64 f, .string t, .string y, .slice A is.length c, .slice A' fs.length c'] 27)) (.cells #[.int .i64 0, .bool false, .int .i64 0, .float .f64 0, .string { data := #[] }, .string { data := #[] }, .slice none 0 0, .slice none 0 0] 27)
      simpa using this
    have g3 : (((w.alloc (.cells #[.int .i64 k, .bool b, .int .i64 i, .float .f64 f, .string t, .string y, .slice A is.length c, .slice A' fs.length c'] 27)).alloc (.cells #[.int .i64 0, .bool false, .int .i64 0, .float .f64 0, .string { data := #[] }, .string { data := #[] }, .slice none 0 0, .slice none 0 0] 27)).alloc (.cells #[.int .i64 k, .bool b, .int .i64 i, .float .f64 f, .string t, .string y, .slice A is.length c, .slice A' fs.length c'] 27)).heap[w.heap.size + 1 + 1]? = some (.cells #[.int .i64 k, .bool b, .int .i64 i, .float .f64 f, .string t, .string y, .slice A is.length c, .slice A' fs.length c'] 27) := by
      have := heap_alloc_new ((w.alloc (.cells #[.int .i64 k, .bool b, .int .i64 i, .float .f64 f, .string t, .string y, .slice A is.length c, .slice A' fs.length c'] 27)).alloc (.cells #[.int .i64 0, .bool false, .int .i64 0, .float .f64 0, .string { data := #[] }, .string { data := #[] }, .slice none 0 0, .slice none 0 0] 27)) (.cells #[.int .i64 k, .bool b, .int .i64 i, .float .f64 f, .string t, .string y, .slice A is.length c, .slice A' fs.length c'] 27)
      simpa using this
    have gb : Below w.heap.size w (((w.alloc (.cells #[.int .i64 k, .bool b, .int .i64 i, .float .f64 f, .string t, .string y, .slice A is.length c, .slice A' fs.length c'] 27)).alloc (.cells #[.int .i64 0, .bool false, .int .i64 0, .float .f64 0, .string { data := #[] }, .string { data := #[] }, .slice none 0 0, .slice none 0 0] 27)).alloc (.cells #[.int .i64 k, .bool b, .int .i64 i, .float .f64 f, .string t, .string y, .slice A is.length c, .slice A' fs.length c'] 27)) := (((Below.refl _ _).alloc (Nat.le_refl _) _).alloc (by simp) _).alloc (by simp; omega) _
    have gs : (((w.alloc (.cells #[.int .i64 k, .bool b, .int .i64 i, .float .f64 f, .string t, .string y, .slice A is.length c, .slice A' fs.length c'] 27)).alloc (.cells #[.int .i64 0, .bool false, .int .i64 0, .float .f64 0, .string { data := #[] }, .string { data := #[] }, .slice none 0 0, .slice none 0 0] 27)).alloc (.cells #[.int .i64 k, .bool b, .int .i64 i, .float .f64 f, .string t, .string y, .slice A is.length c, .slice A' fs.length c'] 27)).heap.size = w.heap.size + 3 := by simp
    generalize (((w.alloc (.cells #[.int .i64 k, .bool b, .int .i64 i, .float .f64 f, .string t, .string y, .slice A is.length c, .slice A' fs.length c'] 27)).alloc (.cells #[.int .i64 0, .bool false, .int .i64 0, .float .f64 0, .string { data := #[] }, .string { data := #[] }, .slice none 0 0, .slice none 0 0] 27)).alloc (.cells #[.int .i64 k, .bool b, .int .i64 i, .float .f64 f, .string t, .string y, .slice A is.length c, .slice A' fs.length c'] 27)) = w0 at *
    have a6 := (blk8 g1).2.2.2.2.2.2.1
    have G1 := Lib.hid g1
    have G2 := Lib.hid g2
    have G3 := Lib.hid g3
    clear g1 g2 g3
    go_wp2_with (refine wpList_make_own _ rfl (.const (.int .i64 0)) (.tmp 12) 24 rfl (w.heap.size + 3) 27 iv _ 8 Tryz.underlying24 hiv hv0 hv1 .i64 .i64 ((is.length : Int) + 2) (is.length + 2) rfl rfl (by omega) (by rw [hv2]; omega) (by unfold maxLen; omega) (by omega) ?_; intro w6 hown6 hgrow6; rw [gs] at hown6; have H6 := Lib.hid hgrow6; have O6 := Lib.hid hown6; have G36 := blk_grown G3.out hgrow6 (by simp); have e6 := (blk8 G36).2.2.2.2.2.2.1; have e6f := blk_frozen G36 6; have K36 := Lib.hid G36; clear G36 hgrow6 hown6)
    have gb6 : Below w.heap.size w w6 := gb.grown H6.out (by omega) (fun _ h => by cases h)
    have hs6 := H6.out.size
    go_loopw [4] (fun vi W => ∃ (q : Nat) (v : Value) (css : List (List Value)), q ≤ is.length ∧ vi = .int .i64 (q : Int) ∧ W.ownsRow (w.heap.size + 3) 27 8 v (is.take q).length css.flatten ∧ Elems IsG W (Kids W (w.heap.size + 3) v) (is.take q) css ∧
        Hid (W.heap[w.heap.size]? = some (.cells #[.int .i64 k, .bool b, .int .i64 i, .float .f64 f, .string t, .string y, .slice A is.length c, .slice A' fs.length c'] 27)) ∧ Hid (W.heap[w.heap.size + 1]? = some (.cells #[.int .i64 0, .bool false, .int .i64 0, .float .f64 0, .string { data := #[] }, .string { data := #[] }, .slice none 0 0, .slice none 0 0] 27)) ∧ Hid (W.heap[w.heap.size + 1 + 1]? = some (.cells #[.int .i64 k, .bool b, .int .i64 i, .float .f64 f, .string t, .string y, v, .slice A' fs.length c'] 27)) ∧ Below w.heap.size w W ∧ w.heap.size + 3 ≤ W.heap.size) (fun i _ => is.length - (intOf i).toNat)
    case atStart =>
      refine ⟨0, .slice (some ⟨w.heap.size + 3, 0, none⟩) 0 (is.length + 2), [], Nat.zero_le _, rfl, ownsRow_setCell_below (by simpa using O6.out) (show w.heap.size + 1 + 1 < w.heap.size + 3 by omega) _, Elems.low recG Elems.nil (show w.heap.size + 1 + 1 < w.heap.size + 3 by omega) _, blk_far (blk_grown G1.out H6.out (by simp)) (show w.heap.size ≠ w.heap.size + 1 + 1 by omega) _,
        blk_far (blk_grown G2.out H6.out (by simp)) (show w.heap.size + 1 ≠ w.heap.size + 1 + 1 by omega) _, Lib.hid (by simpa using blk_set K36.out 6 (.slice (some ⟨w.heap.size + 3, 0, none⟩) 0 (is.length + 2))), gb6.setCell (show w.heap.size ≤ w.heap.size + 1 + 1 by omega) _, ?_⟩
      simp [World.setCell]
      omega
    case round =>
      obtain ⟨q, vv, css, hq, rfl, hown, hel, R1, R2, R3, hb, hsz⟩ := hrel
      clear G1 G2 G3 K36 H6 O6 gb gs gb6 hs6 a6 e6 e6f
      have HE := Lib.hid hel
      have hlen : (is.take q).length = q := by rw [List.length_take]; omega
      have HO := Lib.hid hown
      have HL := Lib.hid hlen
      clear hel hown hlen
      have a6 := (blk8 R1.out).2.2.2.2.2.2.1
      by_cases hlt : q < is.length
      · have hx : is[q]? = some is[q] := List.getElem?_eq_getElem hlt
        have hts := Lib.hid (List.take_succ_eq_append_getElem hlt)
        obtain ⟨ad, ds, rfl, hadB, hcs, hvx⟩ := (HI.out.below HB.out hb).at_ hx
        have hszx := szs_get hx
        generalize is[q] = x at *
        have hvx2 := Lib.hid hvx
        obtain ⟨k2, b2, i2, f2, t2, y2, is2, fs2⟩ := x
        simp only [IsV] at hvx
        obtain ⟨A2, c2, A2', c2', rfl, _⟩ := hvx
        obtain ⟨d0, d1, d2, d3, d4, d5, d6, d7⟩ := hcs.eight
        rw [Nat.zero_add] at d0 d1 d2 d3 d4 d5 d6 d7
        have HC := Lib.hid (fun (W : World) (hW : Below w.heap.size wr W) (hWB : w.heap.size ≤ W.heap.size) => IH.out _ (by omega) (by omega) _ W S (hvx2.out.below HB.out hW) (HB.out.mono hWB))
        clear hcs hx hvx2 IH
        have gl1 := blk_lt R3.out
        have hlq : (q : Int) < (is.length : Int) := by omega
        have h0q : (0 : Int) ≤ (q : Int) := by omega
        go_upto_region 7 with (go_at_call 6; go_must (refine (HC.out _ (Below.refl _ _) (by omega)).mono ?_; rintro e wc ⟨g3, c3, g3', c3', rfl, hv3, hb3⟩; simp only [gcs]; have HV3 := Lib.hid hv3; clear hv3 d0 d1 d2 d3 d4 d5 d6 d7 a6; have HO3 := Lib.hid (own_below HO.out hb3); have HE3 := Lib.hid (HE.out.below recG hb3); have R1c := Lib.hid (blk_below R1.out hb3 (by omega)); have R2c := Lib.hid (blk_below R2.out hb3 (by omega)); have R3c := Lib.hid (blk_below R3.out hb3 gl1); have j6c := (blk8 R3c.out).2.2.2.2.2.2.1; have gl1c := blk_lt R3c.out; have hszc := hb3.size))
        have gE := heap_alloc_new wc (.cells #[.int .i64 k2, .bool b2, .int .i64 i2, .float .f64 f2, .string t2, .string y2, .slice (some ⟨g3, 0, none⟩) is2.length c3, .slice (some ⟨g3', 0, none⟩) fs2.length c3'] 27)
        obtain ⟨m0, m1, m2, m3, m4, m5, m6, m7⟩ := blk8 gE
        have gl2 := blk_lt gE
        have R3e := blk_alloc R3c.out (.cells #[.int .i64 k2, .bool b2, .int .i64 i2, .float .f64 f2, .string t2, .string y2, .slice (some ⟨g3, 0, none⟩) is2.length c3, .slice (some ⟨g3', 0, none⟩) fs2.length c3'] 27)
        have R1e := Lib.hid (blk_alloc R1c.out (.cells #[.int .i64 k2, .bool b2, .int .i64 i2, .float .f64 f2, .string t2, .string y2, .slice (some ⟨g3, 0, none⟩) is2.length c3, .slice (some ⟨g3', 0, none⟩) fs2.length c3'] 27))
        have R2e := Lib.hid (blk_alloc R2c.out (.cells #[.int .i64 k2, .bool b2, .int .i64 i2, .float .f64 f2, .string t2, .string y2, .slice (some ⟨g3, 0, none⟩) is2.length c3, .slice (some ⟨g3', 0, none⟩) fs2.length c3'] 27))
        have j6' := (blk8 R3e).2.2.2.2.2.2.1
        have hbE : Below wc.heap.size wc (wc.alloc (.cells #[.int .i64 k2, .bool b2, .int .i64 i2, .float .f64 f2, .string t2, .string y2, .slice (some ⟨g3, 0, none⟩) is2.length c3, .slice (some ⟨g3', 0, none⟩) fs2.length c3'] 27)) := (Below.refl _ _).alloc (Nat.le_refl _) _
        have hzE : wc.heap.size + 1 = (wc.alloc (.cells #[.int .i64 k2, .bool b2, .int .i64 i2, .float .f64 f2, .string t2, .string y2, .slice (some ⟨g3, 0, none⟩) is2.length c3, .slice (some ⟨g3', 0, none⟩) fs2.length c3'] 27)).heap.size := by simp
        have HO4 := Lib.hid (own_below HO3.out hbE)
        have HE4 := Lib.hid (HE3.out.below recG hbE)
        have HB4 : Below w.heap.size w (wc.alloc (.cells #[.int .i64 k2, .bool b2, .int .i64 i2, .float .f64 f2, .string t2, .string y2, .slice (some ⟨g3, 0, none⟩) is2.length c3, .slice (some ⟨g3', 0, none⟩) fs2.length c3'] 27)) := (hb.trans (hb3.mono (by omega))).alloc (by omega) _
        have hxk : IsG (wc.alloc (.cells #[.int .i64 k2, .bool b2, .int .i64 i2, .float .f64 f2, .string t2, .string y2, .slice (some ⟨g3, 0, none⟩) is2.length c3, .slice (some ⟨g3', 0, none⟩) fs2.length c3'] 27)) (Kids (wc.alloc (.cells #[.int .i64 k2, .bool b2, .int .i64 i2, .float .f64 f2, .string t2, .string y2, .slice (some ⟨g3, 0, none⟩) is2.length c3, .slice (some ⟨g3', 0, none⟩) fs2.length c3'] 27)) (w.heap.size + 3) vv) (.mk k2 b2 i2 f2 t2 y2 is2 fs2) [.int .i64 k2, .bool b2, .int .i64 i2, .float .f64 f2, .string t2, .string y2, .slice (some ⟨g3, 0, none⟩) is2.length c3, .slice (some ⟨g3', 0, none⟩) fs2.length c3'] := by
          refine IsG.keep (S := New wr.heap.size wc) (fun p hp => hbE.cell hp.2) (fun b hp => ?_) _ _ HV3.out.isG
          exact ⟨by have := hp.1; omega, by have := hp.2; omega, fun e => by have := (HO.out.lt b e).2; have := hp.1; omega⟩
        have R3E := Lib.hid R3e
        have HXK := Lib.hid hxk
        clear R3e hxk
        generalize (wc.alloc (.cells #[.int .i64 k2, .bool b2, .int .i64 i2, .float .f64 f2, .string t2, .string y2, .slice (some ⟨g3, 0, none⟩) is2.length c3, .slice (some ⟨g3', 0, none⟩) fs2.length c3'] 27)) = w1 at *
        have hzE' : wc.heap.size + 1 ≤ w1.heap.size := by omega
        clear gE
        go_wp2_with (at_builtin; go_must (refine wpList_app _ rfl (.tmp 29) (.tmp 31) _ rfl (w.heap.size + 3) 27 iv _ 8 112 Tryz.underlying24 hiv hv0 hv1 hv2 rfl (by omega) vv _ css.flatten rfl (HO4.out.alloc _) (w1.heap.size + 1) (some ⟨w1.heap.size, 0, none⟩) 1 1 [.int .i64 k2, .bool b2, .int .i64 i2, .float .f64 f2, .string t2, .string y2, .slice (some ⟨g3, 0, none⟩) is2.length c3, .slice (some ⟨g3', 0, none⟩) fs2.length c3'] rfl rfl (Rd.new w1 [.int .i64 k2, .bool b2, .int .i64 i2, .float .f64 f2, .string t2, .string y2, .slice (some ⟨g3, 0, none⟩) is2.length c3, .slice (some ⟨g3', 0, none⟩) fs2.length c3'] 27) (by simp) (recG.one HXK.out) (by have := HL.out; unfold maxLen; omega) (by have := HL.out; omega) (by simp; omega) ?_; intro v' w5 hown' hgrow hat; rw [HL.out] at hown'; have HO' := Lib.hid hown'; have HG' := Lib.hid hgrow; have HA' := Lib.hid hat; have R3w := blk_grown (blk_alloc R3E.out _) hgrow (own_ne HO4.out (by omega)); have j6w := (blk8 R3w).2.2.2.2.2.2.1; have jfw := blk_frozen R3w 6; have R3W := Lib.hid R3w; obtain ⟨A5, c5, rfl, _, _, _⟩ := own_form hown'; clear hown' hgrow hat R3w))
        have hHG := HG'.out
        have hsz5 : w1.heap.size + 1 ≤ w5.heap.size := by have := hHG.size; simpa using this
        have hOn : w5.ownsRow (w.heap.size + 3) 27 8 (.slice A5 (q + 1) c5) (is.take (q + 1)).length (css ++ [([.int .i64 k2, .bool b2, .int .i64 i2, .float .f64 f2, .string t2, .string y2, .slice (some ⟨g3, 0, none⟩) is2.length c3, .slice (some ⟨g3', 0, none⟩) fs2.length c3'] : List Value)]).flatten := by
          have h1 := HO'.out
          rw [hts.out, List.length_append, HL.out, List.flatten_append]
          simpa only [List.flatten_cons, List.flatten_nil, List.append_nil, List.length_cons, List.length_nil, Nat.zero_add] using h1
        have hEn := Elems.app recG HE4.out HXK.out hHG HA'.out
        rw [← hts.out] at hEn
        refine ⟨⟨q + 1, _, css ++ [([.int .i64 k2, .bool b2, .int .i64 i2, .float .f64 f2, .string t2, .string y2, .slice (some ⟨g3, 0, none⟩) is2.length c3, .slice (some ⟨g3', 0, none⟩) fs2.length c3'] : List Value)], by omega, by go_num, ownsRow_setCell_below hOn (show w.heap.size + 1 + 1 < w.heap.size + 3 by omega) _, hEn.low recG (show w.heap.size + 1 + 1 < w.heap.size + 3 by omega) _, blk_far (blk_grown (blk_alloc R1e.out _) hHG (own_ne HO4.out (by omega))) (show w.heap.size ≠ w.heap.size + 1 + 1 by omega) _,
          blk_far (blk_grown (blk_alloc R2e.out _) hHG (own_ne HO4.out (by omega))) (show w.heap.size + 1 ≠ w.heap.size + 1 + 1 by omega) _, Lib.hid (by simpa using blk_set R3W.out 6 (.slice A5 (q + 1) c5)), ?_, ?_⟩, by simp [intOf]; omega⟩
        · exact ((HB4.alloc (by omega) _).grown hHG (by simp; omega) (fun kk hkk => by have := (HO4.out.lt kk hkk).1; omega)).setCell (show w.heap.size ≤ w.heap.size + 1 + 1 by omega) _
        · simp [World.setCell]
          omega
      · obtain rfl : q = is.length := by omega
        rw [List.take_of_length_le (Nat.le_refl _)] at HO HE HL
        have j6 := (blk8 R3.out).2.2.2.2.2.2.1
        have gl3 := blk_lt R3.out
        have gl1 := blk_lt R1.out
        clear HI HL
        go_wp2_with (fail)
        go_cut [4] from 34 to 44 (fun u4 wx => ∃ gI cI m, w.heap.size + 3 ≤ m ∧ m ≤ wx.heap.size ∧ Hid (Lst 27 8 IsG wx (w.heap.size + 3) m is spI gI cI) ∧ Hid (wx.heap[w.heap.size]? = some (.cells #[.int .i64 k, .bool b, .int .i64 i, .float .f64 f, .string t, .string y, .slice A is.length c, .slice A' fs.length c'] 27)) ∧ Hid (wx.heap[w.heap.size + 1]? = some (.cells #[.int .i64 0, .bool false, .int .i64 0, .float .f64 0, .string { data := #[] }, .string { data := #[] }, .slice none 0 0, .slice none 0 0] 27)) ∧
            Hid (wx.heap[w.heap.size + 1 + 1]? = some (.cells #[.int .i64 k, .bool b, .int .i64 i, .float .f64 f, .string t, .string y, .slice (some ⟨gI, 0, none⟩) is.length cI, .slice A' fs.length c'] 27)) ∧ Below w.heap.size w wx)
        case first =>
          have hdr : Below wr.heap.size wr wr.drew := (Below.refl _ _).drew
          have HOd := Lib.hid (own_below HO.out hdr)
          have HEd := Lib.hid (HE.out.below recG hdr)
          have R1d := Lib.hid (blk_below R1.out hdr gl1)
          have R2d := Lib.hid (blk_below R2.out hdr (by omega))
          have R3d := Lib.hid (blk_below R3.out hdr gl3)
          have hszd : wr.drew.heap.size = wr.heap.size := rfl
          go_region_law (first
            | (go_must (refine step_app _ rfl (.tmp 35) (.tmp 38) _ rfl (w.heap.size + 3) 27 iv _ 8 112 Tryz.underlying24 hiv hv0 hv1 hv2 rfl (by omega) vv _ css.flatten rfl (HOd.out.alloc _) (wr.drew.heap.size + 1) (some ⟨wr.drew.heap.size, 0, none⟩) 2 2 spI rfl rfl (Rd.new wr.drew spI 27) (by simp) spI_one (by unfold maxLen; omega) (by omega) (by simp; omega) ?_; intro v' w5 hown' hgrow hat; have R3w := blk_grown (blk_alloc R3d.out _) hgrow (own_ne HOd.out (by omega)); have j6w := (blk8 R3w).2.2.2.2.2.2.1; have jfw := blk_frozen R3w 6; have a6w := (blk8 (blk_grown (blk_alloc R1d.out _) hgrow (own_ne HOd.out (by omega)))).2.2.2.2.2.2.1; have R3W := Lib.hid R3w; obtain ⟨gI, cI, rfl, hLI⟩ := half recG hown' (Elems.app0 recG HEd.out hgrow hat); have HLI := Lib.hid hLI; have hcI := hLI.2.2.1; have hcI2 : is.length ≤ cI := (by (omega)); have HG' := Lib.hid hgrow; clear hown' hgrow hat R3w hLI)))
          all_goals
            go_wp2_with fail
            go_meet
            case rel =>
              have hLI := HLI.out
              have hm : w.heap.size + 3 ≤ w5.heap.size := by have := hLI.1; have := hLI.2.1; omega
              refine ⟨gI, cI, w5.heap.size, hm, by simp [World.setCell], Lib.hid (hLI.keep recG (fun b h1 h2 => Below.heap_setCell _ _ _ b (show b ≠ w.heap.size + 1 + 1 by omega))), blk_far (blk_grown (blk_alloc R1d.out _) HG'.out (own_ne HOd.out (by omega))) (show w.heap.size ≠ w.heap.size + 1 + 1 by omega) _,
                blk_far (blk_grown (blk_alloc R2d.out _) HG'.out (own_ne HOd.out (by omega))) (show w.heap.size + 1 ≠ w.heap.size + 1 + 1 by omega) _, Lib.hid (by simpa using blk_set R3W.out 6 (.slice (some ⟨gI, 0, none⟩) is.length cI)), ?_⟩
              exact (((hb.drew).alloc (by omega) _).grown HG'.out (by simp; omega) (fun kk hkk => by have := (HOd.out.lt kk hkk).1; omega)).setCell (show w.heap.size ≤ w.heap.size + 1 + 1 by omega) _
        case rest =>
          obtain ⟨gI, cI, m, hm1, hm2, HLI, T1, T2, T3, tb⟩ := hcut
          clear HO HE R1 R2 R3 hb hsz a6 j6 gl3 gl1
          have a7 := (blk8 T1.out).2.2.2.2.2.2.2
          go_wp2_with (refine wpList_make_own _ rfl (.const (.int .i64 0)) (.tmp 48) 25 rfl m 41 im _ 9 Tryz.underlying25 him hm0 hm1' .i64 .i64 ((fs.length : Int) + 2) (fs.length + 2) rfl rfl (by omega) (by rw [hm2']; omega) (by unfold maxLen; omega) (by omega) ?_; intro w7 hown7 hgrow7; have H7 := Lib.hid hgrow7; have O7 := Lib.hid hown7; have G37 := blk_grown T3.out hgrow7 (by simp); have e7 := (blk8 G37).2.2.2.2.2.2.2; have e7f := blk_frozen G37 7; have K37 := Lib.hid G37; clear G37 hgrow7 hown7)
          have gb7 : Below w.heap.size w w7 := tb.grown H7.out (by have := tb.size; omega) (fun _ h => by cases h)
          have hs7 := H7.out.size
          have LI7 := Lib.hid (HLI.out.keep recG (fun b h1 h2 => (Below.heap_setCell w7 ⟨w.heap.size + 1 + 1, 7, none⟩ (.slice (some ⟨wc.heap.size, 0, none⟩) 0 (fs.length + 2)) b (show b ≠ w.heap.size + 1 + 1 by omega)).trans (H7.out.block b (by omega) (by intro e; cases e))))
          clear a7 e7 e7f
          go_loopw [6] (fun vi W => ∃ (q : Nat) (v : Value) (css : List (List Value)), q ≤ fs.length ∧ vi = .int .i64 (q : Int) ∧ W.ownsRow m 41 9 v (fs.take q).length css.flatten ∧ Elems IsH W (Kids W m v) (fs.take q) css ∧ Hid (Lst 27 8 IsG W (w.heap.size + 3) m is spI gI cI) ∧
              Hid (W.heap[w.heap.size]? = some (.cells #[.int .i64 k, .bool b, .int .i64 i, .float .f64 f, .string t, .string y, .slice A is.length c, .slice A' fs.length c'] 27)) ∧ Hid (W.heap[w.heap.size + 1]? = some (.cells #[.int .i64 0, .bool false, .int .i64 0, .float .f64 0, .string { data := #[] }, .string { data := #[] }, .slice none 0 0, .slice none 0 0] 27)) ∧ Hid (W.heap[w.heap.size + 1 + 1]? = some (.cells #[.int .i64 k, .bool b, .int .i64 i, .float .f64 f, .string t, .string y, .slice (some ⟨gI, 0, none⟩) is.length cI, v] 27)) ∧ Below w.heap.size w W ∧ m ≤ W.heap.size) (fun i _ => fs.length - (intOf i).toNat)
          case atStart =>
            refine ⟨0, .slice (some ⟨wc.heap.size, 0, none⟩) 0 (fs.length + 2), [], Nat.zero_le _, rfl, ownsRow_setCell_below (by simpa using O7.out) (show w.heap.size + 1 + 1 < m by omega) _, Elems.low recH Elems.nil (show w.heap.size + 1 + 1 < m by omega) _, LI7, blk_far (blk_grown T1.out H7.out (by simp)) (show w.heap.size ≠ w.heap.size + 1 + 1 by omega) _,
              blk_far (blk_grown T2.out H7.out (by simp)) (show w.heap.size + 1 ≠ w.heap.size + 1 + 1 by omega) _, Lib.hid (by simpa using blk_set K37.out 7 (.slice (some ⟨wc.heap.size, 0, none⟩) 0 (fs.length + 2))), gb7.setCell (show w.heap.size ≤ w.heap.size + 1 + 1 by omega) _, ?_⟩
            simp [World.setCell]
            omega
          case round =>
            obtain ⟨q, vv, css, hq, rfl, hown, hel, HLr, R1, R2, R3, hb, hsz⟩ := hrel
            clear T1 T2 T3 K37 H7 O7 gb7 hs7 LI7 HLI tb hm2
            have HE := Lib.hid hel
            have hlen : (fs.take q).length = q := by rw [List.length_take]; omega
            have HO := Lib.hid hown
            have HL := Lib.hid hlen
            clear hel hown hlen
            have a7 := (blk8 R1.out).2.2.2.2.2.2.2
            have gl3 := blk_lt R3.out
            have gl1 := blk_lt R1.out
            by_cases hlt : q < fs.length
            · have hx : fs[q]? = some fs[q] := List.getElem?_eq_getElem hlt
              have hts := Lib.hid (List.take_succ_eq_append_getElem hlt)
              obtain ⟨ad, ds, rfl, hadB, hcs, hvx⟩ := (HF.out.below HB.out hb).at_ hx
              have hszx := szf_get hx
              generalize fs[q] = x at *
              have hvx2 := Lib.hid hvx
              obtain ⟨s2, k2, b2, i2, f2, t2, y2, is2, fs2⟩ := x
              simp only [IsV] at hvx
              obtain ⟨A2, c2, A2', c2', rfl, _⟩ := hvx
              obtain ⟨d0, d1, d2, d3, d4, d5, d6, d7, d8⟩ := hcs.nine
              rw [Nat.zero_add] at d0 d1 d2 d3 d4 d5 d6 d7 d8
              have hadw : (ad.add (q * 9)).block < wr.heap.size := by have := HB.out _ hadB; rw [add_block]; have := hb.size; omega
              have HC := Lib.hid (fun (W : World) (hW : Below w.heap.size wr W) (hWB : w.heap.size ≤ W.heap.size) => IH.out _ (by omega) (by omega) _ W S (hvx2.out.below HB.out hW) (HB.out.mono hWB))
              clear hcs hx hvx2 IH
              have hlq : (q : Int) < (fs.length : Int) := by omega
              have h0q : (0 : Int) ≤ (q : Int) := by omega
              go_upto_region 14 with (go_at_call 6; go_must (refine (HC.out _ (Below.refl _ _) (by omega)).mono ?_; rintro e wc ⟨g3, c3, g3', c3', rfl, hv3, hb3⟩; simp only [gcs]; have HV3 := Lib.hid hv3; have d0c := (hb3.cell (p := ad.add (q * 9)) hadw).trans d0; clear hv3 d0 d1 d2 d3 d4 d5 d6 d7 d8 a7; have HO3 := Lib.hid (own_below HO.out hb3); have HE3 := Lib.hid (HE.out.below recH hb3); have HLc := Lib.hid (HLr.out.keep recG (fun b h1 h2 => hb3.block b (by omega))); have R1c := Lib.hid (blk_below R1.out hb3 gl1); have R2c := Lib.hid (blk_below R2.out hb3 (by omega)); have R3c := Lib.hid (blk_below R3.out hb3 gl3); have gl1c := blk_lt R3c.out; have hszc := hb3.size))
              have gE := heap_alloc_new wc (.cells #[.int .i64 k2, .bool b2, .int .i64 i2, .float .f64 f2, .string t2, .string y2, .slice (some ⟨g3, 0, none⟩) is2.length c3, .slice (some ⟨g3', 0, none⟩) fs2.length c3'] 27)
              obtain ⟨m0, m1, m2, m3, m4, m5, m6, m7⟩ := blk8 gE
              have gl2 := blk_lt gE
              have d0e : (wc.alloc (.cells #[.int .i64 k2, .bool b2, .int .i64 i2, .float .f64 f2, .string t2, .string y2, .slice (some ⟨g3, 0, none⟩) is2.length c3, .slice (some ⟨g3', 0, none⟩) fs2.length c3'] 27)).cell? (ad.add (q * 9)) = some (.string s2) := (World.cell?_of_block (Below.heap_alloc wc _ _ (by omega))).trans d0c
              have R3e := blk_alloc R3c.out (.cells #[.int .i64 k2, .bool b2, .int .i64 i2, .float .f64 f2, .string t2, .string y2, .slice (some ⟨g3, 0, none⟩) is2.length c3, .slice (some ⟨g3', 0, none⟩) fs2.length c3'] 27)
              have R1e := blk_alloc R1c.out (.cells #[.int .i64 k2, .bool b2, .int .i64 i2, .float .f64 f2, .string t2, .string y2, .slice (some ⟨g3, 0, none⟩) is2.length c3, .slice (some ⟨g3', 0, none⟩) fs2.length c3'] 27)
              have R2e := Lib.hid (blk_alloc R2c.out (.cells #[.int .i64 k2, .bool b2, .int .i64 i2, .float .f64 f2, .string t2, .string y2, .slice (some ⟨g3, 0, none⟩) is2.length c3, .slice (some ⟨g3', 0, none⟩) fs2.length c3'] 27))
              have j7' := (blk8 R3e).2.2.2.2.2.2.2
              have b7' := (blk8 R1e).2.2.2.2.2.2.2
              have hbE : Below wc.heap.size wc (wc.alloc (.cells #[.int .i64 k2, .bool b2, .int .i64 i2, .float .f64 f2, .string t2, .string y2, .slice (some ⟨g3, 0, none⟩) is2.length c3, .slice (some ⟨g3', 0, none⟩) fs2.length c3'] 27)) := (Below.refl _ _).alloc (Nat.le_refl _) _
              have hzE : wc.heap.size + 1 = (wc.alloc (.cells #[.int .i64 k2, .bool b2, .int .i64 i2, .float .f64 f2, .string t2, .string y2, .slice (some ⟨g3, 0, none⟩) is2.length c3, .slice (some ⟨g3', 0, none⟩) fs2.length c3'] 27)).heap.size := by simp
              have HO4 := Lib.hid (own_below HO3.out hbE.drew)
              have HE4 := Lib.hid (HE3.out.below recH hbE.drew)
              have HL4 := Lib.hid (HLc.out.keep recG (fun b h1 h2 => hbE.block b (by omega)))
              have HB4 : Below w.heap.size w (wc.alloc (.cells #[.int .i64 k2, .bool b2, .int .i64 i2, .float .f64 f2, .string t2, .string y2, .slice (some ⟨g3, 0, none⟩) is2.length c3, .slice (some ⟨g3', 0, none⟩) fs2.length c3'] 27)) := (hb.trans (hb3.mono (by omega))).alloc (by omega) _
              have hxk : IsH (wc.alloc (.cells #[.int .i64 k2, .bool b2, .int .i64 i2, .float .f64 f2, .string t2, .string y2, .slice (some ⟨g3, 0, none⟩) is2.length c3, .slice (some ⟨g3', 0, none⟩) fs2.length c3'] 27)).drew (Kids (wc.alloc (.cells #[.int .i64 k2, .bool b2, .int .i64 i2, .float .f64 f2, .string t2, .string y2, .slice (some ⟨g3, 0, none⟩) is2.length c3, .slice (some ⟨g3', 0, none⟩) fs2.length c3'] 27)).drew m vv) (s2, .mk k2 b2 i2 f2 t2 y2 is2 fs2) (.string s2 :: [.int .i64 k2, .bool b2, .int .i64 i2, .float .f64 f2, .string t2, .string y2, .slice (some ⟨g3, 0, none⟩) is2.length c3, .slice (some ⟨g3', 0, none⟩) fs2.length c3']) := by
                refine ⟨[.int .i64 k2, .bool b2, .int .i64 i2, .float .f64 f2, .string t2, .string y2, .slice (some ⟨g3, 0, none⟩) is2.length c3, .slice (some ⟨g3', 0, none⟩) fs2.length c3'], rfl, IsG.keep (S := New wr.heap.size wc) (fun p hp => hbE.drew.cell hp.2) (fun b hp => ?_) _ _ HV3.out.isG⟩
                exact ⟨by have := hp.1; omega, by have := hp.2; have := hbE.drew.size; omega, fun e => by have := (HO.out.lt b e).2; have := hp.1; omega⟩
              have R3E := Lib.hid R3e
              have R1E := Lib.hid R1e
              have HXK := Lib.hid hxk
              clear R3e R1e hxk d0c
              generalize (wc.alloc (.cells #[.int .i64 k2, .bool b2, .int .i64 i2, .float .f64 f2, .string t2, .string y2, .slice (some ⟨g3, 0, none⟩) is2.length c3, .slice (some ⟨g3', 0, none⟩) fs2.length c3'] 27)) = w1 at *
              have hzE' : wc.heap.size + 1 ≤ w1.heap.size := by omega
              have hdz : w1.drew.heap.size = w1.heap.size := rfl
              have gl3w : w.heap.size + 1 + 1 < w1.heap.size := by omega
              have gl1w : w.heap.size < w1.heap.size := by omega
              have hadw1 : (ad.add (q * 9)).block < w1.heap.size := by omega
              have hd1 : Below w1.heap.size w1 w1.drew := (Below.refl _ _).drew
              have R1D := Lib.hid (blk_below R1E.out hd1 (by omega))
              have R2D := Lib.hid (blk_below R2e.out hd1 (by omega))
              have R3D := Lib.hid (blk_below R3E.out hd1 (by omega))
              clear gE
              go_region_law (first
                | (go_must (refine step_app _ rfl (.tmp 66) (.tmp 75) _ rfl m 41 im _ 9 128 Tryz.underlying25 him hm0 hm1' hm2' rfl (by omega) vv _ css.flatten rfl (HO4.out.alloc _) (w1.drew.heap.size + 1) (some ⟨w1.drew.heap.size, 0, none⟩) 1 1 (.string s2 :: [.int .i64 k2, .bool b2, .int .i64 i2, .float .f64 f2, .string t2, .string y2, .slice (some ⟨g3, 0, none⟩) is2.length c3, .slice (some ⟨g3', 0, none⟩) fs2.length c3']) rfl rfl (Rd.new w1.drew (.string s2 :: [.int .i64 k2, .bool b2, .int .i64 i2, .float .f64 f2, .string t2, .string y2, .slice (some ⟨g3, 0, none⟩) is2.length c3, .slice (some ⟨g3', 0, none⟩) fs2.length c3']) 41) (by simp) (recH.one HXK.out) (by have := HL.out; unfold maxLen; omega) (by have := HL.out; omega) (by simp; omega) ?_; intro v' w5 hown' hgrow hat; rw [HL.out] at hown'; have HO' := Lib.hid hown'; have HG' := Lib.hid hgrow; have HA' := Lib.hid hat; have R3w := blk_grown (blk_alloc R3D.out _) hgrow (own_ne HO4.out (by omega)); have j7w := (blk8 R3w).2.2.2.2.2.2.2; have jfw := blk_frozen R3w 7; have R3W := Lib.hid R3w; obtain ⟨A5, c5, rfl, _, _, _⟩ := own_form hown'; clear hown' hgrow hat R3w)))
              all_goals
                go_wp2_with fail
                have hHG := HG'.out
                have hsz5 : w1.heap.size + 1 ≤ w5.heap.size := by have := hHG.size; simpa using this
                have hOn : w5.ownsRow m 41 9 (.slice A5 (q + 1) c5) (fs.take (q + 1)).length (css ++ [(.string s2 :: [.int .i64 k2, .bool b2, .int .i64 i2, .float .f64 f2, .string t2, .string y2, .slice (some ⟨g3, 0, none⟩) is2.length c3, .slice (some ⟨g3', 0, none⟩) fs2.length c3'] : List Value)]).flatten := by
                  have h1 := HO'.out
                  rw [hts.out, List.length_append, HL.out, List.flatten_append]
                  simpa only [List.flatten_cons, List.flatten_nil, List.append_nil, List.length_cons, List.length_nil, Nat.zero_add] using h1
                have hEn := Elems.app recH HE4.out HXK.out hHG HA'.out
                rw [← hts.out] at hEn
                refine ⟨⟨q + 1, _, css ++ [(.string s2 :: [.int .i64 k2, .bool b2, .int .i64 i2, .float .f64 f2, .string t2, .string y2, .slice (some ⟨g3, 0, none⟩) is2.length c3, .slice (some ⟨g3', 0, none⟩) fs2.length c3'] : List Value)], by omega, by go_num, ownsRow_setCell_below hOn (show w.heap.size + 1 + 1 < m by omega) _, hEn.low recH (show w.heap.size + 1 + 1 < m by omega) _, Lib.hid (HL4.out.keep recG (fun b h1 h2 => ?_)), blk_far (blk_grown (blk_alloc R1D.out _) hHG (own_ne HO4.out (by omega))) (show w.heap.size ≠ w.heap.size + 1 + 1 by omega) _,
                  blk_far (blk_grown (blk_alloc R2D.out _) hHG (own_ne HO4.out (by omega))) (show w.heap.size + 1 ≠ w.heap.size + 1 + 1 by omega) _, Lib.hid (by simpa using blk_set R3W.out 7 (.slice A5 (q + 1) c5)), ?_, ?_⟩, by simp [intOf]; omega⟩
                · rw [Below.heap_setCell _ _ _ b (show b ≠ w.heap.size + 1 + 1 by omega), hHG.block b (by simp; omega) (fun e => by have := (HO4.out.lt b e.symm).1; omega)]
                  exact Below.heap_alloc w1.drew _ b (by omega)
                · exact (((HB4.drew).alloc (by omega) _).grown hHG (by simp; omega) (fun kk hkk => by have := (HO4.out.lt kk hkk).1; omega)).setCell (show w.heap.size ≤ w.heap.size + 1 + 1 by omega) _
                · simp [World.setCell]
                  omega
            · obtain rfl : q = fs.length := by omega
              rw [List.take_of_length_le (Nat.le_refl _)] at HO HE HL
              have j7 := (blk8 R3.out).2.2.2.2.2.2.2
              clear HF HL
              go_wp2_with (fail)
              have hdr : Below wr.heap.size wr wr.drew := (Below.refl _ _).drew
              have HOd := Lib.hid (own_below HO.out hdr)
              have HEd := Lib.hid (HE.out.below recH hdr)
              have HLd := Lib.hid (HLr.out.keep recG (fun b h1 h2 => hdr.block b (by omega)))
              have R1d := Lib.hid (blk_below R1.out hdr gl1)
              have R2d := Lib.hid (blk_below R2.out hdr (by omega))
              have R3d := Lib.hid (blk_below R3.out hdr gl3)
              have hszd : wr.drew.heap.size = wr.heap.size := rfl
              go_cut [6] from 78 to 88 (fun u6 wx => ∃ gF cF hi, m ≤ hi ∧ hi ≤ wx.heap.size ∧ Hid (Lst 27 8 IsG wx (w.heap.size + 3) m is spI gI cI) ∧ Hid (Lst 41 9 IsH wx m hi fs spF gF cF) ∧ Hid (wx.heap[w.heap.size + 1]? = some (.cells #[.int .i64 0, .bool false, .int .i64 0, .float .f64 0, .string { data := #[] }, .string { data := #[] }, .slice none 0 0, .slice none 0 0] 27)) ∧
                  Hid (wx.heap[w.heap.size + 1 + 1]? = some (.cells #[.int .i64 k, .bool b, .int .i64 i, .float .f64 f, .string t, .string y, .slice (some ⟨gI, 0, none⟩) is.length cI, .slice (some ⟨gF, 0, none⟩) fs.length cF] 27)) ∧ Below w.heap.size w wx)
              case first =>
                go_region_law (first
                  | (go_must (refine step_app _ rfl (.tmp 79) (.tmp 82) _ rfl m 41 im _ 9 128 Tryz.underlying25 him hm0 hm1' hm2' rfl (by omega) vv _ css.flatten rfl (HOd.out.alloc _) (wr.drew.heap.size + 1) (some ⟨wr.drew.heap.size, 0, none⟩) 2 2 spF rfl rfl (Rd.new wr.drew spF 41) (by simp) spF_one (by unfold maxLen; omega) (by omega) (by simp; omega) ?_; intro v' w5 hown' hgrow hat; have R3w := blk_grown (blk_alloc R3d.out _) hgrow (own_ne HOd.out (by omega)); have j7w := (blk8 R3w).2.2.2.2.2.2.2; have jfw := blk_frozen R3w 7; have a7w := (blk8 (blk_grown (blk_alloc R1d.out _) hgrow (own_ne HOd.out (by omega)))).2.2.2.2.2.2.2; have R3W := Lib.hid R3w; obtain ⟨gF, cF, rfl, hLF⟩ := half recH hown' (Elems.app0 recH HEd.out hgrow hat); have HLF := Lib.hid hLF; have hcF := hLF.2.2.1; have hcF2 : fs.length ≤ cF := (by (omega)); have HG' := Lib.hid hgrow; clear hown' hgrow hat R3w hLF)))
                all_goals
                  go_wp2_with fail
                  go_meet
                  case rel =>
                    have hLF := HLF.out
                    have hm : m ≤ w5.heap.size := by have := hLF.1; have := hLF.2.1; omega
                    refine ⟨gF, cF, w5.heap.size, hm, by simp [World.setCell], Lib.hid (HLd.out.keep recG (fun b h1 h2 => ?_)), Lib.hid (hLF.keep recH (fun b h1 h2 => Below.heap_setCell _ _ _ b (show b ≠ w.heap.size + 1 + 1 by omega))),
                      blk_far (blk_grown (blk_alloc R2d.out _) HG'.out (own_ne HOd.out (by omega))) (show w.heap.size + 1 ≠ w.heap.size + 1 + 1 by omega) _, Lib.hid (by simpa using blk_set R3W.out 7 (.slice (some ⟨gF, 0, none⟩) fs.length cF)), ?_⟩
                    · rw [Below.heap_setCell _ _ _ b (show b ≠ w.heap.size + 1 + 1 by omega), HG'.out.block b (by simp; omega) (fun e => by have := (HOd.out.lt b e.symm).1; omega)]
                      exact Below.heap_alloc wr.drew _ b (by omega)
                    · exact (((hb.drew).alloc (by omega) _).grown HG'.out (by simp; omega) (fun kk hkk => by have := (HOd.out.lt kk hkk).1; omega)).setCell (show w.heap.size ≤ w.heap.size + 1 + 1 by omega) _
              case rest =>
                obtain ⟨gF, cF, hi, hh1, hh2, HI9, HF9, T2, T3, tb⟩ := hcut
                clear HO HE R1 R2 R3 hb hsz a7 j7 gl3 gl1 HOd HEd HLd R1d R2d R3d hdr HLr
                obtain ⟨n0, n1, n2, n3, n4, n5, n6, n7⟩ := blk8 T3.out
                obtain ⟨o0, o1, o2, o3, o4, o5, o6, o7⟩ := blk8 T2.out
                have of0 := blk_frozen T2.out 0
                have of1 := blk_frozen T2.out 1
                have of2 := blk_frozen T2.out 2
                have of3 := blk_frozen T2.out 3
                have of4 := blk_frozen T2.out 4
                have of5 := blk_frozen T2.out 5
                have of6 := blk_frozen T2.out 6
                have of7 := blk_frozen T2.out 7
                go_wp2_with fail
                have hE := grn_end (k := k) (b := b) (i := i) (f := f) (t := t) (y := y) (grown_set (grown_set (grown_set (grown_set (grown_set (grown_set (grown_set (grown_set (grown_refl wc (some (w.heap.size + 1))) 0 (.int .i64 k)) 1 (.bool b)) 2 (.int .i64 i)) 3 (.float .f64 f)) 4 (.string t)) 5 (.string y)) 6 (.slice (some ⟨gI, 0, none⟩) is.length cI)) 7 (.slice (some ⟨gF, 0, none⟩) fs.length cF))
                  hm1 hh1 hh2 HI9.out HF9.out tb
                exact bodyPost_ret (v := .agg #[.int .i64 k, .bool b, .int .i64 i, .float .f64 f, .string t, .string y, .slice (some ⟨gI, 0, none⟩) is.length cI, .slice (some ⟨gF, 0, none⟩) fs.length cF]) (by simp [results, Tryz.results6, go_sem, o0, o1, o2, o3, o4, o5, o6, o7]) rfl ⟨gI, cI, gF, cF, rfl, hE.1, hE.2⟩
end Go.Proofs.YtagghdehbkbemaaGreatDoor.val
