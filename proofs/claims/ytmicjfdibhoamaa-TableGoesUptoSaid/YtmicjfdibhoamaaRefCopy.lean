/- The reference's copier of values and outcomes: it ends, and hands back a value. -/
import Derived.Test.YtmicjfdibhoamaaCopy
import Derived.Test.YtmicjfdibhoamaaOut
namespace Go.Proofs.Ytmicjfdibhoamaa.val
open Go.RowKit mem
attribute [local go_sem] run_store_float

def AnyV (w : World) (e : Ending) (w' : World) : Prop := ∃ k b i f t y A n c A' n' c', e = .returned (.agg #[.int .i64 k, .bool b, .int .i64 i, .float .f64 f, .string t, .string y, .slice A n c, .slice A' n' c']) ∧ Below w.heap.size w w'

set_option maxRecDepth 100000 in
set_option maxHeartbeats 8000000 in
theorem refCopy_any : ∀ (N : Nat) (v : V), sz v ≤ N → N ≤ 1048576 → ∀ (cs : List Value) (w : World) (S : Nat → Prop), IsV w S v cs → Bel S w.heap.size →
    Calls Try.prog 44 #[.agg cs.toArray] w (AnyV w) := by
  intro N
  induction N with
  | zero => intro v hv; have := sz_pos v; omega
  | succ N ih =>
    intro v hv hN cs w S hV hB
    obtain ⟨k, b, i, f, t, y, is, fs⟩ := v
    simp only [IsV] at hV
    obtain ⟨A, c, A', c', rfl, hA, hA', his, hfs⟩ := hV
    simp only [sz] at hv
    have hl1 := szs_len is
    have hl2 := szf_len fs
    have IH := Lib.hid ih
    have HB := Lib.hid hB
    have HI := Lib.hid his
    have HF := Lib.hid hfs
    obtain ⟨iv, hiv, hv0, hv1, hv2⟩ := info_parts infoV
    obtain ⟨im, him, hm0, hm1, hm2⟩ := info_parts infoM
    clear ih hB his hfs hA hA'
    go_enter Try.func44, Try.ntmps44
    go_wp2_with fail
    have g1 : (((w.alloc ((.cells #[.int .i64 k, .bool b, .int .i64 i, .float .f64 f, .string t, .string y, .slice A is.length c, .slice A' fs.length c'] 35))).alloc ((.cells #[.int .i64 0, .bool false, .int .i64 0, .float .f64 0, .string { data := #[] }, .string { data := #[] }, .slice none 0 0, .slice none 0 0] 35))).alloc ((.cells #[.int .i64 k, .bool b, .int .i64 i, .float .f64 f, .string t, .string y, .slice none 0 0, .slice none 0 0] 35))).heap[w.heap.size]? = some ((.cells #[.int .i64 k, .bool b, .int .i64 i, .float .f64 f, .string t, .string y, .slice A is.length c, .slice A' fs.length c'] 35)) := blk_alloc (blk_alloc (heap_alloc_new _ _) _) _
    have g2 : (((w.alloc ((.cells #[.int .i64 k, .bool b, .int .i64 i, .float .f64 f, .string t, .string y, .slice A is.length c, .slice A' fs.length c'] 35))).alloc ((.cells #[.int .i64 0, .bool false, .int .i64 0, .float .f64 0, .string { data := #[] }, .string { data := #[] }, .slice none 0 0, .slice none 0 0] 35))).alloc ((.cells #[.int .i64 k, .bool b, .int .i64 i, .float .f64 f, .string t, .string y, .slice none 0 0, .slice none 0 0] 35))).heap[w.heap.size + 1]? = some ((.cells #[.int .i64 0, .bool false, .int .i64 0, .float .f64 0, .string { data := #[] }, .string { data := #[] }, .slice none 0 0, .slice none 0 0] 35)) := by
      refine blk_alloc ?_ _
      have := heap_alloc_new (w.alloc ((.cells #[.int .i64 k, .bool b, .int .i64 i, .float .f64 f, .string t, .string y, .slice A is.length c, .slice A' fs.length c'] 35))) ((.cells #[.int .i64 0, .bool false, .int .i64 0, .float .f64 0, .string { data := #[] }, .string { data := #[] }, .slice none 0 0, .slice none 0 0] 35))
      simpa using this
    have g3 : (((w.alloc ((.cells #[.int .i64 k, .bool b, .int .i64 i, .float .f64 f, .string t, .string y, .slice A is.length c, .slice A' fs.length c'] 35))).alloc ((.cells #[.int .i64 0, .bool false, .int .i64 0, .float .f64 0, .string { data := #[] }, .string { data := #[] }, .slice none 0 0, .slice none 0 0] 35))).alloc ((.cells #[.int .i64 k, .bool b, .int .i64 i, .float .f64 f, .string t, .string y, .slice none 0 0, .slice none 0 0] 35))).heap[w.heap.size + 1 + 1]? = some ((.cells #[.int .i64 k, .bool b, .int .i64 i, .float .f64 f, .string t, .string y, .slice none 0 0, .slice none 0 0] 35)) := by
      have := heap_alloc_new ((w.alloc ((.cells #[.int .i64 k, .bool b, .int .i64 i, .float .f64 f, .string t, .string y, .slice A is.length c, .slice A' fs.length c'] 35))).alloc ((.cells #[.int .i64 0, .bool false, .int .i64 0, .float .f64 0, .string { data := #[] }, .string { data := #[] }, .slice none 0 0, .slice none 0 0] 35))) ((.cells #[.int .i64 k, .bool b, .int .i64 i, .float .f64 f, .string t, .string y, .slice none 0 0, .slice none 0 0] 35))
      simpa using this
    have gb : Below w.heap.size w (((w.alloc ((.cells #[.int .i64 k, .bool b, .int .i64 i, .float .f64 f, .string t, .string y, .slice A is.length c, .slice A' fs.length c'] 35))).alloc ((.cells #[.int .i64 0, .bool false, .int .i64 0, .float .f64 0, .string { data := #[] }, .string { data := #[] }, .slice none 0 0, .slice none 0 0] 35))).alloc ((.cells #[.int .i64 k, .bool b, .int .i64 i, .float .f64 f, .string t, .string y, .slice none 0 0, .slice none 0 0] 35))) := (((Below.refl _ _).alloc (Nat.le_refl _) _).alloc (by simp) _).alloc (by simp; omega) _
    have gs : (((w.alloc ((.cells #[.int .i64 k, .bool b, .int .i64 i, .float .f64 f, .string t, .string y, .slice A is.length c, .slice A' fs.length c'] 35))).alloc ((.cells #[.int .i64 0, .bool false, .int .i64 0, .float .f64 0, .string { data := #[] }, .string { data := #[] }, .slice none 0 0, .slice none 0 0] 35))).alloc ((.cells #[.int .i64 k, .bool b, .int .i64 i, .float .f64 f, .string t, .string y, .slice none 0 0, .slice none 0 0] 35))).heap.size = w.heap.size + 3 := by simp
    generalize (((w.alloc ((.cells #[.int .i64 k, .bool b, .int .i64 i, .float .f64 f, .string t, .string y, .slice A is.length c, .slice A' fs.length c'] 35))).alloc ((.cells #[.int .i64 0, .bool false, .int .i64 0, .float .f64 0, .string { data := #[] }, .string { data := #[] }, .slice none 0 0, .slice none 0 0] 35))).alloc ((.cells #[.int .i64 k, .bool b, .int .i64 i, .float .f64 f, .string t, .string y, .slice none 0 0, .slice none 0 0] 35))) = w0 at *
    have G1 := Lib.hid g1
    have G2 := Lib.hid g2
    have G3 := Lib.hid g3
    have gs' : w.heap.size + 3 ≤ w0.heap.size := by omega
    clear g1 g2 g3 gs
    go_loopw [4] (fun vi W => ∃ (q : Nat) (v : Value) (xs : List Value), q ≤ is.length ∧ vi = .int .i64 (q : Int) ∧ Hid (W.ownsRow (w.heap.size + 3) 35 8 v q xs) ∧
        Hid (W.heap[w.heap.size]? = some ((.cells #[.int .i64 k, .bool b, .int .i64 i, .float .f64 f, .string t, .string y, .slice A is.length c, .slice A' fs.length c'] 35))) ∧ Hid (W.heap[w.heap.size + 1]? = some ((.cells #[.int .i64 0, .bool false, .int .i64 0, .float .f64 0, .string { data := #[] }, .string { data := #[] }, .slice none 0 0, .slice none 0 0] 35))) ∧ Hid (W.heap[w.heap.size + 1 + 1]? = some (.cells #[.int .i64 k, .bool b, .int .i64 i, .float .f64 f, .string t, .string y, v, .slice none 0 0] 35)) ∧ Below w.heap.size w W ∧ w.heap.size + 3 ≤ W.heap.size) (fun i _ => is.length - (intOf i).toNat)
    case atStart => exact ⟨0, .slice none 0 0, [], Nat.zero_le _, rfl, Lib.hid (World.ownsRow_nil _ _ _ _), G1, G2, G3, gb, gs'⟩
    case round =>
      obtain ⟨q, vv, xs, hq, rfl, HO, R1, R2, R3, hb, hsz⟩ := hrel
      clear G1 G2 G3 gb gs'
      obtain ⟨z0, z1, z2, z3, z4, z5, z6, z7⟩ := blk8 R1.out
      clear z0 z1 z2 z3 z4 z5
      by_cases hlt : q < is.length
      · have hx : is[q]? = some is[q] := List.getElem?_eq_getElem hlt
        obtain ⟨ad, ds, rfl, hadB, hcs, hvx⟩ := (HI.out.below HB.out hb).at_ hx
        have hszx := szs_get hx
        generalize is[q] = x at *
        have hvx2 := Lib.hid hvx
        obtain ⟨k2, b2, i2, f2, t2, y2, is2, fs2⟩ := x
        simp only [IsV] at hvx
        obtain ⟨A2, c2, A2', c2', rfl, _⟩ := hvx
        obtain ⟨d0, d1, d2, d3, d4, d5, d6, d7⟩ := hcs.eight
        rw [Nat.zero_add] at d0 d1 d2 d3 d4 d5 d6 d7
        have HC := Lib.hid (IH.out _ (by omega) (by omega) _ wr S hvx2.out (HB.out.mono (by omega)))
        clear hcs hx hvx2 IH
        go_wp2_with fail
        clear d0 d1 d2 d3 d4 d5 d6 d7 z6 z7
        refine HC.out.mono ?_
        rintro e wc ⟨k3, b3, i3, f3, t3, y3, A3, n3, c3, A3', n3', c3', rfl, hbc⟩
        have hsc := hbc.size
        have R3c := blk_alloc (blk_below R3.out hbc (by omega)) ((.cells #[.int .i64 k3, .bool b3, .int .i64 i3, .float .f64 f3, .string t3, .string y3, .slice A3 n3 c3, .slice A3' n3' c3'] 35))
        have gE := heap_alloc_new wc ((.cells #[.int .i64 k3, .bool b3, .int .i64 i3, .float .f64 f3, .string t3, .string y3, .slice A3 n3 c3, .slice A3' n3' c3'] 35))
        obtain ⟨m0, m1, m2, m3, m4, m5, m6, m7⟩ := blk8 gE
        have j6 := (blk8 R3c).2.2.2.2.2.2.1
        have HO3 := Lib.hid ((own_below HO.out hbc).alloc ((.cells #[.int .i64 k3, .bool b3, .int .i64 i3, .float .f64 f3, .string t3, .string y3, .slice A3 n3 c3, .slice A3' n3' c3'] 35)))
        have hb3 : Below w.heap.size w (wc.alloc ((.cells #[.int .i64 k3, .bool b3, .int .i64 i3, .float .f64 f3, .string t3, .string y3, .slice A3 n3 c3, .slice A3' n3' c3'] 35))) := (hb.trans (hbc.mono (by omega))).alloc (by omega) _
        have R1c := Lib.hid (blk_alloc (blk_below R1.out hbc (by omega)) ((.cells #[.int .i64 k3, .bool b3, .int .i64 i3, .float .f64 f3, .string t3, .string y3, .slice A3 n3 c3, .slice A3' n3' c3'] 35)))
        have R2c := Lib.hid (blk_alloc (blk_below R2.out hbc (by omega)) ((.cells #[.int .i64 k3, .bool b3, .int .i64 i3, .float .f64 f3, .string t3, .string y3, .slice A3 n3 c3, .slice A3' n3' c3'] 35)))
        have R3h := Lib.hid R3c
        have hs3 : wc.heap.size + 1 ≤ (wc.alloc ((.cells #[.int .i64 k3, .bool b3, .int .i64 i3, .float .f64 f3, .string t3, .string y3, .slice A3 n3 c3, .slice A3' n3' c3'] 35))).heap.size := by simp
        clear HC R1 R2 R3 HO gE R3c hb
        go_wp2_with (at_builtin; go_must (refine wpList_app _ rfl (.tmp 25) (.tmp 27) _ rfl (w.heap.size + 3) 35 iv _ 8 112 Try.underlying32 hiv hv0 hv1 hv2 rfl (by omega) vv q xs rfl (HO3.out.alloc _) (wc.heap.size + 1 + 1) (some ⟨wc.heap.size + 1, 0, none⟩) 1 1 ([.int .i64 k3, .bool b3, .int .i64 i3, .float .f64 f3, .string t3, .string y3, .slice A3 n3 c3, .slice A3' n3' c3'] : List Value) rfl rfl (Rd.newAt (wc.alloc ((.cells #[.int .i64 k3, .bool b3, .int .i64 i3, .float .f64 f3, .string t3, .string y3, .slice A3 n3 c3, .slice A3' n3' c3'] 35))) (wc.heap.size + 1) ([.int .i64 k3, .bool b3, .int .i64 i3, .float .f64 f3, .string t3, .string y3, .slice A3 n3 c3, .slice A3' n3' c3'] : List Value) 35 (by simp)) (fun h => by cases h) (by simp; exact ⟨rfl, rfl, rfl, rfl, rfl, rfl, rfl, rfl⟩) (by unfold maxLen; omega) (by omega) (by simp; omega) ?_); intro v5 w5 hown5 hgrow5 hat5; have R3w := blk_grown (blk_alloc R3h.out ((.cells #[.int .i64 k3, .bool b3, .int .i64 i3, .float .f64 f3, .string t3, .string y3, .slice A3 n3 c3, .slice A3' n3' c3'] 35))) hgrow5 (own_ne HO3.out (by omega)); have j6w := (blk8 R3w).2.2.2.2.2.2.1; have jfw := blk_frozen R3w 6; have R3W := Lib.hid R3w; obtain ⟨A5, c5, rfl, _, _, _⟩ := own_form hown5; have HO5 := Lib.hid hown5; have HG5 := Lib.hid hgrow5; clear hown5 hgrow5 hat5 R3w)
        have hsz5 : wc.heap.size + 2 ≤ w5.heap.size := by have := HG5.out.size; simpa using this
        have R1w := blk_grown (blk_alloc R1c.out ((.cells #[.int .i64 k3, .bool b3, .int .i64 i3, .float .f64 f3, .string t3, .string y3, .slice A3 n3 c3, .slice A3' n3' c3'] 35))) HG5.out (own_ne HO3.out (by omega))
        have R2w := blk_grown (blk_alloc R2c.out ((.cells #[.int .i64 k3, .bool b3, .int .i64 i3, .float .f64 f3, .string t3, .string y3, .slice A3 n3 c3, .slice A3' n3' c3'] 35))) HG5.out (own_ne HO3.out (by omega))
        have hb5 : Below w.heap.size w w5 := (hb3.alloc (by omega) ((.cells #[.int .i64 k3, .bool b3, .int .i64 i3, .float .f64 f3, .string t3, .string y3, .slice A3 n3 c3, .slice A3' n3' c3'] 35))).grown HG5.out (by simp; omega) (fun kk hkk => by have := (HO3.out.lt kk hkk).1; omega)
        go_roundw
        case rel => exact ⟨q + 1, _, _, by omega, by go_num, Lib.hid (ownsRow_setCell_below HO5.out (show w.heap.size + 1 + 1 < w.heap.size + 3 by omega) _), Lib.hid (blk_far R1w (show w.heap.size ≠ w.heap.size + 1 + 1 by omega) _), Lib.hid (blk_far R2w (show w.heap.size + 1 ≠ w.heap.size + 1 + 1 by omega) _), Lib.hid (by simpa using blk_set R3W.out 6 (.slice A5 (q + 1) c5)), hb5.setCell (show w.heap.size ≤ w.heap.size + 1 + 1 by omega) _, by simp [World.setCell]; omega⟩
        case measure => simp [intOf]; omega
      · obtain rfl : q = is.length := by omega
        obtain ⟨A1, c1, rfl, hA1, _, _⟩ := own_form HO.out
        have x7 := (blk8 R3.out).2.2.2.2.2.2.2
        have xf7 := blk_frozen R3.out 7
        clear HI hA1
        go_wp2_with fail
        have T1 := R1
        have T2 := R2
        have T3 := R3
        have tb := hb
        have hwl : w.heap.size + 3 ≤ wr.heap.size := hsz
        clear R1 R2 R3 hb hsz z6 z7
        generalize wr = wl at *
        clear x7 xf7 HO
        go_loopw [6] (fun vi W => ∃ (q : Nat) (v : Value) (xs : List Value), q ≤ fs.length ∧ vi = .int .i64 (q : Int) ∧ Hid (W.ownsRow (w.heap.size + 3) 82 9 v q xs) ∧
            Hid (W.heap[w.heap.size]? = some (.cells #[.int .i64 k, .bool b, .int .i64 i, .float .f64 f, .string t, .string y, .slice A is.length c, .slice A' fs.length c'] 35)) ∧ Hid (W.heap[w.heap.size + 1]? = some ((.cells #[.int .i64 0, .bool false, .int .i64 0, .float .f64 0, .string { data := #[] }, .string { data := #[] }, .slice none 0 0, .slice none 0 0] 35))) ∧ Hid (W.heap[w.heap.size + 1 + 1]? = some (.cells #[.int .i64 k, .bool b, .int .i64 i, .float .f64 f, .string t, .string y, .slice A1 is.length c1, v] 35)) ∧ Below w.heap.size w W ∧ w.heap.size + 3 ≤ W.heap.size) (fun i _ => fs.length - (intOf i).toNat)
        case atStart => exact ⟨0, .slice none 0 0, [], Nat.zero_le _, rfl, Lib.hid (World.ownsRow_nil _ _ _ _), T1, T2, T3, tb, hwl⟩
        case round =>
          obtain ⟨q, vv, xs, hq, rfl, HO, R1, R2, R3, hb, hsz⟩ := hrel
          clear T1 T2 T3 tb
          have z7 := (blk8 R1.out).2.2.2.2.2.2.2
          by_cases hlt : q < fs.length
          · have hx : fs[q]? = some fs[q] := List.getElem?_eq_getElem hlt
            obtain ⟨ad, ds, rfl, hadB, hcs, hvx⟩ := (HF.out.below HB.out hb).at_ hx
            have hszx := szf_get hx
            generalize fs[q] = x at *
            have hvx2 := Lib.hid hvx
            obtain ⟨s2, k2, b2, i2, f2, t2, y2, is2, fs2⟩ := x
            simp only [IsV] at hvx
            obtain ⟨A2, c2, A2', c2', rfl, _⟩ := hvx
            obtain ⟨d0, d1, d2, d3, d4, d5, d6, d7, d8⟩ := hcs.nine
            rw [Nat.zero_add] at d0 d1 d2 d3 d4 d5 d6 d7 d8
            have HC := Lib.hid (IH.out _ (by omega) (by omega) _ wr S hvx2.out (HB.out.mono (by omega)))
            clear hcs hx hvx2 IH
            have hlq : (q : Int) < (fs.length : Int) := by omega
            have h0q : (0 : Int) ≤ (q : Int) := by omega
            go_wp2_with fail
            clear d1 d2 d3 d4 d5 d6 d7 d8
            refine HC.out.mono ?_
            rintro e wc ⟨k3, b3, i3, f3, t3, y3, A3, n3, c3, A3', n3', c3', rfl, hbc⟩
            have hsc := hbc.size
            have hbx : Below wr.heap.size wr (wc.alloc ((.cells #[.int .i64 k3, .bool b3, .int .i64 i3, .float .f64 f3, .string t3, .string y3, .slice A3 n3 c3, .slice A3' n3' c3'] 35))) := hbc.alloc (by omega) _
            have gE := heap_alloc_new wc ((.cells #[.int .i64 k3, .bool b3, .int .i64 i3, .float .f64 f3, .string t3, .string y3, .slice A3 n3 c3, .slice A3' n3' c3'] 35))
            have R1c := Lib.hid (blk_below R1.out hbx (by omega))
            have R2c := Lib.hid (blk_below R2.out hbx (by omega))
            have R3c := Lib.hid (blk_below R3.out hbx (by omega))
            have HO3 := Lib.hid (own_below HO.out hbx)
            have d0w := (hbx.cell (World.block_lt_of_cell? wr _ d0)).trans d0
            have hb3 : Below w.heap.size w (wc.alloc ((.cells #[.int .i64 k3, .bool b3, .int .i64 i3, .float .f64 f3, .string t3, .string y3, .slice A3 n3 c3, .slice A3' n3' c3'] 35))) := hb.trans (hbx.mono (by omega))
            have hs3 : wc.heap.size + 1 ≤ (wc.alloc ((.cells #[.int .i64 k3, .bool b3, .int .i64 i3, .float .f64 f3, .string t3, .string y3, .slice A3 n3 c3, .slice A3' n3' c3'] 35))).heap.size := by simp
            clear HC R1 R2 R3 HO hb d0 z7
            go_wp2_with fail
            obtain ⟨m0, m1, m2, m3, m4, m5, m6, m7⟩ := blk8 gE
            have gl2 := blk_lt gE
            generalize (wc.alloc ((.cells #[.int .i64 k3, .bool b3, .int .i64 i3, .float .f64 f3, .string t3, .string y3, .slice A3 n3 c3, .slice A3' n3' c3'] 35))) = w1 at *
            have z7 := (blk8 R1c.out).2.2.2.2.2.2.2
            have j7 := (blk8 R3c.out).2.2.2.2.2.2.2
            have gl1 := blk_lt R3c.out
            have gl0 := blk_lt R1c.out
            have hbd : Below w1.heap.size w1 w1.drew := (Below.refl _ _).drew
            have HOd := Lib.hid (own_below HO3.out hbd)
            clear gE hbx
            go_region_law (first
              | (refine step_app _ rfl (.tmp 45) (.tmp 54) _ rfl (w.heap.size + 3) 82 im _ 9 128 Try.underlying33 him hm0 hm1 hm2 rfl (by omega) vv q xs rfl (HOd.out.alloc _) (w1.heap.size + 1) (some ⟨w1.heap.size, 0, none⟩) 1 1 ([.string s2, .int .i64 k3, .bool b3, .int .i64 i3, .float .f64 f3, .string t3, .string y3, .slice A3 n3 c3, .slice A3' n3' c3'] : List Value) rfl rfl (Rd.new w1.drew ([.string s2, .int .i64 k3, .bool b3, .int .i64 i3, .float .f64 f3, .string t3, .string y3, .slice A3 n3 c3, .slice A3' n3' c3'] : List Value) 82) (by simp) (by simp; exact ⟨rfl, rfl, rfl, rfl, rfl, rfl, rfl, rfl, rfl⟩) (by unfold maxLen; omega) (by omega) (by simp; omega) ?_; intro v5 w5 hown5 hgrow5 hat5; have R3w := blk_grown (blk_alloc (show w1.drew.heap[w.heap.size + 1 + 1]? = _ from R3c.out) _) hgrow5 (own_ne HO3.out (by omega)); have j7w := (blk8 R3w).2.2.2.2.2.2.2; have jfw := blk_frozen R3w 7; have R3W := Lib.hid R3w; obtain ⟨A5, c5, rfl, _, _, _⟩ := own_form hown5; have HO5 := Lib.hid hown5; have HG5 := Lib.hid hgrow5; clear hown5 hgrow5 hat5 R3w))
            all_goals
              go_wp2_with fail
              have hsz5 : w1.heap.size + 1 ≤ w5.heap.size := by have := HG5.out.size; simpa using this
              have R1w := blk_grown (blk_alloc (show w1.drew.heap[w.heap.size]? = _ from R1c.out) (.cells #[.string s2, .int .i64 k3, .bool b3, .int .i64 i3, .float .f64 f3, .string t3, .string y3, .slice A3 n3 c3, .slice A3' n3' c3'] 82)) HG5.out (own_ne HO3.out (by omega))
              have R2w := blk_grown (blk_alloc (show w1.drew.heap[w.heap.size + 1]? = _ from R2c.out) (.cells #[.string s2, .int .i64 k3, .bool b3, .int .i64 i3, .float .f64 f3, .string t3, .string y3, .slice A3 n3 c3, .slice A3' n3' c3'] 82)) HG5.out (own_ne HO3.out (by omega))
              have hb5 : Below w.heap.size w w5 := (hb3.drew.alloc (by simp; omega) (.cells #[.string s2, .int .i64 k3, .bool b3, .int .i64 i3, .float .f64 f3, .string t3, .string y3, .slice A3 n3 c3, .slice A3' n3' c3'] 82)).grown HG5.out (by simp; omega) (fun kk hkk => by have := (HO3.out.lt kk hkk).1; omega)
              exact ⟨⟨q + 1, _, _, by omega, by go_num, Lib.hid (ownsRow_setCell_below HO5.out (show w.heap.size + 1 + 1 < w.heap.size + 3 by omega) _), Lib.hid (blk_far R1w (show w.heap.size ≠ w.heap.size + 1 + 1 by omega) _), Lib.hid (blk_far R2w (show w.heap.size + 1 ≠ w.heap.size + 1 + 1 by omega) _), Lib.hid (by simpa using blk_set R3W.out 7 (.slice A5 (q + 1) c5)), hb5.setCell (show w.heap.size ≤ w.heap.size + 1 + 1 by omega) _, by simp [World.setCell]; omega⟩, by simp [intOf]; omega⟩
          · obtain rfl : q = fs.length := by omega
            obtain ⟨A9, c9, rfl, _, _, _⟩ := own_form HO.out
            obtain ⟨n0, n1, n2, n3, n4, n5, n6, n7⟩ := blk8 R3.out
            obtain ⟨o0, o1, o2, o3, o4, o5, o6, o7⟩ := blk8 R2.out
            have of0 := blk_frozen R2.out 0
            have of1 := blk_frozen R2.out 1
            have of2 := blk_frozen R2.out 2
            have of3 := blk_frozen R2.out 3
            have of4 := blk_frozen R2.out 4
            have of5 := blk_frozen R2.out 5
            have of6 := blk_frozen R2.out 6
            have of7 := blk_frozen R2.out 7
            have hg9 := grown_set (grown_set (grown_set (grown_set (grown_set (grown_set (grown_set (grown_set (grown_refl wr (some (w.heap.size + 1))) 0 (.int .i64 k)) 1 (.bool b)) 2 (.int .i64 i)) 3 (.float .f64 f)) 4 (.string t)) 5 (.string y)) 6 (.slice A1 is.length c1)) 7 (.slice A9 fs.length c9)
            have hbz := Lib.hid (hb.trans (grown_below hg9 (show w.heap.size ≤ w.heap.size + 1 by omega) (by omega)))
            clear HF HO hg9
            go_wp2_with fail
            exact bodyPost_ret (v := .agg #[.int .i64 k, .bool b, .int .i64 i, .float .f64 f, .string t, .string y, .slice A1 is.length c1, .slice A9 fs.length c9]) (by simp [results, Try.results44, go_sem, o0, o1, o2, o3, o4, o5, o6, o7]) rfl ⟨_, _, _, _, _, _, _, _, _, _, _, _, rfl, hbz.out⟩
end Go.Proofs.Ytmicjfdibhoamaa.val
