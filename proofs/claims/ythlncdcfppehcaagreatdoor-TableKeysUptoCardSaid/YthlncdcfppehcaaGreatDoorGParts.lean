/- The law's 'parts' and 'wide': what they compute. The three copiers of values: each hands back a value that reads as the one handed in, in new memory. -/
import Derived.Test.YthlncdcfppehcaaGreatDoorProg
import Derived.Test.YthlncdcfppehcaaGreatDoorGVal
import Derived.Handy
import Derived.WalkSpells
import Derived.Deep.DeepMust
import Derived.Test.YthlncdcfppehcaaGreatDoorGOwn
import Derived.Deep.RegionHeld3
import Derived.Deep.DeepCutAuto
import Derived.Deep.RegionLaw
import Derived.KernelRfl
section
set_option linter.unusedVariables false
namespace Go.Proofs.YthlncdcfppehcaaGreatDoor.val
open Go.RowKit mem
attribute [local go_sem] run_store_float

def PartsPost (w : World) (n : Int) (e : Ending) (w' : World) : Prop := e = .returned (.int .i64 n) ∧ Below w.heap.size w w'

set_option maxRecDepth 100000 in
set_option maxHeartbeats 1000000 in
theorem parts_any : ∀ (N : Nat) (v : V), sz v ≤ N → N ≤ 1048576 → ∀ (cs : List Value) (m : Int) (w : World) (S : Nat → Prop), IsV w S v cs → Bel S w.heap.size → 1 ≤ m → m ≤ 1000000 →
    Calls Tryz.prog 21 #[.agg cs.toArray, .int .i64 m] w (PartsPost w (pt v m)) := by
  intro N
  induction N with
  | zero => intro v hv; have := sz_pos v; omega
  | succ N ih =>
    intro v hv hN cs m w S hV hB hm1 hm2
    obtain ⟨k, b, i, f, t, y, is, fs⟩ := v
    simp only [IsV] at hV
    obtain ⟨A, c, A', c', rfl, hA, hA', his, hfs⟩ := hV
    simp only [sz] at hv
    have hl1 := szs_len is
    have hl2 := szf_len fs
    have IH := Lib.hid ih
    have HB := Lib.hid hB
    have HI := Lib.hid his
    have HF := Lib.hid hfs
    have hpt := Lib.hid (show pt (.mk k b i f t y is fs) m = ptf fs m (pts is m 1) by simp only [pt])
    rw [hpt.out]
    clear ih hB his hfs hpt hA hA'
    go_enter Tryz.func21, Tryz.ntmps21
    go_wp2_with fail
    have hbx : Below w.heap.size w (w.alloc (.cells #[.int .i64 k, .bool b, .int .i64 i, .float .f64 f, .string t, .string y, .slice A is.length c, .slice A' fs.length c'] 29)) := (Below.refl _ _).alloc (Nat.le_refl _) _
    have hsx : (w.alloc (.cells #[.int .i64 k, .bool b, .int .i64 i, .float .f64 f, .string t, .string y, .slice A is.length c, .slice A' fs.length c'] 29)).heap.size = w.heap.size + 1 := by simp
    have e7 : (w.alloc (.cells #[.int .i64 k, .bool b, .int .i64 i, .float .f64 f, .string t, .string y, .slice A is.length c, .slice A' fs.length c'] 29)).cell? ⟨w.heap.size, 7, none⟩ = some (.slice A' fs.length c') := by go_simp
    generalize (w.alloc (.cells #[.int .i64 k, .bool b, .int .i64 i, .float .f64 f, .string t, .string y, .slice A is.length c, .slice A' fs.length c'] 29)) = w1 at *
    have hsx' : w.heap.size + 1 ≤ w1.heap.size := by omega
    clear hsx
    go_loopw [5, 13] (fun v5 v13 W => ∃ (q : Nat) (n : Int), q ≤ is.length ∧ 1 ≤ n ∧ n ≤ 2200000 ∧ v5 = .int .i64 n ∧ v13 = .int .i64 (q : Int) ∧ Hid (pts is m 1 = pts (is.drop q) m n) ∧ Below (w.heap.size + 1) w1 W) (fun _ i _ => is.length - (intOf i).toNat)
    case atStart => exact ⟨0, 1, Nat.zero_le _, by omega, by omega, rfl, rfl, rfl, Below.refl _ _⟩
    case round =>
      obtain ⟨q, n, hq, hn1, hn2, rfl, rfl, HR, hb⟩ := hrel
      have hbw : Below w.heap.size w wr := hbx.trans (hb.mono (by omega))
      have hszr := hb.size
      by_cases hlt : q < is.length
      · have hx : is[q]? = some is[q] := List.getElem?_eq_getElem hlt
        obtain ⟨ad, cs, rfl, hadB, hcs, hvx⟩ := (HI.out.below HB.out hbw).at_ hx
        have hsz := szs_get hx
        have HD := Lib.hid (pts_drop hx m n)
        generalize is[q] = x at *
        obtain ⟨k2, b2, i2, f2, t2, y2, is2, fs2⟩ := x
        have hvx2 := hvx
        simp only [IsV] at hvx
        obtain ⟨A2, c2, A2', c2', rfl, _⟩ := hvx
        obtain ⟨c0, c1, cc2, c3, c4, c5, c6, c7⟩ := hcs.eight
        rw [Nat.zero_add] at c0 c1 cc2 c3 c4 c5 c6 c7
        clear hcs hx
        by_cases hmn : m ≤ n
        · have Hfin := Lib.hid (show ptf fs m (pts is m 1) = n by rw [HR.out, HD.out, if_pos hmn, ptf_full hmn])
          clear HR HD hvx2
          go_wp2_with fail
          go_ret
          exact ⟨ret_int (by rw [Hfin.out]), hbw.alloc (by omega) _⟩
        · have Hfin := Lib.hid (show pts is m 1 = pts (is.drop (q + 1)) m (n + pt (.mk k2 b2 i2 f2 t2 y2 is2 fs2) (m - n)) by rw [HR.out, HD.out, if_neg hmn])
          have hbd := pt_bd (.mk k2 b2 i2 f2 t2 y2 is2 fs2) (m - n)
          have HC := Lib.hid (fun (W : World) (hW : Below w.heap.size wr W) (hWB : w.heap.size ≤ W.heap.size) => IH.out _ (by omega) (by omega) _ (m - n) W S (hvx2.below HB.out hW) (HB.out.mono hWB) (by omega) (by omega))
          clear HR HD hvx2 IH HI
          generalize pt (.mk k2 b2 i2 f2 t2 y2 is2 fs2) (m - n) = r at *
          go_wp2_with fail
          refine (HC.out _ ((Below.refl _ _).alloc (by omega) _) (by simp; omega)).mono ?_
          rintro e w2 ⟨rfl, hb2⟩
          go_wp2_with fail
          go_roundw
          case rel => exact ⟨q + 1, n + r, by omega, by omega, by omega, rfl, by go_num, Hfin, (hb.alloc (by omega) _).trans (hb2.mono (by simp; omega))⟩
          case measure => simp [intOf]; omega
      · obtain rfl : q = is.length := by omega
        have hn : Hid (pts is m 1 = n) := Lib.hid (by rw [HR.out]; simp only [List.drop_length, pts])
        have hn3 : Hid (ptf fs m (pts is m 1) = ptf (fs.drop 0) m n) := Lib.hid (by rw [hn.out, List.drop_zero])
        have f7 := (hb.cell (p := ⟨w.heap.size, 7, none⟩) (by simp)).trans e7
        clear HR HI hn
        go_wp2_with fail
        obtain ⟨wo, hwo⟩ : ∃ wo : World, wr = wo := ⟨_, rfl⟩
        rw [hwo] at hb hbw hszr f7
        clear e7
        subst hwo
        go_loopw [5, 32] (fun v5 v13 W => ∃ (q : Nat) (n2 : Int), q ≤ fs.length ∧ 1 ≤ n2 ∧ n2 ≤ 2200000 ∧ v5 = .int .i64 n2 ∧ v13 = .int .i64 (q : Int) ∧ Hid (ptf fs m (pts is m 1) = ptf (fs.drop q) m n2) ∧ Below (w.heap.size + 1) w1 W) (fun _ i _ => fs.length - (intOf i).toNat)
        case atStart => exact ⟨0, n, Nat.zero_le _, hn1, hn2, rfl, rfl, hn3, hb⟩
        case round =>
          clear hb hbw hszr f7
          obtain ⟨q, n2, hq, hn1, hn2, rfl, rfl, HR, hb⟩ := hrel
          have hbw : Below w.heap.size w wr := hbx.trans (hb.mono (by omega))
          have hszr := hb.size
          by_cases hlt : q < fs.length
          · have hx : fs[q]? = some fs[q] := List.getElem?_eq_getElem hlt
            obtain ⟨ad, cs, rfl, hadB, hcs, hvx⟩ := (HF.out.below HB.out hbw).at_ hx
            have hsz := szf_get hx
            have HD := Lib.hid (ptf_drop hx m n2)
            generalize fs[q] = x at *
            obtain ⟨s2, k2, b2, i2, f2, t2, y2, is2, fs2⟩ := x
            have hvx2 := hvx
            simp only [IsV] at hvx
            obtain ⟨A2, c2, A2', c2', rfl, _⟩ := hvx
            obtain ⟨c0, c1, cc2, c3, c4, c5, c6, c7, c8⟩ := hcs.nine
            rw [Nat.zero_add] at c0 c1 cc2 c3 c4 c5 c6 c7 c8
            clear hcs hx
            by_cases hmn : m ≤ n2
            · have Hfin := Lib.hid (show ptf fs m (pts is m 1) = n2 by rw [HR.out, HD.out, if_pos hmn])
              clear HR HD hvx2
              go_wp2_with fail
              go_ret
              exact ⟨ret_int (by rw [Hfin.out]), hbw.alloc (by omega) _⟩
            · have Hfin := Lib.hid (show ptf fs m (pts is m 1) = ptf (fs.drop (q + 1)) m (n2 + pt (.mk k2 b2 i2 f2 t2 y2 is2 fs2) (m - n2)) by rw [HR.out, HD.out, if_neg hmn])
              have hbd := pt_bd (.mk k2 b2 i2 f2 t2 y2 is2 fs2) (m - n2)
              have HC := Lib.hid (fun (W : World) (hW : Below w.heap.size wr W) (hWB : w.heap.size ≤ W.heap.size) => IH.out _ (by omega) (by omega) _ (m - n2) W S (hvx2.below HB.out hW) (HB.out.mono hWB) (by omega) (by omega))
              clear HR HD hvx2 IH HF
              generalize pt (.mk k2 b2 i2 f2 t2 y2 is2 fs2) (m - n2) = r at *
              go_wp2_with fail
              refine (HC.out _ ((Below.refl _ _).alloc (by omega) _) (by simp; omega)).mono ?_
              rintro e w2 ⟨rfl, hb2⟩
              go_wp2_with fail
              go_roundw
              case rel => exact ⟨q + 1, n2 + r, by omega, by omega, by omega, rfl, by go_num, Hfin, (hb.alloc (by omega) _).trans (hb2.mono (by simp; omega))⟩
              case measure => simp [intOf]; omega
          · obtain rfl : q = fs.length := by omega
            have hn : Hid (ptf fs m (pts is m 1) = n2) := Lib.hid (by rw [HR.out]; simp only [List.drop_length, ptf])
            clear HR HF
            go_wp2_with fail
            go_ret
            exact ⟨ret_int (by rw [hn.out]), hbw⟩
end Go.Proofs.YthlncdcfppehcaaGreatDoor.val
end
section
set_option linter.unusedVariables false
namespace Go.Proofs.YthlncdcfppehcaaGreatDoor.val
open Go.RowKit mem
attribute [local go_sem] run_store_float

theorem infoV : (Tryz.prog.info? 29).map (fun i => (i.zero, i.size, i.bytes)) = some (some (.agg #[.int .i64 0, .bool false, .int .i64 0, .float .f64 0, .string ⟨#[]⟩, .string ⟨#[]⟩, .slice none 0 0, .slice none 0 0]), 8, 112) := by kernel_rfl
theorem infoM : (Tryz.prog.info? 43).map (fun i => (i.zero, i.size, i.bytes)) = some (some (.agg #[.string ⟨#[]⟩, .int .i64 0, .bool false, .int .i64 0, .float .f64 0, .string ⟨#[]⟩, .string ⟨#[]⟩, .slice none 0 0, .slice none 0 0]), 9, 128) := by kernel_rfl

def CopyPost (w : World) (x : V) (e : Ending) (w' : World) : Prop := ∃ cs, e = .returned (.agg cs.toArray) ∧ IsV w' (New w.heap.size w') x cs ∧ Below w.heap.size w w'

set_option maxRecDepth 100000 in
set_option maxHeartbeats 4000000 in
theorem copyValue_any : ∀ (N : Nat) (v : V), sz v ≤ N → N ≤ 1048576 → ∀ (cs : List Value) (w : World) (S : Nat → Prop), IsV w S v cs → Bel S w.heap.size →
    Calls Tryz.prog 22 #[.agg cs.toArray] w (CopyPost w v) := by
  intro N
  induction N with
  | zero => intro v hv; have := sz_pos v; omega
  | succ N ih =>
    intro v hv hN cs w S hV hB
    obtain ⟨k, b, i, f, t, y, is, fs⟩ := v
    simp only [IsV] at hV
    obtain ⟨A, c, A', c', rfl, hA, hA', his, hfs⟩ := hV
    simp only [sz] at hv
    have hl1 := szs_len is
    have hl2 := szf_len fs
    have IH := Lib.hid ih
    have HB := Lib.hid hB
    have HI := Lib.hid his
    have HF := Lib.hid hfs
    obtain ⟨iv, hiv, hv0, hv1, hv2⟩ := info_parts infoV
    obtain ⟨im, him, hm0, hm1, hm2⟩ := info_parts infoM
    clear ih hB his hfs hA hA'
    go_enter Tryz.func22, Tryz.ntmps22
    go_wp2_with fail
    have g1 : (((w.alloc (.cells #[.int .i64 k, .bool b, .int .i64 i, .float .f64 f, .string t, .string y, .slice A is.length c, .slice A' fs.length c'] 29)).alloc (.cells #[.int .i64 0, .bool false, .int .i64 0, .float .f64 0, .string { data := #[] }, .string { data := #[] }, .slice none 0 0, .slice none 0 0] 29)).alloc (.cells #[.int .i64 k, .bool b, .int .i64 i, .float .f64 f, .string t, .string y, .slice none 0 0, .slice none 0 0] 29)).heap[w.heap.size]? = some (.cells #[.int .i64 k, .bool b, .int .i64 i, .float .f64 f, .string t, .string y, .slice A is.length c, .slice A' fs.length c'] 29) := blk_alloc (blk_alloc (heap_alloc_new _ _) _) _
    have g2 : (((w.alloc (.cells #[.int .i64 k, .bool b, .int .i64 i, .float .f64 f, .string t, .string y, .slice A is.length c, .slice A' fs.length c'] 29)).alloc (.cells #[.int .i64 0, .bool false, .int .i64 0, .float .f64 0, .string { data := #[] }, .string { data := #[] }, .slice none 0 0, .slice none 0 0] 29)).alloc (.cells #[.int .i64 k, .bool b, .int .i64 i, .float .f64 f, .string t, .string y, .slice none 0 0, .slice none 0 0] 29)).heap[w.heap.size + 1]? = some (.cells #[.int .i64 0, .bool false, .int .i64 0, .float .f64 0, .string { data := #[] }, .string { data := #[] }, .slice none 0 0, .slice none 0 0] 29) := by
      refine blk_alloc ?_ _
      have := heap_alloc_new (w.alloc (.cells #[.int .i64 k, .bool b, .int .i64 i, .float .f64 f, .string t, .string y, .slice A is.length c, .slice A' fs.length c'] 29)) (.cells #[.int .i64 0, .bool false, .int .i64 0, .float .f64 0, .string { data := #[] }, .string { data := #[] }, .slice none 0 0, .slice none 0 0] 29)
      simpa using this
    have g3 : (((w.alloc (.cells #[.int .i64 k, .bool b, .int .i64 i, .float .f64 f, .string t, .string y, .slice A is.length c, .slice A' fs.length c'] 29)).alloc (.cells #[.int .i64 0, .bool false, .int .i64 0, .float .f64 0, .string { data := #[] }, .string { data := #[] }, .slice none 0 0, .slice none 0 0] 29)).alloc (.cells #[.int .i64 k, .bool b, .int .i64 i, .float .f64 f, .string t, .string y, .slice none 0 0, .slice none 0 0] 29)).heap[w.heap.size + 1 + 1]? = some (.cells #[.int .i64 k, .bool b, .int .i64 i, .float .f64 f, .string t, .string y, .slice none 0 0, .slice none 0 0] 29) := by
      have := heap_alloc_new ((w.alloc (.cells #[.int .i64 k, .bool b, .int .i64 i, .float .f64 f, .string t, .string y, .slice A is.length c, .slice A' fs.length c'] 29)).alloc (.cells #[.int .i64 0, .bool false, .int .i64 0, .float .f64 0, .string { data := #[] }, .string { data := #[] }, .slice none 0 0, .slice none 0 0] 29)) (.cells #[.int .i64 k, .bool b, .int .i64 i, .float .f64 f, .string t, .string y, .slice none 0 0, .slice none 0 0] 29)
      simpa using this
    have gb : Below w.heap.size w (((w.alloc (.cells #[.int .i64 k, .bool b, .int .i64 i, .float .f64 f, .string t, .string y, .slice A is.length c, .slice A' fs.length c'] 29)).alloc (.cells #[.int .i64 0, .bool false, .int .i64 0, .float .f64 0, .string { data := #[] }, .string { data := #[] }, .slice none 0 0, .slice none 0 0] 29)).alloc (.cells #[.int .i64 k, .bool b, .int .i64 i, .float .f64 f, .string t, .string y, .slice none 0 0, .slice none 0 0] 29)) := (((Below.refl _ _).alloc (Nat.le_refl _) _).alloc (by simp) _).alloc (by simp; omega) _
    have gs : (((w.alloc (.cells #[.int .i64 k, .bool b, .int .i64 i, .float .f64 f, .string t, .string y, .slice A is.length c, .slice A' fs.length c'] 29)).alloc (.cells #[.int .i64 0, .bool false, .int .i64 0, .float .f64 0, .string { data := #[] }, .string { data := #[] }, .slice none 0 0, .slice none 0 0] 29)).alloc (.cells #[.int .i64 k, .bool b, .int .i64 i, .float .f64 f, .string t, .string y, .slice none 0 0, .slice none 0 0] 29)).heap.size = w.heap.size + 3 := by simp
    generalize (((w.alloc (.cells #[.int .i64 k, .bool b, .int .i64 i, .float .f64 f, .string t, .string y, .slice A is.length c, .slice A' fs.length c'] 29)).alloc (.cells #[.int .i64 0, .bool false, .int .i64 0, .float .f64 0, .string { data := #[] }, .string { data := #[] }, .slice none 0 0, .slice none 0 0] 29)).alloc (.cells #[.int .i64 k, .bool b, .int .i64 i, .float .f64 f, .string t, .string y, .slice none 0 0, .slice none 0 0] 29)) = w0 at *
    have G1 := Lib.hid g1
    have G2 := Lib.hid g2
    have G3 := Lib.hid g3
    have gs' : w.heap.size + 3 ≤ w0.heap.size := by omega
    clear g1 g2 g3 gs
    go_loopw [14] (fun vi W => ∃ (q : Nat) (v : Value) (css : List (List Value)), q ≤ is.length ∧ vi = .int .i64 (q : Int) ∧ W.ownsRow (w.heap.size + 3) 29 8 v (is.take q).length css.flatten ∧ Elems IsV W (Kids W (w.heap.size + 3) v) (is.take q) css ∧
        Hid (W.heap[w.heap.size]? = some (.cells #[.int .i64 k, .bool b, .int .i64 i, .float .f64 f, .string t, .string y, .slice A is.length c, .slice A' fs.length c'] 29)) ∧ Hid (W.heap[w.heap.size + 1]? = some (.cells #[.int .i64 0, .bool false, .int .i64 0, .float .f64 0, .string { data := #[] }, .string { data := #[] }, .slice none 0 0, .slice none 0 0] 29)) ∧ Hid (W.heap[w.heap.size + 1 + 1]? = some (.cells #[.int .i64 k, .bool b, .int .i64 i, .float .f64 f, .string t, .string y, v, .slice none 0 0] 29)) ∧ Below w.heap.size w W ∧ w.heap.size + 3 ≤ W.heap.size) (fun i _ => is.length - (intOf i).toNat)
    case atStart => exact ⟨0, .slice none 0 0, [], Nat.zero_le _, rfl, World.ownsRow_nil _ _ _ _, Elems.nil, G1, G2, G3, gb, gs'⟩
    case round =>
      obtain ⟨q, vv, css, hq, rfl, hown, hel, R1, R2, R3, hb, hsz⟩ := hrel
      clear G1 G2 G3 gb gs'
      have HE := Lib.hid hel
      have hlen : (is.take q).length = q := by rw [List.length_take]; omega
      have HO := Lib.hid hown
      have HL := Lib.hid hlen
      clear hel hown hlen
      by_cases hlt : q < is.length
      · have hx : is[q]? = some is[q] := List.getElem?_eq_getElem hlt
        have hts := Lib.hid (List.take_succ_eq_append_getElem hlt)
        obtain ⟨ad, ds, rfl, hadB, hcs, hvx⟩ := (HI.out.below HB.out hb).at_ hx
        have hszx := szs_get hx
        generalize is[q] = x at *
        have hvx2 := Lib.hid hvx
        obtain ⟨k2, b2, i2, f2, t2, y2, is2, fs2⟩ := x
        simp only [IsV] at hvx
        obtain ⟨A2, c2, A2', c2', rfl, _⟩ := hvx
        obtain ⟨d0, d1, d2, d3, d4, d5, d6, d7⟩ := hcs.eight
        rw [Nat.zero_add] at d0 d1 d2 d3 d4 d5 d6 d7
        have HC := Lib.hid (fun (W : World) (hW : Below w.heap.size wr W) (hWB : w.heap.size ≤ W.heap.size) => IH.out _ (by omega) (by omega) _ W S (hvx2.out.below HB.out hW) (HB.out.mono hWB))
        clear hcs hx hvx2 IH
        obtain ⟨j0, j1, j2, j3, j4, j5, j6, j7⟩ := blk8 R3.out
        have gl1 := blk_lt R3.out
        clear j0 j1 j2 j3 j4 j5 j7
        go_wp2_with fail
        clear d0 d1 d2 d3 d4 d5 d6 d7
        have gE := heap_alloc_new wr (.cells #[.int .i64 k2, .bool b2, .int .i64 i2, .float .f64 f2, .string t2, .string y2, .slice A2 is2.length c2, .slice A2' fs2.length c2'] 29)
        obtain ⟨m0, m1, m2, m3, m4, m5, m6, m7⟩ := blk8 gE
        have gl2 := blk_lt gE
        have j6' : (wr.alloc (.cells #[.int .i64 k2, .bool b2, .int .i64 i2, .float .f64 f2, .string t2, .string y2, .slice A2 is2.length c2, .slice A2' fs2.length c2'] 29)).cell? ⟨w.heap.size + 1 + 1, 6, none⟩ = some vv := (World.cell?_of_block (Below.heap_alloc wr _ _ gl1)).trans j6
        have hbE : Below wr.heap.size wr (wr.alloc (.cells #[.int .i64 k2, .bool b2, .int .i64 i2, .float .f64 f2, .string t2, .string y2, .slice A2 is2.length c2, .slice A2' fs2.length c2'] 29)) := (Below.refl _ _).alloc (Nat.le_refl _) _
        have hzE : wr.heap.size + 1 = (wr.alloc (.cells #[.int .i64 k2, .bool b2, .int .i64 i2, .float .f64 f2, .string t2, .string y2, .slice A2 is2.length c2, .slice A2' fs2.length c2'] 29)).heap.size := by simp
        generalize (wr.alloc (.cells #[.int .i64 k2, .bool b2, .int .i64 i2, .float .f64 f2, .string t2, .string y2, .slice A2 is2.length c2, .slice A2' fs2.length c2'] 29)) = w1 at *
        have hzE' : wr.heap.size + 1 ≤ w1.heap.size := by omega
        clear hzE gE j6
        go_region_law (first
          | (refine step_app _ rfl (.tmp 19) (.tmp 22) _ rfl (w.heap.size + 3) 29 iv _ 8 112 Tryz.underlying22 hiv hv0 hv1 hv2 rfl (by omega) vv _ css.flatten rfl (HO3.out.alloc _) (wc.heap.size + 1) (some ⟨wc.heap.size, 0, none⟩) 1 1 [.int .i64 k2, .bool b2, .int .i64 i2, .float .f64 f2, .string t2, .string y2, .slice A3 is2.length c3, .slice A3' fs2.length c3'] rfl rfl (Rd.new wc [.int .i64 k2, .bool b2, .int .i64 i2, .float .f64 f2, .string t2, .string y2, .slice A3 is2.length c3, .slice A3' fs2.length c3'] 29) (by simp) (isV_one hv3) (by have := HL.out; unfold maxLen; omega) (by have := HL.out; omega) (by simp; omega) ?_; intro v' w5 hown' hgrow hat; rw [HL.out] at hown'; have HO' := Lib.hid hown'; have HG' := Lib.hid hgrow; have HA' := Lib.hid hat; have R3w := blk_grown (blk_alloc R3c.out _) hgrow (own_ne HO3.out (by omega)); have j6w := (blk8 R3w).2.2.2.2.2.2.1; have jfw := blk_frozen R3w 6; have R3W := Lib.hid R3w; obtain ⟨A5, c5, rfl, _, _, _⟩ := own_form hown'; clear hown' hgrow hat R3w)
          | (go_simp; go_at_call 22; go_must (refine (HC.out _ ((hbE.mono (by omega)).drew) (by simp; omega)).mono ?_; rintro e wc ⟨cs3, rfl, hv3, hb3⟩; have HV3 := Lib.hid hv3; have hv3' := hv3; simp only [IsV] at hv3'; obtain ⟨A3, c3, A3', c3', rfl, _⟩ := hv3'; have hbc : Below wr.heap.size wr wc := (hbE.drew).trans (hb3.mono (by simp; omega)); have HO3 := Lib.hid (own_below HO.out hbc); have HE3 := Lib.hid (HE.out.below recV hbc); have R1c := Lib.hid (blk_below R1.out hbc (by omega)); have R2c := Lib.hid (blk_below R2.out hbc (by omega)); have R3c := Lib.hid (blk_below R3.out hbc gl1); have j6c := (blk8 R3c.out).2.2.2.2.2.2.1; have gl1c := blk_lt R3c.out; have hszc := hbc.size)))
        all_goals
          clear m0 m1 m2 m3 m4 m5 m6 m7 j6' HC
          go_wp2_with fail
          have hHG := HG'.out
          have hsz5 : wc.heap.size + 1 ≤ w5.heap.size := by have := hHG.size; simpa using this
          have hOn : w5.ownsRow (w.heap.size + 3) 29 8 (.slice A5 (q + 1) c5) (is.take (q + 1)).length (css ++ [([.int .i64 k2, .bool b2, .int .i64 i2, .float .f64 f2, .string t2, .string y2, .slice A3 is2.length c3, .slice A3' fs2.length c3'] : List Value)]).flatten := by
            have h1 := HO'.out
            rw [hts.out, List.length_append, HL.out, List.flatten_append]
            simpa only [List.flatten_cons, List.flatten_nil, List.append_nil, List.length_cons, List.length_nil, Nat.zero_add] using h1
          have hxk : IsV wc (Kids wc (w.heap.size + 3) vv) (.mk k2 b2 i2 f2 t2 y2 is2 fs2) [.int .i64 k2, .bool b2, .int .i64 i2, .float .f64 f2, .string t2, .string y2, .slice A3 is2.length c3, .slice A3' fs2.length c3'] := HV3.out.more (kid_new HO.out (by simp; omega) (by omega))
          have hEn := Elems.app recV HE3.out hxk hHG HA'.out
          rw [← hts.out] at hEn
          refine ⟨⟨q + 1, _, css ++ [([.int .i64 k2, .bool b2, .int .i64 i2, .float .f64 f2, .string t2, .string y2, .slice A3 is2.length c3, .slice A3' fs2.length c3'] : List Value)], by omega, by go_num, ownsRow_setCell_below hOn (show w.heap.size + 1 + 1 < w.heap.size + 3 by omega) _, hEn.low recV (show w.heap.size + 1 + 1 < w.heap.size + 3 by omega) _, blk_far (blk_grown (blk_alloc R1c.out _) hHG (own_ne HO3.out (by omega))) (show w.heap.size ≠ w.heap.size + 1 + 1 by omega) _,
            blk_far (blk_grown (blk_alloc R2c.out _) hHG (own_ne HO3.out (by omega))) (show w.heap.size + 1 ≠ w.heap.size + 1 + 1 by omega) _, Lib.hid (by simpa using blk_set R3W.out 6 (.slice A5 (q + 1) c5)), ?_, ?_⟩, by simp [intOf]; omega⟩
          · exact (((hb.trans (hbc.mono (by omega))).alloc (by omega) _).grown hHG (by simp; omega) (fun kk hkk => by have := (HO3.out.lt kk hkk).1; omega)).setCell (show w.heap.size ≤ w.heap.size + 1 + 1 by omega) _
          · simp [World.setCell]
            omega
      · obtain rfl : q = is.length := by omega
        obtain ⟨A1, c1, rfl, hA1, _, _⟩ := own_form HO.out
        have hvs := HE.out
        have hos := HO.out
        rw [List.take_of_length_le (Nat.le_refl _)] at hvs hos
        have HV := Lib.hid (own_isVs hos hvs)
        rw [HL.out] at R3
        have HA1 := Lib.hid hA1
        obtain ⟨j0, j1, j2, j3, j4, j5, j6, j7⟩ := blk8 R1.out
        have x7 := (blk8 R3.out).2.2.2.2.2.2.2
        have xf7 := blk_frozen R3.out 7
        clear hvs hos HO HE HI hA1 j0 j1 j2 j3 j4 j5 j6
        go_wp2_with fail
        have T1 := R1
        have T2 := R2
        have T3 := R3
        have tb := hb
        have hwl : w.heap.size + 3 ≤ wr.heap.size := hsz
        have HVl := HV
        clear R1 R2 R3 hb hsz HV
        generalize wr = wl at *
        clear j7 x7 xf7
        go_loopw [29] (fun vi W => ∃ (q : Nat) (v : Value) (css : List (List Value)), q ≤ fs.length ∧ vi = .int .i64 (q : Int) ∧ W.ownsRow wl.heap.size 43 9 v (fs.take q).length css.flatten ∧ Elems IsF W (Kids W wl.heap.size v) (fs.take q) css ∧
            Hid (W.heap[w.heap.size]? = some (.cells #[.int .i64 k, .bool b, .int .i64 i, .float .f64 f, .string t, .string y, .slice A is.length c, .slice A' fs.length c'] 29)) ∧ Hid (W.heap[w.heap.size + 1]? = some (.cells #[.int .i64 0, .bool false, .int .i64 0, .float .f64 0, .string { data := #[] }, .string { data := #[] }, .slice none 0 0, .slice none 0 0] 29)) ∧ Hid (W.heap[w.heap.size + 1 + 1]? = some (.cells #[.int .i64 k, .bool b, .int .i64 i, .float .f64 f, .string t, .string y, .slice A1 is.length c1, v] 29)) ∧ Below w.heap.size w W ∧ wl.heap.size ≤ W.heap.size ∧ Mid (w.heap.size + 3) wl.heap.size wl W) (fun i _ => fs.length - (intOf i).toNat)
        case atStart => exact ⟨0, .slice none 0 0, [], Nat.zero_le _, rfl, World.ownsRow_nil _ _ _ _, Elems.nil, T1, T2, T3, tb, Nat.le_refl _, Mid.refl _ _ _⟩
        case round =>
          obtain ⟨q, vv, css, hq, rfl, hown, hel, R1, R2, R3, hb, hsz, hmid⟩ := hrel
          clear T1 T2 T3 tb
          have HE := Lib.hid hel
          have hlen : (fs.take q).length = q := by rw [List.length_take]; omega
          have HO := Lib.hid hown
          have HL := Lib.hid hlen
          have HM := Lib.hid hmid
          clear hel hown hlen hmid
          by_cases hlt : q < fs.length
          · have hx : fs[q]? = some fs[q] := List.getElem?_eq_getElem hlt
            have hts := Lib.hid (List.take_succ_eq_append_getElem hlt)
            obtain ⟨ad, ds, rfl, hadB, hcs, hvx⟩ := (HF.out.below HB.out hb).at_ hx
            have hszx := szf_get hx
            generalize fs[q] = x at *
            have hvx2 := Lib.hid hvx
            obtain ⟨s2, k2, b2, i2, f2, t2, y2, is2, fs2⟩ := x
            simp only [IsV] at hvx
            obtain ⟨A2, c2, A2', c2', rfl, _⟩ := hvx
            obtain ⟨d0, d1, d2, d3, d4, d5, d6, d7, d8⟩ := hcs.nine
            rw [Nat.zero_add] at d0 d1 d2 d3 d4 d5 d6 d7 d8
            have HC := Lib.hid (fun (W : World) (hW : Below w.heap.size wr W) (hWB : w.heap.size ≤ W.heap.size) => IH.out _ (by omega) (by omega) _ W S (hvx2.out.below HB.out hW) (HB.out.mono hWB))
            clear hcs hx hvx2 IH
            have j7 := (blk8 R3.out).2.2.2.2.2.2.2
            have gl1 := blk_lt R3.out
            go_wp2_with fail
            clear d0 d1 d2 d3 d4 d5 d6 d7 d8
            have gE := heap_alloc_new wr (.cells #[.string s2, .int .i64 k2, .bool b2, .int .i64 i2, .float .f64 f2, .string t2, .string y2, .slice A2 is2.length c2, .slice A2' fs2.length c2'] 43)
            obtain ⟨m0, m1, m2, m3, m4, m5, m6, m7, m8⟩ := blk9 gE
            have gl2 := blk_lt gE
            have j7' : (wr.alloc (.cells #[.string s2, .int .i64 k2, .bool b2, .int .i64 i2, .float .f64 f2, .string t2, .string y2, .slice A2 is2.length c2, .slice A2' fs2.length c2'] 43)).cell? ⟨w.heap.size + 1 + 1, 7, none⟩ = some vv := (World.cell?_of_block (Below.heap_alloc wr _ _ gl1)).trans j7
            have hbE : Below wr.heap.size wr (wr.alloc (.cells #[.string s2, .int .i64 k2, .bool b2, .int .i64 i2, .float .f64 f2, .string t2, .string y2, .slice A2 is2.length c2, .slice A2' fs2.length c2'] 43)) := (Below.refl _ _).alloc (Nat.le_refl _) _
            have hzE : wr.heap.size + 1 = (wr.alloc (.cells #[.string s2, .int .i64 k2, .bool b2, .int .i64 i2, .float .f64 f2, .string t2, .string y2, .slice A2 is2.length c2, .slice A2' fs2.length c2'] 43)).heap.size := by simp
            generalize (wr.alloc (.cells #[.string s2, .int .i64 k2, .bool b2, .int .i64 i2, .float .f64 f2, .string t2, .string y2, .slice A2 is2.length c2, .slice A2' fs2.length c2'] 43)) = w1 at *
            have hzE' : wr.heap.size + 1 ≤ w1.heap.size := by omega
            clear hzE gE j7
            go_region_law (first
              | (refine step_app _ rfl (.tmp 34) (.tmp 41) _ rfl wl.heap.size 43 im _ 9 128 Tryz.underlying27 him hm0 hm1 hm2 rfl (by omega) vv _ css.flatten rfl (HO3.out.alloc _) (wc.heap.size + 1) (some ⟨wc.heap.size, 0, none⟩) 1 1 ([.string s2, .int .i64 k2, .bool b2, .int .i64 i2, .float .f64 f2, .string t2, .string y2, .slice A3 is2.length c3, .slice A3' fs2.length c3'] : List Value) rfl rfl (Rd.new wc ([.string s2, .int .i64 k2, .bool b2, .int .i64 i2, .float .f64 f2, .string t2, .string y2, .slice A3 is2.length c3, .slice A3' fs2.length c3'] : List Value) 43) (by simp) (isF_one HV3.out) (by have := HL.out; unfold maxLen; omega) (by have := HL.out; omega) (by simp; omega) ?_; intro v' w5 hown' hgrow hat; rw [HL.out] at hown'; have HO' := Lib.hid hown'; have HG' := Lib.hid hgrow; have HA' := Lib.hid hat; have R3w := blk_grown (blk_alloc R3c.out _) hgrow (own_ne HO3.out (by omega)); have j7w := (blk8 R3w).2.2.2.2.2.2.2; have jfw := blk_frozen R3w 7; have R3W := Lib.hid R3w; obtain ⟨A5, c5, rfl, _, _, _⟩ := own_form hown'; clear hown' hgrow hat R3w)
              | (go_simp; go_at_call 22; go_must (refine (HC.out _ ((hbE.mono (by omega)).drew) (by simp; omega)).mono ?_; rintro e wc ⟨cs3, rfl, hv3, hb3⟩; have HV3 := Lib.hid hv3; have hv3' := hv3; simp only [IsV] at hv3'; obtain ⟨A3, c3, A3', c3', rfl, _⟩ := hv3'; clear hv3; have hbc : Below wr.heap.size wr wc := (hbE.drew).trans (hb3.mono (by simp; omega)); have HO3 := Lib.hid (own_below HO.out hbc); have HE3 := Lib.hid (HE.out.below recF hbc); have R1c := Lib.hid (blk_below R1.out hbc (by omega)); have R2c := Lib.hid (blk_below R2.out hbc (by omega)); have R3c := Lib.hid (blk_below R3.out hbc gl1); have j7c := (blk8 R3c.out).2.2.2.2.2.2.2; have gl1c := blk_lt R3c.out; have hszc := hbc.size; have gl2c : wr.heap.size < wc.heap.size := (by have := hb3.size; simp at this; omega); have m0c : wc.cell? ⟨wr.heap.size, 0, none⟩ = some (.string s2) := (hb3.cell (p := ⟨wr.heap.size, 0, none⟩) (show wr.heap.size < w1.heap.size by omega)).trans m0)))
            all_goals
              clear m0 m1 m2 m3 m4 m5 m6 m7 m8 j7' HC
              go_wp2_with fail
              have hHG := HG'.out
              have hsz5 : wc.heap.size + 1 ≤ w5.heap.size := by have := hHG.size; simpa using this
              have hOn : w5.ownsRow wl.heap.size 43 9 (.slice A5 (q + 1) c5) (fs.take (q + 1)).length (css ++ [([.string s2, .int .i64 k2, .bool b2, .int .i64 i2, .float .f64 f2, .string t2, .string y2, .slice A3 is2.length c3, .slice A3' fs2.length c3'] : List Value)]).flatten := by
                have h1 := HO'.out
                rw [hts.out, List.length_append, HL.out, List.flatten_append]
                simpa only [List.flatten_cons, List.flatten_nil, List.append_nil, List.length_cons, List.length_nil, Nat.zero_add] using h1
              have hxk : IsF wc (Kids wc wl.heap.size vv) (s2, .mk k2 b2 i2 f2 t2 y2 is2 fs2) ([.string s2, .int .i64 k2, .bool b2, .int .i64 i2, .float .f64 f2, .string t2, .string y2, .slice A3 is2.length c3, .slice A3' fs2.length c3'] : List Value) := ⟨([.int .i64 k2, .bool b2, .int .i64 i2, .float .f64 f2, .string t2, .string y2, .slice A3 is2.length c3, .slice A3' fs2.length c3'] : List Value), rfl, HV3.out.more (kid_new HO.out (by simp; omega) (by omega))⟩
              have hEn := Elems.app recF HE3.out hxk hHG HA'.out
              rw [← hts.out] at hEn
              refine ⟨⟨q + 1, _, css ++ [([.string s2, .int .i64 k2, .bool b2, .int .i64 i2, .float .f64 f2, .string t2, .string y2, .slice A3 is2.length c3, .slice A3' fs2.length c3'] : List Value)], by omega, by go_num, ownsRow_setCell_below hOn (show w.heap.size + 1 + 1 < wl.heap.size by omega) _, hEn.low recF (show w.heap.size + 1 + 1 < wl.heap.size by omega) _, blk_far (blk_grown (blk_alloc R1c.out _) hHG (own_ne HO3.out (by omega))) (show w.heap.size ≠ w.heap.size + 1 + 1 by omega) _,
                blk_far (blk_grown (blk_alloc R2c.out _) hHG (own_ne HO3.out (by omega))) (show w.heap.size + 1 ≠ w.heap.size + 1 + 1 by omega) _, Lib.hid (by simpa using blk_set R3W.out 7 (.slice A5 (q + 1) c5)), ?_, ?_, ?_⟩, by simp [intOf]; omega⟩
              · exact (((hb.trans (hbc.mono (by omega))).alloc (by omega) _).grown hHG (by simp; omega) (fun kk hkk => by have := (HO3.out.lt kk hkk).1; omega)).setCell (show w.heap.size ≤ w.heap.size + 1 + 1 by omega) _
              · simp [World.setCell]
                omega
              · exact (((HM.out.below hbc (by omega)).alloc (by omega) _).grown hHG (by simp; omega) (fun kk hkk => (HO3.out.lt kk hkk).1)).set (.inl (show w.heap.size + 1 + 1 < w.heap.size + 3 by omega)) _
          · obtain rfl : q = fs.length := by omega
            obtain ⟨A9, c9, rfl, hA9, _, _⟩ := own_form HO.out
            have hvs := HE.out
            have hos := HO.out
            rw [List.take_of_length_le (Nat.le_refl _)] at hvs hos
            have HF9 := Lib.hid (own_isFs hos hvs)
            rw [HL.out] at R3
            have HA9 := Lib.hid hA9
            obtain ⟨n0, n1, n2, n3, n4, n5, n6, n7⟩ := blk8 R3.out
            obtain ⟨o0, o1, o2, o3, o4, o5, o6, o7⟩ := blk8 R2.out
            have of0 := blk_frozen R2.out 0
            have of1 := blk_frozen R2.out 1
            have of2 := blk_frozen R2.out 2
            have of3 := blk_frozen R2.out 3
            have of4 := blk_frozen R2.out 4
            have of5 := blk_frozen R2.out 5
            have of6 := blk_frozen R2.out 6
            have of7 := blk_frozen R2.out 7
            clear hvs hos HO HE HF hA9
            go_wp2_with fail
            have hE := copy_end (k := k) (b := b) (i := i) (f := f) (t := t) (y := y) (c1 := c1) (c9 := c9) (grown_set (grown_set (grown_set (grown_set (grown_set (grown_set (grown_set (grown_set (grown_refl wr (some (w.heap.size + 1))) 0 (.int .i64 k)) 1 (.bool b)) 2 (.int .i64 i)) 3 (.float .f64 f)) 4 (.string t)) 5 (.string y)) 6 (.slice A1 is.length c1)) 7 (.slice A9 fs.length c9))
              HVl.out HM.out HF9.out hwl hsz hb (fun h => by have := HA1.out h; rw [List.take_of_length_le (Nat.le_refl _)] at this; exact this) (fun h => by have := HA9.out h; rw [List.take_of_length_le (Nat.le_refl _)] at this; exact this)
            clear HVl HM HF9 HA1 HA9
            exact bodyPost_ret (v := .agg #[.int .i64 k, .bool b, .int .i64 i, .float .f64 f, .string t, .string y, .slice A1 is.length c1, .slice A9 fs.length c9]) (by simp [results, Tryz.results22, go_sem, o0, o1, o2, o3, o4, o5, o6, o7]) rfl ⟨_, rfl, hE.1, hE.2⟩
end Go.Proofs.YthlncdcfppehcaaGreatDoor.val
end
