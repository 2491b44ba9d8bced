/- The law's 'parts' and 'wide': what they compute. -/
import Derived.Test.YtmicjfdibhoamaaProg
import Derived.Test.YtmicjfdibhoamaaVal
import Derived.Handy
import Derived.WalkSpells
import Derived.Deep.DeepMust
namespace Go.Proofs.Ytmicjfdibhoamaa.val
open Go.RowKit mem
attribute [local go_sem] run_store_float

def PartsPost (w : World) (n : Int) (e : Ending) (w' : World) : Prop := e = .returned (.int .i64 n) ∧ Below w.heap.size w w'

set_option maxRecDepth 100000 in
set_option maxHeartbeats 1000000 in
theorem parts_any : ∀ (N : Nat) (v : V), sz v ≤ N → N ≤ 1048576 → ∀ (cs : List Value) (m : Int) (w : World) (S : Nat → Prop), IsV w S v cs → Bel S w.heap.size → 1 ≤ m → m ≤ 1000000 →
    Calls Try.prog 25 #[.agg cs.toArray, .int .i64 m] w (PartsPost w (pt v m)) := by
  intro N
  induction N with
  | zero => intro v hv; have := sz_pos v; omega
  | succ N ih =>
    intro v hv hN cs m w S hV hB hm1 hm2
    obtain ⟨k, b, i, f, t, y, is, fs⟩ := v
    simp only [IsV] at hV
    obtain ⟨A, c, A', c', rfl, hA, hA', his, hfs⟩ := hV
    simp only [sz] at hv
    have hl1 := szs_len is
    have hl2 := szf_len fs
    have IH := Lib.hid ih
    have HB := Lib.hid hB
    have HI := Lib.hid his
    have HF := Lib.hid hfs
    have hpt := Lib.hid (show pt (.mk k b i f t y is fs) m = ptf fs m (pts is m 1) by simp only [pt])
    rw [hpt.out]
    clear ih hB his hfs hpt hA hA'
    go_enter Try.func25, Try.ntmps25
    go_wp2_with fail
    have hbx : Below w.heap.size w (w.alloc (.cells #[.int .i64 k, .bool b, .int .i64 i, .float .f64 f, .string t, .string y, .slice A is.length c, .slice A' fs.length c'] 35)) := (Below.refl _ _).alloc (Nat.le_refl _) _
    have hsx : (w.alloc (.cells #[.int .i64 k, .bool b, .int .i64 i, .float .f64 f, .string t, .string y, .slice A is.length c, .slice A' fs.length c'] 35)).heap.size = w.heap.size + 1 := by simp
    have e7 : (w.alloc (.cells #[.int .i64 k, .bool b, .int .i64 i, .float .f64 f, .string t, .string y, .slice A is.length c, .slice A' fs.length c'] 35)).cell? ⟨w.heap.size, 7, none⟩ = some (.slice A' fs.length c') := by go_simp
    generalize (w.alloc (.cells #[.int .i64 k, .bool b, .int .i64 i, .float .f64 f, .string t, .string y, .slice A is.length c, .slice A' fs.length c'] 35)) = w1 at *
    have hsx' : w.heap.size + 1 ≤ w1.heap.size := by omega
    clear hsx
    go_loopw [5, 13] (fun v5 v13 W => ∃ (q : Nat) (n : Int), q ≤ is.length ∧ 1 ≤ n ∧ n ≤ 2200000 ∧ v5 = .int .i64 n ∧ v13 = .int .i64 (q : Int) ∧ Hid (pts is m 1 = pts (is.drop q) m n) ∧ Below (w.heap.size + 1) w1 W) (fun _ i _ => is.length - (intOf i).toNat)
    case atStart => exact ⟨0, 1, Nat.zero_le _, by omega, by omega, rfl, rfl, rfl, Below.refl _ _⟩
    case round =>
      obtain ⟨q, n, hq, hn1, hn2, rfl, rfl, HR, hb⟩ := hrel
      have hbw : Below w.heap.size w wr := hbx.trans (hb.mono (by omega))
      have hszr := hb.size
      by_cases hlt : q < is.length
      · have hx : is[q]? = some is[q] := List.getElem?_eq_getElem hlt
        obtain ⟨ad, cs, rfl, hadB, hcs, hvx⟩ := (HI.out.below HB.out hbw).at_ hx
        have hsz := szs_get hx
        have HD := Lib.hid (pts_drop hx m n)
        generalize is[q] = x at *
        obtain ⟨k2, b2, i2, f2, t2, y2, is2, fs2⟩ := x
        have hvx2 := hvx
        simp only [IsV] at hvx
        obtain ⟨A2, c2, A2', c2', rfl, _⟩ := hvx
        obtain ⟨c0, c1, cc2, c3, c4, c5, c6, c7⟩ := hcs.eight
        rw [Nat.zero_add] at c0 c1 cc2 c3 c4 c5 c6 c7
        clear hcs hx
        by_cases hmn : m ≤ n
        · have Hfin := Lib.hid (show ptf fs m (pts is m 1) = n by rw [HR.out, HD.out, if_pos hmn, ptf_full hmn])
          clear HR HD hvx2
          go_wp2_with fail
          go_ret
          exact ⟨ret_int (by rw [Hfin.out]), hbw.alloc (by omega) _⟩
        · have Hfin := Lib.hid (show pts is m 1 = pts (is.drop (q + 1)) m (n + pt (.mk k2 b2 i2 f2 t2 y2 is2 fs2) (m - n)) by rw [HR.out, HD.out, if_neg hmn])
          have hbd := pt_bd (.mk k2 b2 i2 f2 t2 y2 is2 fs2) (m - n)
          have HC := Lib.hid (fun (W : World) (hW : Below w.heap.size wr W) (hWB : w.heap.size ≤ W.heap.size) => IH.out _ (by omega) (by omega) _ (m - n) W S (hvx2.below HB.out hW) (HB.out.mono hWB) (by omega) (by omega))
          clear HR HD hvx2 IH HI
          generalize pt (.mk k2 b2 i2 f2 t2 y2 is2 fs2) (m - n) = r at *
          go_wp2_with fail
          refine (HC.out _ ((Below.refl _ _).alloc (by omega) _) (by simp; omega)).mono ?_
          rintro e w2 ⟨rfl, hb2⟩
          go_wp2_with fail
          go_roundw
          case rel => exact ⟨q + 1, n + r, by omega, by omega, by omega, rfl, by go_num, Hfin, (hb.alloc (by omega) _).trans (hb2.mono (by simp; omega))⟩
          case measure => simp [intOf]; omega
      · obtain rfl : q = is.length := by omega
        have hn : Hid (pts is m 1 = n) := Lib.hid (by rw [HR.out]; simp only [List.drop_length, pts])
        have hn3 : Hid (ptf fs m (pts is m 1) = ptf (fs.drop 0) m n) := Lib.hid (by rw [hn.out, List.drop_zero])
        have f7 := (hb.cell (p := ⟨w.heap.size, 7, none⟩) (by simp)).trans e7
        clear HR HI hn
        go_wp2_with fail
        obtain ⟨wo, hwo⟩ : ∃ wo : World, wr = wo := ⟨_, rfl⟩
        rw [hwo] at hb hbw hszr f7
        clear e7
        subst hwo
        go_loopw [5, 32] (fun v5 v13 W => ∃ (q : Nat) (n2 : Int), q ≤ fs.length ∧ 1 ≤ n2 ∧ n2 ≤ 2200000 ∧ v5 = .int .i64 n2 ∧ v13 = .int .i64 (q : Int) ∧ Hid (ptf fs m (pts is m 1) = ptf (fs.drop q) m n2) ∧ Below (w.heap.size + 1) w1 W) (fun _ i _ => fs.length - (intOf i).toNat)
        case atStart => exact ⟨0, n, Nat.zero_le _, hn1, hn2, rfl, rfl, hn3, hb⟩
        case round =>
          clear hb hbw hszr f7
          obtain ⟨q, n2, hq, hn1, hn2, rfl, rfl, HR, hb⟩ := hrel
          have hbw : Below w.heap.size w wr := hbx.trans (hb.mono (by omega))
          have hszr := hb.size
          by_cases hlt : q < fs.length
          · have hx : fs[q]? = some fs[q] := List.getElem?_eq_getElem hlt
            obtain ⟨ad, cs, rfl, hadB, hcs, hvx⟩ := (HF.out.below HB.out hbw).at_ hx
            have hsz := szf_get hx
            have HD := Lib.hid (ptf_drop hx m n2)
            generalize fs[q] = x at *
            obtain ⟨s2, k2, b2, i2, f2, t2, y2, is2, fs2⟩ := x
            have hvx2 := hvx
            simp only [IsV] at hvx
            obtain ⟨A2, c2, A2', c2', rfl, _⟩ := hvx
            obtain ⟨c0, c1, cc2, c3, c4, c5, c6, c7, c8⟩ := hcs.nine
            rw [Nat.zero_add] at c0 c1 cc2 c3 c4 c5 c6 c7 c8
            clear hcs hx
            by_cases hmn : m ≤ n2
            · have Hfin := Lib.hid (show ptf fs m (pts is m 1) = n2 by rw [HR.out, HD.out, if_pos hmn])
              clear HR HD hvx2
              go_wp2_with fail
              go_ret
              exact ⟨ret_int (by rw [Hfin.out]), hbw.alloc (by omega) _⟩
            · have Hfin := Lib.hid (show ptf fs m (pts is m 1) = ptf (fs.drop (q + 1)) m (n2 + pt (.mk k2 b2 i2 f2 t2 y2 is2 fs2) (m - n2)) by rw [HR.out, HD.out, if_neg hmn])
              have hbd := pt_bd (.mk k2 b2 i2 f2 t2 y2 is2 fs2) (m - n2)
              have HC := Lib.hid (fun (W : World) (hW : Below w.heap.size wr W) (hWB : w.heap.size ≤ W.heap.size) => IH.out _ (by omega) (by omega) _ (m - n2) W S (hvx2.below HB.out hW) (HB.out.mono hWB) (by omega) (by omega))
              clear HR HD hvx2 IH HF
              generalize pt (.mk k2 b2 i2 f2 t2 y2 is2 fs2) (m - n2) = r at *
              go_wp2_with fail
              refine (HC.out _ ((Below.refl _ _).alloc (by omega) _) (by simp; omega)).mono ?_
              rintro e w2 ⟨rfl, hb2⟩
              go_wp2_with fail
              go_roundw
              case rel => exact ⟨q + 1, n2 + r, by omega, by omega, by omega, rfl, by go_num, Hfin, (hb.alloc (by omega) _).trans (hb2.mono (by simp; omega))⟩
              case measure => simp [intOf]; omega
          · obtain rfl : q = fs.length := by omega
            have hn : Hid (ptf fs m (pts is m 1) = n2) := Lib.hid (by rw [HR.out]; simp only [List.drop_length, ptf])
            clear HR HF
            go_wp2_with fail
            go_ret
            exact ⟨ret_int (by rw [hn.out]), hbw⟩
end Go.Proofs.Ytmicjfdibhoamaa.val
