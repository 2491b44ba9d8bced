/- The law's 'wide'. -/
import Derived.Test.YtmicjfdibhoamaaParts
import Derived.Test.YtmicjfdibhoamaaOut
namespace Go.Proofs.Ytmicjfdibhoamaa.val
open Go.RowKit mem
attribute [local go_sem] run_store_float

def WidePost (w : World) (b : Bool) (e : Ending) (w' : World) : Prop := e = .returned (.bool b) ∧ Below w.heap.size w w'

set_option maxRecDepth 100000 in
set_option maxHeartbeats 1000000 in
theorem wide_any (es : List (C × O)) (hes : szE es ≤ 1048576) (A : Option Addr) (c : Nat) (w : World) (S : Nat → Prop) (hE : LAt 13 IsE w S es A) (hB : Bel S w.heap.size) :
    Calls Try.prog 12 #[.slice A es.length c] w (WidePost w (wideN es 0)) := by
  have hl1 := szE_len es
  have HE := Lib.hid hE
  have HB := Lib.hid hB
  clear hE hB
  go_enter Try.func12, Try.ntmps12
  go_wp2_with fail
  go_loopw [3, 8] (fun v3 v8 W => ∃ (q : Nat) (n : Int), q ≤ es.length ∧ 0 ≤ n ∧ n < 20000 ∧ v3 = .int .i64 n ∧ v8 = .int .i64 (q : Int) ∧ Hid (wideN es 0 = wideN (es.drop q) n) ∧ Below w.heap.size w W) (fun _ i _ => es.length - (intOf i).toNat)
  case atStart => exact ⟨0, 0, Nat.zero_le _, by omega, by omega, rfl, rfl, rfl, Below.refl _ _⟩
  case round =>
    obtain ⟨q, n, hq, hn1, hn2, rfl, rfl, HR, hb⟩ := hrel
    have hszr := hb.size
    by_cases hlt : q < es.length
    · have hx : es[q]? = some es[q] := List.getElem?_eq_getElem hlt
      obtain ⟨ad, cs, rfl, hadB, hcs, ds, rfl, hvx⟩ := (HE.out.below recE HB.out hb) q _ hx
      have hsz := szE_get hx
      have HD := Lib.hid (wideN_drop hx n)
      generalize es[q] = x at *
      obtain ⟨⟨x1, x2, x3, x4⟩, xf, v⟩ := x
      have HV := Lib.hid hvx
      obtain ⟨k2, b2, i2, f2, t2, y2, is2, fs2⟩ := v
      simp only [IsV] at hvx
      obtain ⟨A2, c2, A2', c2', rfl, _⟩ := hvx
      obtain ⟨c0, c1, cc2, c3, c4, c5, c6, c7, c8, c9, c10, c11, c12⟩ := hcs.thirteen
      have hbd := pt_bd (.mk k2 b2 i2 f2 t2 y2 is2 fs2) 20000
      have HC := Lib.hid (fun (W : World) (hW : Below w.heap.size wr W) (hWB : w.heap.size ≤ W.heap.size) => parts_any 1048576 _ (by omega) (by omega) _ 20000 W S (HV.out.below HB.out hW) (HB.out.mono hWB) (by omega) (by omega))
      clear hcs hx HV
      simp only at HD c0 c1 cc2 c3 c4 hsz
      generalize pt (.mk k2 b2 i2 f2 t2 y2 is2 fs2) 20000 = r at *
      go_wp2_with fail
      refine (HC.out _ ((Below.refl _ _).alloc (by omega) _) (by simp; omega)).mono ?_
      rintro e w2 ⟨rfl, hb2⟩
      by_cases hge : 20000 ≤ n + r
      · have Hfin := Lib.hid (show wideN es 0 = true by rw [HR.out, HD.out, if_pos hge])
        clear HR HD
        go_wp2_with fail
        go_ret
        exact ⟨ret_bool (by rw [Hfin.out]), (hb.alloc (by omega) _).trans (hb2.mono (by simp; omega))⟩
      · have Hn := Lib.hid (show wideN es 0 = wideN (es.drop (q + 1)) (n + r) by rw [HR.out, HD.out, if_neg hge])
        clear HR HD
        go_wp2_with fail
        exact ⟨⟨q + 1, n + r, by omega, by omega, by omega, rfl, by go_num, Hn, (hb.alloc (by omega) _).trans (hb2.mono (by simp; omega))⟩, by simp [intOf]; omega⟩
    · obtain rfl : q = es.length := by omega
      have Hfin := Lib.hid (show wideN es 0 = false by rw [HR.out]; simp only [List.drop_length, wideN])
      clear HR
      go_wp2_with fail
      go_ret
      exact ⟨ret_bool (by rw [Hfin.out]), hb⟩
end Go.Proofs.Ytmicjfdibhoamaa.val
