/- The reference's same, number. -/
import Derived.Test.YtjbfhkcbgafeaaaDoorRefW
namespace Go.Proofs.YtjbfhkcbgafeaaaDoor.app
open Go.RowKit mem txt esc
set_option linter.unusedVariables false

theorem below_drewN' {B : Nat} {w w' : World} (h : Below B w w') (n : Nat) : Below B w (w'.drewN n) := ⟨h.os, h.tape, h.output, h.size, h.block⟩
theorem drewN_two (w : World) (m n : Nat) : (w.drewN m).drewN n = w.drewN (m + n) := World.drewN_drewN w m n

set_option maxRecDepth 100000 in
set_option maxHeartbeats 1000000 in
theorem same_any (xs ys : List Int) (A1 A2 : Option Addr) (c1 c2 : Nat) (w : World) (h1 : Rd w w.heap.size A1 (zs xs)) (h2 : Rd w w.heap.size A2 (zs ys)) (hx : xs.length ≤ 1099511627776) (hy : ys.length ≤ 1099511627776) :
    Calls Tryd.prog 37 #[.slice A1 xs.length c1, .slice A2 ys.length c2] w fun e w' => e = .returned (.bool (decide (xs = ys))) ∧ ∃ n, w' = w.drewN n := by
  have H1 := Lib.hid h1
  have H2 := Lib.hid h2
  clear h1 h2
  by_cases hl : xs.length = ys.length
  · have HL := Lib.hid hl
    obtain ⟨L, hL⟩ : ∃ L, xs.length = L := ⟨_, rfl⟩
    have hLy : ys.length = L := by omega
    have HX := Lib.hid hL
    have HY := Lib.hid hLy
    rw [hLy, hL]
    rw [hL] at hx
    clear hl hL hLy hy HL
    go_enter Tryd.func37, Tryd.ntmps37
    go_wp2_with fail
    go_loopw [5] (fun v5 wr => ∃ i m : Nat, i ≤ L ∧ v5 = .int .i64 (i : Int) ∧ wr = w.drewN m ∧ Hid (xs.take i = ys.take i)) (fun v5 _ => L - (intOf v5).toNat)
    case atStart => exact ⟨0, 0, Nat.zero_le _, rfl, rfl, rfl⟩
    case round =>
      obtain ⟨i, m, hi, rfl, rfl, ht⟩ := hrel
      by_cases hiL : i < L
      · have hi3 : (i : Int) < (L : Int) := by omega
        have hxi : i < xs.length := by rw [HX.out]; exact hiL
        have hyi : i < ys.length := by rw [HY.out]; exact hiL
        obtain ⟨x, ex⟩ : ∃ x, xs[i]? = some x := ⟨_, List.getElem?_eq_getElem hxi⟩
        obtain ⟨y, ey⟩ : ∃ y, ys[i]? = some y := ⟨_, List.getElem?_eq_getElem hyi⟩
        obtain ⟨ad1, rfl, hb1, hc1⟩ := H1.out i (.int .u8 x) (by simp [zs, ex])
        obtain ⟨ad2, rfl, hb2, hc2⟩ := H2.out i (.int .u8 y) (by simp [zs, ey])
        have EX := Lib.hid ex
        have EY := Lib.hid ey
        have hd1 : ∀ n, ((w.drewN m).drewN n).cell? (ad1.add i) = some (.int .u8 x) := fun n => hc1
        have hd2 : ∀ n, ((w.drewN m).drewN n).cell? (ad2.add i) = some (.int .u8 y) := fun n => hc2
        clear ex ey hxi hyi
        by_cases hxy : x = y
        · subst hxy
          go_wp2_with fail
          go_big_quiet (fail)
          clear hc1 hc2 hd1 hd2
          go_wp2_with fail
          exact ⟨⟨i + 1, m + nq, by omega, by simp, by first | rfl | exact drewN_two _ _ _, Lib.hid (by rw [List.take_add_one, List.take_add_one, ht.out, EX.out, EY.out])⟩, by simp [intOf]; omega⟩
        · have hb : (x != y) = true := by simp [hxy]
          go_wp2_with fail
          go_big_quiet (fail)
          clear hc1 hc2 hd1 hd2
          go_wp2_with fail
          go_ret
          refine ⟨?_, m + nq, by first | rfl | exact drewN_two _ _ _⟩
          have hne : ¬ xs = ys := fun e => hxy (by have h1 := EX.out; rw [e, EY.out] at h1; exact (Option.some.inj h1).symm)
          simp [hne]
      · have hiE : i = L := by omega
        subst hiE
        have he : xs = ys := by
          have := ht.out
          rwa [List.take_of_length_le (by rw [HX.out]; exact Nat.le_refl _), List.take_of_length_le (by rw [HY.out]; exact Nat.le_refl _)] at this
        clear ht
        go_wp2_with fail
        go_ret
        refine ⟨?_, _, rfl⟩
        simp [he]
  · have hb : ((xs.length : Int) != (ys.length : Int)) = true := by simp; omega
    have hne : ¬ xs = ys := fun e => hl (by rw [e])
    have hf : decide (xs = ys) = false := decide_eq_false hne
    rw [hf]
    clear hne hf hl
    generalize xs.length = l1 at *
    generalize ys.length = l2 at *
    go_enter Tryd.func37, Tryd.ntmps37
    go_wp2
    go_ret
    exact ⟨rfl, 0, rfl⟩
end Go.Proofs.YtjbfhkcbgafeaaaDoor.app
