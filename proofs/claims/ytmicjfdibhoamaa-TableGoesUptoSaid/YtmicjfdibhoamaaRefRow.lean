/- The reference's table: which row counts for a call. -/
import Derived.Test.YtmicjfdibhoamaaRefNew
namespace Go.Proofs.Ytmicjfdibhoamaa.val
open Go.RowKit mem
attribute [local go_sem] run_store_float

def IntPost (w : World) (i : Int) (e : Ending) (w' : World) : Prop := e = .returned (.int .i64 i) ∧ Below w.heap.size w w'
theorem RefAt.below {w w' : World} {base : Nat} {cs : List C} {vs : List Value} (h : RefAt w base cs vs) (hb : Below w.heap.size w w') : RefAt w' base cs vs := by
  obtain ⟨Ac, cc, Ao, co, Af, cf, Au, nu, cu, l, rfl, h1, h2, h3, h4⟩ := h
  exact ⟨Ac, cc, Ao, co, Af, cf, Au, nu, cu, l, rfl, own_below h1 hb, h2, own_below h3 hb, own_below h4 hb⟩

set_option maxRecDepth 100000 in
set_option maxHeartbeats 8000000 in
theorem refRow_any (cs : List C) (hcs : cs.length ≤ 1048576) (vs : List Value) (base : Nat) (w : World) (h : RefAt w base cs vs) (x : C) : Calls Try.prog 26 #[.agg vs.toArray, .agg #[.string x.p, .string x.q, .string x.f, .string x.a]] w (IntPost w (rowAt cs x)) := by
  obtain ⟨Ac, cc, Ao, co, Af, cf, Au, nu, cu, l, rfl, h1, h2, h3, h4⟩ := h
  obtain ⟨x1, x2, x3, x4⟩ := x
  have HL := Lib.hid h2
  have hln := h2.2.2
  rw [Nat.sub_zero] at hln
  have HLn := Lib.hid hln
  have H1 := Lib.hid h1
  have H3 := Lib.hid h3
  clear h1 h2 h3 h4 hln
  go_enter Try.func26, Try.ntmps26
  go_wp2_with fail
  have g1 := Lib.hid (blk_alloc (heap_alloc_new w (.cells #[.slice Ac cs.length cc, .slice Ao cs.length co, .slice Af cs.length cf, .slice Au nu cu] 55)) (.cells #[.string x1, .string x2, .string x3, .string x4] 25))
  have g2 : Hid (((w.alloc (.cells #[.slice Ac cs.length cc, .slice Ao cs.length co, .slice Af cs.length cf, .slice Au nu cu] 55)).alloc (.cells #[.string x1, .string x2, .string x3, .string x4] 25)).heap[w.heap.size + 1]? = some (.cells #[.string x1, .string x2, .string x3, .string x4] 25)) := Lib.hid (by simpa using heap_alloc_new (w.alloc (.cells #[.slice Ac cs.length cc, .slice Ao cs.length co, .slice Af cs.length cf, .slice Au nu cu] 55)) (.cells #[.string x1, .string x2, .string x3, .string x4] 25))
  have hb0 : Below w.heap.size w ((w.alloc (.cells #[.slice Ac cs.length cc, .slice Ao cs.length co, .slice Af cs.length cf, .slice Au nu cu] 55)).alloc (.cells #[.string x1, .string x2, .string x3, .string x4] 25)) := ((Below.refl _ _).alloc (Nat.le_refl _) _).alloc (by simp) _
  have hs0 : w.heap.size + 2 ≤ ((w.alloc (.cells #[.slice Ac cs.length cc, .slice Ao cs.length co, .slice Af cs.length cf, .slice Au nu cu] 55)).alloc (.cells #[.string x1, .string x2, .string x3, .string x4] 25)).heap.size := by simp
  generalize ((w.alloc (.cells #[.slice Ac cs.length cc, .slice Ao cs.length co, .slice Af cs.length cf, .slice Au nu cu] 55)).alloc (.cells #[.string x1, .string x2, .string x3, .string x4] 25)) = w1 at *
  have T1 := cell_of_row w1 w.heap.size 1 _ _ (0, 0) g1.out
  go_quiet (fail)
  have hb1 := below_drewN hb0 nq
  have hs1 : w.heap.size + 2 ≤ (w1.drewN nq).heap.size := by have := (below_drewN (Below.refl w1.heap.size w1) nq).size; omega
  replace g1 := Lib.hid (blk_below g1.out (below_drewN (Below.refl w1.heap.size w1) nq) (by omega))
  replace g2 := Lib.hid (blk_below g2.out (below_drewN (Below.refl w1.heap.size w1) nq) (by omega))
  clear T1 hb0 hs0
  generalize w1.drewN nq = w2 at *
  go_wp2_with fail
  go_loopw [5, 6] (fun vl vh W => ∃ lo hi : Nat, vl = .int .i64 (lo : Int) ∧ vh = .int .i64 (hi : Int) ∧ Hid (LB (keyAt cs) l ⟨x1, x2, x3, x4⟩ lo hi) ∧ Below w2.heap.size w2 W) (fun vl vh _ => (intOf vh).toNat - (intOf vl).toNat)
  case atStart => exact ⟨0, cs.length, rfl, rfl, Lib.hid (by have := lb_start (keyAt cs) l ⟨x1, x2, x3, x4⟩; rw [HLn.out] at this; exact this), Below.refl _ _⟩
  case round =>
    obtain ⟨lo, hi, rfl, rfl, HB, hb⟩ := hrel
    have hszr := hb.size
    have hbw : Below w.heap.size w wr := hb1.trans (hb.mono (by omega))
    have G1 := blk_below g1.out hb (by omega)
    have G2 := blk_below g2.out hb (by omega)
    have O3 := own_below H3.out hbw
    have O1 := ccs_lat (own_below H1.out hbw) rfl
    have hlh := HB.out.1
    have hhn := HB.out.2.1
    rw [HLn.out] at hhn
    have T0 := cell_of_row wr w.heap.size 0 _ _ (0, 0) G1
    have T1 := cell_of_row wr w.heap.size 1 _ _ (0, 0) G1
    obtain ⟨m0, m1, m2, m3⟩ := blk4 G2
    by_cases hlt : lo < hi
    · obtain ⟨mid, hmid⟩ : ∃ mid, lo + (hi - lo) / 2 = mid := ⟨_, rfl⟩
      have hm1 : lo ≤ mid := by omega
      have hm2 : mid < hi := by omega
      have hmi : (lo : Int) + ((hi : Int) - (lo : Int)).tdiv 2 = (mid : Int) := by
        rw [Int.tdiv_eq_ediv_of_nonneg (by omega)]
        omega
      have hml : mid < l.length := by rw [HLn.out]; omega
      obtain ⟨ao, rfl, haoB, co1⟩ := (Rd.of_own O3).at_ (k := mid) (by simpa using hml)
      simp only [List.getElem_map, iv] at co1
      obtain ⟨p, HP⟩ : ∃ p : Nat, Hid (l[mid] = p) := ⟨l[mid], Lib.hid rfl⟩
      have hpn : p < cs.length := by
        have := ((HL.out.2.1 _).1 (List.getElem_mem hml)).2
        rw [HP.out] at this
        exact this
      rw [HP.out] at co1
      obtain ⟨ca1, hca⟩ : ∃ y, cs[p]? = some y := ⟨_, List.getElem?_eq_getElem hpn⟩
      obtain ⟨ad, xa, rfl, hadB, hxa, rfl⟩ := O1 p _ hca
      have HU : Hid (ltC ca1 ⟨x1, x2, x3, x4⟩ = true → LB (keyAt cs) l ⟨x1, x2, x3, x4⟩ (mid + 1) hi) := Lib.hid (fun h => HB.out.up HL.out.1 hm1 hm2 hml (by rw [HP.out, keyAt_get hca]; exact h))
      have HD : Hid (ltC ca1 ⟨x1, x2, x3, x4⟩ = false → LB (keyAt cs) l ⟨x1, x2, x3, x4⟩ lo mid) := Lib.hid (fun h => HB.out.down HL.out.1 hm1 hm2 hml (by rw [HP.out, keyAt_get hca]; exact h))
      obtain ⟨d0, d1, d2, d3⟩ := hxa.four
      obtain ⟨y1, y2, y3, y4⟩ := ca1
      simp only at d0 d1 d2 d3
      have hi1 : (0 : Int) ≤ (mid : Int) := by omega
      have hi2 : (mid : Int) < (cs.length : Int) := by omega
      have hpa1 : (0 : Int) ≤ (p : Int) := by omega
      have hpa2 : (p : Int) < (cs.length : Int) := by omega
      have hrefl : Below wr.heap.size wr wr.drew := (Below.refl _ _).drew
      clear hxa hca O1 O3 G1 G2 HB
      go_wp2_with fail
      go_region_held3 (fun w' => w'.cell? ⟨w.heap.size, 0, none⟩ = some (.slice (some ad) cs.length cc) ∧ w'.cell? ⟨w.heap.size, 1, none⟩ = some (.slice (some ao) cs.length co) ∧ w'.cell? (ao.add mid) = some (.int .i64 p) ∧ w'.cell? (ad.add (p * 4)) = some (.string y1) ∧ w'.cell? ⟨(ad.add (p * 4)).block, (ad.add (p * 4)).off + 1, none⟩ = some (.string y2) ∧ w'.cell? ⟨(ad.add (p * 4)).block, (ad.add (p * 4)).off + 2, none⟩ = some (.string y3) ∧ w'.cell? ⟨(ad.add (p * 4)).block, (ad.add (p * 4)).off + 3, none⟩ = some (.string y4) ∧
          w'.cell? ⟨w.heap.size + 1, 0, none⟩ = some (.string x1) ∧ w'.cell? ⟨w.heap.size + 1, 1, none⟩ = some (.string x2) ∧ w'.cell? ⟨w.heap.size + 1, 2, none⟩ = some (.string x3) ∧ w'.cell? ⟨w.heap.size + 1, 3, none⟩ = some (.string x4))
        (first | exact ⟨T0, T1, co1, d0, d1, d2, d3, m0, m1, m2, m3⟩ | (have kk := fun (a : Addr) (u : Value) (hh : wr.cell? a = some u) => (hb3.cell (p := a) (World.block_lt_of_cell? wr a hh)).trans hh; exact ⟨kk _ _ T0, kk _ _ T1, kk _ _ co1, kk _ _ d0, kk _ _ d1, kk _ _ d2, kk _ _ d3, kk _ _ m0, kk _ _ m1, kk _ _ m2, kk _ _ m3⟩))
        (first | (go_at_call 41; go_must (refine (less_any ⟨y1, y2, y3, y4⟩ ⟨x1, x2, x3, x4⟩ _).mono ?_; rintro e wc ⟨rfl, hb3'⟩; have hb3 := hrefl.trans (hb3'.mono (by simp)))))
      have hbc : Below w2.heap.size w2 wc := hb.trans (hb3.mono (by omega))
      clear d0 d1 d2 d3 m0 m1 m2 m3 T0 T1 co1
      cases hlt2 : ltC ⟨y1, y2, y3, y4⟩ ⟨x1, x2, x3, x4⟩ with
      | true =>
        have HBn := Lib.hid (HU.out hlt2)
        clear hlt2
        go_wp2_with fail
        go_roundw
        case rel => exact ⟨mid + 1, hi, by go_num, rfl, HBn, hbc⟩
        case measure => simp [intOf]; omega
      | false =>
        have HBn := Lib.hid (HD.out hlt2)
        clear hlt2
        go_wp2_with fail
        go_roundw
        case rel => exact ⟨lo, mid, rfl, rfl, HBn, hbc⟩
        case measure => simp [intOf]; omega
    · obtain rfl : lo = hi := by omega
      by_cases hln : lo < cs.length
      · have hll : lo < l.length := by rw [HLn.out]; exact hln
        obtain ⟨ao, rfl, haoB, co1⟩ := (Rd.of_own O3).at_ (k := lo) (by simpa using hll)
        simp only [List.getElem_map, iv] at co1
        obtain ⟨p, HP⟩ : ∃ p : Nat, Hid (l[lo] = p) := ⟨l[lo], Lib.hid rfl⟩
        have hpn : p < cs.length := by
          have := ((HL.out.2.1 _).1 (List.getElem_mem hll)).2
          rw [HP.out] at this
          exact this
        rw [HP.out] at co1
        obtain ⟨ca1, hca⟩ : ∃ y, cs[p]? = some y := ⟨_, List.getElem?_eq_getElem hpn⟩
        obtain ⟨ad, xa, rfl, hadB, hxa, rfl⟩ := O1 p _ hca
        have HU : Hid (ca1 = ⟨x1, x2, x3, x4⟩ → rowAt cs ⟨x1, x2, x3, x4⟩ = (p : Int)) := Lib.hid (fun h => by
          refine rowAt_hit hpn ((keyAt_get hca).trans h) ?_
          have := HB.out.hit HL.out hll (by rw [HP.out, keyAt_get hca]; exact h)
          rw [HP.out] at this
          exact this)
        have HD : Hid (ca1 ≠ ⟨x1, x2, x3, x4⟩ → rowAt cs ⟨x1, x2, x3, x4⟩ = -1) := Lib.hid (fun h => rowAt_miss (HB.out.miss HL.out (fun hp => by rw [HP.out, keyAt_get hca]; exact h)))
        obtain ⟨d0, d1, d2, d3⟩ := hxa.four
        obtain ⟨y1, y2, y3, y4⟩ := ca1
        simp only at d0 d1 d2 d3
        have hi1 : (0 : Int) ≤ (lo : Int) := by omega
        have hi2 : (lo : Int) < (cs.length : Int) := by omega
        have hpa1 : (0 : Int) ≤ (p : Int) := by omega
        have hpa2 : (p : Int) < (cs.length : Int) := by omega
        have T1n : ∀ n, (wr.drewN n).cell? ⟨w.heap.size, 1, none⟩ = some (.slice (some ao) cs.length co) := fun n => ((below_drewN (Below.refl _ wr) n).cell (World.block_lt_of_cell? wr _ T1)).trans T1
        have con : ∀ n, (wr.drewN n).cell? (ao.add lo) = some (.int .i64 p) := fun n => ((below_drewN (Below.refl _ wr) n).cell (World.block_lt_of_cell? wr _ co1)).trans co1
        have hbn : ∀ n, Below w.heap.size w (wr.drewN n) := fun n => below_drewN hbw n
        clear hxa hca O1 O3 G1 G2 HB hlt hlh
        by_cases hne : (⟨y1, y2, y3, y4⟩ : C) = ⟨x1, x2, x3, x4⟩
        · have HR := Lib.hid (HU.out hne)
          injection hne with e1 e2 e3 e4
          subst e1 e2 e3 e4
          clear HU HD
          go_wp2_with fail
          go_quiet (fail)
          replace T1n := T1n nq
          replace con := con nq
          have hbq := hbn nq
          clear hbn T0 T1 d0 d1 d2 d3 m0 m1 m2 m3 co1
          generalize wr.drewN nq = w4 at *
          go_wp2_with fail
          go_ret
          exact ⟨by rw [HR.out]; rfl, hbq⟩
        · have HR := Lib.hid (HD.out hne)
          have hsp := c_split hne
          clear hne HU HD
          simp only at hsp
          rcases hsp with e1 | ⟨e1, e2⟩ | ⟨e1, e2, e3⟩ | ⟨e1, e2, e3, e4⟩
          all_goals
            go_wp2_with fail
            go_quiet (fail)
            have hbq := hbn nq
            clear hbn T1n con T0 T1 d0 d1 d2 d3 m0 m1 m2 m3 co1
            generalize wr.drewN nq = w4 at *
            go_wp2_with fail
            go_ret
            exact ⟨by rw [HR.out]; rfl, hbq⟩
      · obtain rfl : lo = cs.length := by omega
        have HR : Hid (rowAt cs ⟨x1, x2, x3, x4⟩ = -1) := Lib.hid (rowAt_miss (HB.out.miss HL.out (fun hp => by have := HLn.out; omega)))
        have hii : decide ((cs.length : Int) < (cs.length : Int)) = false := by simp
        have hbn : ∀ n, Below w.heap.size w (wr.drewN n) := fun n => below_drewN hbw n
        clear O1 O3 G1 G2 HB hlt hlh hln
        go_wp2_with fail
        go_quiet (fail)
        have hbq := hbn nq
        clear hbn T0 T1 m0 m1 m2 m3
        generalize wr.drewN nq = w4 at *
        go_wp2_with fail
        go_ret
        exact ⟨by rw [HR.out]; rfl, hbq⟩
end Go.Proofs.Ytmicjfdibhoamaa.val
