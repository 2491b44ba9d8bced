/- The reference's SameFloat of one float with itself. The reference's Whole at one value, read at two places. The law's room: how many parts are left; below 0 where there are more. -/
import Derived.Test.YtagghdehbkbemaaGreatDoorGSnd3
import Derived.Handy
import Derived.WalkSpells
import Derived.WalkLawsBesides
import Derived.Deep.DeepMust
import Derived.Deep.RegionHeld3
section
namespace Go.Proofs.YtagghdehbkbemaaGreatDoor.look
open Go.RowKit mem txt app smap val big
attribute [local go_sem] run_store_float
set_option linter.unusedVariables false

theorem quo_zero (s : Bool) : floatBits .quo .f64 4607182418800017408 (0 + sgn s) = some (9218868437227405312 + sgn s) := by cases s <;> decide +kernel
set_option maxRecDepth 100000 in
theorem sameFloat_self (x : Nat) (hx : x < 18446744073709551616) (w : World) : Calls Tryz.prog 25 #[.float .f64 x, .float .f64 x] w fun e w' => e = .returned (.bool true) ∧ w = w' := by
  obtain ⟨sg, a, ha, rfl⟩ : ∃ (sg : Bool) (a : Nat), a < 9223372036854775808 ∧ x = a + sgn sg := by
    by_cases h : x < 9223372036854775808
    · exact ⟨false, x, h, by unfold sgn; simp⟩
    · exact ⟨true, x - 9223372036854775808, by omega, by unfold sgn; simp; omega⟩
  by_cases h1 : 9218868437227405312 < a
  · have hn : (FloatKind.f64.format.order (a + sgn sg) (a + sgn sg) != some Ordering.eq) = true := by
      rw [show FloatKind.f64.format.order (a + sgn sg) (a + sgn sg) = none from order_nan sg sg a a ha h1 _]
      rfl
    generalize a + sgn sg = x at *
    clear h1 ha
    go_enter Tryz.func25, Tryz.ntmps25
    go_wp2_with fail
    go_ret
    exact ⟨rfl, rfl⟩
  have hs := order_self sg a (by omega)
  have hn : (FloatKind.f64.format.order (a + sgn sg) (a + sgn sg) != some Ordering.eq) = false := by
    rw [show FloatKind.f64.format.order (a + sgn sg) (a + sgn sg) = some .eq from hs]
    rfl
  have he : (FloatKind.f64.format.order (a + sgn sg) (a + sgn sg) == some Ordering.eq) = true := by
    rw [show FloatKind.f64.format.order (a + sgn sg) (a + sgn sg) = some .eq from hs]
    rfl
  by_cases h0 : a = 0
  · subst h0
    have hz : (FloatKind.f64.format.order (0 + sgn sg) 0 == some Ordering.eq) = true := by cases sg <;> decide +kernel
    have hi : (FloatKind.f64.format.order (9218868437227405312 + sgn sg) (9218868437227405312 + sgn sg) == some Ordering.eq) = true := by cases sg <;> decide +kernel
    have HQ := Lib.hid (fun w => run_float_arith (P := Tryz.prog) w .quo 23 .f64 _ _ _ (quo_zero sg))
    generalize 9218868437227405312 + sgn sg = y at *
    generalize 0 + sgn sg = x at *
    clear h1 ha hs
    go_enter Tryz.func25, Tryz.ntmps25
    go_wp2_with fail
    rw [HQ.out]
    go_wp2_with fail
    rw [HQ.out]
    go_wp2_with fail
    go_ret
    exact ⟨rfl, rfl⟩
  · have hz : (FloatKind.f64.format.order (a + sgn sg) 0 == some Ordering.eq) = false := by
      by_cases hinf : a = 9218868437227405312
      · subst hinf
        cases sg <;> decide +kernel
      · have h := order_num sg false a 0 (by omega) (by omega)
        rw [show (0 : Nat) + sgn false = 0 from rfl] at h
        rw [show FloatKind.f64.format.order (a + sgn sg) 0 = _ from h]
        have hv : 0 < fl.V a := by
          have := fl.V_mono (show 0 < a by omega)
          omega
        have h00 : sV false 0 = 0 := by unfold sV; rw [fl.V_small (by omega)]; rfl
        rw [h00]
        unfold sV
        cases sg
        · simp only [Bool.false_eq_true, if_false]
          rw [show compare (fl.V a : Int) 0 = .gt from by rw [Int.compare_eq_gt]; omega]
          rfl
        · simp only [if_true]
          rw [show compare (-(fl.V a : Int)) 0 = .lt from by rw [Int.compare_eq_lt]; omega]
          rfl
    generalize a + sgn sg = x at *
    clear h1 ha hs h0
    go_enter Tryz.func25, Tryz.ntmps25
    go_wp2_with fail
    go_ret
    exact ⟨by simp, rfl⟩
end Go.Proofs.YtagghdehbkbemaaGreatDoor.look
end
section
namespace Go.Proofs.YtagghdehbkbemaaGreatDoor.look
open Go.RowKit mem txt app smap val
attribute [local go_sem] run_store_float
set_option linter.unusedVariables false

/-- same at one value, read at two places -/
def TruePst (w : World) (e : Ending) (w' : World) : Prop := e = .returned (.bool true) ∧ Below w.heap.size w w'

set_option maxRecDepth 100000 in
set_option maxHeartbeats 4000000 in
theorem whole_refl : ∀ (N : Nat) (v : V), sz v ≤ N → N ≤ 1048576 → ok v → ∀ (cs ds : List Value) (w : World) (S S' : Nat → Prop), IsV w S v cs → IsV w S' v ds → Bel S w.heap.size → Bel S' w.heap.size →
    Calls Tryz.prog 11 #[.agg cs.toArray, .agg ds.toArray] w (TruePst w) := by
  intro N
  induction N with
  | zero => intro v hv; have := sz_pos v; omega
  | succ N ih =>
    intro v hv hN hok cs ds w S S' hV hV' hB hB'
    obtain ⟨k, b, i, f, t, y, is, fs⟩ := v
    simp only [IsV] at hV hV'
    obtain ⟨A, c, A', c', rfl, hA, hA', his, hfs⟩ := hV
    obtain ⟨C, d, C', d', rfl, hC, hC', jis, jfs⟩ := hV'
    simp only [sz] at hv
    simp only [ok] at hok
    obtain ⟨⟨_, _, hfb, _, _⟩, hos, hof⟩ := hok
    have HOS := Lib.hid hos
    have HOF := Lib.hid hof
    clear hos hof
    have hl1 := szs_len is
    have hl2 := szf_len fs
    have IH := Lib.hid ih
    have HB := Lib.hid hB
    have HB' := Lib.hid hB'
    have HI := Lib.hid his
    have HF := Lib.hid hfs
    have HJ := Lib.hid jis
    have HG := Lib.hid jfs
    clear ih hB hB' his hfs jis jfs hA hA' hC hC'
    go_enter Tryz.func11, Tryz.ntmps11
    go_wp2_with (go_at_call 25; refine (sameFloat_self _ hfb _).mono ?_; rintro e w' ⟨rfl, rfl⟩)
    have g1 : ((w.alloc (.cells #[.int .i64 k, .bool b, .int .i64 i, .float .f64 f, .string t, .string y, .slice A is.length c, .slice A' fs.length c'] 27)).alloc (.cells #[.int .i64 k, .bool b, .int .i64 i, .float .f64 f, .string t, .string y, .slice C is.length d, .slice C' fs.length d'] 27)).heap[w.heap.size]? = some (.cells #[.int .i64 k, .bool b, .int .i64 i, .float .f64 f, .string t, .string y, .slice A is.length c, .slice A' fs.length c'] 27) := blk_alloc (heap_alloc_new _ _) _
    have g2 : ((w.alloc (.cells #[.int .i64 k, .bool b, .int .i64 i, .float .f64 f, .string t, .string y, .slice A is.length c, .slice A' fs.length c'] 27)).alloc (.cells #[.int .i64 k, .bool b, .int .i64 i, .float .f64 f, .string t, .string y, .slice C is.length d, .slice C' fs.length d'] 27)).heap[w.heap.size + 1]? = some (.cells #[.int .i64 k, .bool b, .int .i64 i, .float .f64 f, .string t, .string y, .slice C is.length d, .slice C' fs.length d'] 27) := by
      have := heap_alloc_new (w.alloc (.cells #[.int .i64 k, .bool b, .int .i64 i, .float .f64 f, .string t, .string y, .slice A is.length c, .slice A' fs.length c'] 27)) (.cells #[.int .i64 k, .bool b, .int .i64 i, .float .f64 f, .string t, .string y, .slice C is.length d, .slice C' fs.length d'] 27)
      simpa using this
    have gb : Below w.heap.size w ((w.alloc (.cells #[.int .i64 k, .bool b, .int .i64 i, .float .f64 f, .string t, .string y, .slice A is.length c, .slice A' fs.length c'] 27)).alloc (.cells #[.int .i64 k, .bool b, .int .i64 i, .float .f64 f, .string t, .string y, .slice C is.length d, .slice C' fs.length d'] 27)) := ((Below.refl _ _).alloc (Nat.le_refl _) _).alloc (by simp) _
    have gs : ((w.alloc (.cells #[.int .i64 k, .bool b, .int .i64 i, .float .f64 f, .string t, .string y, .slice A is.length c, .slice A' fs.length c'] 27)).alloc (.cells #[.int .i64 k, .bool b, .int .i64 i, .float .f64 f, .string t, .string y, .slice C is.length d, .slice C' fs.length d'] 27)).heap.size = w.heap.size + 2 := by simp
    generalize ((w.alloc (.cells #[.int .i64 k, .bool b, .int .i64 i, .float .f64 f, .string t, .string y, .slice A is.length c, .slice A' fs.length c'] 27)).alloc (.cells #[.int .i64 k, .bool b, .int .i64 i, .float .f64 f, .string t, .string y, .slice C is.length d, .slice C' fs.length d'] 27)) = w0 at *
    have G1 := Lib.hid g1
    have G2 := Lib.hid g2
    have gs' : w.heap.size + 2 ≤ w0.heap.size := by omega
    clear g1 g2 gs
    go_loopw [5] (fun vi W => ∃ q : Nat, q ≤ is.length ∧ vi = .int .i64 (q : Int) ∧ Below (w.heap.size + 2) w0 W) (fun i _ => is.length - (intOf i).toNat)
    case atStart => exact ⟨0, Nat.zero_le _, rfl, Below.refl _ _⟩
    case round =>
      obtain ⟨q, hq, rfl, hb⟩ := hrel
      have hbw : Below w.heap.size w wr := gb.trans (hb.mono (by omega))
      have hszr := hb.size
      have R1 := Lib.hid (blk_below G1.out hb (by omega))
      have R2 := Lib.hid (blk_below G2.out hb (by omega))
      by_cases hlt : q < is.length
      · have hx : is[q]? = some is[q] := List.getElem?_eq_getElem hlt
        obtain ⟨ad, cs, rfl, hadB, hcs, hvx⟩ := (HI.out.below HB.out hbw).at_ hx
        obtain ⟨ae, ds, rfl, haeB, hds, hvy⟩ := (HJ.out.below HB'.out hbw).at_ hx
        have hszx := szs_get hx
        have hoky := oks_get HOS.out hx
        generalize is[q] = x at *
        have hvx2 := Lib.hid hvx
        have hvy2 := Lib.hid hvy
        obtain ⟨k2, b2, i2, f2, t2, y2, is2, fs2⟩ := x
        simp only [IsV] at hvx hvy
        obtain ⟨A2, c2, A2', c2', rfl, _⟩ := hvx
        obtain ⟨C2, e2, C2', e2', rfl, _⟩ := hvy
        obtain ⟨d0, d1, d2, d3, d4, d5, d6, d7⟩ := hcs.eight
        obtain ⟨n0, n1, n2, n3, n4, n5, n6, n7⟩ := hds.eight
        rw [Nat.zero_add] at d0 d1 d2 d3 d4 d5 d6 d7 n0 n1 n2 n3 n4 n5 n6 n7
        have HC := Lib.hid (fun (W : World) (hW : Below w.heap.size wr W) (hWB : w.heap.size ≤ W.heap.size) => IH.out _ (by omega) (by omega) hoky _ _ W S S' (hvx2.out.below HB.out hW) (hvy2.out.below HB'.out hW) (HB.out.mono hWB) (HB'.out.mono hWB))
        clear hcs hds hx hvx2 hvy2 IH
        have a6 := (blk8 R1.out).2.2.2.2.2.2.1
        have b6 := (blk8 R2.out).2.2.2.2.2.2.1
        have hlq : (q : Int) < (is.length : Int) := by omega
        have h0q : (0 : Int) ≤ (q : Int) := by omega
        have hrefl : Below w.heap.size wr wr.drew := (Below.refl _ _).drew
        go_wp2_with fail
        go_region_held3 (fun w' => w'.cell? ⟨w.heap.size, 6, none⟩ = some (.slice (some ad) is.length c) ∧ w'.cell? ⟨w.heap.size + 1, 6, none⟩ = some (.slice (some ae) is.length d) ∧
            w'.cell? (ad.add (q * 8)) = some (.int .i64 k2) ∧ w'.cell? ⟨(ad.add (q * 8)).block, (ad.add (q * 8)).off + 1, none⟩ = some (.bool b2) ∧ w'.cell? ⟨(ad.add (q * 8)).block, (ad.add (q * 8)).off + 2, none⟩ = some (.int .i64 i2) ∧ w'.cell? ⟨(ad.add (q * 8)).block, (ad.add (q * 8)).off + 3, none⟩ = some (.float .f64 f2) ∧ w'.cell? ⟨(ad.add (q * 8)).block, (ad.add (q * 8)).off + 4, none⟩ = some (.string t2) ∧ w'.cell? ⟨(ad.add (q * 8)).block, (ad.add (q * 8)).off + 5, none⟩ = some (.string y2) ∧ w'.cell? ⟨(ad.add (q * 8)).block, (ad.add (q * 8)).off + 6, none⟩ = some (.slice A2 is2.length c2) ∧ w'.cell? ⟨(ad.add (q * 8)).block, (ad.add (q * 8)).off + 7, none⟩ = some (.slice A2' fs2.length c2') ∧
            w'.cell? (ae.add (q * 8)) = some (.int .i64 k2) ∧ w'.cell? ⟨(ae.add (q * 8)).block, (ae.add (q * 8)).off + 1, none⟩ = some (.bool b2) ∧ w'.cell? ⟨(ae.add (q * 8)).block, (ae.add (q * 8)).off + 2, none⟩ = some (.int .i64 i2) ∧ w'.cell? ⟨(ae.add (q * 8)).block, (ae.add (q * 8)).off + 3, none⟩ = some (.float .f64 f2) ∧ w'.cell? ⟨(ae.add (q * 8)).block, (ae.add (q * 8)).off + 4, none⟩ = some (.string t2) ∧ w'.cell? ⟨(ae.add (q * 8)).block, (ae.add (q * 8)).off + 5, none⟩ = some (.string y2) ∧ w'.cell? ⟨(ae.add (q * 8)).block, (ae.add (q * 8)).off + 6, none⟩ = some (.slice C2 is2.length e2) ∧ w'.cell? ⟨(ae.add (q * 8)).block, (ae.add (q * 8)).off + 7, none⟩ = some (.slice C2' fs2.length e2'))
          (first | exact ⟨a6, b6, d0, d1, d2, d3, d4, d5, d6, d7, n0, n1, n2, n3, n4, n5, n6, n7⟩ | (have kk := fun (a : Addr) (u : Value) (hh : wr.cell? a = some u) => (hb3.cell (p := a) (World.block_lt_of_cell? wr a hh)).trans hh; exact ⟨kk _ _ a6, kk _ _ b6, kk _ _ d0, kk _ _ d1, kk _ _ d2, kk _ _ d3, kk _ _ d4, kk _ _ d5, kk _ _ d6, kk _ _ d7, kk _ _ n0, kk _ _ n1, kk _ _ n2, kk _ _ n3, kk _ _ n4, kk _ _ n5, kk _ _ n6, kk _ _ n7⟩))
          (first | (go_at_call 11; go_must (refine (HC.out _ hrefl (by simp; omega)).mono ?_; rintro e wc ⟨rfl, hb3⟩)))
        clear d0 d1 d2 d3 d4 d5 d6 d7 n0 n1 n2 n3 n4 n5 n6 n7 HC
        go_wp2_with fail
        exact ⟨⟨q + 1, by omega, by go_num, hb.drew.trans (hb3.mono (by simp; omega))⟩, by simp [intOf]; omega⟩
      · obtain rfl : q = is.length := by omega
        have a6 := (blk8 R1.out).2.2.2.2.2.2.1
        clear HI HJ
        go_wp2_with fail
        clear a6 R1 R2 hbw hszr
        go_loopw [6] (fun vi W => ∃ q : Nat, q ≤ fs.length ∧ vi = .int .i64 (q : Int) ∧ Below (w.heap.size + 2) w0 W) (fun i _ => fs.length - (intOf i).toNat)
        case atStart => exact ⟨0, Nat.zero_le _, rfl, hb⟩
        case round =>
          clear hb
          obtain ⟨q, hq, rfl, hb⟩ := hrel
          have hbw : Below w.heap.size w wr := gb.trans (hb.mono (by omega))
          have hszr := hb.size
          have R1 := Lib.hid (blk_below G1.out hb (by omega))
          have R2 := Lib.hid (blk_below G2.out hb (by omega))
          by_cases hlt : q < fs.length
          · have hx : fs[q]? = some fs[q] := List.getElem?_eq_getElem hlt
            obtain ⟨ad, cs, rfl, hadB, hcs, hvx⟩ := (HF.out.below HB.out hbw).at_ hx
            obtain ⟨ae, ds, rfl, haeB, hds, hvy⟩ := (HG.out.below HB'.out hbw).at_ hx
            have hszx := szf_get hx
            have hoky := (okf_get HOF.out hx).2
            generalize fs[q] = x at *
            have hvx2 := Lib.hid hvx
            have hvy2 := Lib.hid hvy
            obtain ⟨s2, k2, b2, i2, f2, t2, y2, is2, fs2⟩ := x
            simp only [IsV] at hvx hvy
            obtain ⟨A2, c2, A2', c2', rfl, _⟩ := hvx
            obtain ⟨C2, e2, C2', e2', rfl, _⟩ := hvy
            obtain ⟨d0, d1, d2, d3, d4, d5, d6, d7, d8⟩ := hcs.nine
            obtain ⟨n0, n1, n2, n3, n4, n5, n6, n7, n8⟩ := hds.nine
            rw [Nat.zero_add] at d0 d1 d2 d3 d4 d5 d6 d7 d8 n0 n1 n2 n3 n4 n5 n6 n7 n8
            have HC := Lib.hid (fun (W : World) (hW : Below w.heap.size wr W) (hWB : w.heap.size ≤ W.heap.size) => IH.out _ (by omega) (by omega) hoky _ _ W S S' (hvx2.out.below HB.out hW) (hvy2.out.below HB'.out hW) (HB.out.mono hWB) (HB'.out.mono hWB))
            clear hcs hds hx hvx2 hvy2 IH
            have a7 := (blk8 R1.out).2.2.2.2.2.2.2
            have b7 := (blk8 R2.out).2.2.2.2.2.2.2
            have hlq : (q : Int) < (fs.length : Int) := by omega
            have h0q : (0 : Int) ≤ (q : Int) := by omega
            have hrefl : Below w.heap.size wr wr.drew := (Below.refl _ _).drew
            go_wp2_with fail
            go_region_held3 (fun w' => w'.cell? ⟨w.heap.size, 7, none⟩ = some (.slice (some ad) fs.length c') ∧ w'.cell? ⟨w.heap.size + 1, 7, none⟩ = some (.slice (some ae) fs.length d') ∧
                w'.cell? (ad.add (q * 9)) = some (.string s2) ∧ w'.cell? ⟨(ad.add (q * 9)).block, (ad.add (q * 9)).off + 1, none⟩ = some (.int .i64 k2) ∧ w'.cell? ⟨(ad.add (q * 9)).block, (ad.add (q * 9)).off + 1 + 1, none⟩ = some (.bool b2) ∧ w'.cell? ⟨(ad.add (q * 9)).block, (ad.add (q * 9)).off + 1 + 2, none⟩ = some (.int .i64 i2) ∧ w'.cell? ⟨(ad.add (q * 9)).block, (ad.add (q * 9)).off + 1 + 3, none⟩ = some (.float .f64 f2) ∧ w'.cell? ⟨(ad.add (q * 9)).block, (ad.add (q * 9)).off + 1 + 4, none⟩ = some (.string t2) ∧ w'.cell? ⟨(ad.add (q * 9)).block, (ad.add (q * 9)).off + 1 + 5, none⟩ = some (.string y2) ∧ w'.cell? ⟨(ad.add (q * 9)).block, (ad.add (q * 9)).off + 1 + 6, none⟩ = some (.slice A2 is2.length c2) ∧ w'.cell? ⟨(ad.add (q * 9)).block, (ad.add (q * 9)).off + 1 + 7, none⟩ = some (.slice A2' fs2.length c2') ∧
                w'.cell? (ae.add (q * 9)) = some (.string s2) ∧ w'.cell? ⟨(ae.add (q * 9)).block, (ae.add (q * 9)).off + 1, none⟩ = some (.int .i64 k2) ∧ w'.cell? ⟨(ae.add (q * 9)).block, (ae.add (q * 9)).off + 1 + 1, none⟩ = some (.bool b2) ∧ w'.cell? ⟨(ae.add (q * 9)).block, (ae.add (q * 9)).off + 1 + 2, none⟩ = some (.int .i64 i2) ∧ w'.cell? ⟨(ae.add (q * 9)).block, (ae.add (q * 9)).off + 1 + 3, none⟩ = some (.float .f64 f2) ∧ w'.cell? ⟨(ae.add (q * 9)).block, (ae.add (q * 9)).off + 1 + 4, none⟩ = some (.string t2) ∧ w'.cell? ⟨(ae.add (q * 9)).block, (ae.add (q * 9)).off + 1 + 5, none⟩ = some (.string y2) ∧ w'.cell? ⟨(ae.add (q * 9)).block, (ae.add (q * 9)).off + 1 + 6, none⟩ = some (.slice C2 is2.length e2) ∧ w'.cell? ⟨(ae.add (q * 9)).block, (ae.add (q * 9)).off + 1 + 7, none⟩ = some (.slice C2' fs2.length e2'))
              (first | exact ⟨a7, b7, d0, d1, d2, d3, d4, d5, d6, d7, d8, n0, n1, n2, n3, n4, n5, n6, n7, n8⟩ | (have kk := fun (a : Addr) (u : Value) (hh : wr.cell? a = some u) => (hb3.cell (p := a) (World.block_lt_of_cell? wr a hh)).trans hh; exact ⟨kk _ _ a7, kk _ _ b7, kk _ _ d0, kk _ _ d1, kk _ _ d2, kk _ _ d3, kk _ _ d4, kk _ _ d5, kk _ _ d6, kk _ _ d7, kk _ _ d8, kk _ _ n0, kk _ _ n1, kk _ _ n2, kk _ _ n3, kk _ _ n4, kk _ _ n5, kk _ _ n6, kk _ _ n7, kk _ _ n8⟩))
              (first | (go_at_call 11; go_must (refine (HC.out _ hrefl (by simp; omega)).mono ?_; rintro e wc ⟨rfl, hb3⟩)))
            clear d0 d1 d2 d3 d4 d5 d6 d7 d8 n0 n1 n2 n3 n4 n5 n6 n7 n8 HC
            go_wp2_with fail
            exact ⟨⟨q + 1, by omega, by go_num, hb.drew.trans (hb3.mono (by simp; omega))⟩, by simp [intOf]; omega⟩
          · obtain rfl : q = fs.length := by omega
            have a7 := (blk8 R1.out).2.2.2.2.2.2.2
            go_wp2_with fail
            go_ret
            exact ⟨rfl, hbw⟩
end Go.Proofs.YtagghdehbkbemaaGreatDoor.look
end
section
namespace Go.Proofs.YtagghdehbkbemaaGreatDoor.look
open Go.RowKit mem txt app smap val
attribute [local go_sem] run_store_float
set_option linter.unusedVariables false

theorem szs_next {l : List V} {q : Nat} {y : V} (h : l[q]? = some y) : szs (l.take (q + 1)) = szs (l.take q) + sz y := by
  rw [List.take_add_one, h, Option.toList_some, szs_app]
  simp [szs]
theorem szf_app (l r : List (ByteArray × V)) : szf (l ++ r) = szf l + szf r := by
  induction l with
  | nil => simp [szf]
  | cons x l ih => obtain ⟨s, x⟩ := x; simp only [List.cons_append, szf, ih]; omega
theorem szf_next {l : List (ByteArray × V)} {q : Nat} {p : ByteArray × V} (h : l[q]? = some p) : szf (l.take (q + 1)) = szf (l.take q) + sz p.2 := by
  rw [List.take_add_one, h, Option.toList_some, szf_app]
  obtain ⟨s, x⟩ := p
  simp [szf]
def RmPost (v : V) (m : Int) (w : World) (e : Ending) (w' : World) : Prop := ∃ r : Int, e = .returned (.int .i64 r) ∧ -1 ≤ r ∧ r < m ∧ (0 ≤ r → (sz v : Int) + r ≤ m) ∧ Below w.heap.size w w'
set_option maxRecDepth 100000 in
set_option maxHeartbeats 4000000 in
theorem room_any : ∀ (N : Nat) (v : V), sz v ≤ N → N ≤ 1048576 → ∀ (cs : List Value) (m : Int) (w : World) (S : Nat → Prop), IsV w S v cs → Bel S w.heap.size → 0 ≤ m → m ≤ 1000000 →
    Calls Tryz.prog 5 #[.agg cs.toArray, .int .i64 m] w (RmPost v m w) := by
  intro N
  induction N with
  | zero => intro v hv; have := sz_pos v; omega
  | succ N ih =>
    intro v hv hN cs m w S hV hB hm1 hm2
    obtain ⟨k, b, i, f, t, y, is, fs⟩ := v
    simp only [IsV] at hV
    obtain ⟨A, c, A', c', rfl, hA, hA', his, hfs⟩ := hV
    have HZ : Hid (sz (V.mk k b i f t y is fs) = 1 + szs is + szf fs) := Lib.hid (by simp only [sz])
    simp only [sz] at hv
    have hl1 := szs_len is
    have hl2 := szf_len fs
    have IH := Lib.hid ih
    have HB := Lib.hid hB
    have HI := Lib.hid his
    have HF := Lib.hid hfs
    clear ih hB his hfs hA hA'
    unfold RmPost
    rw [HZ.out]
    clear HZ
    go_enter Tryz.func5, Tryz.ntmps5
    go_wp2_with fail
    have gB := heap_alloc_new w (.cells #[.int .i64 k, .bool b, .int .i64 i, .float .f64 f, .string t, .string y, .slice A is.length c, .slice A' fs.length c'] 27)
    have hbx : Below w.heap.size w (w.alloc (.cells #[.int .i64 k, .bool b, .int .i64 i, .float .f64 f, .string t, .string y, .slice A is.length c, .slice A' fs.length c'] 27)) := (Below.refl _ _).alloc (Nat.le_refl _) _
    have hsx : (w.alloc (.cells #[.int .i64 k, .bool b, .int .i64 i, .float .f64 f, .string t, .string y, .slice A is.length c, .slice A' fs.length c'] 27)).heap.size = w.heap.size + 1 := by simp
    generalize (w.alloc (.cells #[.int .i64 k, .bool b, .int .i64 i, .float .f64 f, .string t, .string y, .slice A is.length c, .slice A' fs.length c'] 27)) = w1 at *
    have GB := Lib.hid gB
    have hsx' : w.heap.size + 1 ≤ w1.heap.size := by omega
    clear hsx gB
    go_loopw [1, 5] (fun v1 v5 W => ∃ (q : Nat) (r : Int), q ≤ is.length ∧ -1 ≤ r ∧ r < m ∧ Hid (0 ≤ r → 1 + (szs (is.take q) : Int) + r ≤ m) ∧ v1 = .int .i64 r ∧ v5 = .int .i64 (q : Int) ∧ Below (w.heap.size + 1) w1 W) (fun _ i _ => is.length - (intOf i).toNat)
    case atStart => exact ⟨0, m - 1, Nat.zero_le _, by omega, by omega, Lib.hid (fun h => by simp [szs]; omega), by go_num, rfl, Below.refl _ _⟩
    case round =>
      obtain ⟨q, r, hq, hr1, hr2, HR, rfl, rfl, hb⟩ := hrel
      have hbw : Below w.heap.size w wr := hbx.trans (hb.mono (by omega))
      have hszr := hb.size
      obtain ⟨m0, m1, m2, m3, m4, m5, m6, m7⟩ := blk8 ((hb.block w.heap.size (by omega)).trans GB.out)
      by_cases hgo : q < is.length ∧ 0 ≤ r
      · obtain ⟨hlt, hr0⟩ := hgo
        obtain ⟨x, hx⟩ : ∃ x, is[q]? = some x := ⟨_, List.getElem?_eq_getElem hlt⟩
        obtain ⟨ad, cs, rfl, hadB, hcs, hvx⟩ := (HI.out.below HB.out hbw).at_ hx
        rw [Nat.zero_add] at hcs
        have hsz := szs_get hx
        have hnx := szs_next hx
        have HNX := Lib.hid hnx
        have HC := Lib.hid (IH.out x (by omega) (by omega) cs r wr S hvx (HB.out.mono hbw.size) (by omega) (by omega))
        obtain ⟨k2, b2, i2, f2, t2, y2, is2, fs2⟩ := x
        simp only [IsV] at hvx
        obtain ⟨A2, c2, A2', c2', rfl, _⟩ := hvx
        obtain ⟨c0, c1, cc2, c3, c4, c5, c6, c7⟩ := hcs.eight
        clear hcs hx hnx
        go_wp2_with fail
        refine HC.out.mono ?_
        rintro e w2 ⟨s, rfl, hs1, hs2, hs3, hb2⟩
        have hb3 := hb.trans (hb2.mono (by omega))
        have HR2 : Hid (0 ≤ s → 1 + (szs (is.take (q + 1)) : Int) + s ≤ m) := Lib.hid (fun h => by have h1 := HR.out hr0; have h2 := hs3 h; rw [HNX.out]; omega)
        clear c0 c1 cc2 c3 c4 c5 c6 c7 m0 m1 m2 m3 m4 m5 m6 m7 HC hs3
        go_wp2_with fail
        exact ⟨⟨q + 1, s, by omega, by omega, by omega, HR2, rfl, by go_num, hb3⟩, by simp [intOf]; omega⟩
      · have HR0 : Hid (0 ≤ r → 1 + (szs is : Int) + r ≤ m) := Lib.hid (fun h => by
          have h1 := HR.out h
          have hqe : q = is.length := by omega
          rw [hqe, List.take_length] at h1
          exact h1)
        by_cases h1 : q < is.length
        all_goals
          first | have hr0 : ¬ 0 ≤ r := (fun h => hgo ⟨h1, h⟩) | skip
          clear hgo
          go_wp2_with fail
          clear m0 m1 m2 m3 m4 m5 m6 m7
          try clear hr0
          clear h1
          go_loopw [1, 6] (fun v1 v6 W => ∃ (q : Nat) (r : Int), q ≤ fs.length ∧ -1 ≤ r ∧ r < m ∧ Hid (0 ≤ r → 1 + (szs is : Int) + (szf (fs.take q) : Int) + r ≤ m) ∧ v1 = .int .i64 r ∧ v6 = .int .i64 (q : Int) ∧ Below (w.heap.size + 1) w1 W) (fun _ i _ => fs.length - (intOf i).toNat)
          case atStart => exact ⟨0, r, Nat.zero_le _, hr1, hr2, Lib.hid (fun h => by have h1 := HR0.out h; simp [szf]; omega), rfl, rfl, hb⟩
          case round =>
            clear hb hbw hszr HR HR0 hr1 hr2
            obtain ⟨q, r, hq, hr1, hr2, HR, rfl, rfl, hb⟩ := hrel
            have hbw : Below w.heap.size w wr := hbx.trans (hb.mono (by omega))
            have hszr := hb.size
            obtain ⟨m0, m1, m2, m3, m4, m5, m6, m7⟩ := blk8 ((hb.block w.heap.size (by omega)).trans GB.out)
            by_cases hgo : q < fs.length ∧ 0 ≤ r
            · obtain ⟨hlt, hr0⟩ := hgo
              obtain ⟨p, hx⟩ : ∃ x, fs[q]? = some x := ⟨_, List.getElem?_eq_getElem hlt⟩
              obtain ⟨s, x⟩ := p
              obtain ⟨ad, cs, rfl, hadB, hcs, hvx⟩ := (HF.out.below HB.out hbw).at_ hx
              rw [Nat.zero_add] at hcs
              simp only at hcs hvx
              have hsz := szf_get hx
              have HNX := Lib.hid (szf_next hx)
              simp only at hsz HNX
              have HC := Lib.hid (IH.out x (by omega) (by omega) cs r wr S hvx (HB.out.mono hbw.size) (by omega) (by omega))
              obtain ⟨k2, b2, i2, f2, t2, y2, is2, fs2⟩ := x
              simp only [IsV] at hvx
              obtain ⟨A2, c2, A2', c2', rfl, _⟩ := hvx
              obtain ⟨c0, c1, cc2, c3, c4, c5, c6, c7, c8⟩ := hcs.nine
              clear hcs hx
              go_wp2_with fail
              refine HC.out.mono ?_
              rintro e w2 ⟨s, rfl, hs1, hs2, hs3, hb2⟩
              have hb3 := hb.trans (hb2.mono (by omega))
              have HR2 : Hid (0 ≤ s → 1 + (szs is : Int) + (szf (fs.take (q + 1)) : Int) + s ≤ m) := Lib.hid (fun h => by have h1 := HR.out hr0; have h2 := hs3 h; rw [HNX.out]; omega)
              clear c0 c1 cc2 c3 c4 c5 c6 c7 c8 m0 m1 m2 m3 m4 m5 m6 m7 HC hs3
              go_wp2_with fail
              exact ⟨⟨q + 1, s, by omega, by omega, by omega, HR2, rfl, by go_num, hb3⟩, by simp [intOf]; omega⟩
            · have HR0 : Hid (0 ≤ r → ((1 + szs is + szf fs : Nat) : Int) + r ≤ m) := Lib.hid (fun h => by
                have h1 := HR.out h
                have hqe : q = fs.length := by omega
                rw [hqe, List.take_length] at h1
                omega)
              by_cases h1 : q < fs.length
              all_goals
                first | have hr0 : ¬ 0 ≤ r := (fun h => hgo ⟨h1, h⟩) | skip
                clear hgo
                go_wp2_with fail
                go_ret
                exact ⟨r, rfl, hr1, hr2, HR0.out, hbw⟩
end Go.Proofs.YtagghdehbkbemaaGreatDoor.look
end
