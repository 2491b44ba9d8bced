/- The law's comparers, at values that are one: same, sameOut return true. -/
import Derived.Test.YtmicjfdibhoamaaProg
import Derived.Test.YtmicjfdibhoamaaOwn
import Derived.Handy
import Derived.WalkSpells
import Derived.WalkLawsBesides
import Derived.Deep.DeepMust
import Derived.Deep.RegionHeld3
import Derived.KernelRfl
namespace Go.Proofs.Ytmicjfdibhoamaa.val
open Go.RowKit mem
attribute [local go_sem] run_store_float

theorem run_f64bits (x : Nat) (w : World) : (callFunc 46 #[.float .f64 x]).run Try.prog w = .ok (.value (.int .u64 x)) w := by kernel_rfl

set_option maxRecDepth 100000 in
theorem sameFloat_refl (x : Nat) (w : World) : Calls Try.prog 43 #[.float .f64 x, .float .f64 x] w fun e w' => e = .returned (.bool true) ∧ w = w' := by
  have hbits := run_f64bits x
  go_enter Try.func43, Try.ntmps43
  go_wp2
  all_goals (go_ret; exact ⟨rfl, rfl⟩)

/-- same at one value, read at two places -/
def SamePost (w : World) (e : Ending) (w' : World) : Prop := e = .returned (.bool true) ∧ Below w.heap.size w w'

set_option maxRecDepth 100000 in
set_option maxHeartbeats 4000000 in
theorem same_refl : ∀ (N : Nat) (v : V), sz v ≤ N → N ≤ 1048576 → ∀ (cs ds : List Value) (w : World) (S S' : Nat → Prop), IsV w S v cs → IsV w S' v ds → Bel S w.heap.size → Bel S' w.heap.size →
    Calls Try.prog 33 #[.agg cs.toArray, .agg ds.toArray] w (SamePost w) := by
  intro N
  induction N with
  | zero => intro v hv; have := sz_pos v; omega
  | succ N ih =>
    intro v hv hN cs ds w S S' hV hV' hB hB'
    obtain ⟨k, b, i, f, t, y, is, fs⟩ := v
    simp only [IsV] at hV hV'
    obtain ⟨A, c, A', c', rfl, hA, hA', his, hfs⟩ := hV
    obtain ⟨C, d, C', d', rfl, hC, hC', jis, jfs⟩ := hV'
    simp only [sz] at hv
    have hl1 := szs_len is
    have hl2 := szf_len fs
    have IH := Lib.hid ih
    have HB := Lib.hid hB
    have HB' := Lib.hid hB'
    have HI := Lib.hid his
    have HF := Lib.hid hfs
    have HJ := Lib.hid jis
    have HG := Lib.hid jfs
    clear ih hB hB' his hfs jis jfs hA hA' hC hC'
    go_enter Try.func33, Try.ntmps33
    go_wp2_with (go_at_call 43; refine (sameFloat_refl _ _).mono ?_; rintro e w' ⟨rfl, rfl⟩)
    have g1 : ((w.alloc (.cells #[.int .i64 k, .bool b, .int .i64 i, .float .f64 f, .string t, .string y, .slice A is.length c, .slice A' fs.length c'] 35)).alloc (.cells #[.int .i64 k, .bool b, .int .i64 i, .float .f64 f, .string t, .string y, .slice C is.length d, .slice C' fs.length d'] 35)).heap[w.heap.size]? = some (.cells #[.int .i64 k, .bool b, .int .i64 i, .float .f64 f, .string t, .string y, .slice A is.length c, .slice A' fs.length c'] 35) := blk_alloc (heap_alloc_new _ _) _
    have g2 : ((w.alloc (.cells #[.int .i64 k, .bool b, .int .i64 i, .float .f64 f, .string t, .string y, .slice A is.length c, .slice A' fs.length c'] 35)).alloc (.cells #[.int .i64 k, .bool b, .int .i64 i, .float .f64 f, .string t, .string y, .slice C is.length d, .slice C' fs.length d'] 35)).heap[w.heap.size + 1]? = some (.cells #[.int .i64 k, .bool b, .int .i64 i, .float .f64 f, .string t, .string y, .slice C is.length d, .slice C' fs.length d'] 35) := by
      have := heap_alloc_new (w.alloc (.cells #[.int .i64 k, .bool b, .int .i64 i, .float .f64 f, .string t, .string y, .slice A is.length c, .slice A' fs.length c'] 35)) (.cells #[.int .i64 k, .bool b, .int .i64 i, .float .f64 f, .string t, .string y, .slice C is.length d, .slice C' fs.length d'] 35)
      simpa using this
    have gb : Below w.heap.size w ((w.alloc (.cells #[.int .i64 k, .bool b, .int .i64 i, .float .f64 f, .string t, .string y, .slice A is.length c, .slice A' fs.length c'] 35)).alloc (.cells #[.int .i64 k, .bool b, .int .i64 i, .float .f64 f, .string t, .string y, .slice C is.length d, .slice C' fs.length d'] 35)) := ((Below.refl _ _).alloc (Nat.le_refl _) _).alloc (by simp) _
    have gs : ((w.alloc (.cells #[.int .i64 k, .bool b, .int .i64 i, .float .f64 f, .string t, .string y, .slice A is.length c, .slice A' fs.length c'] 35)).alloc (.cells #[.int .i64 k, .bool b, .int .i64 i, .float .f64 f, .string t, .string y, .slice C is.length d, .slice C' fs.length d'] 35)).heap.size = w.heap.size + 2 := by simp
    generalize ((w.alloc (.cells #[.int .i64 k, .bool b, .int .i64 i, .float .f64 f, .string t, .string y, .slice A is.length c, .slice A' fs.length c'] 35)).alloc (.cells #[.int .i64 k, .bool b, .int .i64 i, .float .f64 f, .string t, .string y, .slice C is.length d, .slice C' fs.length d'] 35)) = w0 at *
    have G1 := Lib.hid g1
    have G2 := Lib.hid g2
    have gs' : w.heap.size + 2 ≤ w0.heap.size := by omega
    clear g1 g2 gs
    go_loopw [69] (fun vi W => ∃ q : Nat, q ≤ is.length ∧ vi = .int .i64 (q : Int) ∧ Below (w.heap.size + 2) w0 W) (fun i _ => is.length - (intOf i).toNat)
    case atStart => exact ⟨0, Nat.zero_le _, rfl, Below.refl _ _⟩
    case round =>
      obtain ⟨q, hq, rfl, hb⟩ := hrel
      have hbw : Below w.heap.size w wr := gb.trans (hb.mono (by omega))
      have hszr := hb.size
      have R1 := Lib.hid (blk_below G1.out hb (by omega))
      have R2 := Lib.hid (blk_below G2.out hb (by omega))
      by_cases hlt : q < is.length
      · have hx : is[q]? = some is[q] := List.getElem?_eq_getElem hlt
        obtain ⟨ad, cs, rfl, hadB, hcs, hvx⟩ := (HI.out.below HB.out hbw).at_ hx
        obtain ⟨ae, ds, rfl, haeB, hds, hvy⟩ := (HJ.out.below HB'.out hbw).at_ hx
        have hszx := szs_get hx
        generalize is[q] = x at *
        have hvx2 := Lib.hid hvx
        have hvy2 := Lib.hid hvy
        obtain ⟨k2, b2, i2, f2, t2, y2, is2, fs2⟩ := x
        simp only [IsV] at hvx hvy
        obtain ⟨A2, c2, A2', c2', rfl, _⟩ := hvx
        obtain ⟨C2, e2, C2', e2', rfl, _⟩ := hvy
        obtain ⟨d0, d1, d2, d3, d4, d5, d6, d7⟩ := hcs.eight
        obtain ⟨n0, n1, n2, n3, n4, n5, n6, n7⟩ := hds.eight
        rw [Nat.zero_add] at d0 d1 d2 d3 d4 d5 d6 d7 n0 n1 n2 n3 n4 n5 n6 n7
        have HC := Lib.hid (fun (W : World) (hW : Below w.heap.size wr W) (hWB : w.heap.size ≤ W.heap.size) => IH.out _ (by omega) (by omega) _ _ W S S' (hvx2.out.below HB.out hW) (hvy2.out.below HB'.out hW) (HB.out.mono hWB) (HB'.out.mono hWB))
        clear hcs hds hx hvx2 hvy2 IH
        have a6 := (blk8 R1.out).2.2.2.2.2.2.1
        have b6 := (blk8 R2.out).2.2.2.2.2.2.1
        have hlq : (q : Int) < (is.length : Int) := by omega
        have h0q : (0 : Int) ≤ (q : Int) := by omega
        have hrefl : Below w.heap.size wr wr.drew := (Below.refl _ _).drew
        go_wp2_with fail
        go_region_held3 (fun w' => w'.cell? ⟨w.heap.size, 6, none⟩ = some (.slice (some ad) is.length c) ∧ w'.cell? ⟨w.heap.size + 1, 6, none⟩ = some (.slice (some ae) is.length d) ∧
            w'.cell? (ad.add (q * 8)) = some (.int .i64 k2) ∧ w'.cell? ⟨(ad.add (q * 8)).block, (ad.add (q * 8)).off + 1, none⟩ = some (.bool b2) ∧ w'.cell? ⟨(ad.add (q * 8)).block, (ad.add (q * 8)).off + 2, none⟩ = some (.int .i64 i2) ∧ w'.cell? ⟨(ad.add (q * 8)).block, (ad.add (q * 8)).off + 3, none⟩ = some (.float .f64 f2) ∧ w'.cell? ⟨(ad.add (q * 8)).block, (ad.add (q * 8)).off + 4, none⟩ = some (.string t2) ∧ w'.cell? ⟨(ad.add (q * 8)).block, (ad.add (q * 8)).off + 5, none⟩ = some (.string y2) ∧ w'.cell? ⟨(ad.add (q * 8)).block, (ad.add (q * 8)).off + 6, none⟩ = some (.slice A2 is2.length c2) ∧ w'.cell? ⟨(ad.add (q * 8)).block, (ad.add (q * 8)).off + 7, none⟩ = some (.slice A2' fs2.length c2') ∧
            w'.cell? (ae.add (q * 8)) = some (.int .i64 k2) ∧ w'.cell? ⟨(ae.add (q * 8)).block, (ae.add (q * 8)).off + 1, none⟩ = some (.bool b2) ∧ w'.cell? ⟨(ae.add (q * 8)).block, (ae.add (q * 8)).off + 2, none⟩ = some (.int .i64 i2) ∧ w'.cell? ⟨(ae.add (q * 8)).block, (ae.add (q * 8)).off + 3, none⟩ = some (.float .f64 f2) ∧ w'.cell? ⟨(ae.add (q * 8)).block, (ae.add (q * 8)).off + 4, none⟩ = some (.string t2) ∧ w'.cell? ⟨(ae.add (q * 8)).block, (ae.add (q * 8)).off + 5, none⟩ = some (.string y2) ∧ w'.cell? ⟨(ae.add (q * 8)).block, (ae.add (q * 8)).off + 6, none⟩ = some (.slice C2 is2.length e2) ∧ w'.cell? ⟨(ae.add (q * 8)).block, (ae.add (q * 8)).off + 7, none⟩ = some (.slice C2' fs2.length e2'))
          (first | exact ⟨a6, b6, d0, d1, d2, d3, d4, d5, d6, d7, n0, n1, n2, n3, n4, n5, n6, n7⟩ | (have kk := fun (a : Addr) (u : Value) (hh : wr.cell? a = some u) => (hb3.cell (p := a) (World.block_lt_of_cell? wr a hh)).trans hh; exact ⟨kk _ _ a6, kk _ _ b6, kk _ _ d0, kk _ _ d1, kk _ _ d2, kk _ _ d3, kk _ _ d4, kk _ _ d5, kk _ _ d6, kk _ _ d7, kk _ _ n0, kk _ _ n1, kk _ _ n2, kk _ _ n3, kk _ _ n4, kk _ _ n5, kk _ _ n6, kk _ _ n7⟩))
          (first | (go_at_call 33; go_must (refine (HC.out _ hrefl (by simp; omega)).mono ?_; rintro e wc ⟨rfl, hb3⟩)))
        clear d0 d1 d2 d3 d4 d5 d6 d7 n0 n1 n2 n3 n4 n5 n6 n7 HC
        go_wp2_with fail
        exact ⟨⟨q + 1, by omega, by go_num, hb.drew.trans (hb3.mono (by simp; omega))⟩, by simp [intOf]; omega⟩
      · obtain rfl : q = is.length := by omega
        have a7 := (blk8 R1.out).2.2.2.2.2.2.2
        clear HI HJ
        go_wp2_with fail
        clear a7 R1 R2 hbw hszr
        go_loopw [88] (fun vi W => ∃ q : Nat, q ≤ fs.length ∧ vi = .int .i64 (q : Int) ∧ Below (w.heap.size + 2) w0 W) (fun i _ => fs.length - (intOf i).toNat)
        case atStart => exact ⟨0, Nat.zero_le _, rfl, hb⟩
        case round =>
          clear hb
          obtain ⟨q, hq, rfl, hb⟩ := hrel
          have hbw : Below w.heap.size w wr := gb.trans (hb.mono (by omega))
          have hszr := hb.size
          have R1 := Lib.hid (blk_below G1.out hb (by omega))
          have R2 := Lib.hid (blk_below G2.out hb (by omega))
          by_cases hlt : q < fs.length
          · have hx : fs[q]? = some fs[q] := List.getElem?_eq_getElem hlt
            obtain ⟨ad, cs, rfl, hadB, hcs, hvx⟩ := (HF.out.below HB.out hbw).at_ hx
            obtain ⟨ae, ds, rfl, haeB, hds, hvy⟩ := (HG.out.below HB'.out hbw).at_ hx
            have hszx := szf_get hx
            generalize fs[q] = x at *
            have hvx2 := Lib.hid hvx
            have hvy2 := Lib.hid hvy
            obtain ⟨s2, k2, b2, i2, f2, t2, y2, is2, fs2⟩ := x
            simp only [IsV] at hvx hvy
            obtain ⟨A2, c2, A2', c2', rfl, _⟩ := hvx
            obtain ⟨C2, e2, C2', e2', rfl, _⟩ := hvy
            obtain ⟨d0, d1, d2, d3, d4, d5, d6, d7, d8⟩ := hcs.nine
            obtain ⟨n0, n1, n2, n3, n4, n5, n6, n7, n8⟩ := hds.nine
            rw [Nat.zero_add] at d0 d1 d2 d3 d4 d5 d6 d7 d8 n0 n1 n2 n3 n4 n5 n6 n7 n8
            have HC := Lib.hid (fun (W : World) (hW : Below w.heap.size wr W) (hWB : w.heap.size ≤ W.heap.size) => IH.out _ (by omega) (by omega) _ _ W S S' (hvx2.out.below HB.out hW) (hvy2.out.below HB'.out hW) (HB.out.mono hWB) (HB'.out.mono hWB))
            clear hcs hds hx hvx2 hvy2 IH
            have a7 := (blk8 R1.out).2.2.2.2.2.2.2
            have b7 := (blk8 R2.out).2.2.2.2.2.2.2
            have hlq : (q : Int) < (fs.length : Int) := by omega
            have h0q : (0 : Int) ≤ (q : Int) := by omega
            have hrefl : Below w.heap.size wr wr.drew := (Below.refl _ _).drew
            go_wp2_with fail
            go_region_held3 (fun w' => w'.cell? ⟨w.heap.size, 7, none⟩ = some (.slice (some ad) fs.length c') ∧ w'.cell? ⟨w.heap.size + 1, 7, none⟩ = some (.slice (some ae) fs.length d') ∧
                w'.cell? (ad.add (q * 9)) = some (.string s2) ∧ w'.cell? ⟨(ad.add (q * 9)).block, (ad.add (q * 9)).off + 1, none⟩ = some (.int .i64 k2) ∧ w'.cell? ⟨(ad.add (q * 9)).block, (ad.add (q * 9)).off + 1 + 1, none⟩ = some (.bool b2) ∧ w'.cell? ⟨(ad.add (q * 9)).block, (ad.add (q * 9)).off + 1 + 2, none⟩ = some (.int .i64 i2) ∧ w'.cell? ⟨(ad.add (q * 9)).block, (ad.add (q * 9)).off + 1 + 3, none⟩ = some (.float .f64 f2) ∧ w'.cell? ⟨(ad.add (q * 9)).block, (ad.add (q * 9)).off + 1 + 4, none⟩ = some (.string t2) ∧ w'.cell? ⟨(ad.add (q * 9)).block, (ad.add (q * 9)).off + 1 + 5, none⟩ = some (.string y2) ∧ w'.cell? ⟨(ad.add (q * 9)).block, (ad.add (q * 9)).off + 1 + 6, none⟩ = some (.slice A2 is2.length c2) ∧ w'.cell? ⟨(ad.add (q * 9)).block, (ad.add (q * 9)).off + 1 + 7, none⟩ = some (.slice A2' fs2.length c2') ∧
                w'.cell? (ae.add (q * 9)) = some (.string s2) ∧ w'.cell? ⟨(ae.add (q * 9)).block, (ae.add (q * 9)).off + 1, none⟩ = some (.int .i64 k2) ∧ w'.cell? ⟨(ae.add (q * 9)).block, (ae.add (q * 9)).off + 1 + 1, none⟩ = some (.bool b2) ∧ w'.cell? ⟨(ae.add (q * 9)).block, (ae.add (q * 9)).off + 1 + 2, none⟩ = some (.int .i64 i2) ∧ w'.cell? ⟨(ae.add (q * 9)).block, (ae.add (q * 9)).off + 1 + 3, none⟩ = some (.float .f64 f2) ∧ w'.cell? ⟨(ae.add (q * 9)).block, (ae.add (q * 9)).off + 1 + 4, none⟩ = some (.string t2) ∧ w'.cell? ⟨(ae.add (q * 9)).block, (ae.add (q * 9)).off + 1 + 5, none⟩ = some (.string y2) ∧ w'.cell? ⟨(ae.add (q * 9)).block, (ae.add (q * 9)).off + 1 + 6, none⟩ = some (.slice C2 is2.length e2) ∧ w'.cell? ⟨(ae.add (q * 9)).block, (ae.add (q * 9)).off + 1 + 7, none⟩ = some (.slice C2' fs2.length e2'))
              (first | exact ⟨a7, b7, d0, d1, d2, d3, d4, d5, d6, d7, d8, n0, n1, n2, n3, n4, n5, n6, n7, n8⟩ | (have kk := fun (a : Addr) (u : Value) (hh : wr.cell? a = some u) => (hb3.cell (p := a) (World.block_lt_of_cell? wr a hh)).trans hh; exact ⟨kk _ _ a7, kk _ _ b7, kk _ _ d0, kk _ _ d1, kk _ _ d2, kk _ _ d3, kk _ _ d4, kk _ _ d5, kk _ _ d6, kk _ _ d7, kk _ _ d8, kk _ _ n0, kk _ _ n1, kk _ _ n2, kk _ _ n3, kk _ _ n4, kk _ _ n5, kk _ _ n6, kk _ _ n7, kk _ _ n8⟩))
              (first | (go_at_call 33; go_must (refine (HC.out _ hrefl (by simp; omega)).mono ?_; rintro e wc ⟨rfl, hb3⟩)))
            clear d0 d1 d2 d3 d4 d5 d6 d7 d8 n0 n1 n2 n3 n4 n5 n6 n7 n8 HC
            go_wp2_with fail
            exact ⟨⟨q + 1, by omega, by go_num, hb.drew.trans (hb3.mono (by simp; omega))⟩, by simp [intOf]; omega⟩
          · go_wp2_with fail
            go_ret
            exact ⟨rfl, hbw⟩
end Go.Proofs.Ytmicjfdibhoamaa.val
