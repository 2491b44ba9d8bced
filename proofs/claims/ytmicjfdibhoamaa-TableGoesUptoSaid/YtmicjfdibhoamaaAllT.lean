/- The iterator of the table, at any rows. -/
import Derived.Test.YtmicjfdibhoamaaAll
namespace Go.Proofs.Ytmicjfdibhoamaa.val
open Go.RowKit mem
attribute [local go_sem] run_store_float Oper.semAt_some

/-- what the table hands to round q: the key; the outcome in new memory -/
def encT (rows : List (C × O)) (B q : Nat) (W : World) (args : Array Value) : Prop := ∃ (c : C) (o : O) (cs : List Value), rows[q]? = some (c, o) ∧ args = #[.agg #[.string c.p, .string c.q, .string c.f, .string c.a], .agg cs.toArray] ∧ IsO W (fun b => B ≤ b ∧ b < W.heap.size) o.nrm cs

set_option maxRecDepth 100000 in
set_option maxHeartbeats 8000000 in
theorem tabAll_seq (w : World) (n b g : Nat) (rows : List (C × O)) (hwn : w.heap.size ≤ n) (hT : TabAt w g rows) (hn : rows.length ≤ 1048576) (hsz : ∀ e ∈ rows, sz e.2.v ≤ 1048576) :
    SeqB Try.prog 37 #[.pointer (some ⟨b, 0, none⟩)] rows.length (encT rows) n (fun W => W.cell? ⟨b, 0, none⟩ = some (.pointer (some ⟨g + 2, 0, none⟩)) ∧ Below w.heap.size w W) := by
  intro l W J Jx hpre hnW hJ hJx hY h0 m
  obtain ⟨hb, hW⟩ := hpre
  refine callsIn_wide.2 ((callsIn_wide (n := 4)).1 ?_)
  have hsw := hW.size
  have hbl := World.block_lt_of_cell? W _ hb
  have hT2 := hT.below hW
  have t0 := cell_of_row W (g + 2) 0 _ _ (0, 0) hT2.2
  have gl := blk_lt hT2.2
  have HT := Lib.hid hT
  have HY := Lib.hid hY
  have hsz' := hsz
  clear hT hT2 hY hsz
  have hj := (Below.refl W.heap.size W).alloc (Nat.le_refl _) (.cells #[.func (.yield l) #[] #[]] 77)
  show CallsIn Fence.wide 4 Try.prog 37 #[.func (.yield l) #[] #[], .pointer (some ⟨b, 0, none⟩)] W _
  refine callsIn_of_wp_marks Try.func37 rfl trivial ?_ rfl
  simp only [Try.ntmps37, List.size_toArray, List.length_cons, List.length_nil, Nat.reduceAdd, Nat.reduceSub, Array.replicate_succ, Array.replicate_zero, List.push_toArray, List.append_toArray, List.nil_append, List.cons_append]
  gi_wp2_with fail
  refine ⟨trivial, (callsIn_wide.2 (ordAll_any _ _)).mono ?_⟩
  rintro e w' ⟨rfl, rfl⟩
  have hj2 := hj.alloc (by simp) (.cells #[.pointer (some ⟨g + 1, 0, none⟩)] 73)
  have hc2 := cell_of_row _ (W.heap.size + 1) 0 _ _ (0, 0) (show ((W.alloc (.cells #[.func (.yield l) #[] #[]] 77)).alloc (.cells #[.pointer (some ⟨g + 1, 0, none⟩)] 73)).heap[W.heap.size + 1]? = some (.cells #[.pointer (some ⟨g + 1, 0, none⟩)] 73) by simpa using heap_alloc_new (W.alloc (.cells #[.func (.yield l) #[] #[]] 77)) (.cells #[.pointer (some ⟨g + 1, 0, none⟩)] 73))
  have hc1 := cell_of_row _ W.heap.size 0 _ _ (0, 0) (show ((W.alloc (.cells #[.func (.yield l) #[] #[]] 77)).alloc (.cells #[.pointer (some ⟨g + 1, 0, none⟩)] 73)).heap[W.heap.size]? = some (.cells #[.func (.yield l) #[] #[]] 77) from blk_alloc (heap_alloc_new _ _) _)
  have hs2 : W.heap.size + 2 ≤ ((W.alloc (.cells #[.func (.yield l) #[] #[]] 77)).alloc (.cells #[.pointer (some ⟨g + 1, 0, none⟩)] 73)).heap.size := by simp
  gi_wp2_with fail
  generalize ((W.alloc (.cells #[.func (.yield l) #[] #[]] 77)).alloc (.cells #[.pointer (some ⟨g + 1, 0, none⟩)] 73)) = w2 at *
  clear t0 hb
  refine range_B (n := n) (gf := 45) (lb := #[.pointer (some ⟨W.heap.size + 1, 0, none⟩)]) rfl (enters_of Try.func45 (by kernel_rfl) rfl)
    (ordAll_seq w n (W.heap.size + 1) g (g + 3) rows hwn HT.out.1 hn) (by omega) (fun W1 hb1 => ⟨(hb1.cell (p := ⟨W.heap.size + 1, 0, none⟩) (show W.heap.size + 1 < w2.heap.size by omega)).trans hc2, (hW.trans (hj2.mono hsw)).trans (hb1.mono (by omega))⟩)
    (fun B q W1 args h => by obtain ⟨c, o, cs, _, rfl, _⟩ := h; rfl)
    (fun q W1 => J q W1 ∧ W1.cell? ⟨W.heap.size, 0, none⟩ = some (.func (.yield l) #[] #[])) (fun c W1 => c = .ret ∧ Jx W1)
    (fun q W1 W2 h hb => ⟨hJ q _ _ h.1 (hb.mono (by omega)), (hb.cell (p := ⟨W.heap.size, 0, none⟩) (show W.heap.size < w2.heap.size by omega)).trans h.2⟩)
    (fun c W1 W2 h hb => ⟨h.1, hJx _ _ h.2 (hb.mono (by omega))⟩) ⟨hJ 0 _ _ h0 hj2, hc1⟩ ?round ?done ?stop
  case round =>
    rintro l' k q B W1 args hl hl2 hBW hq ⟨hj1, hcy⟩ ⟨⟨x1, x2, x3, x4⟩, ⟨xf, v⟩, cs, hx, rfl, hIO⟩ hbw
    have HIO := Lib.hid hIO
    obtain ⟨ds, rfl, hv⟩ := hIO
    obtain ⟨k2, b2, i2, f2, t2, y2, is2, fs2⟩ := v
    simp only [IsV] at hv
    obtain ⟨A3, c3, A3', c3', rfl, _⟩ := hv
    have hs1 := hbw.size
    have hnW1 : n ≤ W1.heap.size := by omega
    have hbv : Below W1.heap.size W1 ((W1.alloc (.cells #[.string x1, .string x2, .string x3, .string x4] 25)).alloc (.cells #[.bool xf, .int .i64 k2, .bool b2, .int .i64 i2, .float .f64 f2, .string t2, .string y2, .slice A3 is2.length c3, .slice A3' fs2.length c3'] 37)) := ((Below.refl _ _).alloc (Nat.le_refl _) _).alloc (by simp) _
    have hm1 := hsz' _ (List.mem_iff_getElem?.2 ⟨q, hx⟩)
    have hxq := Lib.hid hx
    clear hx
    gi_wp2_with fail
    refine ⟨Keep.of_below hbv hnW1, ⟨hJ q _ _ hj1 (hbv.mono (by omega)), (hbv.cell (p := ⟨W.heap.size, 0, none⟩) (show W.heap.size < W1.heap.size by omega)).trans hcy⟩, ?_⟩
    intro W2 hz2 ho2 hb2 _ hl3 hj2' hcy2
    have g1 := (ho2 W1.heap.size (by omega)).trans (blk_alloc (heap_alloc_new W1 (.cells #[.string x1, .string x2, .string x3, .string x4] 25)) (.cells #[.bool xf, .int .i64 k2, .bool b2, .int .i64 i2, .float .f64 f2, .string t2, .string y2, .slice A3 is2.length c3, .slice A3' fs2.length c3'] 37))
    have g2 : W2.heap[W1.heap.size + 1]? = some (.cells #[.bool xf, .int .i64 k2, .bool b2, .int .i64 i2, .float .f64 f2, .string t2, .string y2, .slice A3 is2.length c3, .slice A3' fs2.length c3'] 37) := (ho2 (W1.heap.size + 1) (by omega)).trans (by simpa using heap_alloc_new (W1.alloc (.cells #[.string x1, .string x2, .string x3, .string x4] 25)) (.cells #[.bool xf, .int .i64 k2, .bool b2, .int .i64 i2, .float .f64 f2, .string t2, .string y2, .slice A3 is2.length c3, .slice A3' fs2.length c3'] 37))
    have hb12 : Below n W1 W2 := (hbv.mono hnW1).trans (hb2.mono (by omega))
    have hs2' := hb12.size
    obtain ⟨m0, m1, m2, m3⟩ := blk4 g1
    obtain ⟨e0, e1, e2, e3, e4, e5, e6, e7, e8⟩ := blk9 g2
    have gg1 := blk_lt g1
    have gg2 := blk_lt g2
    have hrd : Below W2.heap.size W2 W2.drew := (Below.refl _ _).drew
    have hfr := fresh_any ⟨xf, .mk k2 b2 i2 f2 t2 y2 is2 fs2⟩ hm1 _ W2.drew (fun b => b < n) (recO.keep (fun p hp => (hb12.trans (hrd.mono (by omega))).cell hp) (fun _ h => h) HIO.out) (fun b hb => Nat.lt_of_lt_of_le hb (by simp; omega))
    obtain ⟨oN, HoN⟩ : ∃ o : O, Hid (O.nrm ⟨xf, .mk k2 b2 i2 f2 t2 y2 is2 fs2⟩ = o) := ⟨_, Lib.hid rfl⟩
    rw [HoN.out] at hfr
    have HFR := Lib.hid hfr
    have HJ2 := Lib.hid hj2'
    clear hfr g1 g2 hb2 hl3 ho2 hz2 hbv hj1 hcy hj2' hm1
    gi_upto_region 5 with (fail)
    gi_region_with (first
      | (refine ⟨trivial, (fun h => by cases h), (CallsIn.inRound l' (callsIn_wide.2 HFR.out)).mono ?_⟩; rintro e W3 ⟨cs3, rfl, hO3, hb3⟩; have hb23 : Below W2.heap.size W2 W3 := hrd.trans (hb3.mono (by simp)); have hs3 := hb23.size; have HO3 := Lib.hid hO3; obtain ⟨ds3, rfl, hv3⟩ := hO3; obtain ⟨fl, vv⟩ := oN; obtain ⟨k4, b4, i4, f4, t4, y4, is4, fs4⟩ := vv; simp only [IsV] at hv3; obtain ⟨A4, c4, A4', c4', rfl, _⟩ := hv3;
         replace m0 := (hb23.cell (World.block_lt_of_cell? W2 _ m0)).trans m0; replace m1 := (hb23.cell (World.block_lt_of_cell? W2 _ m1)).trans m1; replace m2 := (hb23.cell (World.block_lt_of_cell? W2 _ m2)).trans m2; replace m3 := (hb23.cell (World.block_lt_of_cell? W2 _ m3)).trans m3; have hcy3 := (hb23.cell (World.block_lt_of_cell? W2 _ hcy2)).trans hcy2;
         obtain ⟨fn, tmps, assign, body, hy, hR⟩ := HY.out (k - 1) q W3 #[.agg #[.string x1, .string x2, .string x3, .string x4], .agg #[.bool fl, .int .i64 k4, .bool b4, .int .i64 i4, .float .f64 f4, .string t4, .string y4, .slice A4 is4.length c4, .slice A4' fs4.length c4']] hq (hJ q W2 W3 HJ2.out (hb23.mono (by omega))) ⟨⟨x1, x2, x3, x4⟩, ⟨xf, .mk k2 b2 i2 f2 t2 y2 is2 fs2⟩, _, hxq.out, rfl, by rw [HoN.out]; exact recO.keep (fun _ _ => rfl) (fun b hb => ⟨by have := hb.1; simp at this; omega, hb.2⟩) HO3.out⟩ (by omega) ((hj2.mono hnW).trans ((hbw.trans hb12).trans (hb23.mono (by omega))));
         have HR := Lib.hid (RoundIn.mono hR (R' := fun e W' => ∃ bb : Bool, e = .returned (.bool bb) ∧ Keep n W.heap.size W3 W' ∧ (bb = true → J (q + 1) W') ∧ (bb = false → Jx W')) (fun e W' h => by
           obtain ⟨hk, (⟨rfl, hJ'⟩ | ⟨rfl, hJx'⟩)⟩ := h
           · exact ⟨true, rfl, hk, (fun _ => hJ'), (fun h => by cases h)⟩
           · exact ⟨false, rfl, hk, (fun h => by cases h), (fun _ => hJx')⟩)); clear hR hb3)
      | ((first | refine HR.out.mono ?_ | refine ⟨(fun h => by cases h), HR.out.mono ?_⟩ | refine ⟨trivial, (fun h => by cases h), HR.out.mono ?_⟩); rintro e W' ⟨bb, rfl, hk, hJ1, hJ2⟩))
    all_goals
      have hkn : Keep n w2.heap.size W2 W' := (Keep.of_below hb23 (by omega)).trans (hk.from (by omega))
      have hcz : W'.cell? ⟨W.heap.size, 0, none⟩ = some (.func (.yield l) #[] #[]) := (World.cell?_of_block (hk.2 W.heap.size (Nat.le_refl _) (by omega))).trans hcy3
      have HJ1 := Lib.hid hJ1
      have HJ3 := Lib.hid hJ2
      clear hJ1 hJ2 m0 m1 m2 m3 e0 e1 e2 e3 e4 e5 e6 e7 e8
      cases bb with
      | true =>
        gi_wp2_with fail
        exact ⟨hkn, HJ1.out (by trivial), hcz⟩
      | false =>
        gi_wp2_with fail
        exact ⟨hkn, rfl, HJ3.out (by trivial)⟩
  case done =>
    rintro D W3 hD ⟨hj3, _⟩ hK3
    gi_wp2_with fail
    refine ⟨by simp, .inl ⟨_, _, rfl, run_takeDeferred hK3, ?_⟩⟩
    exact ⟨_, results_none rfl _ _ _, ⟨_, rfl⟩, .inl (hJ _ _ _ hj3 (belowK_b (w := W) (Nat.le_refl _) W3 D _ _ (by omega) hK3 rfl rfl))⟩
  case stop =>
    rintro D c W3 hD ⟨rfl, hj3⟩ hK3
    gi_wp2_with fail
    refine ⟨by simp, .inl ⟨_, _, rfl, run_takeDeferred hK3, ?_⟩⟩
    exact ⟨_, results_none rfl _ _ _, ⟨_, rfl⟩, .inr (hJx _ _ hj3 (belowK_b (w := W) (Nat.le_refl _) W3 D _ _ (by omega) hK3 rfl rfl))⟩
end Go.Proofs.Ytmicjfdibhoamaa.val
