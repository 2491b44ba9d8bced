/- The walk of TableGoes. -/
import Derived.Test.YtmicjfdibhoamaaAllT
import Derived.Test.YtmicjfdibhoamaaGoesLaw
import Derived.Test.YtmicjfdibhoamaaGoes18
import Derived.Test.YtmicjfdibhoamaaQuietR
namespace Go.Proofs.Ytmicjfdibhoamaa.val
open Go.RowKit mem
theorem run_store_fn (P : Program) (w : World) (a : Addr) (m : Mode) (f : Fn) (xs ys : Array Value) : (store a (.func f xs ys) m).run P w = stored P w a (.func f xs ys) m := run_store P w a _ m rfl
attribute [local go_sem] run_store_float run_store_fn Oper.semAt_some

theorem grownBy_below {w W W' : World} {g : Nat} (h : w.grownBy W (some g)) (hb : Below w.heap.size W W') : w.grownBy W' (some g) :=
  ⟨hb.os.trans h.os, hb.tape.trans h.tape, hb.output.trans h.output, Nat.le_trans h.size hb.size, fun k hk hne => (hb.block k hk).trans (h.block k hk hne)⟩

theorem keep_set {n B g i : Nat} {W W' : World} (h : Below W.heap.size W W') (hn : n ≤ g) (hB : g < B) (hs : n ≤ W.heap.size) (u : Value) : Keep n B W (W'.setCell ⟨g, i, none⟩ u) :=
  ⟨(h.mono hs).setCell hn u, fun k h1 h2 => (Below.heap_setCell _ _ _ k (show k ≠ g by omega)).trans (h.block k h2)⟩
theorem row_at (es : List (C × O)) (R : List Nat) (hR : rowsTo (kys es) es.length = R) (q : Nat) (hq : q < R.length) (c : C) (o : O) (hx : (tabR es)[q]? = some (c, o)) : ∃ e i, R[q] = i ∧ es[i]? = some e ∧ i < es.length ∧ c = e.1 ∧ o = e.2.nrm := by
  have hRq : R[q]? = some R[q] := List.getElem?_eq_getElem hq
  have hil : R[q] < es.length := rowsTo_lt (kys es) es.length _ (by rw [hR]; exact List.getElem_mem hq)
  obtain ⟨e, hei⟩ : ∃ e, es[R[q]]? = some e := ⟨_, List.getElem?_eq_getElem hil⟩
  have hrow : (c, o) = (e.1, e.2.nrm) := by
    rw [tabR_rows, hR, List.getElem?_map, hRq] at hx
    simp only [Option.map_some, Option.some.injEq] at hx
    rw [← hx]
    simp [rowOf, hei]
  injection hrow with hr1 hr2
  exact ⟨e, R[q], rfl, hei, hil, hr1, hr2⟩

set_option maxRecDepth 100000 in
set_option maxHeartbeats 20000000 in
theorem goes_any (es : List (C × O)) (st : Int) (hes : szE es ≤ 1048576) (hok : ∀ e ∈ es, e.1.ok) (A : Option Addr) (c : Nat) (w : World) (S : Nat → Prop) (hE : LAt 13 IsE w S es A) (hB : Bel S w.heap.size) :
    Calls Try.prog 6 #[.slice A es.length c, .int .i64 st] w (TruePost w) := by
  have hl1 := szE_len es
  have HEs := Lib.hid hE
  have HB := Lib.hid hB
  have HK := Lib.hid hok
  clear hE hB hok
  refine (callsIn_wide (n := 6)).1 ?_
  refine callsIn_of_wp_marks Try.func6 rfl trivial ?_ rfl
  simp only [Try.ntmps6, List.size_toArray, List.length_cons, List.length_nil, Nat.reduceAdd, Nat.reduceSub, Array.replicate_succ, Array.replicate_zero, List.push_toArray, List.append_toArray, List.nil_append, List.cons_append]
  gi_wp2_with fail
  refine ⟨trivial, (callsIn_wide.2 (works_any _)).mono ?_⟩
  rintro e w1 ⟨rfl, hb1⟩
  have z2 : (((w.alloc (.cells #[.slice A es.length c] 22)).alloc (.cells #[.int .i64 st] 3)).alloc (.cells #[.bool false] 4)).heap[w.heap.size]? = some (.cells #[.slice A es.length c] 22 (0, 0)) := blk_alloc (blk_alloc (heap_alloc_new _ _) _) _
  have z3 : (((w.alloc (.cells #[.slice A es.length c] 22)).alloc (.cells #[.int .i64 st] 3)).alloc (.cells #[.bool false] 4)).heap[w.heap.size + 1]? = some (.cells #[.int .i64 st] 3 (0, 0)) := blk_alloc (by simpa using heap_alloc_new (w.alloc (.cells #[.slice A es.length c] 22)) (.cells #[.int .i64 st] 3)) _
  have z4 : (((w.alloc (.cells #[.slice A es.length c] 22)).alloc (.cells #[.int .i64 st] 3)).alloc (.cells #[.bool false] 4)).heap[w.heap.size + 1 + 1]? = some (.cells #[.bool false] 4 (0, 0)) := by simpa using heap_alloc_new ((w.alloc (.cells #[.slice A es.length c] 22)).alloc (.cells #[.int .i64 st] 3)) (.cells #[.bool false] 4)
  have hb01 : Below w.heap.size w w1 := ((((Below.refl w.heap.size w).alloc (Nat.le_refl _) _).alloc (by simp) _).alloc (by simp only [World.size_alloc]; omega) _).trans (hb1.mono (by simp only [World.size_alloc]; omega))
  have hs1 := hb1.size
  simp only [World.size_alloc] at hs1
  have g2 := Lib.hid (blk_below z2 hb1 (by simp only [World.size_alloc]; omega))
  have g3 := Lib.hid (blk_below z3 hb1 (by simp only [World.size_alloc]; omega))
  have g4 := Lib.hid (blk_below z4 hb1 (by simp only [World.size_alloc]; omega))
  clear z2 z3 z4 hb1
  have t2 := cell_of_row w1 w.heap.size 0 _ _ (0, 0) g2.out
  gi_wp2_with fail
  refine ⟨trivial, (callsIn_wide.2 (wide_any es hes A c w1 S (HEs.out.below recE HB.out hb01) (HB.out.mono (by omega)))).mono ?_⟩
  rintro e w2 ⟨rfl, hb2⟩
  have hs2 := hb2.size
  have hb02 : Below w.heap.size w w2 := hb01.trans (hb2.mono (by omega))
  clear t2
  cases hw : wideN es 0 with
  | true =>
    clear hw
    have gz := blk_below g4.out hb2 (by omega)
    have j4 := cell_of_row w2 (w.heap.size + 1 + 1) 0 _ _ (0, 0) gz
    have f4 := blk_frozen gz 0
    have gS : (w2.setCell ⟨w.heap.size + 1 + 1, 0, none⟩ (.bool true)).heap[w.heap.size + 1 + 1]? = some (.cells #[.bool true] 4 (0, 0)) := by simpa using blk_set gz 0 (.bool true)
    have hbz : Below w.heap.size w (w2.setCell ⟨w.heap.size + 1 + 1, 0, none⟩ (.bool true)) := hb02.setCell (show w.heap.size ≤ w.heap.size + 1 + 1 by omega) _
    gi_wp2_with fail
    have cX := cell_of_row _ (w.heap.size + 1 + 1) 0 _ _ (0, 0) gS
    generalize (w2.setCell ⟨w.heap.size + 1 + 1, 0, none⟩ (.bool true)) = wz at *
    refine ⟨.bool true, ?_, rfl, hbz⟩
    simp [results, Try.f6, go_sem, cX]
  | false =>
    clear hw
    have t2 := cell_of_row w2 w.heap.size 0 _ _ (0, 0) (blk_below g2.out hb2 (by omega))
    gi_wp2_with fail
    refine ⟨trivial, (callsIn_wide.2 (copyEntries_own es hes A c w2 S (HEs.out.below recE HB.out hb02) (HB.out.mono (by omega)))).mono ?_⟩
    rintro e w3 ⟨A3, c3, rfl, hO3, hb3⟩
    have hs3 := hb3.size
    obtain ⟨A3', c3', ee, _, hL3⟩ := hO3.lat recE
    injection ee with ee1 _ ee2
    subst ee1 ee2
    have HN3 := Lib.hid (refNew_any es hes A3 c3 w3 _ hL3 (fun b hb => hb.2))
    clear hO3 hL3 t2
    gi_wp2_with fail
    refine ⟨trivial, (callsIn_wide.2 HN3.out).mono ?_⟩
    rintro e w4 ⟨vs, rfl, hRA, hb4⟩
    have hs4 := hb4.size
    have hkl := kys_len es
    have HRW := Lib.hid (refRows_any (kys es) (by rw [kys_len]; omega) vs w3.heap.size w4 hRA)
    clear HN3 hkl
    obtain ⟨Ac, cc, Ao, co, Af, cf, Au, nu, cu, l, rfl, -⟩ := hRA
    gi_wp2_with fail
    refine ⟨trivial, (callsIn_wide.2 HRW.out).mono ?_⟩
    rintro e w5 ⟨v5, rfl, hO5, hb5⟩
    have hs5 := hb5.size
    obtain ⟨A5, c5, rfl, _⟩ := own_form hO5
    obtain ⟨R, HR⟩ : ∃ R, Hid (rowsTo (kys es) (kys es).length = R) := ⟨_, Lib.hid rfl⟩
    rw [HR.out] at hO5 ⊢
    have hb25 : Below w2.heap.size w2 w5 := ((hb3.trans (hb4.mono hs3)).trans (hb5.mono (by omega)))
    have hb56 : Below w5.heap.size w5 (w5.alloc (.cells #[.slice A5 R.length c5] 28)) := (Below.refl _ _).alloc (Nat.le_refl _) _
    have g5 : (w5.alloc (.cells #[.slice A5 R.length c5] 28)).heap[w5.heap.size]? = some (.cells #[.slice A5 R.length c5] 28 (0, 0)) := heap_alloc_new _ _
    have hb16 : Below w1.heap.size w1 (w5.alloc (.cells #[.slice A5 R.length c5] 28)) := (hb2.trans (hb25.mono hs2)).alloc (by omega) _
    have hs6 : w5.heap.size + 1 ≤ (w5.alloc (.cells #[.slice A5 R.length c5] 28)).heap.size := by simp
    have HO6 := Lib.hid (own_base (hO5.alloc (.cells #[.slice A5 R.length c5] 28)) (show w1.heap.size ≤ w4.heap.size by omega))
    have t2 := cell_of_row _ w.heap.size 0 _ _ (0, 0) (blk_below g2.out hb16 (by omega))
    clear hO5 HRW hb3 hb4 hb5 hb25
    gi_wp2_with fail
    generalize (w5.alloc (.cells #[.slice A5 R.length c5] 28)) = w6 at *
    have G5 := Lib.hid g5
    clear g5 t2
    refine ⟨trivial, (callsIn_wide.2 (tabNew_any es hes HK.out A c w6 S (HEs.out.below recE HB.out (hb01.trans (hb16.mono (by omega)))) (HB.out.mono (by omega)))).mono ?_⟩
    rintro e w7 ⟨rfl, hT, hb7⟩
    have HT := Lib.hid hT
    have hs7 := hb7.size
    clear hT
    gi_wp2_with fail
    refine ⟨trivial, (callsIn_wide.2 (tabAll_any _ _)).mono ?_⟩
    rintro e w' ⟨rfl, rfl⟩
    have qF := fun w f x y => run_eql_func_nil f x y w
    have c8 := cell_of_row _ w7.heap.size 0 _ _ (0, 0) (heap_alloc_new w7 (.cells #[.pointer (some ⟨w6.heap.size + 2, 0, none⟩)] 44))
    gi_wp2_with fail
    clear qF c8
    have gp : (((w7.alloc (.cells #[.pointer (some ⟨w6.heap.size + 2, 0, none⟩)] 44)).alloc (.cells #[.func (.func 37) #[] #[.pointer (some ⟨w7.heap.size, 0, none⟩)]] 59)).alloc (.cells #[.int .i64 0] 3)).heap[w7.heap.size]? = some (.cells #[.pointer (some ⟨w6.heap.size + 2, 0, none⟩)] 44 (0, 0)) := blk_alloc (blk_alloc (heap_alloc_new _ _) _) _
    have g7 : (((w7.alloc (.cells #[.pointer (some ⟨w6.heap.size + 2, 0, none⟩)] 44)).alloc (.cells #[.func (.func 37) #[] #[.pointer (some ⟨w7.heap.size, 0, none⟩)]] 59)).alloc (.cells #[.int .i64 0] 3)).heap[w7.heap.size + 1]? = some (.cells #[.func (.func 37) #[] #[.pointer (some ⟨w7.heap.size, 0, none⟩)]] 59 (0, 0)) := blk_alloc (by simpa using heap_alloc_new (w7.alloc (.cells #[.pointer (some ⟨w6.heap.size + 2, 0, none⟩)] 44)) (.cells #[.func (.func 37) #[] #[.pointer (some ⟨w7.heap.size, 0, none⟩)]] 59)) _
    have g8 : (((w7.alloc (.cells #[.pointer (some ⟨w6.heap.size + 2, 0, none⟩)] 44)).alloc (.cells #[.func (.func 37) #[] #[.pointer (some ⟨w7.heap.size, 0, none⟩)]] 59)).alloc (.cells #[.int .i64 0] 3)).heap[w7.heap.size + 1 + 1]? = some (.cells #[.int .i64 0] 3 (0, 0)) := by simpa using heap_alloc_new ((w7.alloc (.cells #[.pointer (some ⟨w6.heap.size + 2, 0, none⟩)] 44)).alloc (.cells #[.func (.func 37) #[] #[.pointer (some ⟨w7.heap.size, 0, none⟩)]] 59)) (.cells #[.int .i64 0] 3)
    have hb7l : Below w7.heap.size w7 (((w7.alloc (.cells #[.pointer (some ⟨w6.heap.size + 2, 0, none⟩)] 44)).alloc (.cells #[.func (.func 37) #[] #[.pointer (some ⟨w7.heap.size, 0, none⟩)]] 59)).alloc (.cells #[.int .i64 0] 3)) := (((Below.refl w7.heap.size w7).alloc (Nat.le_refl _) _).alloc (by simp) _).alloc (by simp only [World.size_alloc]; omega) _
    have hsl : w7.heap.size + 1 + 1 + 1 ≤ (((w7.alloc (.cells #[.pointer (some ⟨w6.heap.size + 2, 0, none⟩)] 44)).alloc (.cells #[.func (.func 37) #[] #[.pointer (some ⟨w7.heap.size, 0, none⟩)]] 59)).alloc (.cells #[.int .i64 0] 3)).heap.size := by simp
    generalize (((w7.alloc (.cells #[.pointer (some ⟨w6.heap.size + 2, 0, none⟩)] 44)).alloc (.cells #[.func (.func 37) #[] #[.pointer (some ⟨w7.heap.size, 0, none⟩)]] 59)).alloc (.cells #[.int .i64 0] 3)) = wl at *
    have hb6l : Below w6.heap.size w6 wl := hb7.trans (hb7l.mono hs7)
    have hb1l : Below w1.heap.size w1 wl := hb16.trans (hb6l.mono (by omega))
    have L2 := Lib.hid (blk_below g2.out hb1l (by omega))
    have L3 := Lib.hid (blk_below g3.out hb1l (by omega))
    have L4 := Lib.hid (blk_below g4.out hb1l (by omega))
    have L5 := Lib.hid (blk_below G5.out hb6l (by omega))
    have LO := Lib.hid (own_below HO6.out hb6l)
    have LOl := Lib.hid (fun k hk => (HO6.out.lt k hk).2)
    have hb0l : Below w.heap.size w wl := hb01.trans (hb1l.mono (by omega))
    have hrl : Hid ((tabR es).length = R.length) := Lib.hid (by rw [tabR_rows, List.length_map, ← HR.out, kys_len])
    have hRl : R.length ≤ es.length := by rw [← HR.out]; exact Nat.le_trans (rowsTo_le _ _) (by rw [kys_len]; exact Nat.le_refl _)
    have hcp := cell_of_row wl w7.heap.size 0 _ _ (0, 0) gp
    have P7 := Lib.hid g7
    have P8 := Lib.hid g8
    clear gp g7 g8 g2 g3 g4 G5 HO6 hb16 hb6l hb1l hb2 hb7
    have HLN : Hid ((tabR es).length ≤ 1048576) := Lib.hid (by rw [hrl.out]; omega)
    have HSZ : Hid (∀ e ∈ tabR es, sz e.2.v ≤ 1048576) := Lib.hid (fun e he => by
        rw [tabR_rows] at he
        obtain ⟨i, _, rfl⟩ := List.mem_map.1 he
        unfold rowOf
        split
        · rename_i e hx
          have := szE_get hx
          have h2 := nrm_sz e.2
          simp only
          omega
        · simp [O0, V0, sz, szs, szf])
    have HCP := Lib.hid hcp
    clear hcp
    refine range_B (n := w7.heap.size + 1 + 1) (gf := 37) (lb := #[.pointer (some ⟨w7.heap.size, 0, none⟩)]) rfl (enters_of Try.func37 (by kernel_rfl) rfl)
      (tabAll_seq w7 (w7.heap.size + 1 + 1) w7.heap.size w6.heap.size (tabR es) (by omega) HT.out HLN.out HSZ.out)
      (by omega) (fun W1 hb1 => ⟨(hb1.cell (p := ⟨w7.heap.size, 0, none⟩) (show w7.heap.size < wl.heap.size by omega)).trans HCP.out, hb7l.trans (hb1.mono (by omega))⟩)
      (fun B q W1 args h => by obtain ⟨c, o, cs, _, rfl, _⟩ := h; rfl)
      (fun q W1 => wl.grownBy W1 (some (w7.heap.size + 1 + 1)) ∧ W1.heap[w7.heap.size + 1 + 1]? = some (.cells #[.int .i64 (q : Int)] 3 (0, 0))) (fun _ _ => False)
      (fun q W1 W2 h hb => ⟨grownBy_below h.1 hb, blk_below h.2 hb (by omega)⟩) (fun _ _ _ h _ => h) ⟨grown_refl _ _, P8.out⟩ ?round ?done ?stop
    case round =>
      rintro l' k q B W1 args hl hl2 hBW hq ⟨hg1, h81⟩ ⟨cq, oq, cs, hx, rfl, hIO⟩ hbw
      rw [hrl.out] at hq
      have hR' : rowsTo (kys es) es.length = R := by rw [← HR.out, kys_len]
      have hRq : R[q]? = some R[q] := List.getElem?_eq_getElem hq
      have hil : R[q] < es.length := rowsTo_lt (kys es) es.length _ (by rw [hR']; exact List.getElem_mem hq)
      obtain ⟨e, hei⟩ : ∃ e, es[R[q]]? = some e := ⟨_, List.getElem?_eq_getElem hil⟩
      have hrow : (cq, oq) = (e.1, e.2.nrm) := by
        rw [tabR_rows, hR', List.getElem?_map, hRq] at hx
        simp only [Option.map_some, Option.some.injEq] at hx
        rw [← hx]
        simp [rowOf, hei]
      injection hrow with hr1 hr2
      subst hr1 hr2
      have hsze := szE_get hei
      rw [nrm_nrm] at hIO
      obtain ⟨i, Hi⟩ : ∃ i : Nat, Hid (R[q] = i) := ⟨R[q], Lib.hid rfl⟩
      rw [Hi.out] at hil hei
      have hg1s := hg1.size
      have hb0W : Below w.heap.size w W1 := hb0l.grown hg1 (by omega) (fun k hk => by injection hk; omega)
      clear hx hRq hR'
      -- the outcome that was handed
      obtain ⟨oN, HoN⟩ : ∃ o : O, Hid (e.2.nrm = o) := ⟨_, Lib.hid rfl⟩
      have HsN : Hid (sz oN.v ≤ 1048576) := Lib.hid (by have := nrm_sz e.2; rw [HoN.out] at this; omega)
      rw [HoN.out] at hIO
      have HIO := Lib.hid hIO
      obtain ⟨ds, rfl, hv⟩ := hIO
      obtain ⟨fN, vN⟩ := oN
      obtain ⟨k2, b2, i2, f2, t2, y2, is2, fs2⟩ := vN
      simp only [IsV] at hv
      obtain ⟨A4, c4, A4', c4', rfl, _⟩ := hv
      obtain ⟨⟨x1, x2, x3, x4⟩, xf, v⟩ := e
      have hbv : Below W1.heap.size W1 ((W1.alloc (.cells #[.string x1, .string x2, .string x3, .string x4] 25)).alloc (.cells #[.bool fN, .int .i64 k2, .bool b2, .int .i64 i2, .float .f64 f2, .string t2, .string y2, .slice A4 is2.length c4, .slice A4' fs2.length c4'] 37)) := ((Below.refl _ _).alloc (Nat.le_refl _) _).alloc (by simp) _
      have gb8 : w7.heap.size + 1 + 1 < W1.heap.size := by omega
      gi_wp2_with fail
      refine ⟨Keep.of_below hbv (by omega), ⟨grownBy_below hg1 (hbv.mono (by omega)), blk_below h81 hbv gb8⟩, ?_⟩
      intro W2 hz2 ho2 hb2 lr hl3 hg2 h82
      have HL3 := Lib.hid hl3
      have H82 := Lib.hid h82
      have g1 := (ho2 W1.heap.size (by omega)).trans (blk_alloc (heap_alloc_new W1 (.cells #[.string x1, .string x2, .string x3, .string x4] 25)) (.cells #[.bool fN, .int .i64 k2, .bool b2, .int .i64 i2, .float .f64 f2, .string t2, .string y2, .slice A4 is2.length c4, .slice A4' fs2.length c4'] 37))
      have g2' : W2.heap[W1.heap.size + 1]? = some (.cells #[.bool fN, .int .i64 k2, .bool b2, .int .i64 i2, .float .f64 f2, .string t2, .string y2, .slice A4 is2.length c4, .slice A4' fs2.length c4'] 37) := (ho2 (W1.heap.size + 1) (by omega)).trans (by simpa using heap_alloc_new (W1.alloc (.cells #[.string x1, .string x2, .string x3, .string x4] 25)) (.cells #[.bool fN, .int .i64 k2, .bool b2, .int .i64 i2, .float .f64 f2, .string t2, .string y2, .slice A4 is2.length c4, .slice A4' fs2.length c4'] 37))
      have hb12 : Below wl.heap.size W1 W2 := (hbv.mono hg1s).trans hb2
      have hb02 : Below w.heap.size w W2 := hb0W.trans (hb12.mono (by omega))
      have hs2' := hb12.size
      have HIO2 := Lib.hid (show IsO W2 (fun b => B ≤ b ∧ b < W1.heap.size) ⟨fN, .mk k2 b2 i2 f2 t2 y2 is2 fs2⟩ _ from recO.keep (fun p hp => (World.cell?_of_block (ho2 p.block (by have := hp.1; omega))).trans (hbv.cell hp.2)) (fun _ h => h) HIO.out)
      obtain ⟨ad, cse, rfl, hadB, hcs, dse, rfl, hvx⟩ := (HEs.out.below recE HB.out hb02) i _ hei
      have HVe := Lib.hid hvx
      obtain ⟨k5, b5, i5, f5, t5, y5, is5, fs5⟩ := v
      simp only [IsV] at hvx
      obtain ⟨A6, c6, A6', c6', rfl, _⟩ := hvx
      obtain ⟨d0, d1, d2, d3, d4, d5, d6, d7, d8, d9, d10, d11, d12⟩ := hcs.thirteen
      simp only at d0 d1 d2 d3 d4 hsze HoN
      have hoR := LO.out.kept hg2 (.inr (fun e => by have := LOl.out _ e; omega))
      obtain ⟨ar, rfl, _, cr⟩ := (Rd.of_own hoR).at_ (k := q) (by simpa using hq)
      have hir : (R.map iv)[q]'(by simpa using hq) = .int .i64 (i : Int) := by simp [iv, Hi.out]
      rw [hir] at cr
      have j8 := cell_of_row W2 (w7.heap.size + 1 + 1) 0 _ _ (0, 0) h82
      have j5 := cell_of_row W2 w5.heap.size 0 _ _ (0, 0) (blk_grown L5.out hg2 (by simp; omega))
      have j2 := cell_of_row W2 w.heap.size 0 _ _ (0, 0) (blk_grown L2.out hg2 (by simp; omega))
      have j3 := cell_of_row W2 (w.heap.size + 1) 0 _ _ (0, 0) (blk_grown L3.out hg2 (by simp; omega))
      obtain ⟨m0, m1, m2, m3⟩ := blk4 g1
      obtain ⟨e0, e1, e2, e3, e4, e5, e6, e7, e8⟩ := blk9 g2'
      have gm1 := blk_lt g1
      have gm2 := blk_lt g2'
      have hqf : ((q : Int) == (R.length : Int)) = false := by simp; omega
      have hq0 : (0 : Int) ≤ (q : Int) := by omega
      have hqR : (q : Int) < (R.length : Int) := by omega
      have hi0 : (0 : Int) ≤ (i : Int) := by omega
      have hie : (i : Int) < (es.length : Int) := by omega
      have G1 := Lib.hid g1
      have G2 := Lib.hid g2'
      have HGR := Lib.hid hg2
      have Hcs := Lib.hid hcs
      clear hir hoR hcs g1 g2' hg2 h82 hl3 ho2 hz2 hb2 hbv hei
      have ha1 : (ad.add (i * 13)).block < W2.heap.size := World.block_lt_of_cell? W2 _ d0
      have ha2 : (ar.add q).block < W2.heap.size := World.block_lt_of_cell? W2 _ cr
      have ha3 : w.heap.size < W2.heap.size := by omega
      have ha4 : w5.heap.size < W2.heap.size := by omega
      have ha5 : w7.heap.size + 1 + 1 < W2.heap.size := by omega
      gi_wp2_with fail
      refine goes18 _ _ _ _ _ _ _ _ _ _ _ _ _ _ _ _ _ _ _ _ _ _ _ _ _ _ _ _ _ _ _ _ _ _ _ _ _ _ _ _ _ _ _ _ _ _ _ _ _ _ _ _ _ _ _ _ _ _ _ _ _ _ _ _ _ _ _ _ _ _ _ _ _ _ _ _ _ _ _ _ _ _ _ _ _ _ _ _ _ _ _ _ _ _ _ _ _ _ _ _ _ _ _ _ _ _ _ _ _ _ _ _ _ _ _ _ _ _ _ _ _ _ _ _ _ _ _ _ _ _ _ _ _ _ j2 j5 j8 hqR cr hie Hcs.out ?_
      intro v38 v39 v40 v41 v42 v43 v44
      clear d0 d1 d2 d3 d4 d5 d6 d7 d8 d9 d10 d11 d12
      have hbd : Below W2.heap.size W2 (W2.drew.alloc (.cells #[.string x1, .string x2, .string x3, .string x4, .bool xf, .int .i64 k5, .bool b5, .int .i64 i5, .float .f64 f5, .string t5, .string y5, .slice A6 is5.length c6, .slice A6' fs5.length c6'] 39)) := ((Below.refl _ _).drew).alloc (Nat.le_refl _) _
      have gE : (W2.drew.alloc (.cells #[.string x1, .string x2, .string x3, .string x4, .bool xf, .int .i64 k5, .bool b5, .int .i64 i5, .float .f64 f5, .string t5, .string y5, .slice A6 is5.length c6, .slice A6' fs5.length c6'] 39)).heap[W2.heap.size]? = some (.cells #[.string x1, .string x2, .string x3, .string x4, .bool xf, .int .i64 k5, .bool b5, .int .i64 i5, .float .f64 f5, .string t5, .string y5, .slice A6 is5.length c6, .slice A6' fs5.length c6'] 39 (0, 0)) := by simpa using heap_alloc_new W2.drew (.cells #[.string x1, .string x2, .string x3, .string x4, .bool xf, .int .i64 k5, .bool b5, .int .i64 i5, .float .f64 f5, .string t5, .string y5, .slice A6 is5.length c6, .slice A6' fs5.length c6'] 39)
      have hsd : (W2.drew.alloc (.cells #[.string x1, .string x2, .string x3, .string x4, .bool xf, .int .i64 k5, .bool b5, .int .i64 i5, .float .f64 f5, .string t5, .string y5, .slice A6 is5.length c6, .slice A6' fs5.length c6'] 39)).heap.size = W2.heap.size + 1 := by simp
      generalize (W2.drew.alloc (.cells #[.string x1, .string x2, .string x3, .string x4, .bool xf, .int .i64 k5, .bool b5, .int .i64 i5, .float .f64 f5, .string t5, .string y5, .slice A6 is5.length c6, .slice A6' fs5.length c6'] 39)) = Wd at *
      have hb28s : w7.heap.size + 1 + 1 < W2.heap.size := ha5
      have HEND : Hid (∀ (W8 : World), Below W2.heap.size W2 W8 → Keep (w7.heap.size + 1 + 1) wl.heap.size W2 (W8.setCell ⟨w7.heap.size + 1 + 1, 0, none⟩ (.int .i64 ((q : Int) + 1))) ∧ wl.grownBy (W8.setCell ⟨w7.heap.size + 1 + 1, 0, none⟩ (.int .i64 ((q : Int) + 1))) (some (w7.heap.size + 1 + 1)) ∧ (W8.setCell ⟨w7.heap.size + 1 + 1, 0, none⟩ (.int .i64 ((q : Int) + 1))).heap[w7.heap.size + 1 + 1]? = some (.cells #[.int .i64 ((q + 1 : Nat) : Int)] 3 (0, 0))) := Lib.hid (fun W8 hb => ⟨keep_set hb (Nat.le_refl _) (by omega) (by omega) _, grown_set (grownBy_below HGR.out (hb.mono (by omega))) 0 _, by have := blk_set (blk_below H82.out hb (by omega)) 0 (.int .i64 ((q : Int) + 1)); simpa using this⟩)
      clear m0 m1 m2 m3 e0 e1 e2 e3 e4 e5 e6 e7 e8
      have G1d := Lib.hid (blk_below G1.out hbd gm1)
      have G2d := Lib.hid (blk_below G2.out hbd gm2)
      obtain ⟨m0, m1, m2, m3⟩ := blk4 G1d.out
      obtain ⟨e0, e1, e2, e3, e4, e5, e6, e7, e8⟩ := blk9 G2d.out
      obtain ⟨n0, n1, n2, n3, n4, n5, n6', n7, n8, n9, n10, n11, n12⟩ := blk13 gE
      have j8 := (hbd.cell (p := ⟨w7.heap.size + 1 + 1, 0, none⟩) ha5).trans j8
      have j5 := (hbd.cell (p := ⟨w5.heap.size, 0, none⟩) ha4).trans j5
      have j2 := (hbd.cell (p := ⟨w.heap.size, 0, none⟩) ha3).trans j2
      have j3 := (hbd.cell (p := ⟨w.heap.size + 1, 0, none⟩) (show w.heap.size + 1 < W2.heap.size by omega)).trans j3
      have gm1 : W1.heap.size < Wd.heap.size := by omega
      have gm2 : W1.heap.size + 1 < Wd.heap.size := by omega
      have ga2 : w.heap.size < Wd.heap.size := by omega
      have ga3 : w.heap.size + 1 < Wd.heap.size := by omega
      have ga5 : w5.heap.size < Wd.heap.size := by omega
      have ga8 : w7.heap.size + 1 + 1 < Wd.heap.size := by omega
      have gaE : W2.heap.size < Wd.heap.size := by omega
      have HGE := Lib.hid gE
      clear gE
      obtain ⟨oo, HQ⟩ : ∃ oo : O, Hid ((⟨fN, .mk k2 b2 i2 f2 t2 y2 is2 fs2⟩ : O) = oo) := ⟨_, Lib.hid rfl⟩
      have HoQ := Lib.hid (HoN.out.trans HQ.out)
      have HsQ : Hid (sz oo.v ≤ 1048576) := Lib.hid (by have := HsN.out; rw [← HQ.out]; exact this)
      have HIO3 := Lib.hid (HQ.out ▸ HIO2.out)
      gi_upto_if 52 with (fail)
      gi_cut [] from 53 (fun wx => ∃ k b i f t y A n c A' n' c', Hid (OutAt wx S (W2.heap.size + 1) oo k b i f t y A n c A' n' c') ∧ Below Wd.heap.size Wd wx)
      case first =>
        cases xf
        · gi_wp2_with fail
          gi_meet
          case rel => exact ⟨k5, b5, i5, f5, t5, y5, A6, is5.length, c6, A6', fs5.length, c6', Lib.hid (by rw [← HoQ.out, ← hsd]; exact ⟨heap_alloc_new Wd _, ⟨_, rfl, IsV.keep (fun p hp => ((hbd.alloc (by omega) _).cell (show p.block < W2.heap.size by have := HB.out _ hp; omega))) (fun _ h => h) _ _ HVe.out⟩⟩), (Below.refl _ _).alloc (Nat.le_refl _) _⟩
        · gi_wp2_with fail
          gi_meet
          case rel => exact ⟨0, false, 0, 0, ⟨#[]⟩, ⟨#[]⟩, none, 0, 0, none, 0, 0, Lib.hid (by rw [← HoQ.out, ← hsd]; exact ⟨heap_alloc_new Wd _, out0 _ _⟩), (Below.refl _ _).alloc (Nat.le_refl _) _⟩
      case rest =>
        obtain ⟨k0, b0, i0, f0, t0, y0, A0, N0, C0, A0', N0', C0', HW0, hbc⟩ := hcut
        obtain ⟨Wc, rfl⟩ : ∃ W : World, W = wc := ⟨_, rfl⟩
        have hsc := hbc.size
        have hb2c : Below W2.heap.size W2 Wc := hbd.trans (hbc.mono (by omega))
        clear m0 m1 m2 m3 e0 e1 e2 e3 e4 e5 e6 e7 e8 n0 n1 n2 n3 n4 n5 n6' n7 n8 n9 n10 n11 n12
        obtain ⟨m0, m1, m2, m3⟩ := blk4 (blk_below G1d.out hbc gm1)
        obtain ⟨e0, e1, e2, e3, e4, e5, e6, e7, e8⟩ := blk9 (blk_below G2d.out hbc gm2)
        obtain ⟨n0, n1, n2, n3, n4, n5, n6', n7, n8, n9, n10, n11, n12⟩ := blk13 (blk_below HGE.out hbc gaE)
        obtain ⟨r0, r1, r2, r3, r4, r5, r6, r7, r8⟩ := HW0.out.cells
        gi_wp2_with fail
        refine ⟨trivial, (fun h => by cases h), (CallsIn.inRound l' (callsIn_wide.2 (sameOut_refl oo HsQ.out _ _ Wc (fun b => B ≤ b ∧ b < W1.heap.size) S (recO.keep (fun p hp => hb2c.cell (show p.block < W2.heap.size by have := hp.2; omega)) (fun _ h => h) HIO3.out) HW0.out.2 (fun b hb => by have := hb.2; omega) (HB.out.mono (by omega))))).mono ?_⟩
        rintro e w8 ⟨rfl, hb8⟩
        have hs8 := hb8.size
        have hb28 : Below W2.heap.size W2 w8 := hb2c.trans (hb8.mono (by omega))
        have hbd8 : Below Wd.heap.size Wd w8 := hbc.trans (hb8.mono hsc)
        clear m0 m1 m2 m3 e0 e1 e2 e3 e4 e5 e6 e7 e8 n0 n1 n2 n3 n4 n5 n6' n7 n8 n9 n10 n11 n12 r0 r1 r2 r3 r4 r5 r6 r7 r8
        have f8 := (hbd8.cell (p := ⟨w7.heap.size + 1 + 1, 0, none⟩) ga8).trans j8
        have f3 := (hbd8.cell (p := ⟨w.heap.size + 1, 0, none⟩) ga3).trans j3
        have z8 := blk_frozen (blk_below H82.out hb28 (by omega)) 0
        cases hqs : ((q : Int) == st) with
        | false =>
          gi_wp2_with fail
          exact HEND.out _ hb28
        | true =>
          have hg28 := grownBy_below HGR.out (hb28.mono (by omega))
          have f7 := cell_of_row w8 (w7.heap.size + 1) 0 _ _ (0, 0) (blk_grown P7.out hg28 (by simp))
          have gl7 : w7.heap.size + 1 < w8.heap.size := by omega
          have hb89 : Below w8.heap.size w8 (w8.alloc (.cells #[.int .i64 0] 3)) := (Below.refl _ _).alloc (Nat.le_refl _) _
          have hm9 : (w8.alloc (.cells #[.int .i64 0] 3)).heap[w8.heap.size]? = some (.cells #[.int .i64 ((0 : Nat) : Int)] 3 (0, 0)) := heap_alloc_new _ _
          have hs9 : w8.heap.size + 1 ≤ (w8.alloc (.cells #[.int .i64 0] 3)).heap.size := by simp
          have hl9 : (w8.alloc (.cells #[.int .i64 0] 3)).heap[l']? = some (.loop lr) := blk_below (blk_below HL3.out hb28 (by omega)) hb89 (by omega)
          have hb2w7 : Below w7.heap.size w7 W2 := hb7l.grown HGR.out (by omega) (fun k hk => by injection hk; omega)
          have hcp2 : W2.cell? ⟨w7.heap.size, 0, none⟩ = some (.pointer (some ⟨w6.heap.size + 2, 0, none⟩)) := (World.cell?_of_block (HGR.out.block w7.heap.size (by omega) (by simp; omega))).trans HCP.out
          have HCP2 := Lib.hid hcp2
          have HB27 := Lib.hid hb2w7
          clear hcp2 hb2w7
          gi_wp2_with fail
          generalize (w8.alloc (.cells #[.int .i64 0] 3)) = w9 at *
          have hb29 : Below W2.heap.size W2 w9 := hb28.trans (hb89.mono (by omega))
          refine range_N (l₀ := l') (r₀ := lr) hl9 (n := w8.heap.size) (gf := 37) (lb := #[.pointer (some ⟨w7.heap.size, 0, none⟩)]) rfl (enters_of Try.func37 (by kernel_rfl) rfl)
            (tabAll_seq w7 w8.heap.size w7.heap.size w6.heap.size (tabR es) (by omega) HT.out HLN.out HSZ.out)
            (by omega) (fun V1 hb => ⟨((hb29.trans (hb.mono (by omega))).cell (p := ⟨w7.heap.size, 0, none⟩) (show w7.heap.size < W2.heap.size by omega)).trans HCP2.out, HB27.out.trans ((hb29.trans (hb.mono (by omega))).mono (by omega))⟩)
            (fun B q W1 args h => by obtain ⟨c, o, cs, _, rfl, _⟩ := h; rfl)
            (fun p V => p ≤ q ∧ Below w8.heap.size w8 V ∧ V.heap[w8.heap.size]? = some (.cells #[.int .i64 (p : Int)] 3 (0, 0)))
            (fun c V => c = .exit 2 ∧ Below w8.heap.size w8 V ∧ V.heap[w8.heap.size]? = some (.cells #[.int .i64 ((q : Int) + 1)] 3 (0, 0)))
            (fun p V V' h hb => ⟨h.1, h.2.1.trans (hb.mono (by omega)), blk_below h.2.2 hb (by omega)⟩)
            (fun c V V' h hb => ⟨h.1, h.2.1.trans (hb.mono (by omega)), blk_below h.2.2 hb (by omega)⟩)
            ⟨Nat.zero_le _, hb89, hm9⟩ ?round2 ?done2 ?stop2
          case round2 =>
            rintro l2 k2' p B2 W3 args2 hl2a hl2b hB3 hp ⟨hpq, hb83, hm3⟩ ⟨cq2, oq2, cs2, hx2, rfl, _⟩ hbw2
            rw [hrl.out] at hp
            obtain ⟨e2, i2', hri2, hei2, hil2, rfl, rfl⟩ := row_at es R (by rw [← HR.out, kys_len]) p hp _ _ hx2
            obtain ⟨⟨y1, y2, y3, y4⟩, xf2, v2⟩ := e2
            have hbv2 : Below W3.heap.size W3 (W3.alloc (.cells #[.string y1, .string y2, .string y3, .string y4] 25)) := (Below.refl _ _).alloc (Nat.le_refl _) _
            have hs3' := hb83.size
            gi_wp2_with fail
            refine ⟨Keep.of_below hbv2 (by omega), ⟨hb83.trans (hbv2.mono (by omega)), blk_below hm3 hbv2 (by omega)⟩, ?_⟩
            intro W4 hz4 ho4 hb4 lr2 hl4 hb84 hm4
            have gy := (ho4 W3.heap.size (by omega)).trans (heap_alloc_new W3 (.cells #[.string y1, .string y2, .string y3, .string y4] 25))
            have hs4' := hb84.size
            have hb2_4 : Below W2.heap.size W2 W4 := hb28.trans (hb84.mono (by omega))
            have hg4 := grownBy_below HGR.out (hb2_4.mono (by omega))
            obtain ⟨v1, v22, v23, v24⟩ := blk4 gy
            obtain ⟨ad', cse', had, hadB', hcs', dse', rfl, hvx'⟩ := (HEs.out.below recE HB.out (hb02.trans (hb2_4.mono (by omega)))) i2' _ hei2
            injection had with had
            subst had
            obtain ⟨k9, b9, i9, f9, t9, y9, is9, fs9⟩ := v2
            simp only [IsV] at hvx'
            obtain ⟨A9, c9, A9', c9', rfl, _⟩ := hvx'
            obtain ⟨d0, d1, d2, d3, d4, d5, d6, d7, d8, d9, d10, d11, d12⟩ := hcs'.thirteen
            clear d4 d5 d6 d7 d8 d9 d10 d11 d12
            simp only at d0 d1 d2 d3
            obtain ⟨ar', har, _, cr'⟩ := (Rd.of_own (LO.out.kept hg4 (.inr (fun e => by have := LOl.out _ e; omega)))).at_ (k := p) (by simpa using hp)
            injection har with har
            subst har
            have hir : (R.map iv)[p]'(by simpa using hp) = .int .i64 (i2' : Int) := by simp [iv, hri2]
            rw [hir] at cr'
            have q13 := cell_of_row W4 w8.heap.size 0 _ _ (0, 0) hm4
            have q5 := cell_of_row W4 w5.heap.size 0 _ _ (0, 0) (blk_grown L5.out hg4 (by simp; omega))
            have q2 := cell_of_row W4 w.heap.size 0 _ _ (0, 0) (blk_grown L2.out hg4 (by simp; omega))
            have q8 := cell_of_row W4 (w7.heap.size + 1 + 1) 0 _ _ (0, 0) (blk_below H82.out hb2_4 (by omega))
            have qz := blk_frozen hm4 0
            have hpR : (p : Int) < (R.length : Int) := by omega
            have hp0 : (0 : Int) ≤ (p : Int) := by omega
            have hj0 : (0 : Int) ≤ (i2' : Int) := by omega
            have hjE : (i2' : Int) < (es.length : Int) := by omega
            have hdg2 : decide (R.length ≤ p) = false := by simp; omega
            have hdg : decide ((R.length : Int) ≤ (p : Int)) = false := by simp; omega
            have hl4w : w9.heap.size ≤ W4.heap.size := by omega
            clear hir hcs' hg4 ho4 hz4 gy hb4 hei2
            gi_wp2_with fail
            refine wpIn_region_quiet_round (F := Fence.wide) rfl (by kernel_rfl) (by kernel_rfl) (by kernel_rfl) ?_
            repeat (gi_big_quiet_step (fail))
            refine wpQuietIn_nil ?_
            intro _ hw'
            obtain ⟨nq, hw''⟩ := hw'
            subst hw''
            clear d0 d1 d2 d3 v1 v22 v23 v24 hdg hdg2 q5 q2 cr'
            have hbq : Below W4.heap.size W4 (W4.drewN nq) := below_drewN (Below.refl _ _) nq
            have hE2 : Keep w8.heap.size w9.heap.size W4 ((W4.drewN nq).setCell ⟨w8.heap.size, 0, none⟩ (.int .i64 ((p : Int) + 1))) ∧ Below w8.heap.size w8 ((W4.drewN nq).setCell ⟨w8.heap.size, 0, none⟩ (.int .i64 ((p : Int) + 1))) ∧ ((W4.drewN nq).setCell ⟨w8.heap.size, 0, none⟩ (.int .i64 ((p : Int) + 1))).heap[w8.heap.size]? = some (.cells #[.int .i64 ((p : Int) + 1)] 3 (0, 0)) :=
              ⟨keep_set hbq (Nat.le_refl _) (by omega) (by omega) _, (hb84.trans (hbq.mono (by omega))).setCell (Nat.le_refl _) _, by have := blk_set (blk_below hm4 hbq (by omega)) 0 (.int .i64 ((p : Int) + 1)); simpa using this⟩
            rcases Nat.lt_or_ge p q with hpq2 | hpq2
            · have hgt : decide ((q : Int) < (p : Int) + 1) = false := by simp; omega
              gi_wp2_with fail
              exact ⟨hE2.1, by omega, hE2.2.1, by simpa using hE2.2.2⟩
            · have hpe : p = q := Nat.le_antisymm hpq hpq2
              subst hpe
              have hgt : decide ((p : Int) < (p : Int) + 1) = true := by simp; omega
              gi_wp2_with fail
              exact ⟨hE2.1, rfl, hE2.2.1, hE2.2.2⟩
          case done2 =>
            rintro V ⟨hlt, _⟩
            rw [hrl.out] at hlt
            omega
          case stop2 =>
            rintro cc V ⟨rfl, hbV, hmV⟩
            have hsV := hbV.size
            have hb2V : Below W2.heap.size W2 V := hb28.trans (hbV.mono (by omega))
            have jm := cell_of_row V w8.heap.size 0 _ _ (0, 0) hmV
            have jn := cell_of_row V (w7.heap.size + 1 + 1) 0 _ _ (0, 0) (blk_below H82.out hb2V (by omega))
            have zn := blk_frozen (blk_below H82.out hb2V (by omega)) 0
            gi_wp2_with fail
            exact HEND.out _ hb2V
    case stop =>
      rintro D c W3 hD h hK3
      exact h.elim
    case done =>
      rintro D W3 hD ⟨hg3, h83⟩ hK3
      rw [hrl.out] at h83
      have hs3' := hg3.size
      have j8 := cell_of_row W3 (w7.heap.size + 1 + 1) 0 _ _ (0, 0) h83
      have z5 := blk_grown L5.out hg3 (by simp; omega)
      have z4 := blk_grown L4.out hg3 (by simp; omega)
      have j5 := cell_of_row W3 w5.heap.size 0 _ _ (0, 0) z5
      have j4 := cell_of_row W3 (w.heap.size + 1 + 1) 0 _ _ (0, 0) z4
      have f4 := blk_frozen z4 0
      have gS : (W3.setCell ⟨w.heap.size + 1 + 1, 0, none⟩ (.bool true)).heap[w.heap.size + 1 + 1]? = some (.cells #[.bool true] 4 (0, 0)) := by simpa using blk_set z4 0 (.bool true)
      have hbz : Below w.heap.size w (W3.setCell ⟨w.heap.size + 1 + 1, 0, none⟩ (.bool true)) := (hb0l.grown hg3 (by omega) (fun k hk => by injection hk; omega)).setCell (show w.heap.size ≤ w.heap.size + 1 + 1 by omega) _
      have k1 : (W3.setCell ⟨w.heap.size + 1 + 1, 0, none⟩ (.bool true)).heap[D]? = some (.deferred (some [])) := blk_far (a := ⟨w.heap.size + 1 + 1, 0, none⟩) hK3 (show D ≠ w.heap.size + 1 + 1 by omega) _
      gi_wp2_with fail
      generalize (W3.setCell ⟨w.heap.size + 1 + 1, 0, none⟩ (.bool true)) = wz at *
      have gX : (wz.putObj D (.deferred none)).heap[w.heap.size + 1 + 1]? = some (.cells #[.bool true] 4 (0, 0)) := (World.putObj_heap_other (by omega)).trans gS
      have cX := cell_of_row _ (w.heap.size + 1 + 1) 0 _ _ (0, 0) gX
      refine ⟨by simp, .inl ⟨_, _, rfl, run_takeDeferred k1, ?_⟩⟩
      refine ⟨.bool true, ?_, rfl, hbz.trans (belowK_b (w := w) (Nat.le_refl _) wz D _ _ (by omega) k1 rfl rfl)⟩
      simp [results, Try.f6, go_sem, cX]
end Go.Proofs.Ytmicjfdibhoamaa.val
