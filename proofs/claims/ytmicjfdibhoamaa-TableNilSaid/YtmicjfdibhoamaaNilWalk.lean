/- The walk of TableNil. -/
import Derived.Test.YtmicjfdibhoamaaNil
import Derived.Test.YtmicjfdibhoamaaUsed
namespace Go.Proofs.Ytmicjfdibhoamaa.val
open Go.RowKit mem
attribute [local go_sem] run_store_float

theorem isO_zero (w : World) (S : Nat → Prop) : IsO w S O0 [.bool false, .int .i64 0, .bool false, .int .i64 0, .float .f64 0, .string ⟨#[]⟩, .string ⟨#[]⟩, .slice none 0 0, .slice none 0 0] := ⟨_, rfl, isV_V0 w S⟩
theorem same_zero (w : World) : Calls Try.prog 18 #[.agg #[.bool false, .int .i64 0, .bool false, .int .i64 0, .float .f64 0, .string ⟨#[]⟩, .string ⟨#[]⟩, .slice none 0 0, .slice none 0 0], .agg #[.bool false, .int .i64 0, .bool false, .int .i64 0, .float .f64 0, .string ⟨#[]⟩, .string ⟨#[]⟩, .slice none 0 0, .slice none 0 0]] w (TruePost w) :=
  sameOut_refl O0 (by simp [O0, V0, sz, szs, szf]) _ _ w (fun _ => False) (fun _ => False) (isO_zero _ _) (isO_zero _ _) (fun b h => h.elim) (fun b h => h.elim)

set_option maxRecDepth 100000 in
set_option maxHeartbeats 8000000 in
theorem nil_any (c : C) (hc : c.ok) (w : World) : Calls Try.prog 8 #[.agg #[.string c.p, .string c.q, .string c.f, .string c.a]] w (TruePost w) := by
  obtain ⟨x1, x2, x3, x4⟩ := c
  refine (callsIn_wide (n := 4)).1 ?_
  refine callsIn_of_wp_marks Try.func8 rfl trivial ?_ rfl
  simp only [Try.ntmps8, List.size_toArray, List.length_cons, List.length_nil, Nat.reduceAdd, Nat.reduceSub, Array.replicate_succ, Array.replicate_zero, List.push_toArray, List.append_toArray, List.nil_append, List.cons_append]
  gi_wp2_with fail
  refine ⟨trivial, (callsIn_wide.2 (works_any _)).mono ?_⟩
  rintro e w1 ⟨rfl, hb1⟩
  have hb01 : Below w.heap.size w w1 := (((Below.refl w.heap.size w).alloc (Nat.le_refl _) _).alloc (by simp) _).trans (hb1.mono (by simp; omega))
  have gC := Lib.hid (blk_below (blk_alloc (heap_alloc_new w (.cells #[.string x1, .string x2, .string x3, .string x4] 25)) (.cells #[.bool false] 4)) hb1 (by simp only [World.size_alloc]; omega))
  have gR := Lib.hid (blk_below (show ((w.alloc (.cells #[.string x1, .string x2, .string x3, .string x4] 25)).alloc (.cells #[.bool false] 4)).heap[w.heap.size + 1]? = some (.cells #[.bool false] 4) by simpa using heap_alloc_new (w.alloc (.cells #[.string x1, .string x2, .string x3, .string x4] 25)) (.cells #[.bool false] 4)) hb1 (by simp only [World.size_alloc]; omega))
  have hs1 := hb1.size
  simp only [World.size_alloc] at hs1
  clear hb1
  gi_wp2_with fail
  have hN := tabNew_any [] (by simp [szE]) (fun e he => by cases he) none 0 w1 (fun _ => False) (fun i x hx => by simp at hx) (fun b h => h.elim)
  refine ⟨trivial, (callsIn_wide.2 hN).mono ?_⟩
  rintro e w2 ⟨rfl, hT, hb2⟩
  have HT := Lib.hid hT
  have hs2 := hb2.size
  clear hN hT
  gi_wp2_with fail
  have hb3 : Below w2.heap.size w2 (w2.alloc (.cells #[.pointer none, .pointer (some ⟨w1.heap.size + 2, 0, none⟩)] 44)) := (Below.refl _ _).alloc (Nat.le_refl _) _
  have gB := Lib.hid (heap_alloc_new w2 (.cells #[.pointer none, .pointer (some ⟨w1.heap.size + 2, 0, none⟩)] 44))
  have HT3 := Lib.hid (HT.out.below hb3)
  have hs3 : w2.heap.size + 1 ≤ (w2.alloc (.cells #[.pointer none, .pointer (some ⟨w1.heap.size + 2, 0, none⟩)] 44)).heap.size := by simp
  replace hb2 := hb2.trans (hb3.mono hs2)
  generalize (w2.alloc (.cells #[.pointer none, .pointer (some ⟨w1.heap.size + 2, 0, none⟩)] 44)) = w3 at *
  clear hb3 HT
  refine wpIn_loop_rounds 3 ?_
  have qF := fun w f x y => run_eql_func_nil f x y w
  rw [roundsIn_succ]
  obtain ⟨m0, m1, m2, m3⟩ := blk4 (blk_below gC.out hb2 (by omega))
  have n0 := cell_of_row w3 w2.heap.size 0 _ _ (0, 0) (blk_below gB.out (Below.refl w3.heap.size w3) (by omega))
  have gl0 : w.heap.size < w3.heap.size := by omega
  gi_wp2_with fail
  refine ⟨trivial, (callsIn_wide.2 (findNil_any _ ⟨x1, x2, x3, x4⟩)).mono ?_⟩
  rintro e w4 ⟨rfl, hbw4⟩
  have hsw4 := hbw4.size
  clear m0 m1 m2 m3 n0
  gi_wp2_with fail
  refine ⟨trivial, (callsIn_wide.2 (same_zero _)).mono ?_⟩
  rintro e w5 ⟨rfl, hbw5⟩
  have hsw5 := hbw5.size
  simp only [World.size_alloc] at hsw5
  have hxw5 : Below w3.heap.size w3 w5 := (hbw4.alloc hsw4 (.cells #[.bool false, .int .i64 0, .bool false, .int .i64 0, .float .f64 0, .string ⟨#[]⟩, .string ⟨#[]⟩, .slice none 0 0, .slice none 0 0] 37)).trans (hbw5.mono (by simp only [World.size_alloc]; omega))
  gi_wp2_with fail
  refine ⟨trivial, (callsIn_wide.2 (lenNil_any _)).mono ?_⟩
  rintro e w' ⟨rfl, rfl⟩
  gi_wp2_with fail
  refine ⟨trivial, (callsIn_wide.2 (tabAll_any _ _)).mono ?_⟩
  rintro e w' ⟨rfl, rfl⟩
  have hyw5 : Below w3.heap.size w3 (w5.alloc (.cells #[.pointer none] 44)) := hxw5.alloc (by omega) _
  have hzw5 : w5.heap.size < (w5.alloc (.cells #[.pointer none] 44)).heap.size := by simp
  have cw5 := cell_of_row _ w5.heap.size 0 _ _ (0, 0) (heap_alloc_new w5 (.cells #[.pointer none] 44))
  have hno := tabAll_none (w5.alloc (.cells #[.pointer none] 44)) w5.heap.size none cw5 hzw5 (.inl rfl)
  gi_wp2_with fail
  generalize (w5.alloc (.cells #[.pointer none] 44)) = vw5 at *
  refine range_none rfl (by omega) (gf := 37) (lb := #[.pointer (some ⟨w5.heap.size, 0, none⟩)]) rfl trivial (enters_of Try.func37 (by kernel_rfl) rfl) (fun l' W' hW' => callsIn_wide.2 (hno l' W' hW')) ?_
  intro D1 w7 hD1 hbw7 hKD1
  have hsw7 := hbw7.size
  have hww7 : Below w3.heap.size w3 w7 := hyw5.trans (hbw7.mono (by omega))
  clear hno cw5 qF
  gi_wp2_with fail
  have hb17 : Below w1.heap.size w1 w7 := hb2.trans (hww7.mono (by omega))
  have HT7 := Lib.hid (HT3.out.below hww7)
  have qF := fun w f x y => run_eql_func_nil f x y w
  rw [roundsIn_succ]
  obtain ⟨m0, m1, m2, m3⟩ := blk4 (blk_below gC.out hb17 (by omega))
  have n0 := cell_of_row w7 w2.heap.size 1 _ _ (0, 0) (blk_below gB.out hww7 (by omega))
  have gl0 : w.heap.size < w7.heap.size := by omega
  gi_wp2_with fail
  refine ⟨trivial, (callsIn_wide.2 (tabFind_none _ w1.heap.size [] HT7.out ⟨x1, x2, x3, x4⟩ hc rfl)).mono ?_⟩
  rintro e w8 ⟨rfl, hbw8⟩
  have hsw8 := hbw8.size
  clear m0 m1 m2 m3 n0
  gi_wp2_with fail
  refine ⟨trivial, (callsIn_wide.2 (same_zero _)).mono ?_⟩
  rintro e w9 ⟨rfl, hbw9⟩
  have hsw9 := hbw9.size
  simp only [World.size_alloc] at hsw9
  have hxw9 : Below w7.heap.size w7 w9 := (hbw8.alloc hsw8 (.cells #[.bool false, .int .i64 0, .bool false, .int .i64 0, .float .f64 0, .string ⟨#[]⟩, .string ⟨#[]⟩, .slice none 0 0, .slice none 0 0] 37)).trans (hbw9.mono (by simp only [World.size_alloc]; omega))
  gi_wp2_with fail
  refine ⟨trivial, (callsIn_wide.2 (tabLen_any _ w1.heap.size [] (HT7.out.below hxw9))).mono ?_⟩
  rintro e w' ⟨rfl, rfl⟩
  gi_wp2_with fail
  refine ⟨trivial, (callsIn_wide.2 (tabAll_any _ _)).mono ?_⟩
  rintro e w' ⟨rfl, rfl⟩
  have hyw9 : Below w7.heap.size w7 (w9.alloc (.cells #[.pointer (some ⟨w1.heap.size + 2, 0, none⟩)] 44)) := hxw9.alloc (by omega) _
  have hzw9 : w9.heap.size < (w9.alloc (.cells #[.pointer (some ⟨w1.heap.size + 2, 0, none⟩)] 44)).heap.size := by simp
  have cw9 := cell_of_row _ w9.heap.size 0 _ _ (0, 0) (heap_alloc_new w9 (.cells #[.pointer (some ⟨w1.heap.size + 2, 0, none⟩)] 44))
  have hno := tabAll_none (w9.alloc (.cells #[.pointer (some ⟨w1.heap.size + 2, 0, none⟩)] 44)) w9.heap.size (some ⟨w1.heap.size + 2, 0, none⟩) cw9 hzw9 (.inr ⟨w1.heap.size, rfl, HT7.out.below hyw9⟩)
  gi_wp2_with fail
  generalize (w9.alloc (.cells #[.pointer (some ⟨w1.heap.size + 2, 0, none⟩)] 44)) = vw9 at *
  refine range_none rfl (by omega) (gf := 37) (lb := #[.pointer (some ⟨w9.heap.size, 0, none⟩)]) rfl trivial (enters_of Try.func37 (by kernel_rfl) rfl) (fun l' W' hW' => callsIn_wide.2 (hno l' W' hW')) ?_
  intro D2 w10 hD2 hbw10 hKD2
  have hsw10 := hbw10.size
  have hww10 : Below w7.heap.size w7 w10 := hyw9.trans (hbw10.mono (by omega))
  clear hno cw9 qF
  gi_wp2_with fail
  have hb110 : Below w1.heap.size w1 w10 := hb17.trans (hww10.mono (by omega))
  rw [roundsIn_succ]
  obtain ⟨m0, m1, m2, m3⟩ := blk4 (blk_below gC.out hb110 (by omega))
  have gl0 : w.heap.size < w10.heap.size := by omega
  gi_wp2_with fail
  have hLt : LAt 4 IsC (w10.alloc (.cells #[.string x1, .string x2, .string x3, .string x4] 25)) (fun b => (fun _ => False) b ∨ b < w10.heap.size + 1) [(⟨x1, x2, x3, x4⟩ : C)] (some ⟨w10.heap.size, 0, none⟩) := LAt.of_rd recC (by omega) (css := [C.cs ⟨x1, x2, x3, x4⟩]) (Rd.lst (heap_alloc_new w10 (.cells #[.string x1, .string x2, .string x3, .string x4] 25))) ⟨rfl, fun j y ds e1 e2 => by
    match j with
    | 0 => cases e1; cases e2; rfl
    | j + 1 => simp at e1⟩
  have hid := idle_any [] [(⟨x1, x2, x3, x4⟩ : C)] (by simp [szE]) (by simp) (fun e he => by cases he) (fun d hd => by simp at hd; subst hd; exact hc) none 0 (some ⟨w10.heap.size, 0, none⟩) 1 (w10.alloc (.cells #[.string x1, .string x2, .string x3, .string x4] 25)) _ (fun i x hx => by simp at hx) hLt (fun b hb => by rcases hb with hb | hb; exact hb.elim; simp only [World.size_alloc]; exact hb)
  have he0 : idl [] [(⟨x1, x2, x3, x4⟩ : C)] ([] : List (C × O)).length = [] := rfl
  rw [he0] at hid
  refine ⟨trivial, (callsIn_wide.2 hid).mono ?_⟩
  rintro e w11 ⟨v, rfl, ho, hb11⟩
  obtain ⟨A, cA, rfl, _⟩ := own_form ho
  have hx11 : Below w10.heap.size w10 w11 := ((Below.refl w10.heap.size w10).alloc (Nat.le_refl _) (.cells #[.string x1, .string x2, .string x3, .string x4] 25)).trans (hb11.mono (by simp))
  have hs11 := hx11.size
  have hb111 : Below w1.heap.size w1 w11 := hb110.trans (hx11.mono (by have := hb110.size; omega))
  have gRz := blk_below gR.out hb111 (by omega)
  have jf := blk_frozen gRz 0
  have j0 := cell_of_row w11 (w.heap.size + 1) 0 _ _ (0, 0) gRz
  have hl1 := blk_lt hKD1
  have hl2 := blk_lt hKD2
  have k2 : (w11.setCell ⟨w.heap.size + 1, 0, none⟩ (.bool true)).heap[D2]? = some (.deferred (some [])) := blk_far (a := ⟨w.heap.size + 1, 0, none⟩) (blk_below hKD2 hx11 hl2) (show D2 ≠ w.heap.size + 1 by omega) _
  have k1 : (w11.setCell ⟨w.heap.size + 1, 0, none⟩ (.bool true)).heap[D1]? = some (.deferred (some [])) := blk_far (a := ⟨w.heap.size + 1, 0, none⟩) (blk_below (blk_below hKD1 hww10 hl1) hx11 (by omega)) (show D1 ≠ w.heap.size + 1 by omega) _
  have gS : (w11.setCell ⟨w.heap.size + 1, 0, none⟩ (.bool true)).heap[w.heap.size + 1]? = some (.cells #[.bool true] 4 (0, 0)) := by simpa using blk_set gRz 0 (.bool true)
  have hbz : Below w.heap.size w (w11.setCell ⟨w.heap.size + 1, 0, none⟩ (.bool true)) := (hb01.trans (hb111.mono (by omega))).setCell (show w.heap.size ≤ w.heap.size + 1 by omega) _
  clear hid hLt ho gRz m0 m1 m2 m3
  gi_wp2_with fail
  generalize (w11.setCell ⟨w.heap.size + 1, 0, none⟩ (.bool true)) = wz at *
  have k1' : (wz.putObj D2 (.deferred none)).heap[D1]? = some (.deferred (some [])) := (World.putObj_heap_other (by omega)).trans k1
  have gX : ((wz.putObj D2 (.deferred none)).putObj D1 (.deferred none)).heap[w.heap.size + 1]? = some (.cells #[.bool true] 4 (0, 0)) := ((World.putObj_heap_other (by omega)).trans (World.putObj_heap_other (by omega))).trans gS
  have cX := cell_of_row _ (w.heap.size + 1) 0 _ _ (0, 0) gX
  have hbX : Below w.heap.size w ((wz.putObj D2 (.deferred none)).putObj D1 (.deferred none)) := (hbz.trans (belowK_b (w := w) (Nat.le_refl _) wz D2 _ _ (by omega) k2 rfl rfl)).trans (belowK_b (w := w) (Nat.le_refl _) _ D1 _ _ (by omega) k1' rfl rfl)
  refine ⟨by simp, .inl ⟨_, _, rfl, run_takeDeferred k2, by simp, .inl ⟨_, _, rfl, run_takeDeferred k1', ?_⟩⟩⟩
  refine ⟨.bool true, ?_, rfl, hbX⟩
  simp [results, Try.f8, go_sem, cX]
end Go.Proofs.Ytmicjfdibhoamaa.val
