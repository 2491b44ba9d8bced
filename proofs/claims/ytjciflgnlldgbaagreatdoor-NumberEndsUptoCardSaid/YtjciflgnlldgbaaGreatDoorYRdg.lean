/- number.Read, walked: of a number text of either form. -/
import Derived.Test.YtjciflgnlldgbaaGreatDoorYRe
import Derived.Test.YtjciflgnlldgbaaGreatDoorYTfh
namespace Go.Proofs.YtjciflgnlldgbaaGreatDoor.pg
open Go.RowKit mem fl big us uw
set_option linter.unusedVariables false
attribute [local go_sem] run_store_float

set_option maxRecDepth 100000 in
set_option maxHeartbeats 4000000 in
theorem read_frac (T : ByteArray) (n r : Nat) (neg : Bool) (hsz : T.size = n) (hn : n ≤ 1100000) (hpf : pfx.pf (intsOf T) 0 = ((n : Int), (n : Int), 2)) (hr : r < 9218868437227405312)
    (hT : ∀ w, NEnv w → Calls Tryz.prog 20 #[.string T] w fun e w' => e = .returned (.float .f64 (r + sgn neg)) ∧ Below w.heap.size w w') (w : World) (hE : NEnv w) :
    Calls Tryz.prog 8 #[.string T] w fun e w' => e = .returned (.tuple #[.agg #[.int .i64 3, .int .i64 0, .float .f64 (r + sgn neg)], .int .i64 0]) ∧ Below w.heap.size w w' := by
  have HT := Lib.hid hT
  have HE := Lib.hid hE
  have HInf := Lib.hid (fun w => isInf_any neg r w (by omega))
  rw [show decide (r = 9218868437227405312) = false by simp; omega] at HInf
  have hp := prefix_text T (w.alloc (.cells #[.int .i64 0, .int .i64 0, .float .f64 0] 27)) (by omega)
  rw [hpf] at hp
  have HP := Lib.hid hp
  clear hp hE hT hpf hr
  have hcv : ∀ w : World, (convert 9 45 (.string T)).run Tryz.prog w = _ := fun w => Lib.run_convert_string_bytes w 9 45 5 T Tryz.underlying9 Tryz.underlying45 Tryz.underlying5
  rw [hsz] at hcv
  have HB := Lib.hid (fun w => below_bytes w 5 T)
  have hnn : ((n : Int) != n) = false := by simp
  have hnn2 : ((n : Int) == n) = true := by simp
  rw [hsz, show (w.alloc (.cells #[.int .i64 0, .int .i64 0, .float .f64 0] 27)).heap.size = w.heap.size + 1 by simp] at HP
  go_enter Tryz.func8, Tryz.ntmps8
  go_wp2_with fail
  refine (HP.out _).mono ?_
  rintro e w1 ⟨rfl, rfl⟩
  have hg1 : (Lib.bytesWorld (w.alloc (.cells #[.int .i64 0, .int .i64 0, .float .f64 0] 27)) 5 T).heap[w.heap.size]? = some (.cells #[.int .i64 0, .int .i64 0, .float .f64 0] 27) := (Lib.bytesWorld_at_old _ _ _ _ (by simp)).trans (heap_alloc_new w _)
  have hb1 : Below w.heap.size w (Lib.bytesWorld (w.alloc (.cells #[.int .i64 0, .int .i64 0, .float .f64 0] 27)) 5 T) := ((Below.refl _ _).alloc (Nat.le_refl _) _).trans ((HB.out _).mono (by simp))
  have hs1 : w.heap.size < (Lib.bytesWorld (w.alloc (.cells #[.int .i64 0, .int .i64 0, .float .f64 0] 27)) 5 T).heap.size := by rw [Lib.bytesWorld_size]; simp; omega
  clear hcv HP HB
  generalize Lib.bytesWorld (w.alloc (.cells #[.int .i64 0, .int .i64 0, .float .f64 0] 27)) 5 T = w1 at *
  have HB1 := Lib.hid hb1
  have HG1 := Lib.hid hg1
  clear hb1 hg1
  go_wp2_with fail
  refine (HT.out w1 (HE.out.below HB1.out)).mono ?_
  rintro e w2 ⟨rfl, hb2⟩
  have hg2 := (hb2.block _ hs1).trans HG1.out
  have HB2 := Lib.hid (HB1.out.trans (hb2.mono (Nat.le_of_lt hs1)))
  clear hb2 HG1 HB1
  go_wp2_with fail
  refine (HInf.out _).mono ?_
  rintro e w3 ⟨rfl, rfl⟩
  have z0 := blk_frozen hg2 0
  have z1 := blk_frozen hg2 1
  have z2 := blk_frozen hg2 2
  have y0 := blk_cell hg2 (i := 0) (by simp)
  have y1 := blk_cell hg2 (i := 1) (by simp)
  have y2 := blk_cell hg2 (i := 2) (by simp)
  simp at y0 y1 y2
  have HG2 := Lib.hid hg2
  clear hg2
  go_wp2_with fail
  have hfc := num_cells (v0 := .int .i64 3) (v1 := .int .i64 0) (v2 := .float .f64 (r + sgn neg)) HG2.out
  have r0 := blk_cell hfc (i := 0) (by simp)
  have r1 := blk_cell hfc (i := 1) (by simp)
  have r2 := blk_cell hfc (i := 2) (by simp)
  simp only [List.getElem_toArray, List.getElem_cons_zero, List.getElem_cons_succ] at r0 r1 r2
  refine bodyPost_ret (v := .tuple #[.agg #[.int .i64 3, .int .i64 0, .float .f64 (r + sgn neg)], .int .i64 0]) (by simp [results, Tryz.results8, go_sem, r0, r1, r2]) rfl ⟨rfl, ?_⟩
  exact ((HB2.out.setCell (by simp) _).setCell (by simp) _).setCell (by simp) _
set_option maxRecDepth 100000 in
set_option maxHeartbeats 4000000 in
theorem read_whole (T : ByteArray) (n : Nat) (v : Int) (hsz : T.size = n) (hn : n ≤ 1100000) (hpf : pfx.pf (intsOf T) 0 = ((n : Int), (n : Int), 1))
    (hT : ∀ w : World, Calls Tryz.prog 19 #[.string T, .int .i64 10, .int .i64 64] w fun e w' => e = .returned (.tuple #[.int .i64 v, .nilIface]) ∧ (w' = w ∨ ∃ t, w' = Lib.bytesWorld w 5 t)) (w : World) :
    Calls Tryz.prog 8 #[.string T] w fun e w' => e = .returned (.tuple #[.agg #[.int .i64 2, .int .i64 v, .float .f64 0], .int .i64 0]) ∧ Below w.heap.size w w' := by
  have HT := Lib.hid hT
  have hp := prefix_text T (w.alloc (.cells #[.int .i64 0, .int .i64 0, .float .f64 0] 27)) (by omega)
  rw [hpf] at hp
  have HP := Lib.hid hp
  clear hp hT hpf
  have hcv : ∀ w : World, (convert 9 45 (.string T)).run Tryz.prog w = _ := fun w => Lib.run_convert_string_bytes w 9 45 5 T Tryz.underlying9 Tryz.underlying45 Tryz.underlying5
  rw [hsz] at hcv
  have HB := Lib.hid (fun w => below_bytes w 5 T)
  have HB5 := Lib.hid (fun w t => below_bytes w 5 t)
  have hnn : ((n : Int) != n) = false := by simp
  have hnn2 : ((n : Int) == n) = true := by simp
  rw [hsz, show (w.alloc (.cells #[.int .i64 0, .int .i64 0, .float .f64 0] 27)).heap.size = w.heap.size + 1 by simp] at HP
  go_enter Tryz.func8, Tryz.ntmps8
  go_wp2_with fail
  refine (HP.out _).mono ?_
  rintro e w1 ⟨rfl, rfl⟩
  have hg1 : (Lib.bytesWorld (w.alloc (.cells #[.int .i64 0, .int .i64 0, .float .f64 0] 27)) 5 T).heap[w.heap.size]? = some (.cells #[.int .i64 0, .int .i64 0, .float .f64 0] 27) := (Lib.bytesWorld_at_old _ _ _ _ (by simp)).trans (heap_alloc_new w _)
  have hb1 : Below w.heap.size w (Lib.bytesWorld (w.alloc (.cells #[.int .i64 0, .int .i64 0, .float .f64 0] 27)) 5 T) := ((Below.refl _ _).alloc (Nat.le_refl _) _).trans ((HB.out _).mono (by simp))
  have hs1 : w.heap.size < (Lib.bytesWorld (w.alloc (.cells #[.int .i64 0, .int .i64 0, .float .f64 0] 27)) 5 T).heap.size := by rw [Lib.bytesWorld_size]; simp; omega
  clear hcv HP HB
  generalize Lib.bytesWorld (w.alloc (.cells #[.int .i64 0, .int .i64 0, .float .f64 0] 27)) 5 T = w1 at *
  have HB1 := Lib.hid hb1
  have HG1 := Lib.hid hg1
  clear hb1 hg1
  go_wp2_with fail
  refine (HT.out w1).mono ?_
  rintro e w2 ⟨rfl, hw2⟩
  have hb2 : Below w1.heap.size w1 w2 := by
    rcases hw2 with rfl | ⟨t, rfl⟩
    · exact Below.refl _ _
    · exact HB5.out _ _
  clear hw2
  have hg2 := (hb2.block _ hs1).trans HG1.out
  have HB2 := Lib.hid (HB1.out.trans (hb2.mono (Nat.le_of_lt hs1)))
  clear hb2 HG1 HB1
  have z0 := blk_frozen hg2 0
  have z1 := blk_frozen hg2 1
  have z2 := blk_frozen hg2 2
  have y0 := blk_cell hg2 (i := 0) (by simp)
  have y1 := blk_cell hg2 (i := 1) (by simp)
  have y2 := blk_cell hg2 (i := 2) (by simp)
  simp at y0 y1 y2
  have HG2 := Lib.hid hg2
  clear hg2
  go_wp2_with fail
  have hfc := num_cells (v0 := .int .i64 2) (v1 := .int .i64 v) (v2 := .float .f64 0) HG2.out
  have r0 := blk_cell hfc (i := 0) (by simp)
  have r1 := blk_cell hfc (i := 1) (by simp)
  have r2 := blk_cell hfc (i := 2) (by simp)
  simp only [List.getElem_toArray, List.getElem_cons_zero, List.getElem_cons_succ] at r0 r1 r2
  refine bodyPost_ret (v := .tuple #[.agg #[.int .i64 2, .int .i64 v, .float .f64 0], .int .i64 0]) (by simp [results, Tryz.results8, go_sem, r0, r1, r2]) rfl ⟨rfl, ?_⟩
  exact ((HB2.out.setCell (by simp) _).setCell (by simp) _).setCell (by simp) _
end Go.Proofs.YtjciflgnlldgbaaGreatDoor.pg
