/- number.Read, walked at the texts that 'fixed' reads. -/
import Derived.Test.YtjciflgnlldgbaaGreatDoorYTf
import Derived.Test.YtjciflgnlldgbaaGreatDoorGPfp
namespace Go.Proofs.YtjciflgnlldgbaaGreatDoor.pg
open Go.RowKit mem fl big us uw
set_option linter.unusedVariables false
attribute [local go_sem] run_store_float

/-- a text's bytes as ints -/
def intsOf (s : ByteArray) : List Int := (nats s).map fun n : Nat => (n : Int)
theorem below_bytes (w : World) (e : TypeId) (s : ByteArray) : Below w.heap.size w (Lib.bytesWorld w e s) :=
  ⟨rfl, rfl, rfl, by rw [Lib.bytesWorld_size]; omega, fun k hk => Lib.bytesWorld_at_old w e s k hk⟩
theorem bytes_rd (w : World) (e : TypeId) (s : ByteArray) : Rd (Lib.bytesWorld w e s) (w.heap.size + 1) (some ⟨w.heap.size, 0, none⟩) ((intsOf s).map (.int .u8)) := by
  intro j u hu
  refine ⟨_, rfl, by simp, ?_⟩
  rw [add_zero_off]
  simp only [intsOf, nats, List.map_map, List.getElem?_map, Option.map_eq_some_iff] at hu
  obtain ⟨b, hb, rfl⟩ := hu
  have hj : j < s.data.toList.length := (List.getElem?_eq_some_iff.1 hb).1
  rw [Lib.bytesWorld_cell w e s j (by rw [Lib.size_eq]; exact hj), List.getD_eq_getElem?_getD, hb]
  rfl
/-- what 'Prefix' says of a text's bytes, behind the conversion -/
theorem prefix_text (s : ByteArray) (w : World) (hn : s.size ≤ 1100000) (c : Nat) : Calls Tryz.prog 15 #[.slice (some ⟨w.heap.size, 0, none⟩) s.size c, .int .i64 0] (Lib.bytesWorld w 5 s)
    fun e w' => e = .returned (.tuple #[.int .i64 (pfx.pf (intsOf s) 0).1, .int .i64 (pfx.pf (intsOf s) 0).2.1, .int .i64 (pfx.pf (intsOf s) 0).2.2]) ∧ Lib.bytesWorld w 5 s = w' := by
  have h := pfx.prefix_any (some ⟨w.heap.size, 0, none⟩) c (intsOf s) 0 _ _ (bytes_rd w 5 s) (by simp [intsOf, nats_length]; omega) (by
    intro x hx
    simp only [intsOf, nats, List.map_map, List.mem_map, Function.comp] at hx
    obtain ⟨b, _, rfl⟩ := hx
    have := b.toNat_lt
    omega) (by omega)
  rwa [show (intsOf s).length = s.size by simp [intsOf, nats_length]] at h
/-- the answer's block when the answer is laid -/
theorem num_cells {wr : World} {g : Nat} {v0 v1 v2 : Value} (h : wr.heap[g]? = some (.cells #[.int .i64 0, .int .i64 0, .float .f64 0] 27 (0, 0))) :
    (((wr.setCell ⟨g, 0, none⟩ v0).setCell ⟨g, 1, none⟩ v1).setCell ⟨g, 2, none⟩ v2).heap[g]? = some (.cells #[v0, v1, v2] 27 (0, 0)) := by
  have := blk_set (blk_set (blk_set h 0 v0) 1 v1) 2 v2
  simpa using this
set_option maxRecDepth 100000 in
set_option maxHeartbeats 4000000 in
theorem readA (f : Nat) (hf : floatOfInt FloatKind.f64 ((125 : Nat) : Int) = f) (hfb : f < 9218868437227405312) (w : World) (hz : 13 < w.heap.size) (hi : InfoAt w) (ho : OptAt w) :
    Calls Tryz.prog 8 #[.string txtA] w fun e w' => e = .returned (.tuple #[.agg #[.int .i64 3, .int .i64 0, .float .f64 (f + sgn true)], .int .i64 0]) ∧ Below w.heap.size w w' := by
  have HT := Lib.hid (fun w hz hi ho => toFloatA f hf (by omega) w hz hi ho)
  have HI := Lib.hid (And.intro hi ho)
  have HInf := Lib.hid (fun w => isInf_any true f w (by omega))
  rw [show decide (f = 9218868437227405312) = false by simp; omega] at HInf
  have hp := prefix_text txtA (w.alloc (.cells #[.int .i64 0, .int .i64 0, .float .f64 0] 27)) (by decide)
  rw [show pfx.pf (intsOf txtA) 0 = (7, 7, 2) by unfold intsOf; rw [natsA]; decide] at hp
  have HP := Lib.hid hp
  clear hp hi ho hf hfb
  have hcv : ∀ w : World, (convert 9 45 (.string txtA)).run Tryz.prog w = _ := fun w => Lib.run_convert_string_bytes w 9 45 5 txtA Tryz.underlying9 Tryz.underlying45 Tryz.underlying5
  have hsz : txtA.size = 7 := by decide
  rw [hsz] at hcv
  have HB := Lib.hid (fun w => below_bytes w 5 txtA)
  obtain ⟨T, hT⟩ : ∃ T, txtA = T := ⟨_, rfl⟩
  rw [hT] at HT HP hcv hsz HB ⊢
  clear hT
  rw [hsz, show (w.alloc (.cells #[.int .i64 0, .int .i64 0, .float .f64 0] 27)).heap.size = w.heap.size + 1 by simp] at HP
  go_enter Tryz.func8, Tryz.ntmps8
  go_wp2_with fail
  refine (HP.out _).mono ?_
  rintro e w1 ⟨rfl, rfl⟩
  have hg1 : (Lib.bytesWorld (w.alloc (.cells #[.int .i64 0, .int .i64 0, .float .f64 0] 27)) 5 T).heap[w.heap.size]? = some (.cells #[.int .i64 0, .int .i64 0, .float .f64 0] 27) := (Lib.bytesWorld_at_old _ _ _ _ (by simp)).trans (heap_alloc_new w _)
  have hb1 : Below w.heap.size w (Lib.bytesWorld (w.alloc (.cells #[.int .i64 0, .int .i64 0, .float .f64 0] 27)) 5 T) := ((Below.refl _ _).alloc (Nat.le_refl _) _).trans ((HB.out _).mono (by simp))
  have hs1 : w.heap.size < (Lib.bytesWorld (w.alloc (.cells #[.int .i64 0, .int .i64 0, .float .f64 0] 27)) 5 T).heap.size := by rw [Lib.bytesWorld_size]; simp; omega
  clear hcv HP HB
  generalize Lib.bytesWorld (w.alloc (.cells #[.int .i64 0, .int .i64 0, .float .f64 0] 27)) 5 T = w1 at *
  have HB1 := Lib.hid hb1
  have HG1 := Lib.hid hg1
  clear hb1 hg1
  go_wp2_with fail
  refine (HT.out w1 (by omega) ?hi ?ho).mono ?_
  case hi =>
    have := HI.out.1
    unfold InfoAt at this ⊢
    exact (HB1.out.cell (p := ⟨6, 0, none⟩) (by simp; omega)).trans this
  case ho =>
    have := HI.out.2
    unfold OptAt at this ⊢
    exact (HB1.out.cell (p := ⟨3, 0, none⟩) (by simp; omega)).trans this
  rintro e w2 ⟨rfl, hb2⟩
  have hg2 := (hb2.block _ hs1).trans HG1.out
  have HB2 := Lib.hid (HB1.out.trans (hb2.mono (Nat.le_of_lt hs1)))
  clear hb2 HG1 HB1
  go_wp2_with fail
  refine (HInf.out _).mono ?_
  rintro e w3 ⟨rfl, rfl⟩
  have z0 := blk_frozen hg2 0
  have z1 := blk_frozen hg2 1
  have z2 := blk_frozen hg2 2
  have y0 := blk_cell hg2 (i := 0) (by simp)
  have y1 := blk_cell hg2 (i := 1) (by simp)
  have y2 := blk_cell hg2 (i := 2) (by simp)
  simp at y0 y1 y2
  have HG2 := Lib.hid hg2
  clear hg2
  go_wp2_with fail
  have hfc := num_cells (v0 := .int .i64 3) (v1 := .int .i64 0) (v2 := .float .f64 (f + sgn true)) HG2.out
  have r0 := blk_cell hfc (i := 0) (by simp)
  have r1 := blk_cell hfc (i := 1) (by simp)
  have r2 := blk_cell hfc (i := 2) (by simp)
  simp only [List.getElem_toArray, List.getElem_cons_zero, List.getElem_cons_succ] at r0 r1 r2
  refine bodyPost_ret (v := .tuple #[.agg #[.int .i64 3, .int .i64 0, .float .f64 (f + sgn true)], .int .i64 0]) (by simp [results, Tryz.results8, go_sem, r0, r1, r2]) rfl ⟨rfl, ?_⟩
  exact ((HB2.out.setCell (by simp) _).setCell (by simp) _).setCell (by simp) _
def txtC : ByteArray := ⟨#[57, 48, 55]⟩
theorem natsC : nats txtC = [57, 48, 55] := by decide
set_option maxRecDepth 100000 in
set_option maxHeartbeats 4000000 in
theorem readC (w : World) :
    Calls Tryz.prog 8 #[.string txtC] w fun e w' => e = .returned (.tuple #[.agg #[.int .i64 2, .int .i64 907, .float .f64 0], .int .i64 0]) ∧ Below w.heap.size w w' := by
  have HT := Lib.hid (fun w => shelf.strconv_ParseInt_10_at64_ok txtC (by decide) 907 (by decide) w)
  have hp := prefix_text txtC (w.alloc (.cells #[.int .i64 0, .int .i64 0, .float .f64 0] 27)) (by decide)
  rw [show pfx.pf (intsOf txtC) 0 = (3, 3, 1) by unfold intsOf; rw [natsC]; decide] at hp
  have HP := Lib.hid hp
  clear hp
  have hcv : ∀ w : World, (convert 9 45 (.string txtC)).run Tryz.prog w = _ := fun w => Lib.run_convert_string_bytes w 9 45 5 txtC Tryz.underlying9 Tryz.underlying45 Tryz.underlying5
  have hsz : txtC.size = 3 := by decide
  rw [hsz] at hcv
  have HB := Lib.hid (fun w => below_bytes w 5 txtC)
  have HB5 := Lib.hid (fun w t => below_bytes w 5 t)
  obtain ⟨T, hT⟩ : ∃ T, txtC = T := ⟨_, rfl⟩
  rw [hT] at HT HP hcv hsz HB ⊢
  clear hT
  rw [hsz, show (w.alloc (.cells #[.int .i64 0, .int .i64 0, .float .f64 0] 27)).heap.size = w.heap.size + 1 by simp] at HP
  go_enter Tryz.func8, Tryz.ntmps8
  go_wp2_with fail
  refine (HP.out _).mono ?_
  rintro e w1 ⟨rfl, rfl⟩
  have hg1 : (Lib.bytesWorld (w.alloc (.cells #[.int .i64 0, .int .i64 0, .float .f64 0] 27)) 5 T).heap[w.heap.size]? = some (.cells #[.int .i64 0, .int .i64 0, .float .f64 0] 27) := (Lib.bytesWorld_at_old _ _ _ _ (by simp)).trans (heap_alloc_new w _)
  have hb1 : Below w.heap.size w (Lib.bytesWorld (w.alloc (.cells #[.int .i64 0, .int .i64 0, .float .f64 0] 27)) 5 T) := ((Below.refl _ _).alloc (Nat.le_refl _) _).trans ((HB.out _).mono (by simp))
  have hs1 : w.heap.size < (Lib.bytesWorld (w.alloc (.cells #[.int .i64 0, .int .i64 0, .float .f64 0] 27)) 5 T).heap.size := by rw [Lib.bytesWorld_size]; simp; omega
  clear hcv HP HB
  generalize Lib.bytesWorld (w.alloc (.cells #[.int .i64 0, .int .i64 0, .float .f64 0] 27)) 5 T = w1 at *
  have HB1 := Lib.hid hb1
  have HG1 := Lib.hid hg1
  clear hb1 hg1
  go_wp2_with fail
  refine (HT.out w1).mono ?_
  rintro e w2 ⟨rfl, hw2⟩
  have hb2 : Below w1.heap.size w1 w2 := by
    rcases hw2 with rfl | ⟨t, rfl⟩
    · exact Below.refl _ _
    · exact HB5.out _ _
  clear hw2
  have hg2 := (hb2.block _ hs1).trans HG1.out
  have HB2 := Lib.hid (HB1.out.trans (hb2.mono (Nat.le_of_lt hs1)))
  clear hb2 HG1 HB1
  have z0 := blk_frozen hg2 0
  have z1 := blk_frozen hg2 1
  have z2 := blk_frozen hg2 2
  have y0 := blk_cell hg2 (i := 0) (by simp)
  have y1 := blk_cell hg2 (i := 1) (by simp)
  have y2 := blk_cell hg2 (i := 2) (by simp)
  simp at y0 y1 y2
  have HG2 := Lib.hid hg2
  clear hg2
  go_wp2_with fail
  have hfc := num_cells (v0 := .int .i64 2) (v1 := .int .i64 907) (v2 := .float .f64 0) HG2.out
  have r0 := blk_cell hfc (i := 0) (by simp)
  have r1 := blk_cell hfc (i := 1) (by simp)
  have r2 := blk_cell hfc (i := 2) (by simp)
  simp only [List.getElem_toArray, List.getElem_cons_zero, List.getElem_cons_succ] at r0 r1 r2
  refine bodyPost_ret (v := .tuple #[.agg #[.int .i64 2, .int .i64 907, .float .f64 0], .int .i64 0]) (by simp [results, Tryz.results8, go_sem, r0, r1, r2]) rfl ⟨rfl, ?_⟩
  exact ((HB2.out.setCell (by simp) _).setCell (by simp) _).setCell (by simp) _
end Go.Proofs.YtjciflgnlldgbaaGreatDoor.pg
