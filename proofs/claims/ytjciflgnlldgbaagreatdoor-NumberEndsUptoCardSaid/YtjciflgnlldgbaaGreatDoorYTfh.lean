/- toFloat, walked: of a number text of which no digit is cut off, either sign. -/
import Derived.Test.YtjciflgnlldgbaaGreatDoorYTfg
import Derived.Test.YtjciflgnlldgbaaGreatDoorGLs
namespace Go.Proofs.YtjciflgnlldgbaaGreatDoor.pg
open Go.RowKit mem fl big us uw
set_option linter.unusedVariables false

theorem cell_keep {w w' : World} (hb : Below w.heap.size w w') {p : Addr} {v : Value} (h : w.cell? p = some v) : w'.cell? p = some v := (hb.cell (World.block_lt_of_cell? w p h)).trans h
theorem infoAt_below {w w' : World} (h : InfoAt w) (hb : Below w.heap.size w w') : InfoAt w' := cell_keep hb h
theorem optAt_below {w w' : World} (h : OptAt w) (hb : Below w.heap.size w w') : OptAt w' := cell_keep hb h
theorem p10At_below {w w' : World} (h : P10At w) (hb : Below w.heap.size w w') : P10At w' := by
  obtain ⟨A, c, h1, h2, h3, h4⟩ := h
  exact ⟨A, c, cell_keep hb h1, h2, Nat.lt_of_lt_of_le h3 hb.size, fun k hk => cell_keep hb (h4 k hk)⟩
/-- the tables that reading and printing want -/
structure NEnv (w : World) : Prop where
  hi : InfoAt w
  ho : OptAt w
  p10 : P10At w
  pow : PowAt w
  lt : 13 < w.heap.size
  tab : Lib.TabIs Tryz.prog w "internal/strconv.uint64pow10" .u64 Lib.pow10Tab
theorem NEnv.below {w w' : World} (h : NEnv w) (hb : Below w.heap.size w w') : NEnv w' :=
  ⟨infoAt_below h.hi hb, optAt_below h.ho hb, p10At_below h.p10 hb, h.pow.below hb (by have := h.lt; omega), Nat.lt_of_lt_of_le h.lt hb.size, tab_below h.tab hb⟩
/-- what split answers, the pieces named -/
def SpAt (s : ByteArray) (neg : Bool) (D : List Nat) (x : Int) : Prop := ∀ w, Calls Tryz.prog 28 #[.string s] w fun e w' => ∃ (A : Option Addr) (c : Nat), e = .returned (.agg #[.bool neg, .slice A D.length c, .int .i64 x]) ∧ Rd w' w'.heap.size A (ns D) ∧ Below w.heap.size w w'
theorem spAt_pos {s : ByteArray} {D : List Nat} {x : Int} (h0 : 0 < s.size) (hn : s.size ≤ 1100000) (hE : ∀ k, k < s.size → isE ((nats s).getD k 0) = true → k + 1 < s.size) (h : SpOf (nats s) D x) : SpAt s false D x := fun w => by
  have := split_pos s w h0 hn hE h.2.2
  unfold SpPost at this
  rwa [h.1, h.2.1, show decide ((nats s).head? = some 45) = false from decide_eq_false h.2.2] at this
theorem spAt_neg {s : ByteArray} {T D : List Nat} {x : Int} (hT : nats s = 45 :: T) (h0 : 0 < s.size) (hn : s.size ≤ 1100000) (hE : ∀ k, k < s.size → isE ((nats s).getD k 0) = true → k + 1 < s.size) (h : SpOf T D x) : SpAt s true D x := fun w => by
  have e := spOf_neg h
  have := split_neg s w h0 hn hE (by rw [hT]; rfl)
  unfold SpPost at this
  rwa [hT, e.1, e.2.1, show decide ((45 :: T).head? = some 45) = true from decide_eq_true e.2.2] at this
theorem itoa_any (x : Int) (w : World) (h1 : -400 ≤ x) (h2 : x ≤ 400) (hE : NEnv w) : Calls Tryz.prog 37 #[.int .i64 x] w fun e w' => e = .returned (.string (strN (wtx x))) ∧ Below w.heap.size w w' := by
  have H := shelf.strconv_Itoa x (by omega) (by omega) w hE.tab
  rw [itoa_eq] at H
  refine H.mono fun e w' ⟨h, k, os, hw⟩ => ⟨h, ?_⟩
  rw [hw]
  exact Lib.below_grow w.heap.size w (Nat.le_refl _) k os
set_option maxRecDepth 100000 in
set_option maxHeartbeats 4000000 in
theorem toFloat_any {P : Nat} (hP : P = 2 ^ 1074) {s : ByteArray} {neg : Bool} {D : List Nat} {x : Int} {r : Nat} (hsp : SpAt s neg D x) (h : Tf P D x r) (w : World) (hE : NEnv w) :
    Calls Tryz.prog 20 #[.string s] w fun e w' => e = .returned (.float .f64 (r + sgn neg)) ∧ Below w.heap.size w w' := by
  have HSp := Lib.hid (hsp w)
  have HP := Lib.hid (fun w (hE : NEnv w) => parse_tf hP h w hE.ho hE.hi hE.p10 hE.pow (by have := hE.lt; omega))
  have HC := Lib.hid (fun w => copysign_neg r w (by have := h.fin; omega))
  have HE := Lib.hid hE
  have hx1 := h.lo
  have hx2 := h.hi
  have hk0 := h.ne
  have hk := h.le
  have hwl : (wtx x).length ≤ 20 := wtx_len x (by omega) (by omega)
  have HIt := Lib.hid (fun w (hE : NEnv w) => itoa_any x w (by omega) (by omega) hE)
  have HTE := Lib.hid (tfT_eq D x)
  clear hsp h hE hP
  go_enter Tryz.func20, Tryz.ntmps20
  go_wp2_with fail
  refine HSp.out.mono ?_
  rintro e w4 ⟨A, c, rfl, hr, hb4⟩
  have HCV : Hid (∀ W : World, Below (w4.heap.size + 1) (w4.alloc (.cells #[.bool neg, .slice A D.length c, .int .i64 x] 65)) W → (convert 45 9 (.slice A D.length c)).run Tryz.prog W = .ok (.string (strN D)) W) := Lib.hid fun W hW =>
    conv_bytes (w := W) A D c ((hr.below ((Below.refl _ _).alloc (Nat.le_refl _) (.cells #[.bool neg, .slice A D.length c, .int .i64 x] 65))).below (hW.mono (by omega)))
  have hz5 : (w4.alloc (.cells #[.bool neg, .slice A D.length c, .int .i64 x] 65)).heap.size = w4.heap.size + 1 := by simp
  have hb5 : Below w.heap.size w (w4.alloc (.cells #[.bool neg, .slice A D.length c, .int .i64 x] 65)) := hb4.alloc hb4.size _
  have hg5 := heap_alloc_new w4 (.cells #[.bool neg, .slice A D.length c, .int .i64 x] 65)
  have m0 := blk_cell hg5 (i := 0) (by simp)
  have m1 := blk_cell hg5 (i := 1) (by simp)
  have m2 := blk_cell hg5 (i := 2) (by simp)
  simp only [List.getElem_toArray, List.getElem_cons_zero, List.getElem_cons_succ] at m0 m1 m2
  have HB5 := Lib.hid hb5
  clear hb5 hb4 hr hg5
  have hk0' : ¬ ((D.length : Int) = 0) := by omega
  have hk0'' : ((D.length : Int) == 0) = false := beq_false_of_ne hk0'
  have hq1 : ¬ (x < -400) := by omega
  have hq2 : ¬ (400 < x) := by omega
  go_wp2_with fail
  generalize w4.alloc (.cells #[.bool neg, .slice A D.length c, .int .i64 x] 65) = w5 at *
  have HE5 : Hid (NEnv w5.drew) := Lib.hid ((HE.out.below HB5.out).below ((Below.refl _ _).drew))
  rw [← hz5] at HCV
  have hdr5 : Below w5.heap.size w5 w5.drew := (Below.refl _ _).drew
  have hcv0 := HCV.out w5 (Below.refl _ _)
  have hcv1 := HCV.out w5.drew hdr5
  have hsD : (strN D).size = D.length := strN_size D
  have hsX : (strN (wtx x)).size = (wtx x).length := strN_size _
  obtain ⟨SX, hSX⟩ : ∃ SX, strN (wtx x) = SX := ⟨_, rfl⟩
  obtain ⟨SD, hSD⟩ : ∃ SD, strN D = SD := ⟨_, rfl⟩
  obtain ⟨TT, hTT⟩ : ∃ TT, tfT D x = TT := ⟨_, rfl⟩
  rw [hSX] at HIt HTE hsX
  rw [hSD] at HTE hsD hcv0 hcv1 HCV
  rw [hTT] at HP HTE
  have hu1 : ∀ W : World, (Op.stringOp .add ⟨#[48, 46]⟩ SD).run Tryz.prog W = .ok (.string (⟨#[48, 46]⟩ ++ SD)) W := fun W => run_string_add_sum W _ _ (by show 2 + SD.size ≤ _; omega)
  have hu2 : ∀ W : World, (Op.stringOp .add (⟨#[48, 46]⟩ ++ SD) ⟨#[101]⟩).run Tryz.prog W = .ok (.string (⟨#[48, 46]⟩ ++ SD ++ ⟨#[101]⟩)) W := fun W => run_string_add_sum W _ _ (by rw [ByteArray.size_append]; show 2 + SD.size + 1 ≤ _; omega)
  have hu3 : ∀ W : World, (Op.stringOp .add (⟨#[48, 46]⟩ ++ SD ++ ⟨#[101]⟩) SX).run Tryz.prog W = .ok (.string TT) W := fun W => by
    rw [run_string_add_sum W _ _ (by rw [ByteArray.size_append, ByteArray.size_append]; show 2 + SD.size + 1 + SX.size ≤ _; omega), HTE.out]
  clear hSX hSD hTT HTE HE HSp
  have M1 := Lib.hid m1
  have M2 := Lib.hid m2
  have M0 := Lib.hid m0
  go_region_law (first
    | (go_simp; go_at_call 37; go_must (refine (HIt.out _ HE5.out).mono ?_; rintro e6 w6 ⟨rfl, hb6⟩; have hb6' : Below w5.heap.size w5 w6 := hdr5.trans hb6; have hcv6 := HCV.out w6 hb6'; have m06 := cell_keep hb6' M0.out; have m16 := cell_keep hb6' M1.out; have m26 := cell_keep hb6' M2.out))
    | (go_simp; go_at_call 36; go_must (refine (HP.out _ (HE5.out.below hb6)).mono ?_; rintro e7 w7 ⟨rfl, hb7⟩; have m07 := cell_keep hb7 m06)))
  all_goals
    have HB7 := Lib.hid (HB5.out.trans ((hb6'.trans (hb7.mono hb6'.size)).mono HB5.out.size))
    clear hcv6 m06 m16 m26 hb6 hb7 hb6' hcv0 hcv1 HCV HIt HP HE5 M0 M1 M2 hu1 hu2 hu3
    cases neg with
    | true =>
      go_wp2_with fail
      refine (HC.out _).mono ?_
      rintro e8 w8 ⟨rfl, rfl⟩
      go_wp2_with fail
      go_ret
      exact ⟨rfl, HB7.out⟩
    | false =>
      go_wp2_with fail
      go_ret
      exact ⟨rfl, HB7.out⟩
set_option maxRecDepth 100000 in
set_option maxHeartbeats 4000000 in
/-- .. of nought -/
theorem toFloat_zero {s : ByteArray} {neg : Bool} {x : Int} (hsp : SpAt s neg [] x) (w : World) (hE : NEnv w) :
    Calls Tryz.prog 20 #[.string s] w fun e w' => e = .returned (.float .f64 (0 + sgn neg)) ∧ Below w.heap.size w w' := by
  have HSp := Lib.hid (hsp w)
  have HC := Lib.hid (fun w => copysign_neg 0 w (by omega))
  clear hsp hE
  go_enter Tryz.func20, Tryz.ntmps20
  go_wp2_with fail
  refine HSp.out.mono ?_
  rintro e w4 ⟨A, c, rfl, hr, hb4⟩
  have hb5 : Below w.heap.size w (w4.alloc (.cells #[.bool neg, .slice A 0 c, .int .i64 x] 65)) := hb4.alloc hb4.size _
  have hg5 := heap_alloc_new w4 (.cells #[.bool neg, .slice A 0 c, .int .i64 x] 65)
  have m0 := blk_cell hg5 (i := 0) (by simp)
  have m1 := blk_cell hg5 (i := 1) (by simp)
  have m2 := blk_cell hg5 (i := 2) (by simp)
  simp only [List.getElem_toArray, List.getElem_cons_zero, List.getElem_cons_succ] at m0 m1 m2
  have HB5 := Lib.hid hb5
  clear hb5 hb4 hr hg5
  cases neg with
  | true =>
    go_wp2_with fail
    refine (HC.out _).mono ?_
    rintro e8 w8 ⟨rfl, rfl⟩
    go_wp2_with fail
    go_ret
    exact ⟨rfl, HB5.out⟩
  | false =>
    go_wp2_with fail
    go_ret
    exact ⟨rfl, HB5.out⟩
end Go.Proofs.YtjciflgnlldgbaaGreatDoor.pg
