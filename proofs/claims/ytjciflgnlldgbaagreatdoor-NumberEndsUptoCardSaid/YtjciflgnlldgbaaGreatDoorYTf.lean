/- toFloat, walked at '-12.5e1'; Copysign. -/
import Derived.Test.YtjciflgnlldgbaaGreatDoorGAp
import Derived.Test.YtjciflgnlldgbaaGreatDoorGSq
import Derived.Test.YtjciflgnlldgbaaGreatDoorYCls
import Derived.Test.YtjciflgnlldgbaaGreatDoorGEt
import Derived.Deep.QuietTactic
import Derived.BigQuiet
import Derived.Deep.RegionLaw
namespace Go.Proofs.YtjciflgnlldgbaaGreatDoor.pg
open Go.RowKit mem fl big us uw
set_option linter.unusedVariables false

theorem sign_lit : bits .and .u64 13830554455654793216 9223372036854775808 = 9223372036854775808 := by decide
theorem or_sign (a : Nat) (ha : a < 9223372036854775808) : bits .or .u64 (a : Int) 9223372036854775808 = ((a + 9223372036854775808 : Nat) : Int) := by
  have := or_join' 9223372036854775808 a 63 (by decide) (by omega) (by decide) (by omega)
  exact this
set_option maxRecDepth 100000 in
theorem copysign_neg (a : Nat) (w : World) (ha : a < 9223372036854775808) : Calls Tryz.prog 38 #[.float .f64 a, .float .f64 13830554455654793216] w fun e w' => e = .returned (.float .f64 (a + sgn true)) ∧ w = w' := by
  have h1 := clear_sign false a ha
  rw [show a + sgn false = a from rfl] at h1
  have h2 := or_sign a ha
  obtain ⟨Z, hZ⟩ : ∃ Z : Int, Z = 9223372036854775808 := ⟨_, rfl⟩
  have h3 := sign_lit
  obtain ⟨W, hW⟩ : ∃ W : Nat, a + 9223372036854775808 = W := ⟨_, rfl⟩
  rw [hW] at h2
  have HW := Lib.hid hW
  clear hW ha hZ
  go_enter Tryz.func38, Tryz.ntmps38
  go_wp2_with fail
  rw [run_f64bits]
  go_wp2_with fail
  rw [run_f64bits]
  go_wp2_with fail
  rw [run_f64from]
  go_wp2_with fail
  go_ret
  refine ⟨?_, rfl⟩
  rw [show a + sgn true = W from HW.out]
  rfl
def txtA : ByteArray := ⟨#[45, 49, 50, 46, 53, 101, 49]⟩
theorem natsA : nats txtA = [45, 49, 50, 46, 53, 101, 49] := by decide
theorem spA : spB (nats txtA) = [49, 50, 53] ∧ spX (nats txtA) = 3 := by rw [natsA]; decide
/-- the text that is handed on -/
def txtB : ByteArray := ⟨#[48, 46, 49, 50, 53, 101, 51]⟩
theorem natsB : nats txtB = rfT [49, 50, 53] (dgs 3) := by decide
theorem parseB (f : Nat) (hf : floatOfInt FloatKind.f64 ((125 : Nat) : Int) = f) (w : World) (hi : InfoAt w) (ho : OptAt w) : Calls Tryz.prog 36 #[.string txtB, .int .i64 64] w fun e w' => e = .returned (.tuple #[.float .f64 f, .nilIface]) ∧ w' = w := by
  have hr := rf_pos txtB [49, 50, 53] 3 3 w natsB rfl (by decide) (by decide) (by intro c hc; simp at hc; omega) (by decide) (by decide)
  have hm : rfM [49, 50, 53] = 125 := by decide
  have ht : rfTr [49, 50, 53] = false := by decide
  rw [hm, ht] at hr
  exact parse_exact txtB f w (atof_exact txtB 125 f 0 w (by decide) (by decide) (by decide) (by decide) (by decide) (by decide) ho hr (ax_zero 125 f w (by decide) hi hf))
set_option maxRecDepth 100000 in
set_option maxHeartbeats 4000000 in
theorem toFloatA (f : Nat) (hf : floatOfInt FloatKind.f64 ((125 : Nat) : Int) = f) (hfb : f < 9223372036854775808) (w : World) (hz : 13 < w.heap.size) (hi : InfoAt w) (ho : OptAt w) :
    Calls Tryz.prog 20 #[.string txtA] w fun e w' => e = .returned (.float .f64 (f + sgn true)) ∧ Below w.heap.size w w' := by
  have hsp := split_neg txtA w (by decide) (by decide) (by rw [natsA]; decide) (by rw [natsA]; rfl)
  unfold SpPost at hsp
  rw [spA.1, spA.2, show decide ((nats txtA).head? = some 45) = true by rw [natsA]; decide] at hsp
  have HSp := Lib.hid hsp
  have HP := Lib.hid (fun w hi ho => parseB f hf w hi ho)
  have HC := Lib.hid (fun w => copysign_neg f w hfb)
  have HI := Lib.hid (And.intro hi ho)
  obtain ⟨T, hT⟩ : ∃ T, txtA = T := ⟨_, rfl⟩
  rw [hT] at HSp ⊢
  clear hsp hf hi ho hT
  go_enter Tryz.func20, Tryz.ntmps20
  go_wp2_with fail
  refine HSp.out.mono ?_
  rintro e w4 ⟨A, c, rfl, hr, hb4⟩
  rw [show ([49, 50, 53] : List Nat).length = 3 from rfl]
  have hcv : ∀ q, (convert 45 9 (.slice A 3 c)).run Tryz.prog ((w4.alloc (.cells #[.bool true, .slice A 3 c, .int .i64 3] 65)).drewN q) = .ok (.string ⟨#[49, 50, 53]⟩) ((w4.alloc (.cells #[.bool true, .slice A 3 c, .int .i64 3] 65)).drewN q) := fun q =>
    conv_bytes (w := (w4.alloc (.cells #[.bool true, .slice A 3 c, .int .i64 3] 65)).drewN q) A [49, 50, 53] c (hr.below (below_drewN ((Below.refl _ _).alloc (Nat.le_refl _) _) q))
  have hb5 : Below w.heap.size w (w4.alloc (.cells #[.bool true, .slice A 3 c, .int .i64 3] 65)) := hb4.alloc hb4.size _
  have hg5 := heap_alloc_new w4 (.cells #[.bool true, .slice A 3 c, .int .i64 3] 65)
  have m0 := blk_cell hg5 (i := 0) (by simp)
  have m1 := blk_cell hg5 (i := 1) (by simp)
  have m2 := blk_cell hg5 (i := 2) (by simp)
  simp only [List.getElem_toArray, List.getElem_cons_zero, List.getElem_cons_succ] at m0 m1 m2
  have HB5 := Lib.hid hb5
  clear hb5 hb4 hr hg5
  have hcv1 := hcv 1
  have hcv0 := hcv 0
  rw [World.drewN_zero] at hcv0
  rw [← World.drew_is_drewN] at hcv1
  clear hcv
  go_wp2_with fail
  generalize w4.alloc (.cells #[.bool true, .slice A 3 c, .int .i64 3] 65) = w5 at *
  have hdd : (⟨(Lib.decDigits 3).toArray⟩ : ByteArray) = ⟨#[51]⟩ := by rw [Lib.decDigits_eq, Lib.nDigits_small (by decide)]; rfl
  have HIt := Lib.hid (fun w => shelf.strconv_Itoa_small 3 (by decide) w)
  rw [hdd] at HIt
  have HP2 : Hid (∀ w, InfoAt w → OptAt w → Calls Tryz.prog 36 #[.string (⟨#[48, 46]⟩ ++ ⟨#[49, 50, 53]⟩ ++ ⟨#[101]⟩ ++ ⟨#[51]⟩), .int .i64 64] w fun e w' => e = .returned (.tuple #[.float .f64 f, .nilIface]) ∧ w' = w) := Lib.hid (by
    rw [show ((⟨#[48, 46]⟩ ++ ⟨#[49, 50, 53]⟩ ++ ⟨#[101]⟩ ++ ⟨#[51]⟩ : ByteArray)) = txtB by decide]
    exact HP.out)
  have hi5 : InfoAt w5 := by
    have := HI.out.1
    unfold InfoAt at this ⊢
    exact (HB5.out.cell (p := ⟨6, 0, none⟩) (by simp; omega)).trans this
  have ho5 : OptAt w5 := by
    have := HI.out.2
    unfold OptAt at this ⊢
    exact (HB5.out.cell (p := ⟨3, 0, none⟩) (by simp; omega)).trans this
  have HI5 : Hid (InfoAt w5.drew ∧ OptAt w5.drew) := Lib.hid ⟨hi5, ho5⟩
  clear hi5 ho5 HP HI hdd
  go_region_law (first
    | (go_simp; go_at_call 37; go_must (refine (HIt.out _).mono ?_; rintro e6 w6 ⟨rfl, rfl⟩))
    | (go_simp; go_at_call 36; go_must (refine (HP2.out _ HI5.out.1 HI5.out.2).mono ?_; rintro e7 w7 ⟨rfl, rfl⟩)))
  all_goals
    go_wp2_with fail
    refine (HC.out _).mono ?_
    rintro e8 w8 ⟨rfl, rfl⟩
    go_wp2_with fail
    go_ret
    exact ⟨rfl, HB5.out.drew⟩
end Go.Proofs.YtjciflgnlldgbaaGreatDoor.pg
