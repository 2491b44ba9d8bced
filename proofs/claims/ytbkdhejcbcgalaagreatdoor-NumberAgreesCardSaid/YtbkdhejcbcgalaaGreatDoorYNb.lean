/- NumberBack, walked. -/
import Derived.Test.YtbkdhejcbcgalaaGreatDoorYNbt
import Derived.Test.YtbkdhejcbcgalaaGreatDoorGFi
import Derived.Deep.RegionHeld3
import Derived.Deep.RegionLaw
namespace Go.Proofs.YtbkdhejcbcgalaaGreatDoor.pg
open Go.RowKit mem fl big us uw sh
set_option linter.unusedVariables false
attribute [local go_sem] run_store_float

def u64s (l : List Nat) : List Value := l.map fun x : Nat => .int .u64 (x : Int)
def i64s (l : List Int) : List Value := l.map (.int .i64)
theorem u64s_get {l : List Nat} {k : Nat} (h : k < l.length) : (u64s l)[k]? = some (.int .u64 (l.getD k 0 : Int)) := by
  unfold u64s
  rw [List.getElem?_map, List.getElem?_eq_getElem h, List.getD_eq_getElem?_getD, List.getElem?_eq_getElem h]
  rfl
theorem i64s_get {l : List Int} {k : Nat} (h : k < l.length) : (i64s l)[k]? = some (.int .i64 (l.getD k 0)) := by
  unfold i64s
  rw [List.getElem?_map, List.getElem?_eq_getElem h, List.getD_eq_getElem?_getD, List.getElem?_eq_getElem h]
  rfl
theorem half_of (x : Nat) (hx : x < 18446744073709551616) : ∃ (s : Bool) (a : Nat), x = a + sgn s ∧ a < 9223372036854775808 := by
  by_cases h : x < 9223372036854775808
  · exact ⟨false, x, by simp [sgn], h⟩
  · exact ⟨true, x - 9223372036854775808, by simp [sgn]; omega, by omega⟩
theorem tt_string {s : Bool} {a : Nat} {w w' : World} {e : Ending} (h : TtPost s a w e w') : ∃ S, e = .returned (.string S) ∧ Below w.heap.size w w' := by
  obtain ⟨hb, ⟨_, h⟩ | ⟨_, h⟩ | ⟨_, _, q, y, _, _, _, h⟩⟩ := h
  · exact ⟨_, h, hb⟩
  · exact ⟨_, h, hb⟩
  · exact ⟨_, h, hb⟩
set_option maxRecDepth 100000 in
set_option maxHeartbeats 4000000 in
theorem numberBack_any (A A' : Option Addr) (c c' n n' : Nat) (l : List Nat) (l' : List Int) (w : World) (hr : Rd w w.heap.size A (u64s l)) (hr' : Rd w w.heap.size A' (i64s l')) (hl : l.length = n) (hl' : l'.length = n')
    (hb : ∀ k, k < n → l.getD k 0 < 18446744073709551616) (hb' : ∀ k, k < n' → -9223372036854775808 ≤ l'.getD k 0 ∧ l'.getD k 0 ≤ 9223372036854775807) (hn : n ≤ 4611686018427387904) (hn' : n' ≤ 4611686018427387904) (hE : NEnv w) :
    Calls Tryz.prog 3 #[.slice A n c, .slice A' n' c'] w fun e w' => e = .returned (.bool true) ∧ Below w.heap.size w w' := by
  have hfrom := run_f64from
  have hbits := run_f64bits
  have HR := Lib.hid hr
  have HR' := Lib.hid hr'
  have HL := Lib.hid hl
  have HL' := Lib.hid hl'
  have HB := Lib.hid hb
  have HB' := Lib.hid hb'
  have HN := Lib.hid hn
  have HN' := Lib.hid hn'
  have HE := Lib.hid hE
  have HFx := Lib.hid (fixed_any w hE.lt hE.hi hE.ho hE.pow hE.tab)
  clear hr hr' hl hl' hb hb' hn hn' hE
  go_enter Tryz.func3, Tryz.ntmps3
  go_wp2_with fail
  refine HFx.out.mono ?_
  rintro e w1 ⟨rfl, hb1⟩
  have HBl := Lib.hid hb1
  clear hb1 HFx
  go_wp2_with fail
  go_loopw [5] (fun v5 wr => ∃ i : Nat, i ≤ n ∧ v5 = .int .i64 (i : Int) ∧ Hid (Below w.heap.size w wr)) (fun v5 _ => n - (intOf v5).toNat)
  case atStart => exact ⟨0, Nat.zero_le _, rfl, HBl⟩
  case round =>
    clear HBl
    obtain ⟨i, hi, rfl, hbl⟩ := hrel
    have HBl := Lib.hid hbl.out
    clear hbl
    by_cases hlt : i < n
    · obtain ⟨ad, rfl, hab, hc1⟩ := HR.out i _ (u64s_get (by rw [HL.out]; exact hlt))
      have hx := HB.out i hlt
      obtain ⟨x, hxx⟩ : ∃ x, l.getD i 0 = x := ⟨_, rfl⟩
      rw [hxx] at hx hc1
      obtain ⟨s, a, hxa, ha⟩ := half_of x hx
      have hcr := (HBl.out.cell (p := ad.add i) (by rw [add_block]; exact hab)).trans hc1
      have HKeep : Hid (∀ wx, Below w.heap.size w wx → wx.cell? (ad.add i) = some (.int .u64 (x : Int))) := Lib.hid (fun wx hb => (hb.cell (p := ad.add i) (by rw [add_block]; exact hab)).trans hc1)
      have HEr := Lib.hid (HE.out.below HBl.out)
      have HNaN := Lib.hid (fun w => isNaN_any s a w ha)
      have HTx := Lib.hid (fun w (hE : NEnv w) => text_any s a w ha hE.pow (by have := hE.lt; omega) hE.tab)
      have hnn := HN.out
      have hib : (i : Int) ≤ 4611686018427387904 := by omega
      have hilt : (i : Int) < (n : Int) := by omega
      clear hnn hx hc1
      by_cases hfin : a < 9218868437227405312
      · have HRd := Lib.hid (read_float s a hfin)
        have HInf := Lib.hid (fun w => isInf_any s a w (by omega))
        rw [decide_eq_false (show ¬ a = 9218868437227405312 by omega)] at HInf
        rw [decide_eq_false (show ¬ 9218868437227405312 < a by omega)] at HNaN
        rw [← hxa] at HRd HInf HNaN HTx
        clear hxx hab ha hxa
        go_wp2_with fail
        refine (HNaN.out _).mono ?_
        rintro e w2 ⟨rfl, rfl⟩
        go_wp2_with fail
        refine (HInf.out _).mono ?_
        rintro e w2 ⟨rfl, rfl⟩
        go_wp2_with fail
        refine (HTx.out _ HEr.out).mono ?_
        rintro e w2 ht
        obtain ⟨S, rfl, hb2⟩ := tt_string ht
        have HT2 := Lib.hid ht
        have HE2 := Lib.hid (HEr.out.below hb2)
        have HB2 := Lib.hid (HBl.out.trans (hb2.mono HBl.out.size))
        clear ht hb2
        go_wp2_with fail
        refine (HRd.out S _ _ _ HT2.out rfl _ HE2.out).mono ?_
        rintro e w3 ⟨rfl, hb3⟩
        have HB3 := Lib.hid (HB2.out.trans (hb3.mono HB2.out.size))
        clear hb3 HT2 HRd HTx HNaN HInf hcr
        go_wp2_with fail
        have hg := heap_alloc_new w3 (.cells #[.int .i64 3, .int .i64 0, .float .f64 x] 33)
        have m0 := blk_cell hg (i := 0) (by simp)
        have m1 := blk_cell hg (i := 1) (by simp)
        have m2 := blk_cell hg (i := 2) (by simp)
        simp only [List.getElem_toArray, List.getElem_cons_zero, List.getElem_cons_succ] at m0 m1 m2
        have HB4 := Lib.hid (HB3.out.alloc HB3.out.size (.cells #[.int .i64 3, .int .i64 0, .float .f64 x] 33))
        have hcr := HKeep.out _ HB4.out
        clear hg
        generalize w3.alloc (.cells #[.int .i64 3, .int .i64 0, .float .f64 x] 33) = w4 at *
        go_region_law (fail)
        all_goals
          have HB5 := Lib.hid HB4.out.drew
          go_wp2_with fail
          exact ⟨⟨i + 1, by omega, by simp, HB5⟩, by simp [intOf]; omega⟩
      · have HTe := Lib.hid (fun (w : World) (hE : NEnv w) => (HTx.out w hE).mono fun e w' ht => (show e = .returned (.string ⟨#[]⟩) ∧ Below w.heap.size w w' from by
          obtain ⟨hb, ⟨_, h⟩ | ⟨h0, h⟩ | ⟨_, h1, _⟩⟩ := ht
          · exact ⟨h, hb⟩
          · omega
          · omega))
        have hse : ((⟨#[]⟩ : ByteArray).toList == (⟨#[]⟩ : ByteArray).toList) = true := by decide +kernel
        rw [← hxa] at HTe HNaN
        by_cases hinf : a = 9218868437227405312
        · have HInf := Lib.hid (fun w => isInf_any s a w (by omega))
          rw [decide_eq_true hinf] at HInf
          rw [decide_eq_false (show ¬ 9218868437227405312 < a by omega)] at HNaN
          rw [← hxa] at HInf
          clear hxx hab ha hxa HTx hinf hfin
          go_wp2_with fail
          refine (HNaN.out _).mono ?_
          rintro e w2 ⟨rfl, rfl⟩
          go_wp2_with fail
          refine (HInf.out _).mono ?_
          rintro e w2 ⟨rfl, rfl⟩
          go_wp2_with fail
          refine (HTe.out _ HEr.out).mono ?_
          rintro e w2 ⟨rfl, hb2⟩
          have HB2 := Lib.hid (HBl.out.trans (hb2.mono HBl.out.size))
          clear hb2
          go_wp2_with fail
          exact ⟨⟨i + 1, by omega, by simp, HB2⟩, by simp [intOf]; omega⟩
        · rw [decide_eq_true (show 9218868437227405312 < a by omega)] at HNaN
          clear hxx hab ha hxa HTx hinf hfin
          go_wp2_with fail
          refine (HNaN.out _).mono ?_
          rintro e w2 ⟨rfl, rfl⟩
          go_wp2_with fail
          refine (HTe.out _ HEr.out).mono ?_
          rintro e w2 ⟨rfl, hb2⟩
          have HB2 := Lib.hid (HBl.out.trans (hb2.mono HBl.out.size))
          clear hb2
          go_wp2_with fail
          exact ⟨⟨i + 1, by omega, by simp, HB2⟩, by simp [intOf]; omega⟩
    · have hilt : ¬ ((i : Int) < (n : Int)) := by omega
      clear HR HB
      go_wp2_with fail
      go_loopw [9] (fun v6 wr => ∃ m : Nat, m ≤ n' ∧ v6 = .int .i64 (m : Int) ∧ Hid (Below w.heap.size w wr)) (fun v6 _ => n' - (intOf v6).toNat)
      case atStart => exact ⟨0, Nat.zero_le _, rfl, HBl⟩
      case round =>
        clear HBl hi hlt hilt
        obtain ⟨m, hm, rfl, hbl⟩ := hrel
        have HBl := Lib.hid hbl.out
        clear hbl
        by_cases hlt : m < n'
        · obtain ⟨ad, rfl, hab, hc1⟩ := HR'.out m _ (i64s_get (by rw [HL'.out]; exact hlt))
          obtain ⟨hx1, hx2⟩ := HB'.out m hlt
          obtain ⟨x, hxx⟩ : ∃ x, l'.getD m 0 = x := ⟨_, rfl⟩
          rw [hxx] at hx1 hx2 hc1
          have hcr := (HBl.out.cell (p := ad.add m) (by rw [add_block]; exact hab)).trans hc1
          have HKeep : Hid (∀ wx, Below w.heap.size w wx → wx.cell? (ad.add m) = some (.int .i64 x)) := Lib.hid (fun wx hb => (hb.cell (p := ad.add m) (by rw [add_block]; exact hab)).trans hc1)
          have HW := Lib.hid (wholeT_any x wr hx1 hx2 (HE.out.below HBl.out).tab)
          have HRd := Lib.hid (fun w => read_wtx x hx1 hx2 w)
          have hnn := HN'.out
          have hib : (m : Int) ≤ 4611686018427387904 := by omega
          have hilt : (m : Int) < (n' : Int) := by omega
          clear hnn hxx hab hx1 hx2 hc1
          go_wp2_with fail
          refine HW.out.mono ?_
          rintro e w2 ⟨rfl, hb2⟩
          have HB2 := Lib.hid (HBl.out.trans (hb2.mono HBl.out.size))
          clear hb2 HW
          go_wp2_with fail
          refine (HRd.out _).mono ?_
          rintro e w3 ⟨rfl, hb3⟩
          have HB3 := Lib.hid (HB2.out.trans (hb3.mono HB2.out.size))
          clear hb3 HRd hcr
          go_wp2_with fail
          have hg := heap_alloc_new w3 (.cells #[.int .i64 2, .int .i64 x, .float .f64 0] 33)
          have m0 := blk_cell hg (i := 0) (by simp)
          have m1 := blk_cell hg (i := 1) (by simp)
          have m2 := blk_cell hg (i := 2) (by simp)
          simp only [List.getElem_toArray, List.getElem_cons_zero, List.getElem_cons_succ] at m0 m1 m2
          have HB4 := Lib.hid (HB3.out.alloc HB3.out.size (.cells #[.int .i64 2, .int .i64 x, .float .f64 0] 33))
          have hcr := HKeep.out _ HB4.out
          clear hg
          generalize w3.alloc (.cells #[.int .i64 2, .int .i64 x, .float .f64 0] 33) = w4 at *
          go_region_law (fail)
          all_goals
            have HB5 := Lib.hid HB4.out.drew
            go_wp2_with fail
            exact ⟨⟨m + 1, by omega, by simp, HB5⟩, by simp [intOf]; omega⟩
        · have hilt : ¬ ((m : Int) < (n' : Int)) := by omega
          go_wp2_with fail
          go_ret
          exact ⟨rfl, HBl.out⟩
end Go.Proofs.YtbkdhejcbcgalaaGreatDoor.pg
