/- NumberAgrees, walked. -/
import Derived.Test.YtbkdhejcbcgalaaGreatDoorYNat
import Derived.Test.YtbkdhejcbcgalaaGreatDoorYNb
namespace Go.Proofs.YtbkdhejcbcgalaaGreatDoor.pg
open Go.RowKit mem fl big us uw sh
set_option linter.unusedVariables false
attribute [local go_sem] run_store_float

set_option maxRecDepth 100000 in
set_option maxHeartbeats 4000000 in
theorem numberAgrees_any (A A' : Option Addr) (c c' n n' : Nat) (l : List Nat) (l' : List Int) (w : World) (hr : Rd w w.heap.size A (u64s l)) (hr' : Rd w w.heap.size A' (i64s l')) (hl : l.length = n) (hl' : l'.length = n')
    (hb : ∀ k, k < n → l.getD k 0 < 18446744073709551616) (hb' : ∀ k, k < n' → -9223372036854775808 ≤ l'.getD k 0 ∧ l'.getD k 0 ≤ 9223372036854775807) (hn : n ≤ 4611686018427387904) (hn' : n' ≤ 4611686018427387904) (hE : NEnv w) :
    Calls Tryz.prog 4 #[.slice A n c, .slice A' n' c'] w fun e w' => e = .returned (.bool true) ∧ Below w.heap.size w w' := by
  have hfrom := pg.run_f64from
  have HR := Lib.hid hr
  have HR' := Lib.hid hr'
  have HL := Lib.hid hl
  have HL' := Lib.hid hl'
  have HB := Lib.hid hb
  have HB' := Lib.hid hb'
  have HN := Lib.hid hn
  have HN' := Lib.hid hn'
  have HE := Lib.hid hE
  have HFx := Lib.hid (fixed_any w hE.lt hE.hi hE.ho hE.pow hE.tab)
  clear hr hr' hl hl' hb hb' hn hn' hE
  go_enter Tryz.func4, Tryz.ntmps4
  go_wp2_with fail
  refine HFx.out.mono ?_
  rintro e w1 ⟨rfl, hb1⟩
  have HBl := Lib.hid hb1
  clear hb1 HFx
  go_wp2_with fail
  go_loopw [5] (fun v5 wr => ∃ i : Nat, i ≤ n' ∧ v5 = .int .i64 (i : Int) ∧ Hid (Below w.heap.size w wr)) (fun v5 _ => n' - (intOf v5).toNat)
  case atStart => exact ⟨0, Nat.zero_le _, rfl, HBl⟩
  case round =>
    clear HBl
    obtain ⟨i, hi, rfl, hbl⟩ := hrel
    have HBl := Lib.hid hbl.out
    clear hbl
    by_cases hlt : i < n'
    · obtain ⟨ad, rfl, hab, hc1⟩ := HR'.out i _ (i64s_get (by rw [HL'.out]; exact hlt))
      obtain ⟨hx1, hx2⟩ := HB'.out i hlt
      obtain ⟨x, hxx⟩ : ∃ x, l'.getD i 0 = x := ⟨_, rfl⟩
      rw [hxx] at hx1 hx2 hc1
      have hcr := (HBl.out.cell (p := ad.add i) (by rw [add_block]; exact hab)).trans hc1
      have HKeep : Hid (∀ wx, Below w.heap.size w wx → wx.cell? (ad.add i) = some (.int .i64 x)) := Lib.hid (fun wx hb => (hb.cell (p := ad.add i) (by rw [add_block]; exact hab)).trans hc1)
      have HEr := Lib.hid (HE.out.below HBl.out)
      have HOw := Lib.hid (ofWhole_any x wr)
      have HW := Lib.hid (wholeT_any x wr hx1 hx2 HEr.out.tab)
      have HBd := Lib.hid (And.intro hx1 hx2)
      have hsz : (strN (wtx x)).size ≤ 20 := by rw [strN_size]; exact wtx_len x hx1 hx2
      have hnn := HN'.out
      have hib : (i : Int) ≤ 4611686018427387904 := by omega
      have hilt : (i : Int) < (n' : Int) := by omega
      clear hnn hxx hab hx1 hx2 hc1
      go_wp2_with fail
      refine HOw.out.mono ?_
      rintro e w2 ⟨r, rfl, hN, rfl⟩
      have HR2 := Lib.hid (fun (w : World) (hE : NEnv w) => read_point x r HBd.out.1 HBd.out.2 hN w hE)
      have hrf : r < 9218868437227405312 := near_int hN (by have := HBd.out; omega)
      have HWh := Lib.hid (fun w => whole_any (decide (x < 0)) r w (by omega))
      have hself : FloatKind.f64.format.order (r + sgn (decide (x < 0))) (r + sgn (decide (x < 0))) = some .eq := order_self (decide (x < 0)) r (by omega)
      have hb2 : ∀ (k : Int) (ok : Bool), (ok = true → wholeOf (decide (x < 0)) r = some k) → (ok = false → wholeOf (decide (x < 0)) r = none) → (ok && (k == x)) = decide (wholeOf (decide (x < 0)) r = some x) := fun k ok h3 h4 => beq_whole h3 h4
      have HBq := Lib.hid hb2
      unfold WhPost at HWh
      clear hN HOw hb2 hrf
      generalize r + sgn (decide (x < 0)) = f at *
      generalize decide (x < 0) = sx at *
      generalize decide (wholeOf sx r = some x) = jb at *
      obtain ⟨SX, hSX⟩ : ∃ SX, strN (wtx x) = SX := ⟨_, rfl⟩
      have HW2 : Hid (Calls Tryz.prog 12 #[.int .i64 x] wr fun e w' => e = .returned (.string SX) ∧ Below wr.heap.size wr w') := Lib.hid (hSX ▸ HW.out)
      rw [hSX] at HR2 hsz
      have hu : ∀ W : World, (Op.stringOp .add SX ⟨#[46, 48]⟩).run Tryz.prog W = .ok (.string (SX ++ ⟨#[46, 48]⟩)) W := fun W => run_string_add_sum W _ _ (by show SX.size + 2 ≤ _; omega)
      clear hSX HW
      go_wp2_with fail
      refine HW2.out.mono ?_
      rintro e w2 ⟨rfl, hb2⟩
      have HE2 := Lib.hid (HEr.out.below hb2)
      have HB2 := Lib.hid (HBl.out.trans (hb2.mono HBl.out.size))
      clear hb2 HW2 hcr
      go_wp2_with fail
      refine (HR2.out _ HE2.out).mono ?_
      rintro e w3 ⟨rfl, hb3⟩
      have HB3 := Lib.hid (HB2.out.trans (hb3.mono HB2.out.size))
      clear hb3 HR2
      go_wp2_with fail
      refine (HWh.out _).mono ?_
      rintro e w4 ⟨k, ok, rfl, g1, g2, rfl⟩
      have hq := HBq.out k ok g1 (fun h => (g2 h).2)
      have HB4 := Lib.hid (HB3.out.alloc HB3.out.size (.cells #[.int .i64 3, .int .i64 0, .float .f64 f] 33))
      have hcr := HKeep.out _ HB4.out
      generalize w3.alloc (.cells #[.int .i64 3, .int .i64 0, .float .f64 f] 33) = w5 at *
      clear g1 g2 HBq HWh
      cases ok
      · rw [Bool.false_and] at hq
        subst hq
        go_wp2_with fail
        exact ⟨⟨i + 1, by omega, by simp, HB4⟩, by simp [intOf]; omega⟩
      · rw [Bool.true_and] at hq
        go_wp2_with fail
        exact ⟨⟨i + 1, by omega, by simp, HB4⟩, by simp [intOf]; omega⟩
    · have hilt : ¬ ((i : Int) < (n' : Int)) := by omega
      clear HR' HB'
      go_wp2_with fail
      go_loopw [12] (fun v6 wr => ∃ m : Nat, m ≤ n ∧ v6 = .int .i64 (m : Int) ∧ Hid (Below w.heap.size w wr)) (fun v6 _ => n - (intOf v6).toNat)
      case atStart => exact ⟨0, Nat.zero_le _, rfl, HBl⟩
      case round =>
        clear HBl hi hlt hilt
        obtain ⟨m, hm, rfl, hbl⟩ := hrel
        have HBl := Lib.hid hbl.out
        clear hbl
        by_cases hlt : m < n
        · obtain ⟨ad, rfl, hab, hc1⟩ := HR.out m _ (u64s_get (by rw [HL.out]; exact hlt))
          have hx := HB.out m hlt
          obtain ⟨x, hxx⟩ : ∃ x, l.getD m 0 = x := ⟨_, rfl⟩
          rw [hxx] at hx hc1
          obtain ⟨s, a, hxa, ha⟩ := half_of x hx
          have hcr := (HBl.out.cell (p := ad.add m) (by rw [add_block]; exact hab)).trans hc1
          have HWh := Lib.hid (fun w => whole_any s a w ha)
          have HBk := Lib.hid (fun (k : Int) (r : Nat) h1 h2 => back_whole (s := s) (a := a) (r := r) (k := k) h1 h2)
          unfold WhPost at HWh
          rw [← hxa] at HWh HBk
          have hnn := HN.out
          have hib : (m : Int) ≤ 4611686018427387904 := by omega
          have hilt : (m : Int) < (n : Int) := by omega
          clear hnn hxx hab hx hc1 hxa ha
          go_wp2_with fail
          refine (HWh.out _).mono ?_
          rintro e w2 ⟨k, ok, rfl, g1, g2, rfl⟩
          cases ok
          · clear g1 g2
            go_wp2_with fail
            exact ⟨⟨m + 1, by omega, by simp, HBl⟩, by simp [intOf]; omega⟩
          · have HG1 := Lib.hid (g1 rfl)
            clear g1 g2
            go_wp2_with fail
            refine (ofWhole_any k _).mono ?_
            rintro e w3 ⟨r, rfl, hN, rfl⟩
            obtain ⟨q1, q2, _, _⟩ := HBk.out k r HG1.out hN
            rw [decide_eq_true q1]
            clear hN q1 HBk HG1 HWh
            generalize r + sgn (decide (k < 0)) = g at *
            go_wp2_with fail
            exact ⟨⟨m + 1, by omega, by simp, HBl⟩, by simp [intOf]; omega⟩
        · have hilt : ¬ ((m : Int) < (n : Int)) := by omega
          go_wp2_with fail
          go_ret
          exact ⟨rfl, HBl.out⟩
end Go.Proofs.YtbkdhejcbcgalaaGreatDoor.pg
