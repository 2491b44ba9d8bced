/- NumberTexts, walked. -/
import Derived.Test.YtdaaokmoaaglpaaGreatDoorGRe
import Derived.Test.YtdaaokmoaaglpaaGreatDoorGRt
import Derived.Deep.RegionHeld
import Derived.Deep.DeepMust
namespace Go.Proofs.YtdaaokmoaaglpaaGreatDoor.rt
open Go.RowKit mem fl big sh uw pg
set_option linter.unusedVariables false

def u64s (l : List Nat) : List Value := l.map fun x : Nat => .int .u64 (x : Int)
def i64s (l : List Int) : List Value := l.map (.int .i64)
theorem u64s_get {l : List Nat} {k : Nat} (h : k < l.length) : (u64s l)[k]? = some (.int .u64 (l.getD k 0 : Int)) := by
  unfold u64s
  rw [List.getElem?_map, List.getElem?_eq_getElem h, List.getD_eq_getElem?_getD, List.getElem?_eq_getElem h]
  rfl
theorem i64s_get {l : List Int} {k : Nat} (h : k < l.length) : (i64s l)[k]? = some (.int .i64 (l.getD k 0)) := by
  unfold i64s
  rw [List.getElem?_map, List.getElem?_eq_getElem h, List.getD_eq_getElem?_getD, List.getElem?_eq_getElem h]
  rfl
theorem u64_parts (x : Nat) (h : x < 18446744073709551616) : ∃ a s, x = a + sgn s ∧ a < 9223372036854775808 := by
  by_cases hx : x < 9223372036854775808
  · exact ⟨x, false, rfl, hx⟩
  · exact ⟨x - 9223372036854775808, true, by unfold sgn; rw [if_pos rfl]; omega, by omega⟩
/-- the one text of a float -/
theorem tt_one (s : Bool) (a : Nat) : ∃ S : ByteArray, ∀ w e w', TtPost s a w e w' → e = .returned (.string S) ∧ Below w.heap.size w w' := by
  by_cases h : ∃ w e w', TtPost s a w e w'
  · obtain ⟨w0, e0, w0', h0⟩ := h
    obtain ⟨S, rfl, _⟩ := tt_string h0
    refine ⟨S, fun w e w' h1 => ⟨(tt_same h1 h0), ?_⟩⟩
    exact h1.1
  · exact ⟨⟨#[]⟩, fun w e w' h1 => absurd ⟨w, e, w', h1⟩ h⟩
theorem half_of (x : Nat) (hx : x < 18446744073709551616) : ∃ (s : Bool) (a : Nat), x = a + sgn s ∧ a < 9223372036854775808 := by
  by_cases h : x < 9223372036854775808
  · exact ⟨false, x, by simp [sgn], h⟩
  · exact ⟨true, x - 9223372036854775808, by simp [sgn]; omega, by omega⟩
set_option maxRecDepth 100000 in
set_option maxHeartbeats 4000000 in
theorem numberTexts_any (A A' : Option Addr) (c c' n n' : Nat) (l : List Nat) (l' : List Int) (w : World) (hr : Rd w w.heap.size A (u64s l)) (hr' : Rd w w.heap.size A' (i64s l')) (hl : l.length = n) (hl' : l'.length = n')
    (hb : ∀ k, k < n → l.getD k 0 < 18446744073709551616) (hb' : ∀ k, k < n' → -9223372036854775808 ≤ l'.getD k 0 ∧ l'.getD k 0 ≤ 9223372036854775807) (hn : n ≤ 4611686018427387904) (hn' : n' ≤ 4611686018427387904)
    (hz : 13 < w.heap.size) (hi : InfoAt w) (ho : OptAt w) (h7 : PowAt w) (htab : Lib.TabIs Tryz.prog w "internal/strconv.uint64pow10" .u64 Lib.pow10Tab) :
    Calls Tryz.prog 4 #[.slice A n c, .slice A' n' c'] w fun e w' => e = .returned (.bool true) ∧ Below w.heap.size w w' := by
  have hfrom := run_f64from
  have HR := Lib.hid hr
  have HR' := Lib.hid hr'
  have HL := Lib.hid hl
  have HL' := Lib.hid hl'
  have HB := Lib.hid hb
  have HB' := Lib.hid hb'
  have HN := Lib.hid hn
  have HN' := Lib.hid hn'
  have HFx := Lib.hid (fixed_any w hz hi ho h7 htab)
  have HF0 := Lib.hid (fun (s : Bool) (a : Nat) (wx : World) (ha : a < 9223372036854775808) (hb : Below w.heap.size w wx) => text_any s a wx ha (h7.below hb (by omega)) (by have := hb.size; omega) (tab_below htab hb))
  have HW0 := Lib.hid (fun (x : Int) (wx : World) (h1 : -9223372036854775808 ≤ x) (h2 : x ≤ 9223372036854775807) (hb : Below w.heap.size w wx) => wholeT_any x wx h1 h2 (tab_below htab hb))
  clear hr hr' hl hl' hb hb' hn hn' hi ho h7 htab
  go_enter Tryz.func4, Tryz.ntmps4
  go_wp2_with fail
  refine HFx.out.mono ?_
  rintro e w1 ⟨rfl, hb1⟩
  have HBl := Lib.hid hb1
  clear hb1 HFx
  go_wp2_with fail
  go_loopw [5] (fun v5 wr => ∃ i : Nat, i ≤ n ∧ v5 = .int .i64 (i : Int) ∧ Hid (Below w.heap.size w wr)) (fun v5 _ => n - (intOf v5).toNat)
  case atStart => exact ⟨0, Nat.zero_le _, rfl, HBl⟩
  case round =>
    clear HBl
    obtain ⟨i, hi, rfl, hbl⟩ := hrel
    have HBl := Lib.hid hbl.out
    clear hbl
    by_cases hlt : i < n
    · obtain ⟨ad, rfl, hab, hc1⟩ := HR.out i _ (u64s_get (by rw [HL.out]; exact hlt))
      have hx := HB.out i hlt
      obtain ⟨x, hxx⟩ : ∃ x, l.getD i 0 = x := ⟨_, rfl⟩
      rw [hxx] at hx hc1
      obtain ⟨s, a, rfl, ha⟩ := half_of x hx
      have hcr := (HBl.out.cell (p := ad.add i) (by rw [add_block]; exact hab)).trans hc1
      have HKeep : Hid (∀ wx, Below w.heap.size w wx → wx.cell? (ad.add i) = some (.int .u64 ((a + sgn s : Nat) : Int))) := Lib.hid (fun wx hb => (hb.cell (p := ad.add i) (by rw [add_block]; exact hab)).trans hc1)
      obtain ⟨S, hS⟩ := tt_one s a
      have HF := Lib.hid (fun (wx : World) (hb : Below w.heap.size w wx) => (HF0.out s a wx ha hb).mono fun e w' h => (⟨(hS _ _ _ h).1, hb.trans ((hS _ _ _ h).2.mono hb.size)⟩ : e = .returned (.string S) ∧ Below w.heap.size w w'))
      have HT := Lib.hid (fun (wx : World) (hb : Below w.heap.size w wx) => (tb_any s a wx ha).mono fun e w' h => (⟨(hS _ _ _ h).1, hb.trans ((hS _ _ _ h).2.mono hb.size)⟩ : e = .returned (.string S) ∧ Below w.heap.size w w'))
      have hnn := HN.out
      have hib : (i : Int) ≤ 4611686018427387904 := by omega
      have hilt : (i : Int) < (n : Int) := by omega
      clear hnn hxx hx hc1 hab ha hS
      generalize a + sgn s = x at *
      have hbw := HBl.out
      have HK2 : Hid (∀ wx, Below w.heap.size w wx → Below w.heap.size w wx ∧ wx.cell? (ad.add i) = some (.int .u64 (x : Int))) := Lib.hid (fun wx hb => ⟨hb, HKeep.out wx hb⟩)
      clear HKeep HBl
      go_wp2_with fail
      go_region_held3 (fun w' => Below w.heap.size w w' ∧ w'.cell? (ad.add i) = some (.int .u64 (x : Int)))
        (first | (refine HK2.out _ ?_; (repeat (with_reducible first | refine Below.drew ?_ | refine Below.drewN ?_ _)); (with_reducible first | exact hbz | exact hbx | exact hbw)))
        (first
          | (go_at_call 14; go_must (refine (HF.out _ (by (repeat (with_reducible first | refine Below.drew ?_ | refine Below.drewN ?_ _)); (with_reducible first | exact hbw))).mono ?_; rintro e wa ⟨rfl, hbx⟩))
          | (go_at_call 16; go_must (refine (HT.out _ (by (repeat (with_reducible first | refine Below.drew ?_ | refine Below.drewN ?_ _)); (with_reducible first | exact hbx))).mono ?_; rintro e wb ⟨rfl, hbz⟩)))
      all_goals
        have HBz := Lib.hid hbz
        clear hbz hbx hbw
        go_wp2_with fail
        exact ⟨⟨i + 1, by omega, by simp, HBz⟩, by simp [intOf]; omega⟩
    · clear HR HB
      go_wp2_with fail
      go_loopw [6] (fun v6 wr => ∃ m : Nat, m ≤ n' ∧ v6 = .int .i64 (m : Int) ∧ Hid (Below w.heap.size w wr)) (fun v6 _ => n' - (intOf v6).toNat)
      case atStart => exact ⟨0, Nat.zero_le _, rfl, HBl⟩
      case round =>
        clear HBl hi hlt
        obtain ⟨m, hm, rfl, hbl⟩ := hrel
        have HBl := Lib.hid hbl.out
        clear hbl
        by_cases hlt : m < n'
        · obtain ⟨ad, rfl, hab, hc1⟩ := HR'.out m _ (i64s_get (by rw [HL'.out]; exact hlt))
          obtain ⟨hx1, hx2⟩ := HB'.out m hlt
          obtain ⟨x, hxx⟩ : ∃ x, l'.getD m 0 = x := ⟨_, rfl⟩
          rw [hxx] at hx1 hx2 hc1
          have hcr := (HBl.out.cell (p := ad.add m) (by rw [add_block]; exact hab)).trans hc1
          have HK2 : Hid (∀ wx, Below w.heap.size w wx → Below w.heap.size w wx ∧ wx.cell? (ad.add m) = some (.int .i64 x)) := Lib.hid (fun wx hb => ⟨hb, (hb.cell (p := ad.add m) (by rw [add_block]; exact hab)).trans hc1⟩)
          obtain ⟨S, hS⟩ : ∃ S, strN (wtx x) = S := ⟨_, rfl⟩
          have HF : Hid (∀ (wx : World) (hb : Below w.heap.size w wx), Calls Tryz.prog 17 #[.int .i64 x] wx fun e w' => e = .returned (.string S) ∧ Below w.heap.size w w') := Lib.hid (fun (wx : World) (hb : Below w.heap.size w wx) => (HW0.out x wx hx1 hx2 hb).mono fun e w' h => ⟨by rw [h.1, hS], hb.trans (h.2.mono hb.size)⟩)
          have HT : Hid (∀ (wx : World) (hb : Below w.heap.size w wx), Calls Tryz.prog 18 #[.int .i64 x] wx fun e w' => e = .returned (.string S) ∧ Below w.heap.size w w') := Lib.hid (fun (wx : World) (hb : Below w.heap.size w wx) => (wholeText_any x wx hx1 hx2).mono fun e w' h => ⟨by rw [h.1, hS], hb.trans (h.2.mono hb.size)⟩)
          have hnn := HN'.out
          have hib : (m : Int) ≤ 4611686018427387904 := by omega
          have hilt : (m : Int) < (n' : Int) := by omega
          have hbw := HBl.out
          clear hnn hxx hx1 hx2 hc1 hab hS HBl
          go_wp2_with fail
          go_region_held3 (fun w' => Below w.heap.size w w' ∧ w'.cell? (ad.add m) = some (.int .i64 x))
            (first | (refine HK2.out _ ?_; (repeat (with_reducible first | refine Below.drew ?_ | refine Below.drewN ?_ _)); (with_reducible first | exact hbz | exact hbx | exact hbw)))
            (first
              | (go_at_call 17; go_must (refine (HF.out _ (by (repeat (with_reducible first | refine Below.drew ?_ | refine Below.drewN ?_ _)); (with_reducible first | exact hbw))).mono ?_; rintro e wa ⟨rfl, hbx⟩))
              | (go_at_call 18; go_must (refine (HT.out _ (by (repeat (with_reducible first | refine Below.drew ?_ | refine Below.drewN ?_ _)); (with_reducible first | exact hbx))).mono ?_; rintro e wb ⟨rfl, hbz⟩)))
          all_goals
            have HBz := Lib.hid hbz
            clear hbz hbx hbw
            go_wp2_with fail
            exact ⟨⟨m + 1, by omega, by simp, HBz⟩, by simp [intOf]; omega⟩
        · go_wp2_with fail
          go_ret
          exact ⟨rfl, HBl.out⟩
end Go.Proofs.YtdaaokmoaaglpaaGreatDoor.rt
