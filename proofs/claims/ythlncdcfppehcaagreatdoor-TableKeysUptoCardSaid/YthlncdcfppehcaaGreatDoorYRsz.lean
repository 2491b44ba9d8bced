/- The reference's Size: it answers some number. -/
import Derived.Test.YthlncdcfppehcaaGreatDoorGSpl
namespace Go.Proofs.YthlncdcfppehcaaGreatDoor.look
open Go.RowKit mem txt app smap val
attribute [local go_sem] run_store_float
set_option linter.unusedVariables false

def RsPost (N : Nat) (w : World) (e : Ending) (w' : World) : Prop := ∃ n : Int, 0 ≤ n ∧ n ≤ 1100000 * ((N : Int) + 1) ∧ e = .returned (.int .i64 n) ∧ Below w.heap.size w w'
set_option maxRecDepth 100000 in
set_option maxHeartbeats 4000000 in
theorem rsize_any : ∀ (N : Nat) (v : V), sz v ≤ N → N ≤ 1048576 → ∀ (cs : List Value) (m : Int) (w : World) (S : Nat → Prop), IsV w S v cs → Bel S w.heap.size → -1000000 ≤ m → m ≤ 1000000 →
    Calls Tryz.prog 8 #[.agg cs.toArray, .int .i64 m] w (RsPost N w) := by
  intro N
  induction N with
  | zero => intro v hv; have := sz_pos v; omega
  | succ N ih =>
    intro v hv hN cs m w S hV hB hm1 hm2
    obtain ⟨k, b, i, f, t, y, is, fs⟩ := v
    simp only [IsV] at hV
    obtain ⟨A, c, A', c', rfl, hA, hA', his, hfs⟩ := hV
    simp only [sz] at hv
    have hl1 := szs_len is
    have hl2 := szf_len fs
    have IH := Lib.hid ih
    have HB := Lib.hid hB
    have HI := Lib.hid his
    have HF := Lib.hid hfs
    have hbig : (N : Int) ≤ 1048576 := by omega
    obtain ⟨Q, hQ⟩ : ∃ Q : Int, 1100000 * ((N : Int) + 1) = Q := ⟨_, rfl⟩
    have hQ0 : 0 ≤ Q ∧ Q ≤ 1200000000000 := by omega
    have HQ : Hid (Q + 1100000 = 1100000 * (((N + 1 : Nat) : Int) + 1)) := Lib.hid (by omega)
    have hQ1 : (N : Int) + 2 ≤ Q + 1100000 := by omega
    clear ih hB his hfs hA hA'
    go_enter Tryz.func8, Tryz.ntmps8
    go_wp2_with fail
    have gB := heap_alloc_new w (.cells #[.int .i64 k, .bool b, .int .i64 i, .float .f64 f, .string t, .string y, .slice A is.length c, .slice A' fs.length c'] 29)
    have hbx : Below w.heap.size w (w.alloc (.cells #[.int .i64 k, .bool b, .int .i64 i, .float .f64 f, .string t, .string y, .slice A is.length c, .slice A' fs.length c'] 29)) := (Below.refl _ _).alloc (Nat.le_refl _) _
    have hsx : (w.alloc (.cells #[.int .i64 k, .bool b, .int .i64 i, .float .f64 f, .string t, .string y, .slice A is.length c, .slice A' fs.length c'] 29)).heap.size = w.heap.size + 1 := by simp
    generalize (w.alloc (.cells #[.int .i64 k, .bool b, .int .i64 i, .float .f64 f, .string t, .string y, .slice A is.length c, .slice A' fs.length c'] 29)) = w1 at *
    have GB := Lib.hid gB
    have hsx' : w.heap.size + 1 ≤ w1.heap.size := by omega
    clear hsx gB
    go_loopw [5, 6] (fun v5 v6 W => ∃ (q : Nat) (n : Int), q ≤ is.length ∧ 0 ≤ n ∧ n ≤ Q + 1100000 ∧ v5 = .int .i64 n ∧ v6 = .int .i64 (q : Int) ∧ Below (w.heap.size + 1) w1 W) (fun _ i _ => is.length - (intOf i).toNat)
    case atStart => exact ⟨0, 1 + (is.length : Int) + (fs.length : Int), Nat.zero_le _, by omega, by omega, by go_num, rfl, Below.refl _ _⟩
    case round =>
      obtain ⟨q, n, hq, hn1, hn2, rfl, rfl, hb⟩ := hrel
      have hbw : Below w.heap.size w wr := hbx.trans (hb.mono (by omega))
      have hszr := hb.size
      obtain ⟨m0, m1, m2, m3, m4, m5, m6, m7⟩ := blk8 ((hb.block w.heap.size (by omega)).trans GB.out)
      by_cases hgo : q < is.length ∧ n ≤ m
      · obtain ⟨hlt, hnm⟩ := hgo
        obtain ⟨x, hx⟩ : ∃ x, is[q]? = some x := ⟨_, List.getElem?_eq_getElem hlt⟩
        obtain ⟨ad, cs, rfl, hadB, hcs, hvx⟩ := (HI.out.below HB.out hbw).at_ hx
        rw [Nat.zero_add] at hcs
        have hsz := szs_get hx
        have HC := Lib.hid (IH.out x (by omega) (by omega) cs (m - n) wr S hvx (HB.out.mono hbw.size) (by omega) (by omega))
        rw [show RsPost N wr = RsPost N wr from rfl] at HC
        obtain ⟨k2, b2, i2, f2, t2, y2, is2, fs2⟩ := x
        simp only [IsV] at hvx
        obtain ⟨A2, c2, A2', c2', rfl, _⟩ := hvx
        obtain ⟨c0, c1, cc2, c3, c4, c5, c6, c7⟩ := hcs.eight
        clear hcs hx
        go_wp2_with fail
        refine HC.out.mono ?_
        rintro e w2 ⟨r, hr1, hr2, rfl, hb2⟩
        rw [hQ] at hr2
        have hb3 := hb.trans (hb2.mono (by omega))
        clear c0 c1 cc2 c3 c4 c5 c6 c7 m0 m1 m2 m3 m4 m5 m6 m7 HC
        go_wp2_with fail
        exact ⟨⟨q + 1, n + r, by omega, by omega, by omega, rfl, by go_num, hb3⟩, by simp [intOf]; omega⟩
      · have hif : (q < is.length → ¬ n ≤ m) := fun h1 h2 => hgo ⟨h1, h2⟩
        obtain ⟨g, hg⟩ : ∃ g : Bool, decide (q < is.length) = g := ⟨_, rfl⟩
        clear hgo
        have hstop : (decide (q < is.length) && decide (n ≤ m)) = false := by
          by_cases h1 : q < is.length
          · rw [decide_eq_false (hif h1)]; simp
          · rw [decide_eq_false h1]; rfl
        by_cases h1 : q < is.length
        all_goals
          first | have hnm := hif h1 | skip
          clear hif hg hstop
          go_wp2_with fail
          obtain ⟨wo, hwo⟩ : ∃ wo : World, wr = wo := ⟨_, rfl⟩
          subst hwo
          clear m0 m1 m2 m3 m4 m5 m6 m7
          go_loopw [5, 8] (fun v5 v8 W => ∃ (q : Nat) (n : Int), q ≤ fs.length ∧ 0 ≤ n ∧ n ≤ Q + 1100000 ∧ v5 = .int .i64 n ∧ v8 = .int .i64 (q : Int) ∧ Below (w.heap.size + 1) w1 W) (fun _ i _ => fs.length - (intOf i).toNat)
          case atStart => exact ⟨0, n, Nat.zero_le _, hn1, hn2, rfl, rfl, hb⟩
          case round =>
            clear hb hbw hszr
            obtain ⟨q, n, hq, hn1, hn2, rfl, rfl, hb⟩ := hrel
            have hbw : Below w.heap.size w wr := hbx.trans (hb.mono (by omega))
            have hszr := hb.size
            obtain ⟨m0, m1, m2, m3, m4, m5, m6, m7⟩ := blk8 ((hb.block w.heap.size (by omega)).trans GB.out)
            by_cases hlt : q < fs.length
            · by_cases hnm : n ≤ m
              · obtain ⟨p, hx⟩ : ∃ x, fs[q]? = some x := ⟨_, List.getElem?_eq_getElem hlt⟩
                obtain ⟨s, x⟩ := p
                obtain ⟨ad, cs, rfl, hadB, hcs, hvx⟩ := (HF.out.below HB.out hbw).at_ hx
                rw [Nat.zero_add] at hcs
                simp only at hcs hvx
                have hsz := szf_get hx
                simp only at hsz
                have HC := Lib.hid (IH.out x (by omega) (by omega) cs (m - n) wr S hvx (HB.out.mono hbw.size) (by omega) (by omega))
                obtain ⟨k2, b2, i2, f2, t2, y2, is2, fs2⟩ := x
                simp only [IsV] at hvx
                obtain ⟨A2, c2, A2', c2', rfl, _⟩ := hvx
                obtain ⟨c0, c1, cc2, c3, c4, c5, c6, c7, c8⟩ := hcs.nine
                clear hcs hx
                go_wp2_with fail
                refine HC.out.mono ?_
                rintro e w2 ⟨r, hr1, hr2, rfl, hb2⟩
                rw [hQ] at hr2
                have hb3 := hb.trans (hb2.mono (by omega))
                clear c0 c1 cc2 c3 c4 c5 c6 c7 c8 m0 m1 m2 m3 m4 m5 m6 m7 HC
                go_wp2_with fail
                exact ⟨⟨q + 1, n + r, by omega, by omega, by omega, rfl, by go_num, hb3⟩, by simp [intOf]; omega⟩
              · go_wp2_with fail
                go_ret
                exact ⟨n, hn1, by rw [← HQ.out]; exact hn2, rfl, hbw⟩
            · go_wp2_with fail
              go_ret
              exact ⟨n, hn1, by rw [← HQ.out]; exact hn2, rfl, hbw⟩
end Go.Proofs.YthlncdcfppehcaaGreatDoor.look
