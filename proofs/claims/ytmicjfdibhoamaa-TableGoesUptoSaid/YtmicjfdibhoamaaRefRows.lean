/- The reference's table: the numbers of the rows that count. -/
import Derived.Test.YtmicjfdibhoamaaRefRow
namespace Go.Proofs.Ytmicjfdibhoamaa.val
open Go.RowKit mem
attribute [local go_sem] run_store_float

/-- the numbers below q of the rows that count -/
def rowsTo (cs : List C) : Nat → List Nat
  | 0 => []
  | q + 1 => rowsTo cs q ++ if firstB cs q then [q] else []
theorem rowsTo_le (cs : List C) : ∀ q, (rowsTo cs q).length ≤ q
  | 0 => by simp [rowsTo]
  | q + 1 => by
    have := rowsTo_le cs q
    simp only [rowsTo, List.length_append]
    split <;> simp <;> omega

set_option maxRecDepth 100000 in
set_option maxHeartbeats 4000000 in
theorem refRows_any (cs : List C) (hcs : cs.length ≤ 1048576) (vs : List Value) (base : Nat) (w : World) (h : RefAt w base cs vs) : Calls Try.prog 21 #[.agg vs.toArray] w (IntsPost w (rowsTo cs cs.length)) := by
  obtain ⟨Ac, cc, Ao, co, Af, cf, Au, nu, cu, l, rfl, h1, h2, h3, h4⟩ := h
  obtain ⟨ii, hiv, hv0, hv1, hv2⟩ := info_parts infoI
  have H4 := Lib.hid h4
  clear h1 h2 h3 h4
  have hb0 : Below w.heap.size w (w.alloc (.cells #[.slice Ac cs.length cc, .slice Ao cs.length co, .slice Af cs.length cf, .slice Au nu cu] 55)) := (Below.refl _ _).alloc (Nat.le_refl _) _
  have hs0 : w.heap.size + 1 ≤ (w.alloc (.cells #[.slice Ac cs.length cc, .slice Ao cs.length co, .slice Af cs.length cf, .slice Au nu cu] 55)).heap.size := by simp
  go_enter Try.func21, Try.ntmps21
  go_wp2_with fail
  generalize (w.alloc (.cells #[.slice Ac cs.length cc, .slice Ao cs.length co, .slice Af cs.length cf, .slice Au nu cu] 55)) = w1 at *
  go_loopw [3, 9] (fun v3 vi W => ∃ (q : Nat) (vv : Value), q ≤ cs.length ∧ vi = .int .i64 (q : Int) ∧ vv = v3 ∧ Hid (W.ownsRow w1.heap.size 3 1 vv (rowsTo cs q).length ((rowsTo cs q).map iv)) ∧ Below w1.heap.size w1 W) (fun _ i _ => cs.length - (intOf i).toNat)
  case atStart => exact ⟨0, _, Nat.zero_le _, rfl, rfl, Lib.hid (World.ownsRow_nil _ _ _ _), Below.refl _ _⟩
  case round =>
    obtain ⟨q, vv, hq, rfl, rfl, HO, hb⟩ := hrel
    have hszr := hb.size
    by_cases hlt : q < cs.length
    · obtain ⟨af, rfl, hafB, hf⟩ := ((Rd.of_own (own_below H4.out hb0)).below hb).at_ (k := q) (by simpa using hlt)
      have hfb : ((List.range cs.length).map fun k => Value.bool (firstB cs k))[q]'(by simpa using hlt) = .bool (firstB cs q) := by simp
      rw [hfb] at hf
      have hle := rowsTo_le cs q
      clear hfb
      cases hfq : firstB cs q with
      | true =>
        have HIn : Hid (rowsTo cs (q + 1) = rowsTo cs q ++ [q]) := Lib.hid (by simp only [rowsTo]; rw [hfq]; rfl)
        rw [hfq] at hf
        clear hfq
        go_wp2_with (at_builtin; go_must (refine wpList_app _ rfl (.tmp 15) (.tmp 17) _ rfl w1.heap.size 3 ii _ 1 8 Try.underlying28 hiv hv0 hv1 hv2 rfl (by omega) vv (rowsTo cs q).length ((rowsTo cs q).map iv) rfl (HO.out.alloc _) (wr.heap.size + 1) (some ⟨wr.heap.size, 0, none⟩) 1 1 [.int .i64 (q : Int)] rfl rfl (Rd.new wr [.int .i64 (q : Int)] 3) (fun h => by cases h) (by simp; rfl) (by unfold maxLen; omega) (by omega) (by simp; omega) ?_); intro v5 w5 hown5 hgrow5 hat5)
        have HOn : Hid (w5.ownsRow w1.heap.size 3 1 v5 (rowsTo cs (q + 1)).length ((rowsTo cs (q + 1)).map iv)) := Lib.hid (by rw [HIn.out, List.length_append, List.map_append]; exact hown5)
        have hbn := below_app1 hb HO.out (Nat.le_refl _) hszr hgrow5
        clear hown5 hgrow5 hat5
        go_wp2_with fail
        go_roundw
        case rel => exact ⟨q + 1, _, by omega, by go_num, rfl, HOn, hbn⟩
        case measure => simp [intOf]; omega
      | false =>
        have HIn : Hid (rowsTo cs (q + 1) = rowsTo cs q) := Lib.hid (by simp only [rowsTo]; rw [hfq]; simp)
        rw [hfq] at hf
        clear hfq
        go_wp2_with fail
        go_roundw
        case rel => exact ⟨q + 1, _, by omega, by go_num, rfl, Lib.hid (by rw [HIn.out]; exact HO.out), hb⟩
        case measure => simp [intOf]; omega
    · obtain rfl : q = cs.length := by omega
      go_wp2_with fail
      go_ret
      exact ⟨_, rfl, own_base HO.out (by have := hb0.size; omega), hb0.trans (hb.mono hb0.size)⟩
end Go.Proofs.Ytmicjfdibhoamaa.val
