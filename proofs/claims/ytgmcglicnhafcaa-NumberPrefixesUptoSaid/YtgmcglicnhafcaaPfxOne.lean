/- One step of NumberPrefixes: prefixed returns true and writes nothing that was there. -/
import Derived.Test.YtgmcglicnhafcaaPfxCodes
import Derived.Deep.RegionHeld3
import Derived.Deep.DeepCutAuto
import Derived.Deep.DeepMust
import Derived.WalkSpells
import Derived.Deep.QuietTactic
import Derived.BigQuiet
namespace Go.Proofs.Ytgmcglicnhafcaa.pfx
open Go.RowKit mem

theorem info94 : (Try.prog.info? 94).map (fun i => (i.zero, i.size, i.bytes)) = some (some (.int .u8 0), 1, 1) := by kernel_rfl
theorem info98 : (Try.prog.info? 98).map (fun i => (i.zero, i.size, i.bytes)) = some (some (.int .i32 0), 1, 4) := by kernel_rfl

theorem bts_strOf (xs : List Int) (hx : ∀ x ∈ xs, 0 ≤ x ∧ x ≤ 255) : bts (strOf xs) = xs := by
  simp only [bts, strOf, List.map_map]
  rw [show (xs.map ((fun b : UInt8 => (b.toNat : Int)) ∘ fun n => UInt8.ofNat n.toNat)) = xs.map id from ?_]
  · simp
  · apply List.map_congr_left
    intro x h
    have := hx x h
    simp
    omega

theorem sameForm_eq (a : Int) (w : World) : Calls Try.prog 41 #[.int .i64 a, .int .i64 a] w fun e w' => e = .returned (.bool true) ∧ w = w' :=
  (sameForm_any a a w).mono fun _ _ ⟨he, hw⟩ => ⟨he.trans (by simp), hw⟩

theorem strOf_app (xs : List Int) : ((strOf (xs ++ [7, 8])).toList == (strOf xs ++ { data := #[7, 8] }).toList) = true := by
  have h : strOf (xs ++ [7, 8]) = strOf xs ++ { data := #[7, 8] } := by
    apply ByteArray.ext
    simp [strOf]
  simp [h]

theorem set_all {cur : Array Value} {k : Nat} {u : Value} (h : ∀ j, j < k → cur[j]? = some u) (hk : k < cur.size) : Hid (∀ j, j < k + 1 → (cur.setIfInBounds k u)[j]? = some u) := by
  intro j hj
  rw [Array.getElem?_setIfInBounds]
  by_cases hjk : k = j
  · simp [hjk]
    omega
  · rw [if_neg hjk]
    exact h j (by omega)
theorem all_rep {cur : Array Value} {n : Nat} {u : Value} (h : ∀ j, j < n → cur[j]? = some u) : ∀ (j : Nat) (x : Value), (List.replicate n u)[j]? = some x → cur[j]? = some x := by
  intro j x hj
  rw [List.getElem?_replicate] at hj
  split at hj
  · rw [h j (by omega), hj]
  · cases hj

/-- Codes at a string that was made of numbers -/
theorem codes_of (xs : List Int) (w : World) (hx : ∀ x ∈ xs, 0 ≤ x ∧ x ≤ 255) (hl : xs.length ≤ 1048576) :
    Calls Try.prog 40 #[.string (strOf xs)] w fun e w' => ∃ A c, e = .returned (.slice A xs.length c) ∧ Rd w' w'.heap.size A (xs.map (.int .i32)) ∧ Below w.heap.size w w' := by
  refine (codes_any (strOf xs) w (by rw [strOf_size]; omega)).mono ?_
  rintro e w' ⟨v, rfl, hown, hb⟩
  rw [bts_strOf xs hx, strOf_size] at hown
  obtain ⟨A, c, rfl, hA, hAc, hcm⟩ := own_form hown
  exact ⟨A, c, rfl, Rd.of_own hown, hb⟩

set_option maxRecDepth 100000 in
set_option maxHeartbeats 4000000 in
theorem prefixed_any (AS AR : Option Addr) (cS cR : Nat) (xs rs : List Int) (p : Int) (w : World) (hS : Rd w w.heap.size AS (xs.map (.int .u8))) (hR : Rd w w.heap.size AR (rs.map (.int .i32)))
    (hnS : AS = none → xs.length = 0) (hnR : AR = none → rs.length = 0) (hlS : xs.length ≤ 1048576) (hlR : rs.length ≤ 1048576)
    (hx : ∀ x ∈ xs, 0 ≤ x ∧ x ≤ 255) (hr : ∀ x ∈ rs, -2147483648 ≤ x ∧ x ≤ 2147483647) (hp : -9223372036854775808 ≤ p ∧ p ≤ 9223372036854775807) :
    Calls Try.prog 26 #[.agg #[.slice AS xs.length cS, .slice AR rs.length cR, .int .i64 p]] w fun e w' => e = .returned (.bool true) ∧ Below w.heap.size w w' := by
  obtain ⟨i0, hi, hz0, hz1, hz2⟩ := info_parts info5
  have HX := Lib.hid hx
  have hnS' := Lib.hid hnS
  have HR := Lib.hid hr
  clear hx hr
  have hb0 : (w.alloc (.cells #[.slice AS xs.length cS, .slice AR rs.length cR, .int .i64 p] 68)).heap.size = w.heap.size + 1 := by simp
  have HB0 := Lib.hid hb0
  clear hb0
  go_enter Try.func26, Try.ntmps26
  go_wp2_with (first
    | (at_builtin; refine wpList_app _ rfl (.tmp 20) (.tmp 22) _ rfl (w.heap.size + 1) 5 i0 _ 1 1 Try.underlying64 hi hz0 hz1 hz2 rfl (by omega) (.slice (some ⟨w.heap.size + 1, 0, none⟩) 0 0) 0 [] rfl (own_empty _ _ _ _ _ HB0.out (Nat.le_refl _)) w.heap.size AS xs.length cS (xs.map (.int .u8)) rfl (by simp) (hS.below (((Below.refl _ _).alloc (Nat.le_refl _) _).alloc (by simp) _)) hnS (by intro u hu; simp at hu; obtain ⟨_, _, rfl⟩ := hu; rfl) (by unfold maxLen; omega) (by omega) (by simp) ?_; intro v1 w1 hown1 hg1 hat1; have hz1' : w.heap.size + 1 ≤ w1.heap.size := by have := hg1.size; simp at this; omega)
    | (at_builtin; go_must (refine wpList_app _ rfl (.tmp 23) (.tmp 24) _ rfl (w.heap.size + 1) 5 i0 _ 1 1 Try.underlying64 hi hz0 hz1 hz2 rfl (by omega) v1 (0 + xs.length) ([] ++ xs.map (.int .u8)) rfl (hown1.alloc _) (w1.heap.size + 1) (some ⟨w1.heap.size, 0, none⟩) 2 2 [.int .u8 7, .int .u8 8] rfl rfl (Rd.new w1 [.int .u8 7, .int .u8 8] 5) (by simp) (by simp; exact ⟨rfl, rfl⟩) (by unfold maxLen; omega) (by omega) (by simp; omega) ?_; intro v2 w2 hown2 hg2 hat2; obtain ⟨g, c2, cur2, rfl, hgB, hglt, hnc, hcm, hblk, hcs, htake⟩ := own_block hown2 (by omega); have hbb1 : Below (w.heap.size + 1) (w.alloc (.cells #[.slice AS xs.length cS, .slice AR rs.length cR, .int .i64 p] 68)) w1 := ((Below.refl _ _).alloc (by simp) (.cells #[] 5)).grown hg1 (by simp) (by intro k hk; simp [Value.ownBlock] at hk; omega); have hbb := below_app1 hbb1 hown1 (Nat.le_refl _) hz1' hg2; have hW2 : Below w.heap.size w w2 := ((Below.refl _ w).alloc (Nat.le_refl _) _).trans (hbb.mono (by omega)); have e0 := box_cell hbb rfl (by omega) 0; have e1 := box_cell hbb rfl (by omega) 1; have e2 := box_cell hbb rfl (by omega) 2; simp at e0 e1 e2; have hc2 : xs.length + 2 ≤ c2 := (by omega); have hRf := Rd.of_block (xs := xs.map (.int .u8)) hblk htake ⟨[.int .u8 7, .int .u8 8], by simp⟩; have hRg := Rd.of_block (xs := (xs ++ [7, 8]).map (.int .u8)) hblk htake ⟨[], by simp⟩; have hSr2 := hS.below hW2; have hRr2 := hR.below hW2; clear hown1 hg1 hat1 hown2 hg2 hat2 hnc hbb1)))
  refine (prefix25 _ _ xs p _ _ hRf (by omega) HX.out hp).mono ?_
  rintro e wx ⟨rfl, rfl⟩
  go_wp2_with fail
  have HXw := Lib.hid (show ∀ x ∈ xs, -2147483648 ≤ x ∧ x ≤ 2147483647 from fun x h => by have := HX.out x h; omega)
  have hconv : ∀ wx, Below w2.heap.size w2 wx → (convert 64 9 (.slice AS xs.length cS)).run Try.prog wx = .ok (.string (strOf xs)) wx := fun wx hb => run_conv_bytes (w := wx) 64 9 5 AS xs cS Try.underlying64 Try.underlying5 Try.underlying9 ((hSr2.more hW2.size).below hb) hnS'.out
  have hlt0 : w.heap.size < w2.heap.size := by omega
  go_region_held3 (fun w' => w'.cell? ⟨w.heap.size, 0, none⟩ = some (.slice AS xs.length cS) ∧ w'.cell? ⟨w.heap.size, 2, none⟩ = some (.int .i64 p) ∧ Below w2.heap.size w2 w') (first | exact ⟨e0, e2, (Below.refl _ _).drew⟩ | exact ⟨(hb3.cell (p := ⟨w.heap.size, 0, none⟩) hlt0).trans e0, (hb3.cell (p := ⟨w.heap.size, 2, none⟩) hlt0).trans e2, (Below.refl _ _).drew.trans hb3⟩)
    (first
      | (go_at_call 40; go_must (refine (codes_of xs _ HX.out hlS).mono ?_; rintro e wc ⟨A3, c3, rfl, hrd3, hb3⟩))
      | (go_at_call 39; go_must (refine (prefix39 _ _ xs p _ _ hrd3 (by omega) HXw.out hp).mono ?_; rintro e wx ⟨rfl, rfl⟩)))
  have hbc : Below w2.heap.size w2 wc := (Below.refl _ _).drew.trans hb3
  have hconvF : (convert 64 9 (.slice (some ⟨g, 0, none⟩) (xs.length + 2) c2)).run Try.prog wc = .ok (.string (strOf (xs ++ [7, 8]))) wc := by
    have := run_conv_bytes (P := Try.prog) (w := wc) 64 9 5 (some ⟨g, 0, none⟩) (xs ++ [7, 8]) c2 Try.underlying64 Try.underlying5 Try.underlying9 ((hRg.more (by omega)).below hbc) (by simp)
    simpa using this
  have hstr := strOf_app xs
  have hssz : (strOf xs).size ≤ 1048576 := by rw [strOf_size]; omega
  go_wp2_with (go_at_call 41; refine (sameForm_eq _ _).mono ?_; rintro e wx ⟨rfl, rfl⟩)
  have hblkc : wc.heap[g]? = some (.cells cur2 5 (0, 0)) := (hbc.block g hglt).trans hblk
  have hWc : Below w.heap.size w wc := hW2.trans (hbc.mono (by omega))
  have hcs2 : cur2.size = c2 := by omega
  have hbbc := hbb.trans (hbc.mono (by omega))
  clear hstr hconv hconvF hRf hRg hSr2 hRr2 hb3 hrd3 hcs htake hblk hbb
  go_loopw [11] (fun i wr => ∃ (k : Nat) (cur : Array Value), k ≤ xs.length ∧ i = .int .i64 (k : Int) ∧ wr.heap[g]? = some (.cells cur 5 (0, 0)) ∧ cur.size = c2 ∧ Hid (∀ j, j < k → cur[j]? = some (.int .u8 53)) ∧ wc.grownBy wr (some g)) (fun i _ => xs.length - (intOf i).toNat)
  case atStart => exact ⟨0, cur2, Nat.zero_le _, rfl, hblkc, hcs2, fun j hj => absurd hj (by omega), grown_refl _ _⟩
  case round =>
    obtain ⟨k, cur, hk, rfl, hbk, hck, hall, hgr⟩ := hrel
    by_cases hlt : k < xs.length
    · have hcell := blk_cell hbk (i := k) (by omega)
      have hfz := blk_frozen hbk k
      go_wp2
      exact ⟨⟨k + 1, cur.setIfInBounds k (.int .u8 53), by omega, by go_num, blk_set hbk k _, by simp [hck], set_all hall.out (by omega), grown_set hgr k _⟩, by simp [intOf]; omega⟩
    · obtain rfl : k = xs.length := by omega
      have hbbr : Below (w.heap.size + 1) (w.alloc (.cells #[.slice AS xs.length cS, .slice AR rs.length cR, .int .i64 p] 68)) wr := hbbc.trans (grown_below hgr hgB (by have := hbc.size; omega))
      have hWr : Below w.heap.size w wr := ((Below.refl _ w).alloc (Nat.le_refl _) _).trans (hbbr.mono (by omega))
      have hRy := Rd.of_cells (xs := (List.replicate xs.length (53 : Int)).map (.int .u8)) hbk (by simpa using all_rep hall.out)
      have hglr : g < wr.heap.size := (Array.getElem?_eq_some_iff.1 hbk).1
      obtain ⟨ys, hys⟩ : ∃ ys, ys = List.replicate xs.length (53 : Int) := ⟨_, rfl⟩
      rw [← hys] at hRy
      have hyl : ys.length = xs.length := by simp [hys]
      have HY := Lib.hid (show ∀ x ∈ ys, 0 ≤ x ∧ x ≤ 255 from fun x h => by rw [hys] at h; simp at h; omega)
      have HYw := Lib.hid (show ∀ x ∈ ys, -2147483648 ≤ x ∧ x ≤ 2147483647 from fun x h => by rw [hys] at h; simp at h; omega)
      have HYL := Lib.hid hyl
      clear hys hyl hall hbk hck hgr hbbc hbc e0 e1 e2 hblkc hWc hcs2 hW2 hglt hlt0
      have e0 := box_cell hbbr rfl (by omega) 0
      have e1 := box_cell hbbr rfl (by omega) 1
      have e2 := box_cell hbbr rfl (by omega) 2
      simp at e0 e1 e2
      go_wp2_with fail
      refine (prefix25n _ _ _ ys p _ _ hRy HYL.out (by omega) HY.out hp).mono ?_
      rintro e wx ⟨rfl, rfl⟩
      go_wp2_with fail
      have hconv : ∀ wx, Below wr.heap.size wr wx → (convert 64 9 (.slice (some ⟨g, 0, none⟩) xs.length c2)).run Try.prog wx = .ok (.string (strOf ys)) wx := fun wx hb => by
        have := run_conv_bytes (P := Try.prog) (w := wx) 64 9 5 (some ⟨g, 0, none⟩) ys c2 Try.underlying64 Try.underlying5 Try.underlying9 ((hRy.more hglr).below hb) (by simp)
        rw [HYL.out] at this
        exact this
      have hltr : w.heap.size < wr.heap.size := by omega
      have hyl2 := Lib.hid (show ys.length ≤ 1048576 by rw [HYL.out]; exact hlS)
      go_region_held3 (fun w' => w'.cell? ⟨w.heap.size, 2, none⟩ = some (.int .i64 p) ∧ Below wr.heap.size wr w') (first | exact ⟨e2, (Below.refl _ _).drew⟩ | exact ⟨(hb4.cell (p := ⟨w.heap.size, 2, none⟩) hltr).trans e2, (Below.refl _ _).drew.trans hb4⟩)
        (first
          | (go_at_call 40; go_must (refine (codes_of ys _ HY.out hyl2.out).mono ?_; rintro e wd ⟨A4, c4, rfl, hrd4, hb4⟩))
          | (go_at_call 39; go_must (refine (prefix39n _ _ _ ys p _ _ hrd4 rfl (by have := hyl2.out; omega) HYw.out hp).mono ?_; rintro e wx ⟨rfl, rfl⟩)))
      have hbd : Below wr.heap.size wr wd := (Below.refl _ _).drew.trans hb4
      have hbbd := hbbr.trans (hbd.mono (by omega))
      have hszd := hbd.size
      go_wp2_with (go_at_call 41; refine (sameForm_eq _ _).mono ?_; rintro e wx ⟨rfl, rfl⟩)
      clear hconv hRy hb4 hrd4 e0 e1 e2 hbd hbbr hWr
      have hWd : Below w.heap.size w wd := ((Below.refl _ w).alloc (Nat.le_refl _) _).trans (hbbd.mono (by omega))
      have e0 := box_cell hbbd rfl (by omega) 0
      have e1 := box_cell hbbd rfl (by omega) 1
      have e2 := box_cell hbbd rfl (by omega) 2
      simp at e0 e1 e2
      have hltd : w.heap.size < wd.heap.size := by omega
      obtain ⟨i1, hi1, hy0, hy1, hy2⟩ := info_parts info94
      have hSd := hS.below hWd
      clear hszd hltr hyl2 HYL HY HYw hglr
      go_loopw [15, 16] (fun v i W => ∃ k : Nat, k ≤ xs.length ∧ i = .int .i64 (k : Int) ∧ W.ownsRow wd.heap.size 94 1 v k ((xs.take k).map (.int .u8)) ∧ Below wd.heap.size wd W) (fun _ i _ => xs.length - (intOf i).toNat)
      case atStart => exact ⟨0, Nat.zero_le _, rfl, World.ownsRow_nil _ _ _ _, Below.refl _ _⟩
      case round =>
        obtain ⟨k, hk, rfl, hown, hb⟩ := hrel
        have f0 := (hb.cell (p := ⟨w.heap.size, 0, none⟩) hltd).trans e0
        by_cases hlt : k < xs.length
        · obtain ⟨ad, had, _, hc⟩ := ((hSd.more (by omega)).below hb).at_ (k := k) (by simpa using hlt)
          simp only [List.getElem_map] at hc
          subst had
          obtain ⟨A, c, rfl, hA, hAc, hcm2⟩ := own_form hown
          have hsn := Lib.hid (List.take_succ_eq_append_getElem hlt)
          have hsz := hb.size
          have hxr := HX.out xs[k] (List.getElem_mem hlt)
          generalize xs[k] = x at hc hsn hxr
          go_wp2_with (at_builtin; refine wpList_app _ rfl (.tmp 121) (.tmp 127) _ rfl wd.heap.size 94 i1 _ 1 1 Try.underlying93 hi1 hy0 hy1 hy2 rfl (by omega) (.slice A k c) k _ rfl (hown.alloc _) (wr.heap.size + 1) (some ⟨wr.heap.size, 0, none⟩) 1 1 [.int .u8 x] rfl rfl (Rd.one _ _ _) (by simp) (by simp; rfl) (by unfold maxLen; omega) (by omega) (by simp; omega) ?_; intro v' w3 hown' hgrow hat)
          have hb1 := below_app1 hb hown (Nat.le_refl _) hsz hgrow
          exact ⟨⟨k + 1, by omega, by go_num, by rw [hsn.out]; simpa using hown', hb1⟩, by simp [intOf]; omega⟩
        · obtain rfl : k = xs.length := by omega
          rw [List.take_of_length_le (Nat.le_refl _)] at hown
          obtain ⟨A, c, rfl, hA, hAc, hcm2⟩ := own_form hown
          have hrdl := Rd.of_own hown
          have hbbe := hbbd.trans (hb.mono (by omega))
          have hsze := hb.size
          have f1 := (hb.cell (p := ⟨w.heap.size, 1, none⟩) hltd).trans e1
          have f2 := (hb.cell (p := ⟨w.heap.size, 2, none⟩) hltd).trans e2
          go_wp2_with fail
          refine (prefix42n _ _ _ xs p _ _ hrdl rfl (by omega) HX.out hp).mono ?_
          rintro e wx ⟨rfl, rfl⟩
          clear hown hrdl hb e0 e1 e2 hSd hWd hbbd
          have hlte : w.heap.size < wr.heap.size := by omega
          have hWe : Below w.heap.size w wr := ((Below.refl _ w).alloc (Nat.le_refl _) _).trans (hbbe.mono (by omega))
          have hRe := hR.below hWe
          obtain ⟨i2, hi2, hx0, hx1, hx2⟩ := info_parts info21
          go_wp2_with (first
            | (go_at_call 41; refine (sameForm_eq _ _).mono ?_; rintro e wx ⟨rfl, rfl⟩)
            | (at_builtin; go_must (refine wpList_app _ rfl (.tmp 151) (.tmp 153) _ rfl wr.heap.size 21 i2 _ 1 4 Try.underlying66 hi2 hx0 hx1 hx2 rfl (by omega) (.slice (some ⟨wr.heap.size, 0, none⟩) 0 0) 0 [] rfl (own_empty _ _ _ _ _ rfl (Nat.le_refl _)) w.heap.size AR rs.length cR (rs.map (.int .i32)) rfl (by simp) (hRe.below ((Below.refl _ _).alloc (by omega) _)) hnR (by intro u hu; simp at hu; obtain ⟨_, _, rfl⟩ := hu; rfl) (by unfold maxLen; omega) (by omega) (by simp) ?_; intro v3 w3 hown3 hg3 hat3; have hbb3 : Below (w.heap.size + 1) (w.alloc (.cells #[.slice AS xs.length cS, .slice AR rs.length cR, .int .i64 p] 68)) w3 := ((hbbe.alloc (by omega) (.cells #[] 21)).grown hg3 (by simp; omega) (by intro k hk; simp [Value.ownBlock] at hk; omega)); have g1 := box_cell hbb3 rfl (by omega) 1; have g2 := box_cell hbb3 rfl (by omega) 2; simp at g1 g2; rw [Nat.zero_add, List.nil_append] at hown3; obtain ⟨A5, c5, rfl, hA5, hAc5, hcm5⟩ := own_form hown3; have hrd5 := Rd.of_own hown3; have hW3 : Below w.heap.size w w3 := ((Below.refl _ w).alloc (Nat.le_refl _) _).trans (hbb3.mono (by omega)); have hR3 := hR.below hW3; have hsz3 : w.heap.size < w3.heap.size := (by have := hg3.size; simp at this; omega); clear hg3 hat3 hown3)))
          refine (prefix43n _ _ _ rs p _ _ hrd5 rfl (by omega) HR.out hp).mono ?_
          rintro e wx ⟨rfl, rfl⟩
          go_wp2_with fail
          refine (prefix39n _ _ _ rs p _ _ hR3 rfl (by omega) HR.out hp).mono ?_
          rintro e wx ⟨rfl, rfl⟩
          go_wp2_with (go_at_call 41; refine (sameForm_eq _ _).mono ?_; rintro e wx ⟨rfl, rfl⟩)
          obtain ⟨i3, hi3, hv0, hv1, hv2⟩ := info_parts info98
          go_loopw [18, 19] (fun v i W => ∃ k : Nat, k ≤ rs.length ∧ i = .int .i64 (k : Int) ∧ W.ownsRow w3.heap.size 98 1 v k ((rs.take k).map (.int .i32)) ∧ Below w3.heap.size w3 W) (fun _ i _ => rs.length - (intOf i).toNat)
          case atStart => exact ⟨0, Nat.zero_le _, rfl, World.ownsRow_nil _ _ _ _, Below.refl _ _⟩
          case round =>
            obtain ⟨k, hk, rfl, hown, hb⟩ := hrel
            have f1 := (hb.cell (p := ⟨w.heap.size, 1, none⟩) hsz3).trans g1
            by_cases hlt : k < rs.length
            · obtain ⟨ad, had, _, hc⟩ := ((hR3.more (by omega)).below hb).at_ (k := k) (by simpa using hlt)
              obtain ⟨ad5, had5, _, hc5⟩ := (hrd5.below hb).at_ (k := k) (by simpa using hlt)
              simp only [List.getElem_map] at hc hc5
              subst had had5
              obtain ⟨A, c, rfl, hA, hAc, hcm2⟩ := own_form hown
              have hsn := Lib.hid (List.take_succ_eq_append_getElem hlt)
              have hsz := hb.size
              generalize rs[k] = x at hc hc5 hsn
              have hki : (k : Int) < (rs.length : Int) := by omega
              have hk0 : (0 : Int) ≤ (k : Int) := by omega
              go_wp2_with fail
              go_quiet (fail)
              have f1q : (wr.drewN nq).cell? ⟨w.heap.size, 1, none⟩ = some (.slice (some ad) rs.length cR) := f1
              have hcq : (wr.drewN nq).cell? (ad.add k) = some (.int .i32 x) := hc
              have hownq : (wr.drewN nq).ownsRow w3.heap.size 98 1 (.slice A k c) k ((rs.take k).map (.int .i32)) := hown
              have hbq : Below w3.heap.size w3 (wr.drewN nq) := ⟨hb.os, hb.tape, hb.output, hb.size, hb.block⟩
              have hszq : w3.heap.size ≤ (wr.drewN nq).heap.size := hsz
              clear f1 hc hc5 hown hb hsz
              generalize wr.drewN nq = W5 at *
              go_wp2_with (at_builtin; go_must (refine wpList_app _ rfl (.tmp 202) (.tmp 208) _ rfl w3.heap.size 98 i3 _ 1 4 Try.underlying97 hi3 hv0 hv1 hv2 rfl (by omega) (.slice A k c) k _ rfl (hownq.alloc _) (W5.heap.size + 1) (some ⟨W5.heap.size, 0, none⟩) 1 1 [.int .i32 x] rfl rfl (Rd.one _ _ _) (by simp) (by simp; rfl) (by unfold maxLen; omega) (by omega) (by simp; omega) ?_; intro v' w6 hown' hgrow hat))
              have hb1 := below_app1 hbq hownq (Nat.le_refl _) hszq hgrow
              refine ⟨⟨k + 1, by omega, by go_num, by rw [hsn.out]; simpa using hown', hb1⟩, by simp [intOf]; omega⟩
            · obtain rfl : k = rs.length := by omega
              rw [List.take_of_length_le (Nat.le_refl _)] at hown
              obtain ⟨A, c, rfl, hA, hAc, hcm2⟩ := own_form hown
              have hrdl := Rd.of_own hown
              have hsze := hb.size
              have f2 := (hb.cell (p := ⟨w.heap.size, 2, none⟩) hsz3).trans g2
              go_wp2_with fail
              refine (prefix44n _ _ _ rs p _ _ hrdl rfl (by omega) HR.out hp).mono ?_
              rintro e wx ⟨rfl, rfl⟩
              clear hown hrdl
              have hfin := hW3.trans (hb.mono (by omega))
              go_wp2_with (go_at_call 41; refine (sameForm_eq _ _).mono ?_; rintro e wx ⟨rfl, rfl⟩)
              go_ret
              exact ⟨rfl, hfin⟩
end Go.Proofs.Ytgmcglicnhafcaa.pfx
