/- The reference's sorting, as the program computes it. -/
import Derived.Test.YtmicjfdibhoamaaLess
import Derived.Test.YtmicjfdibhoamaaIdle
namespace Go.Proofs.Ytmicjfdibhoamaa.val
open Go.RowKit mem

def SortPost (cs : List C) (lo hi : Nat) (w : World) (e : Ending) (w' : World) : Prop := ∃ l, InOrder (keyAt cs) l lo hi ∧ IntsPost w l e w'
theorem iv_one (l : List Nat) : ∀ u ∈ l.map iv, u.oneCell' = true := fun u hu => by
  obtain ⟨j, _, rfl⟩ := List.mem_map.1 hu
  rfl

set_option maxRecDepth 100000 in
set_option maxHeartbeats 8000000 in
theorem sorted_any (cs : List C) (hcs : cs.length ≤ 1048576) (A : Option Addr) (c : Nat) (w0 : World) (S : Nat → Prop) (hE0 : LAt 4 IsC w0 S cs A) (hB0 : Bel S w0.heap.size) : ∀ (N lo hi : Nat), hi - lo ≤ N → lo ≤ hi → hi ≤ cs.length → ∀ w : World, Below w0.heap.size w0 w →
    Calls Try.prog 36 #[.slice A cs.length c, .int .i64 lo, .int .i64 hi] w (SortPost cs lo hi w) := by
  have HE0 := Lib.hid hE0
  have HB := Lib.hid hB0
  obtain ⟨ii, hiv, hv0, hv1, hv2⟩ := info_parts infoI
  clear hE0 hB0
  intro N
  induction N with
  | zero =>
    intro lo hi hn h1 h2 w hw
    obtain rfl : lo = hi := by omega
    go_enter Try.func36, Try.ntmps36
    go_wp2_with fail
    go_ret
    exact ⟨[], inOrder_nil _ (Nat.le_refl _), _, rfl, World.ownsRow_nil _ _ _ _, Below.refl _ _⟩
  | succ N ih =>
    intro lo hi hn h1 h2 w hw
    have IH := Lib.hid ih
    clear ih
    by_cases hz : hi - lo = 0
    · obtain rfl : lo = hi := by omega
      go_enter Try.func36, Try.ntmps36
      go_wp2_with fail
      go_ret
      exact ⟨[], inOrder_nil _ (Nat.le_refl _), _, rfl, World.ownsRow_nil _ _ _ _, Below.refl _ _⟩
    · by_cases h11 : hi - lo = 1
      · obtain rfl : hi = lo + 1 := by omega
        have ho : (w.alloc (.cells #[.int .i64 (lo : Int)] 3)).ownsRow w.heap.size 3 1 (.slice (some ⟨w.heap.size, 0, none⟩) 1 1) 1 [.int .i64 (lo : Int)] := World.ownsRow_lit w _ 1 (Nat.le_refl _) (by unfold maxLen; omega) rfl
        have hbb : Below w.heap.size w (w.alloc (.cells #[.int .i64 (lo : Int)] 3)) := (Below.refl _ _).alloc (Nat.le_refl _) _
        go_enter Try.func36, Try.ntmps36
        go_wp2_with fail
        go_ret
        exact ⟨[lo], inOrder_one _ lo, _, rfl, ho, hbb⟩
      · obtain ⟨mid, hmid⟩ : ∃ mid, lo + (hi - lo) / 2 = mid := ⟨_, rfl⟩
        have hm1 : lo < mid := by omega
        have hm2 : mid < hi := by omega
        have hmi : (lo : Int) + ((hi : Int) - (lo : Int)).tdiv 2 = (mid : Int) := by
          rw [Int.tdiv_eq_ediv_of_nonneg (by omega)]
          omega
        go_enter Try.func36, Try.ntmps36
        go_wp2_with fail
        refine (IH.out lo mid (by omega) (by omega) (by omega) w hw).mono ?_
        rintro e w1 ⟨la, hla, va, rfl, hoa, hb1⟩
        obtain ⟨Aa, ca, rfl, _⟩ := own_form hoa
        have hs1 := hb1.size
        have hws := hw.size
        have OA := Lib.hid hoa
        have LA := Lib.hid hla
        have hw1 := hw.trans (hb1.mono hws)
        clear hoa hla
        go_wp2_with fail
        refine (IH.out mid hi (by omega) (by omega) (by omega) w1 hw1).mono ?_
        rintro e w2 ⟨lb, hlb, vb, rfl, hob, hb2⟩
        obtain ⟨Ab, cb, rfl, _⟩ := own_form hob
        have hs2 := hb2.size
        have OA2 := Lib.hid (own_below OA.out hb2)
        have OB := Lib.hid hob
        have LB := Lib.hid hlb
        have hb02 : Below w.heap.size w w2 := hb1.trans (hb2.mono hs1)
        clear hob hlb OA IH
        have hal := LA.out.2.2.symm
        have hbl := LB.out.2.2.symm
        go_wp2_with (refine wpList_make_own _ rfl (.const (.int .i64 0)) (.tmp 39) 28 rfl w2.heap.size 3 ii _ 1 Try.underlying28 hiv hv0 hv1 .i64 .i64 ((hi : Int) - (lo : Int)) (hi - lo) rfl rfl (by omega) (by rw [hv2]; omega) (by unfold maxLen; omega) (Nat.le_refl _) ?_; intro w3 hown3 hgrow3)
        have hs3 := hgrow3.size
        have hb23 : Below w2.heap.size w2 w3 := (Below.refl _ _).grown hgrow3 (Nat.le_refl _) (fun k hk => by cases hk)
        have O3 := Lib.hid hown3
        clear hown3 hgrow3
        go_wp2_with fail
        go_loopw [10, 11, 12] (fun vo vi vj W => ∃ (i j : Nat) (vv : Value) (out : List Nat), i ≤ la.length ∧ j ≤ lb.length ∧ vi = .int .i64 (i : Int) ∧ vj = .int .i64 (j : Int) ∧ vv = vo ∧ Hid (Merged (keyAt cs) la lb i j out) ∧ Hid (W.ownsRow w2.heap.size 3 1 vv out.length (out.map iv)) ∧ Below w2.heap.size w2 W) (fun _ i j _ => la.length - (intOf i).toNat + (lb.length - (intOf j).toNat))
        case atStart => exact ⟨0, 0, _, [], Nat.zero_le _, Nat.zero_le _, rfl, rfl, rfl, Lib.hid (merged_nil _ _ _), O3, hb23⟩
        case round =>
          obtain ⟨i, j, vv, out, hqi, hqj, rfl, rfl, rfl, HM, HO, hb⟩ := hrel
          clear O3 hb23
          have hszr := hb.size
          have OAr := Lib.hid (own_below OA2.out hb)
          have OBr := Lib.hid (own_below OB.out hb)
          have hwr : Below w0.heap.size w0 wr := (hw1.trans (hb2.mono (by have := hw1.size; omega))).trans (hb.mono (by omega))
          have hol := HM.out.2.2.1.symm
          by_cases hil : i < la.length
          · have MA := (LA.out.2.1 _).1 (List.getElem_mem hil)
            obtain ⟨aa, rfl, haB, ha⟩ := (Rd.of_own OAr.out).at_ (k := i) (by simpa using hil)
            simp only [List.getElem_map, iv] at ha
            obtain ⟨pa, HPa⟩ : ∃ pa : Nat, Hid (la[i] = pa) := ⟨la[i], Lib.hid rfl⟩
            rw [HPa.out] at ha MA
            by_cases hjl : j < lb.length
            · have MB := (LB.out.2.1 _).1 (List.getElem_mem hjl)
              obtain ⟨ab, rfl, hbB, hb'⟩ := (Rd.of_own OBr.out).at_ (k := j) (by simpa using hjl)
              simp only [List.getElem_map, iv] at hb'
              obtain ⟨pb, HPb⟩ : ∃ pb : Nat, Hid (lb[j] = pb) := ⟨lb[j], Lib.hid rfl⟩
              rw [HPb.out] at hb' MB
              obtain ⟨ma1, ma2⟩ := MA
              obtain ⟨mb1, mb2⟩ := MB
              obtain ⟨ca1, hca⟩ : ∃ x, cs[pa]? = some x := ⟨_, List.getElem?_eq_getElem (by omega)⟩
              obtain ⟨cb1, hcb⟩ : ∃ x, cs[pb]? = some x := ⟨_, List.getElem?_eq_getElem (by omega)⟩
              obtain ⟨ad, xa, rfl, hadB, hxa, rfl⟩ := (HE0.out.below recC HB.out hwr) pa _ hca
              obtain ⟨ad', xb, hAd, hadB', hxb, rfl⟩ := (HE0.out.below recC HB.out hwr) pb _ hcb
              obtain rfl : ad = ad' := by injection hAd
              have HKa := Lib.hid (keyAt_get hca)
              have HKb := Lib.hid (keyAt_get hcb)
              obtain ⟨d0, d1, d2, d3⟩ := hxa.four
              obtain ⟨n0, n1, n2, n3⟩ := hxb.four
              have HL : Hid (ltC cb1 ca1 = false → Merged (keyAt cs) la lb (i + 1) j (out ++ [pa])) := Lib.hid (fun h => by
                have := HM.out.left LA.out.1 LB.out.1 hil (fun hj' => by rw [HPa.out, HPb.out, HKa.out, HKb.out]; exact ⟨h, by omega⟩)
                rw [HPa.out] at this
                exact this)
              have HR : Hid (ltC cb1 ca1 = true → Merged (keyAt cs) la lb i (j + 1) (out ++ [pb])) := Lib.hid (fun h => by
                have := HM.out.right LA.out.1 LB.out.1 hjl (fun hj' => by rw [HPa.out, HPb.out, HKa.out, HKb.out]; exact h)
                rw [HPb.out] at this
                exact this)
              obtain ⟨x1, x2, x3, x4⟩ := ca1
              obtain ⟨y1, y2, y3, y4⟩ := cb1
              simp only at d0 d1 d2 d3 n0 n1 n2 n3
              clear hxa hxb hca hcb hAd
              have hi1 : (0 : Int) ≤ (i : Int) := by omega
              have hi2 : (i : Int) < (la.length : Int) := by omega
              have hj1 : (0 : Int) ≤ (j : Int) := by omega
              have hj2 : (j : Int) < (lb.length : Int) := by omega
              have hpa1 : (0 : Int) ≤ (pa : Int) := by omega
              have hpa2 : (pa : Int) < (cs.length : Int) := by omega
              have hpb1 : (0 : Int) ≤ (pb : Int) := by omega
              have hpb2 : (pb : Int) < (cs.length : Int) := by omega
              have hne : ((j : Int) == (lb.length : Int)) = false := by simp; omega
              have hrefl : Below wr.heap.size wr wr.drew := (Below.refl _ _).drew
              go_wp2_with fail
              go_region_held3 (fun w' => w'.cell? (aa.add i) = some (.int .i64 pa) ∧ w'.cell? (ab.add j) = some (.int .i64 pb) ∧ w'.cell? (ad.add (pa * 4)) = some (.string x1) ∧ w'.cell? ⟨(ad.add (pa * 4)).block, (ad.add (pa * 4)).off + 1, none⟩ = some (.string x2) ∧ w'.cell? ⟨(ad.add (pa * 4)).block, (ad.add (pa * 4)).off + 2, none⟩ = some (.string x3) ∧ w'.cell? ⟨(ad.add (pa * 4)).block, (ad.add (pa * 4)).off + 3, none⟩ = some (.string x4) ∧
                  w'.cell? (ad.add (pb * 4)) = some (.string y1) ∧ w'.cell? ⟨(ad.add (pb * 4)).block, (ad.add (pb * 4)).off + 1, none⟩ = some (.string y2) ∧ w'.cell? ⟨(ad.add (pb * 4)).block, (ad.add (pb * 4)).off + 2, none⟩ = some (.string y3) ∧ w'.cell? ⟨(ad.add (pb * 4)).block, (ad.add (pb * 4)).off + 3, none⟩ = some (.string y4))
                (first | exact ⟨ha, hb', d0, d1, d2, d3, n0, n1, n2, n3⟩ | (have kk := fun (a : Addr) (u : Value) (hh : wr.cell? a = some u) => (hb3.cell (p := a) (World.block_lt_of_cell? wr a hh)).trans hh; exact ⟨kk _ _ ha, kk _ _ hb', kk _ _ d0, kk _ _ d1, kk _ _ d2, kk _ _ d3, kk _ _ n0, kk _ _ n1, kk _ _ n2, kk _ _ n3⟩))
                (first | (go_at_call 41; go_must (refine (less_any ⟨y1, y2, y3, y4⟩ ⟨x1, x2, x3, x4⟩ _).mono ?_; rintro e wc ⟨rfl, hb3'⟩; have hb3 := hrefl.trans (hb3'.mono (by simp)))))
              clear d0 d1 d2 d3 n0 n1 n2 n3 hne
              have hbc : Below w2.heap.size w2 wc := hb.trans (hb3.mono (by omega))
              have HOq := Lib.hid (own_below HO.out hb3)
              have hac := (hb3.cell (p := aa.add i) (World.block_lt_of_cell? wr _ ha)).trans ha
              have hbb := (hb3.cell (p := ab.add j) (World.block_lt_of_cell? wr _ hb')).trans hb'
              have hsc := hb3.size
              cases hlt : ltC ⟨y1, y2, y3, y4⟩ ⟨x1, x2, x3, x4⟩ with
              | false =>
                have HMn := Lib.hid (HL.out hlt)
                clear hlt ha hb'
                go_wp2_with (at_builtin; go_must (refine wpList_app _ rfl (.tmp 79) (.tmp 84) _ rfl w2.heap.size 3 ii _ 1 8 Try.underlying28 hiv hv0 hv1 hv2 rfl (by omega) vv out.length (out.map iv) rfl (HOq.out.alloc _) (wc.heap.size + 1) (some ⟨wc.heap.size, 0, none⟩) 1 1 [.int .i64 (pa : Int)] rfl rfl (Rd.new wc [.int .i64 (pa : Int)] 3) (fun h => by cases h) (by simp; rfl) (by unfold maxLen; omega) (by omega) (by simp; omega) ?_); intro v5 w5 hown5 hgrow5 hat5)
                have hon : w5.ownsRow w2.heap.size 3 1 v5 (out ++ [pa]).length ((out ++ [pa]).map iv) := by simpa [iv] using hown5
                have HOn := Lib.hid hon
                have hbn := below_app1 hbc HOq.out (Nat.le_refl _) (by have := hbc.size; omega) hgrow5
                clear hon hown5 hgrow5 hat5
                go_wp2_with fail
                go_roundw
                case rel => exact ⟨i + 1, j, _, _, by omega, by omega, by go_num, by go_num, rfl, HMn, HOn, hbn⟩
                case measure => simp [intOf]; omega
              | true =>
                have HMn := Lib.hid (HR.out hlt)
                clear hlt ha hb'
                go_wp2_with (at_builtin; go_must (refine wpList_app _ rfl (.tmp 88) (.tmp 93) _ rfl w2.heap.size 3 ii _ 1 8 Try.underlying28 hiv hv0 hv1 hv2 rfl (by omega) vv out.length (out.map iv) rfl (HOq.out.alloc _) (wc.heap.size + 1) (some ⟨wc.heap.size, 0, none⟩) 1 1 [.int .i64 (pb : Int)] rfl rfl (Rd.new wc [.int .i64 (pb : Int)] 3) (fun h => by cases h) (by simp; rfl) (by unfold maxLen; omega) (by omega) (by simp; omega) ?_); intro v5 w5 hown5 hgrow5 hat5)
                have hon : w5.ownsRow w2.heap.size 3 1 v5 (out ++ [pb]).length ((out ++ [pb]).map iv) := by simpa [iv] using hown5
                have HOn := Lib.hid hon
                have hbn := below_app1 hbc HOq.out (Nat.le_refl _) (by have := hbc.size; omega) hgrow5
                clear hon hown5 hgrow5 hat5
                go_wp2_with fail
                go_roundw
                case rel => exact ⟨i, j + 1, _, _, by omega, by omega, by go_num, by go_num, rfl, HMn, HOn, hbn⟩
                case measure => simp [intOf]; omega
            · obtain rfl : j = lb.length := by omega
              have HMn : Hid (Merged (keyAt cs) la lb (i + 1) lb.length (out ++ [pa])) := Lib.hid (by
                have := HM.out.left LA.out.1 LB.out.1 hil (fun hj' => absurd hj' (Nat.lt_irrefl _))
                rw [HPa.out] at this
                exact this)
              have hbq : ∀ n, Below w2.heap.size w2 (wr.drewN n) := fun n => below_drewN hb n
              have hoq : ∀ n, Hid ((wr.drewN n).ownsRow w2.heap.size 3 1 vv out.length (out.map iv)) := fun n => Lib.hid (own_below HO.out (below_drewN (Below.refl _ _) n))
              have hbr : ∀ n, (wr.drewN n).cell? (aa.add i) = some (.int .i64 pa) := fun n => ((below_drewN (Below.refl _ wr) n).cell (World.block_lt_of_cell? wr _ ha)).trans ha
              go_wp2_with fail
              go_quiet (fail)
              replace hbr := hbr nq
              have HOq := hoq nq
              have hbc := hbq nq
              clear hoq hbq ha
              generalize wr.drewN nq = wq at *
              have hszq := hbc.size
              go_wp2_with (at_builtin; go_must (refine wpList_app _ rfl (.tmp 79) (.tmp 84) _ rfl w2.heap.size 3 ii _ 1 8 Try.underlying28 hiv hv0 hv1 hv2 rfl (by omega) vv out.length (out.map iv) rfl (HOq.out.alloc _) (wq.heap.size + 1) (some ⟨wq.heap.size, 0, none⟩) 1 1 [.int .i64 (pa : Int)] rfl rfl (Rd.new wq [.int .i64 (pa : Int)] 3) (fun h => by cases h) (by simp; rfl) (by unfold maxLen; omega) (by omega) (by simp; omega) ?_); intro v5 w5 hown5 hgrow5 hat5)
              have hon : w5.ownsRow w2.heap.size 3 1 v5 (out ++ [pa]).length ((out ++ [pa]).map iv) := by simpa [iv] using hown5
              have HOn := Lib.hid hon
              have hbn := below_app1 hbc HOq.out (Nat.le_refl _) (by have := hbc.size; omega) hgrow5
              clear hon hown5 hgrow5 hat5
              go_wp2_with fail
              go_roundw
              case rel => exact ⟨i + 1, lb.length, _, _, by omega, by omega, by go_num, by go_num, rfl, HMn, HOn, hbn⟩
              case measure => simp [intOf]; omega
          · obtain rfl : i = la.length := by omega
            by_cases hjl : j < lb.length
            · have MB := (LB.out.2.1 _).1 (List.getElem_mem hjl)
              obtain ⟨ab, rfl, hbB, hb'⟩ := (Rd.of_own OBr.out).at_ (k := j) (by simpa using hjl)
              simp only [List.getElem_map, iv] at hb'
              obtain ⟨pb, HPb⟩ : ∃ pb : Nat, Hid (lb[j] = pb) := ⟨lb[j], Lib.hid rfl⟩
              rw [HPb.out] at hb' MB
              have HMn : Hid (Merged (keyAt cs) la lb la.length (j + 1) (out ++ [pb])) := Lib.hid (by
                have := HM.out.right LA.out.1 LB.out.1 hjl (fun hj' => absurd hj' (Nat.lt_irrefl _))
                rw [HPb.out] at this
                exact this)
              have hbq : ∀ n, Below w2.heap.size w2 (wr.drewN n) := fun n => below_drewN hb n
              have hoq : ∀ n, Hid ((wr.drewN n).ownsRow w2.heap.size 3 1 vv out.length (out.map iv)) := fun n => Lib.hid (own_below HO.out (below_drewN (Below.refl _ _) n))
              have hbr : ∀ n, (wr.drewN n).cell? (ab.add j) = some (.int .i64 pb) := fun n => ((below_drewN (Below.refl _ wr) n).cell (World.block_lt_of_cell? wr _ hb')).trans hb'
              have hjl' : (j : Int) < (lb.length : Int) := by omega
              have hne : ((j : Int) == (lb.length : Int)) = false := by simp; omega
              have hii : decide ((la.length : Int) < (la.length : Int)) = false := by simp
              go_wp2_with fail
              go_quiet (fail)
              replace hbr := hbr nq
              have HOq := hoq nq
              have hbc := hbq nq
              clear hoq hbq hb'
              generalize wr.drewN nq = wq at *
              have hszq := hbc.size
              go_wp2_with (at_builtin; go_must (refine wpList_app _ rfl (.tmp 88) (.tmp 93) _ rfl w2.heap.size 3 ii _ 1 8 Try.underlying28 hiv hv0 hv1 hv2 rfl (by omega) vv out.length (out.map iv) rfl (HOq.out.alloc _) (wq.heap.size + 1) (some ⟨wq.heap.size, 0, none⟩) 1 1 [.int .i64 (pb : Int)] rfl rfl (Rd.new wq [.int .i64 (pb : Int)] 3) (fun h => by cases h) (by simp; rfl) (by unfold maxLen; omega) (by omega) (by simp; omega) ?_); intro v5 w5 hown5 hgrow5 hat5)
              have hon : w5.ownsRow w2.heap.size 3 1 v5 (out ++ [pb]).length ((out ++ [pb]).map iv) := by simpa [iv] using hown5
              have HOn := Lib.hid hon
              have hbn := below_app1 hbc HOq.out (Nat.le_refl _) (by have := hbc.size; omega) hgrow5
              clear hon hown5 hgrow5 hat5
              go_wp2_with fail
              go_roundw
              case rel => exact ⟨la.length, j + 1, _, _, by omega, by omega, by go_num, by go_num, rfl, HMn, HOn, hbn⟩
              case measure => simp [intOf]; omega
            · obtain rfl : j = lb.length := by omega
              go_wp2_with fail
              go_ret
              exact ⟨out, HM.out.done LA.out LB.out (by omega) (by omega), _, rfl, own_base HO.out (by omega), hb02.trans (hb.mono (by omega))⟩
end Go.Proofs.Ytmicjfdibhoamaa.val
