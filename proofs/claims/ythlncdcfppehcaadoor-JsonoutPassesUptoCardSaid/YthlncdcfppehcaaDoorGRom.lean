/- The law's room: how many parts are left; below 0 where there are more. littered of any value; JsonoutPasses of any value. -/
import Derived.Test.YthlncdcfppehcaaDoorYRsz
import Derived.Test.YthlncdcfppehcaaDoorGOwn
import Derived.Test.YthlncdcfppehcaaDoorYLit3
import Derived.Test.YthlncdcfppehcaaDoorGAwq
import Derived.Test.YthlncdcfppehcaaDoorGDfq
import Derived.Test.YthlncdcfppehcaaDoorGRow
section
namespace Go.Proofs.YthlncdcfppehcaaDoor.look
open Go.RowKit mem txt app smap val
attribute [local go_sem] run_store_float
set_option linter.unusedVariables false

theorem szs_app (l r : List V) : szs (l ++ r) = szs l + szs r := by
  induction l with
  | nil => simp only [List.nil_append, szs]; omega
  | cons v l ih => simp only [List.cons_append, szs, ih]; omega
theorem szs_next {l : List V} {q : Nat} {y : V} (h : l[q]? = some y) : szs (l.take (q + 1)) = szs (l.take q) + sz y := by
  rw [List.take_add_one, h, Option.toList_some, szs_app]
  simp [szs]
theorem szf_app (l r : List (ByteArray × V)) : szf (l ++ r) = szf l + szf r := by
  induction l with
  | nil => simp [szf]
  | cons x l ih => obtain ⟨s, x⟩ := x; simp only [List.cons_append, szf, ih]; omega
theorem szf_next {l : List (ByteArray × V)} {q : Nat} {p : ByteArray × V} (h : l[q]? = some p) : szf (l.take (q + 1)) = szf (l.take q) + sz p.2 := by
  rw [List.take_add_one, h, Option.toList_some, szf_app]
  obtain ⟨s, x⟩ := p
  simp [szf]
def RmPost (v : V) (m : Int) (w : World) (e : Ending) (w' : World) : Prop := ∃ r : Int, e = .returned (.int .i64 r) ∧ -1 ≤ r ∧ r < m ∧ (0 ≤ r → (sz v : Int) + r ≤ m) ∧ Below w.heap.size w w'
set_option maxRecDepth 100000 in
set_option maxHeartbeats 4000000 in
theorem room_any : ∀ (N : Nat) (v : V), sz v ≤ N → N ≤ 1048576 → ∀ (cs : List Value) (m : Int) (w : World) (S : Nat → Prop), IsV w S v cs → Bel S w.heap.size → 0 ≤ m → m ≤ 1000000 →
    Calls Tryd.prog 12 #[.agg cs.toArray, .int .i64 m] w (RmPost v m w) := by
  intro N
  induction N with
  | zero => intro v hv; have := sz_pos v; omega
  | succ N ih =>
    intro v hv hN cs m w S hV hB hm1 hm2
    obtain ⟨k, b, i, f, t, y, is, fs⟩ := v
    simp only [IsV] at hV
    obtain ⟨A, c, A', c', rfl, hA, hA', his, hfs⟩ := hV
    have HZ : Hid (sz (V.mk k b i f t y is fs) = 1 + szs is + szf fs) := Lib.hid (by simp only [sz])
    simp only [sz] at hv
    have hl1 := szs_len is
    have hl2 := szf_len fs
    have IH := Lib.hid ih
    have HB := Lib.hid hB
    have HI := Lib.hid his
    have HF := Lib.hid hfs
    clear ih hB his hfs hA hA'
    unfold RmPost
    rw [HZ.out]
    clear HZ
    go_enter Tryd.func12, Tryd.ntmps12
    go_wp2_with fail
    have gB := heap_alloc_new w (.cells #[.int .i64 k, .bool b, .int .i64 i, .float .f64 f, .string t, .string y, .slice A is.length c, .slice A' fs.length c'] 30)
    have hbx : Below w.heap.size w (w.alloc (.cells #[.int .i64 k, .bool b, .int .i64 i, .float .f64 f, .string t, .string y, .slice A is.length c, .slice A' fs.length c'] 30)) := (Below.refl _ _).alloc (Nat.le_refl _) _
    have hsx : (w.alloc (.cells #[.int .i64 k, .bool b, .int .i64 i, .float .f64 f, .string t, .string y, .slice A is.length c, .slice A' fs.length c'] 30)).heap.size = w.heap.size + 1 := by simp
    generalize (w.alloc (.cells #[.int .i64 k, .bool b, .int .i64 i, .float .f64 f, .string t, .string y, .slice A is.length c, .slice A' fs.length c'] 30)) = w1 at *
    have GB := Lib.hid gB
    have hsx' : w.heap.size + 1 ≤ w1.heap.size := by omega
    clear hsx gB
    go_loopw [1, 5] (fun v1 v5 W => ∃ (q : Nat) (r : Int), q ≤ is.length ∧ -1 ≤ r ∧ r < m ∧ Hid (0 ≤ r → 1 + (szs (is.take q) : Int) + r ≤ m) ∧ v1 = .int .i64 r ∧ v5 = .int .i64 (q : Int) ∧ Below (w.heap.size + 1) w1 W) (fun _ i _ => is.length - (intOf i).toNat)
    case atStart => exact ⟨0, m - 1, Nat.zero_le _, by omega, by omega, Lib.hid (fun h => by simp [szs]; omega), by go_num, rfl, Below.refl _ _⟩
    case round =>
      obtain ⟨q, r, hq, hr1, hr2, HR, rfl, rfl, hb⟩ := hrel
      have hbw : Below w.heap.size w wr := hbx.trans (hb.mono (by omega))
      have hszr := hb.size
      obtain ⟨m0, m1, m2, m3, m4, m5, m6, m7⟩ := blk8 ((hb.block w.heap.size (by omega)).trans GB.out)
      by_cases hgo : q < is.length ∧ 0 ≤ r
      · obtain ⟨hlt, hr0⟩ := hgo
        obtain ⟨x, hx⟩ : ∃ x, is[q]? = some x := ⟨_, List.getElem?_eq_getElem hlt⟩
        obtain ⟨ad, cs, rfl, hadB, hcs, hvx⟩ := (HI.out.below HB.out hbw).at_ hx
        rw [Nat.zero_add] at hcs
        have hsz := szs_get hx
        have hnx := szs_next hx
        have HNX := Lib.hid hnx
        have HC := Lib.hid (IH.out x (by omega) (by omega) cs r wr S hvx (HB.out.mono hbw.size) (by omega) (by omega))
        obtain ⟨k2, b2, i2, f2, t2, y2, is2, fs2⟩ := x
        simp only [IsV] at hvx
        obtain ⟨A2, c2, A2', c2', rfl, _⟩ := hvx
        obtain ⟨c0, c1, cc2, c3, c4, c5, c6, c7⟩ := hcs.eight
        clear hcs hx hnx
        go_wp2_with fail
        refine HC.out.mono ?_
        rintro e w2 ⟨s, rfl, hs1, hs2, hs3, hb2⟩
        have hb3 := hb.trans (hb2.mono (by omega))
        have HR2 : Hid (0 ≤ s → 1 + (szs (is.take (q + 1)) : Int) + s ≤ m) := Lib.hid (fun h => by have h1 := HR.out hr0; have h2 := hs3 h; rw [HNX.out]; omega)
        clear c0 c1 cc2 c3 c4 c5 c6 c7 m0 m1 m2 m3 m4 m5 m6 m7 HC hs3
        go_wp2_with fail
        exact ⟨⟨q + 1, s, by omega, by omega, by omega, HR2, rfl, by go_num, hb3⟩, by simp [intOf]; omega⟩
      · have HR0 : Hid (0 ≤ r → 1 + (szs is : Int) + r ≤ m) := Lib.hid (fun h => by
          have h1 := HR.out h
          have hqe : q = is.length := by omega
          rw [hqe, List.take_length] at h1
          exact h1)
        by_cases h1 : q < is.length
        all_goals
          first | have hr0 : ¬ 0 ≤ r := (fun h => hgo ⟨h1, h⟩) | skip
          clear hgo
          go_wp2_with fail
          clear m0 m1 m2 m3 m4 m5 m6 m7
          try clear hr0
          clear h1
          go_loopw [1, 6] (fun v1 v6 W => ∃ (q : Nat) (r : Int), q ≤ fs.length ∧ -1 ≤ r ∧ r < m ∧ Hid (0 ≤ r → 1 + (szs is : Int) + (szf (fs.take q) : Int) + r ≤ m) ∧ v1 = .int .i64 r ∧ v6 = .int .i64 (q : Int) ∧ Below (w.heap.size + 1) w1 W) (fun _ i _ => fs.length - (intOf i).toNat)
          case atStart => exact ⟨0, r, Nat.zero_le _, hr1, hr2, Lib.hid (fun h => by have h1 := HR0.out h; simp [szf]; omega), rfl, rfl, hb⟩
          case round =>
            clear hb hbw hszr HR HR0 hr1 hr2
            obtain ⟨q, r, hq, hr1, hr2, HR, rfl, rfl, hb⟩ := hrel
            have hbw : Below w.heap.size w wr := hbx.trans (hb.mono (by omega))
            have hszr := hb.size
            obtain ⟨m0, m1, m2, m3, m4, m5, m6, m7⟩ := blk8 ((hb.block w.heap.size (by omega)).trans GB.out)
            by_cases hgo : q < fs.length ∧ 0 ≤ r
            · obtain ⟨hlt, hr0⟩ := hgo
              obtain ⟨p, hx⟩ : ∃ x, fs[q]? = some x := ⟨_, List.getElem?_eq_getElem hlt⟩
              obtain ⟨s, x⟩ := p
              obtain ⟨ad, cs, rfl, hadB, hcs, hvx⟩ := (HF.out.below HB.out hbw).at_ hx
              rw [Nat.zero_add] at hcs
              simp only at hcs hvx
              have hsz := szf_get hx
              have HNX := Lib.hid (szf_next hx)
              simp only at hsz HNX
              have HC := Lib.hid (IH.out x (by omega) (by omega) cs r wr S hvx (HB.out.mono hbw.size) (by omega) (by omega))
              obtain ⟨k2, b2, i2, f2, t2, y2, is2, fs2⟩ := x
              simp only [IsV] at hvx
              obtain ⟨A2, c2, A2', c2', rfl, _⟩ := hvx
              obtain ⟨c0, c1, cc2, c3, c4, c5, c6, c7, c8⟩ := hcs.nine
              clear hcs hx
              go_wp2_with fail
              refine HC.out.mono ?_
              rintro e w2 ⟨s, rfl, hs1, hs2, hs3, hb2⟩
              have hb3 := hb.trans (hb2.mono (by omega))
              have HR2 : Hid (0 ≤ s → 1 + (szs is : Int) + (szf (fs.take (q + 1)) : Int) + s ≤ m) := Lib.hid (fun h => by have h1 := HR.out hr0; have h2 := hs3 h; rw [HNX.out]; omega)
              clear c0 c1 cc2 c3 c4 c5 c6 c7 c8 m0 m1 m2 m3 m4 m5 m6 m7 HC hs3
              go_wp2_with fail
              exact ⟨⟨q + 1, s, by omega, by omega, by omega, HR2, rfl, by go_num, hb3⟩, by simp [intOf]; omega⟩
            · have HR0 : Hid (0 ≤ r → ((1 + szs is + szf fs : Nat) : Int) + r ≤ m) := Lib.hid (fun h => by
                have h1 := HR.out h
                have hqe : q = fs.length := by omega
                rw [hqe, List.take_length] at h1
                omega)
              by_cases h1 : q < fs.length
              all_goals
                first | have hr0 : ¬ 0 ≤ r := (fun h => hgo ⟨h1, h⟩) | skip
                clear hgo
                go_wp2_with fail
                go_ret
                exact ⟨r, rfl, hr1, hr2, HR0.out, hbw⟩
end Go.Proofs.YthlncdcfppehcaaDoor.look
end
section
namespace Go.Proofs.YthlncdcfppehcaaDoor.look
open Go.RowKit mem txt app smap val
attribute [local go_sem] run_store_float
set_option linter.unusedVariables false

theorem lit_any : ∀ (N : Nat) (x : V), sz x ≤ N → N ≤ 1048576 → ok x → ∀ (cs : List Value) (nn : Int) (w : World) (S : Nat → Prop), IsV w S x cs → Bel S w.heap.size → -1000 ≤ nn → nn + (N : Int) * 1048576 ≤ 2305843009213693952 →
    Calls Tryd.prog 13 #[.agg cs.toArray, .int .i64 nn] w (LtPost x w) := by
  intro N
  induction N with
  | zero => intro x hx; have := sz_pos x; omega
  | succ N ih =>
    intro x hx hN hok cs nn w S hV hS hn1 hn2
    have hok0 := hok
    obtain ⟨k, b, i, f, t, y, is, fs⟩ := x
    simp only [sz] at hx
    simp only [ok] at hok
    simp only [IsV] at hV
    obtain ⟨A, c, A', c', rfl, _, _, hI, hF⟩ := hV
    have hl1 := szs_len is
    have hl2 := szf_len fs
    have hq : ((N + 1 : Nat) : Int) * 1048576 = (N : Int) * 1048576 + 1048576 := by omega
    rw [hq] at hn2
    have hNp : (0 : Int) ≤ (N : Int) * 1048576 := by omega
    have hnn : -4611686018427387904 ≤ nn ∧ nn ≤ 4611686018427387904 := by omega
    have hnn2 : -4611686018427387904 ≤ nn ∧ nn + 1048576 ≤ 4611686018427387904 := by omega
    by_cases h1 : k = 1
    · exact lit_bool b i f t y A A' _ _ c c' w k nn h1 is fs hok0 hnn
    by_cases h2 : k = 2
    · exact lit_int b i f t y A A' _ _ c c' w k nn h2 is fs hok0 hnn
    by_cases h3 : k = 3
    · exact lit_float b i f t y A A' _ _ c c' w k nn h3 is fs hok0 hnn
    by_cases h4 : k = 4
    · exact lit_text b i f t y A A' _ _ c c' w k nn h4 is fs hok0 hnn
    by_cases h5 : k = 5
    · refine lit_list b i f t y A A' _ _ c c' w S k nn h5 is fs rfl (by omega) hI hS hnn2 fun W z ds q hq2 hW hz hZ => ?_
      exact ih z (by have := sz_mem hz; omega) (by omega) (oks_mem hok.2.1 hz) ds _ W S hZ (hS.mono hW.size) (by omega) (by omega)
    by_cases h6 : k = 6
    · refine lit_obj b i f t y A A' _ _ c c' w S k nn h6 is fs rfl (by omega) hF hok.2.2 hS hnn2 fun W z ds q hq2 hW hz hZ => ?_
      exact ih z (by have := sz_mem hz; rw [szf_map] at this; omega) (by omega) (oks_mem (okf_map hok.2.2) hz) ds _ W S hZ (hS.mono hW.size) (by omega) (by omega)
    · exact lit_none b i f t y A A' _ _ c c' w k nn h1 h2 h3 h4 h5 h6 is fs hok0 hnn
section
variable (b : Bool) (i : Int) (f : Nat) (t y : ByteArray) (A A' : Option Addr) (n m c c' : Nat) (w : World)
set_option maxRecDepth 100000 in
set_option maxHeartbeats 4000000 in
theorem passes_cells (k nn : Int) (x : V) (r : Int) (T : List Int) (hT : T.length ≤ 1099511627776) (h0 : ∀ W, Below w.heap.size w W → Calls Tryd.prog 7 #[] W (TruePost W))
    (h1 : ∀ W, Below w.heap.size w W → Calls Tryd.prog 12 #[.agg #[.int .i64 k, .bool b, .int .i64 i, .float .f64 f, .string t, .string y, .slice A n c, .slice A' m c'], .int .i64 20000] W (RmPost x 20000 W))
    (h2 : ∀ W, Below w.heap.size w W → Calls Tryd.prog 9 #[.agg #[.int .i64 k, .bool b, .int .i64 i, .float .f64 f, .string t, .string y, .slice A n c, .slice A' m c']] W (WrPost r T W))
    (h3 : ∀ W, Below w.heap.size w W → Calls Tryd.prog 13 #[.agg #[.int .i64 k, .bool b, .int .i64 i, .float .f64 f, .string t, .string y, .slice A n c, .slice A' m c'], .int .i64 (nn.tmod 1000)] W (LtPost x W))
    (h4 : ∀ W x' S cs, sz x ≤ 20000 → Below w.heap.size w W → Like x x' → IsV W S x' cs → Bel S W.heap.size → Calls Tryd.prog 9 #[.agg cs.toArray] W (WrPost r T W)) :
    Calls Tryd.prog 4 #[.agg #[.int .i64 k, .bool b, .int .i64 i, .float .f64 f, .string t, .string y, .slice A n c, .slice A' m c'], .int .i64 nn] w (TruePost w) := by
  have H0 := Lib.hid h0
  have H1 := Lib.hid h1
  have H2 := Lib.hid h2
  have H3 := Lib.hid h3
  have H4 := Lib.hid h4
  clear h0 h1 h2 h3 h4
  have hG0 := heap_alloc_new w (.cells #[.int .i64 k, .bool b, .int .i64 i, .float .f64 f, .string t, .string y, .slice A n c, .slice A' m c'] 30)
  have hb0 := (Below.refl w.heap.size w).alloc (Nat.le_refl _) (.cells #[.int .i64 k, .bool b, .int .i64 i, .float .f64 f, .string t, .string y, .slice A n c, .slice A' m c'] 30)
  have hz0 : (w.alloc (.cells #[.int .i64 k, .bool b, .int .i64 i, .float .f64 f, .string t, .string y, .slice A n c, .slice A' m c'] 30)).heap.size = w.heap.size + 1 := by simp
  generalize hW0 : (w.alloc (.cells #[.int .i64 k, .bool b, .int .i64 i, .float .f64 f, .string t, .string y, .slice A n c, .slice A' m c'] 30)) = W0 at *
  have HA := Lib.hid (H0.out W0 hb0)
  go_enter Tryd.func4, Tryd.ntmps4
  go_wp2_with fail
  refine HA.out.mono ?_
  rintro e w1 ⟨rfl, hbl⟩
  have HB1 := Lib.hid (hb0.trans (hbl.mono hb0.size))
  have HG1 := Lib.hid ((hbl.block w.heap.size (by omega)).trans hG0)
  obtain ⟨m0, m1, m2, m3, m4, m5, m6, m7⟩ := blk8 HG1.out
  have H10 := Lib.hid (H1.out w1 HB1.out)
  have hz1 := hbl.size
  clear hb0 hbl HA H0 hG0 hW0
  go_wp2_with fail
  refine H10.out.mono ?_
  rintro e w2 ⟨p, rfl, hp0, hp1, hp2, hbl⟩
  have HB2 := Lib.hid (HB1.out.trans (hbl.mono HB1.out.size))
  have HG2 := Lib.hid ((hbl.block w.heap.size (by omega)).trans HG1.out)
  have hz2 := hbl.size
  clear m0 m1 m2 m3 m4 m5 m6 m7 HG1 HB1 hbl H10 H1
  by_cases hbig : p < 0
  · go_wp2_with fail
    go_ret
    exact ⟨rfl, HB2.out⟩
  have HSZ : Hid (sz x ≤ 20000) := Lib.hid (by have := hp2 (by omega); omega)
  clear hp2
  obtain ⟨m0, m1, m2, m3, m4, m5, m6, m7⟩ := blk8 HG2.out
  have H20 := Lib.hid (H2.out w2 HB2.out)
  go_wp2_with fail
  refine H20.out.mono ?_
  rintro e w3 ⟨ha, hb, hbl⟩
  have HB3 := Lib.hid (HB2.out.trans (hbl.mono HB2.out.size))
  have HG3 := Lib.hid ((hbl.block w.heap.size (by omega)).trans HG2.out)
  have hz3 := hbl.size
  clear m0 m1 m2 m3 m4 m5 m6 m7 HG2 HB2 hbl H20 H2
  obtain ⟨m0, m1, m2, m3, m4, m5, m6, m7⟩ := blk8 HG3.out
  have H30 := Lib.hid (H3.out w3 HB3.out)
  by_cases hr : r = 0
  · obtain ⟨v1, B1, rfl, ho1, _⟩ := ha hr
    obtain ⟨A1, c1, rfl, hA1, _⟩ := own_form ho1
    have HO1 := Lib.hid ho1
    have HA1 := Lib.hid hA1
    clear ha hb ho1 hA1
    go_wp2_with fail
    refine H30.out.mono ?_
    rintro e w4 ⟨x', cs, hlk, rfl, hV, hbl⟩
    have HB4 := Lib.hid (HB3.out.trans (hbl.mono HB3.out.size))
    have HO4 := Lib.hid (own_below HO1.out hbl)
    have H40 := Lib.hid (H4.out w4 x' _ cs HSZ.out HB4.out hlk hV (fun q hq => hq.2))
    clear hlk m0 m1 m2 m3 m4 m5 m6 m7 H4 H3 H30 HG3 HO1 hbl
    obtain ⟨k3, b3, i3, f3, t3, y3, is3, fs3⟩ := x'
    simp only [IsV] at hV
    obtain ⟨A3, c3, A3', c3', rfl, _⟩ := hV
    go_wp2_with fail
    refine H40.out.mono ?_
    rintro e w5 ⟨ha, hb, hbl⟩
    obtain ⟨v2, B2, rfl, ho2, _⟩ := ha hr
    obtain ⟨A2, c2, rfl, hA2, _⟩ := own_form ho2
    subst hr
    have ho1 := own_below HO4.out hbl
    have hcv1 : (convert 31 9 (.slice A1 T.length c1)).run Tryd.prog w5 = .ok (.string (strOf T)) w5 := run_conv_bytes 31 9 5 A1 T c1 Tryd.underlying31 Tryd.underlying5 Tryd.underlying9 (Rd.of_own ho1) HA1.out
    have hcv2 : (convert 31 9 (.slice A2 T.length c2)).run Tryd.prog w5 = .ok (.string (strOf T)) w5 := run_conv_bytes 31 9 5 A2 T c2 Tryd.underlying31 Tryd.underlying5 Tryd.underlying9 (Rd.of_own ho2) hA2
    have HB5 := Lib.hid (HB4.out.trans (hbl.mono HB4.out.size))
    clear ha hb hbl ho2 hA2 ho1 H40 HO4
    generalize strOf T = s at *
    go_wp2_with fail
    go_ret
    exact ⟨by simp, HB5.out⟩
  · obtain rfl := hb hr
    clear ha hb
    go_wp2_with fail
    refine H30.out.mono ?_
    rintro e w4 ⟨x', cs, hlk, rfl, hV, hbl⟩
    have HB4 := Lib.hid (HB3.out.trans (hbl.mono HB3.out.size))
    have H40 := Lib.hid (H4.out w4 x' _ cs HSZ.out HB4.out hlk hV (fun q hq => hq.2))
    clear hlk m0 m1 m2 m3 m4 m5 m6 m7 H4 H3 H30 HG3 hbl
    obtain ⟨k3, b3, i3, f3, t3, y3, is3, fs3⟩ := x'
    simp only [IsV] at hV
    obtain ⟨A3, c3, A3', c3', rfl, _⟩ := hV
    go_wp2_with fail
    refine H40.out.mono ?_
    rintro e w5 ⟨ha, hb, hbl⟩
    obtain rfl := hb hr
    have hcv : (convert 31 9 (.slice none 0 0)).run Tryd.prog w5 = .ok (.string (strOf [])) w5 := run_conv_bytes (B := 0) 31 9 5 none [] 0 Tryd.underlying31 Tryd.underlying5 Tryd.underlying9 (fun i v h => by simp at h) (fun _ => rfl)
    have HB5 := Lib.hid (HB4.out.trans (hbl.mono HB4.out.size))
    clear ha hb hbl H40
    generalize strOf [] = s at *
    go_wp2_with fail
    go_ret
    exact ⟨by simp, HB5.out⟩
end
theorem passes_any (x : V) (cs : List Value) (nn : Int) (w : World) (S : Nat → Prop) (hx : wt x ≤ 1048576) (hok : ok x) (hV : IsV w S x cs) (hS : Bel S w.heap.size) (hE : Env w) : Calls Tryd.prog 4 #[.agg cs.toArray, .int .i64 nn] w (TruePost w) := by
  have hsz := sz_wt x
  have hlen := tx_len x hok
  have ht1 : -1000 ≤ nn.tmod 1000 := Int.le_of_lt (Int.lt_tmod_of_pos nn (by decide))
  have ht2 : nn.tmod 1000 ≤ 1000 := Int.le_of_lt (Int.tmod_lt_of_pos nn (by decide))
  have h0 := fun W (hW : Below w.heap.size w W) => awake_any W (hE.below hW)
  have h1 := fun W (hW : Below w.heap.size w W) => room_any (sz x) x (Nat.le_refl _) (by omega) cs 20000 W S (hV.below hS hW) (hS.mono hW.size) (by decide) (by decide)
  have h2 := fun W (hW : Below w.heap.size w W) => write_any x cs W S (by omega) (by omega) hok (hV.below hS hW) (hS.mono hW.size) (hE.below hW)
  have h3 := fun W (hW : Below w.heap.size w W) => lit_any (sz x) x (Nat.le_refl _) (by omega) hok cs (nn.tmod 1000) W S (hV.below hS hW) (hS.mono hW.size) ht1 (by omega)
  have h4 := fun W x' S' cs' (hs : sz x ≤ 20000) (hW : Below w.heap.size w W) (hl : Like x x') (hV' : IsV W S' x' cs') (hS' : Bel S' W.heap.size) => by
    have h := write_any x' cs' W S' (by have := hl.wt; omega) (by have := hl.sz; omega) hl.ok hV' hS' (hE.below hW)
    rw [hl.lk, hl.tx] at h
    exact h
  generalize lk x = r at *
  generalize tx x = T at *
  have hcells : ∃ k b i f t y A n c A' m c', cs = [.int .i64 k, .bool b, .int .i64 i, .float .f64 f, .string t, .string y, .slice A n c, .slice A' m c'] := by
    obtain ⟨k, b, i, f, t, y, is, fs⟩ := x
    simp only [IsV] at hV
    obtain ⟨A, c, A', c', rfl, _⟩ := hV
    exact ⟨_, _, _, _, _, _, _, _, _, _, _, _, rfl⟩
  obtain ⟨k, b, i, f, t, y, A, n, c, A', m, c', rfl⟩ := hcells
  exact passes_cells b i f t y A A' _ _ c c' w k nn x r T (by omega) h0 h1 h2 h3 h4
end Go.Proofs.YthlncdcfppehcaaDoor.look
end
