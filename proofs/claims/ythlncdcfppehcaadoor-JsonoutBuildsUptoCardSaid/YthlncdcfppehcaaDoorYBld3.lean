/- JsonoutBuilds, the walk. -/
import Derived.Test.YthlncdcfppehcaaDoorGBld1
import Derived.Test.YthlncdcfppehcaaDoorGSpl
import Derived.Test.YthlncdcfppehcaaDoorYRsz
import Derived.Test.YthlncdcfppehcaaDoorGDfq
import Derived.Deep.Cut
import Derived.Deep.CutRange
namespace Go.Proofs.YthlncdcfppehcaaDoor.look
open Go.RowKit mem txt app smap val
attribute [local go_sem] run_store_float
set_option linter.unusedVariables false

set_option maxRecDepth 100000 in
set_option maxHeartbeats 8000000 in
theorem builds_any (vals : List V) (ns : List ByteArray) (A A' : Option Addr) (n m c c' : Nat) (w : World) (S : Nat → Prop) (hn : vals.length = n) (hm : ns.length = m) (hx : wts vals ≤ 1048575) (hnb : nbs ns ≤ 1048576) (hnm : m ≤ 1048576) (hok : oks vals) (hns : ∀ s ∈ ns, s.size ≤ 1048576) (hV : IsVs w S vals A 0)
    (hA : ∀ (j : Nat) (s : ByteArray), ns[j]? = some s → ∃ ad : Addr, A' = some ad ∧ ad.block < w.heap.size ∧ w.cell? (ad.add j) = some (.string s)) (hS : Bel S w.heap.size) (hE : Env w) :
    Calls Tryd.prog 3 #[.slice A n c, .slice A' m c'] w (TruePost w) := by
  obtain ⟨iv, hiv, hv0, hv1, hv2⟩ := info_parts infoV
  obtain ⟨im, him, hm0, hm1, hm2⟩ := info_parts infoM
  have hnw : n ≤ 1048576 := by
    have e1 := szs_len vals
    have e2 := szs_wt vals
    omega
  have HN := Lib.hid hn
  have HM := Lib.hid hm
  have HX := Lib.hid hx
  have HNB := Lib.hid hnb
  have H0 := Lib.hid (awake_any w hE)
  have HRS := Lib.hid (fun (W : World) (hW : Below w.heap.size w W) (j : Nat) (x : V) (cs : List Value) (mm : Int) (hj : vals[j]? = some x) (h : IsV W S x cs) (h1 : -1000000 ≤ mm) (h2 : mm ≤ 1000000) => rsize_any 1048576 x (by have e1 := szs_get hj; have e2 := szs_wt vals; omega) (Nat.le_refl _) cs mm W S h (hS.mono hW.size) h1 h2)
  have HWR := Lib.hid (fun (W : World) (hW : Below w.heap.size w W) (j : Nat) (x : V) (cs : List Value) (hj : vals[j]? = some x) (h : IsV W S x cs) => write_any x cs W S (by have e1 := wts_get hj; omega) (by have e1 := szs_get hj; have e2 := szs_wt vals; omega) (oks_get hok hj) h (hS.mono hW.size) (hE.below hW))
  have HWL := Lib.hid (fun (W : World) (hW : Below w.heap.size w W) (x : V) (cs : List Value) (h1 : wt x ≤ 16777216) (h2 : sz x ≤ 1048576) (h3 : val.ok x) (h : IsV W (fun b => b < W.heap.size) x cs) => write_any x cs W _ h1 h2 h3 h (fun _ h => h) (hE.below hW))
  have HTO := Lib.hid (fun (W : World) (hW : Below w.heap.size w W) (s : ByteArray) (hs : s ∈ ns) (hv : Lib.validD s.data.toList = true) => text_ok s (by have := hns s hs; omega) W (hE.below hW).tabs hv)
  have HTB := Lib.hid (fun (W : World) (hW : Below w.heap.size w W) (s : ByteArray) (hs : s ∈ ns) (hv : Lib.validD s.data.toList = false) => text_bad s (by have := hns s hs; omega) W (hE.below hW).tabs hv)
  have HAT := Lib.hid (fun (W : World) (hW : Below w.heap.size w W) (j : Nat) (x : V) (hj : vals[j]? = some x) => (hV.below hS hW).at_ hj)
  have HNA := Lib.hid (fun (W : World) (hW : Below w.heap.size w W) (j : Nat) (s : ByteArray) (hj : ns[j]? = some s) => (show ∃ ad : Addr, A' = some ad ∧ ad.block < w.heap.size ∧ W.cell? (ad.add j) = some (.string s) by
    obtain ⟨ad, e, h1, h2⟩ := hA j s hj
    exact ⟨ad, e, h1, (hW.cell (by rw [add_block]; exact h1)).trans h2⟩))
  have HOK := Lib.hid hok
  have HNS := Lib.hid hns
  have HS := Lib.hid hS
  clear hx hok hV hE hS hn hm hnb hns hA
  go_enter Tryd.func3, Tryd.ntmps3
  go_wp2_with fail
  refine H0.out.mono ?_
  rintro e w1 ⟨rfl, hb1⟩
  have HB1 := Lib.hid hb1
  clear hb1 H0
  go_wp2_with fail
  go_loopw [5, 6] (fun v5 v6 wr => ∃ (q : Nat) (p : Int), q ≤ n ∧ 0 ≤ p ∧ p ≤ 2199023255552 ∧ v5 = .int .i64 p ∧ v6 = .int .i64 (q : Int) ∧ Hid (Below w.heap.size w wr)) (fun _ v _ => n - (intOf v).toNat)
  case atStart => exact ⟨0, 0, Nat.zero_le _, by omega, by omega, rfl, rfl, HB1⟩
  case round =>
    clear HB1
    obtain ⟨q, p, hq, hp0, hp1, rfl, rfl, HB⟩ := hrel
    have hszr := HB.out.size
    by_cases hgo : q < n ∧ p ≤ 100000
    · obtain ⟨hlt, hp⟩ := hgo
      obtain ⟨x, hx⟩ : ∃ p, vals[q]? = some p := ⟨_, List.getElem?_eq_getElem (by rw [HN.out]; exact hlt)⟩
      obtain ⟨ad, cs, rfl, hadB, hcs, hvx⟩ := HAT.out _ HB.out _ _ hx
      rw [Nat.zero_add] at hcs
      have hadw : ad.block < wr.heap.size := by have := HS.out _ hadB; omega
      have HR := Lib.hid (HRS.out _ HB.out _ _ _ (100000 - p) hx hvx (by omega) (by omega))
      obtain ⟨k2, b2, i2, f2, t2, y2, is2, fs2⟩ := x
      simp only [IsV] at hvx
      obtain ⟨A2, c2, A2', c2', rfl, _⟩ := hvx
      obtain ⟨d0, d1, d2, d3, d4, d5, d6, d7⟩ := hcs.eight
      clear hcs hx
      go_wp2_with fail
      refine HR.out.mono ?_
      rintro e w2 ⟨p2, hp20, hp21, rfl, hb2⟩
      have HB2 := Lib.hid (HB.out.trans (hb2.mono HB.out.size))
      clear hb2 HR d0 d1 d2 d3 d4 d5 d6 d7
      go_wp2_with fail
      exact ⟨⟨q + 1, p + p2, by omega, by omega, by omega, by go_num, by go_num, HB2⟩, by simp [intOf]; omega⟩
    · by_cases hp : p ≤ 100000
      · have hlt : ¬ q < n := fun h => hgo ⟨h, hp⟩
        clear hgo
        go_wp2_with fail
        have HST : Hid (BdSt w wr S (.slice none 0 0) (.slice none 0 0) [] [] ((wr.alloc (.cells #[.int .i64 5, .bool false, .int .i64 0, .float .f64 0, .string ⟨#[]⟩, .string ⟨#[]⟩, .slice none 0 0, .slice none 0 0] 30)).alloc (.cells #[.int .i64 6, .bool false, .int .i64 0, .float .f64 0, .string ⟨#[]⟩, .string ⟨#[]⟩, .slice none 0 0, .slice none 0 0] 30))) :=
          Lib.hid ⟨(HB.out.alloc hszr _).alloc (by simp; omega) _, blk_alloc (heap_alloc_new _ _) _, by simpa using heap_alloc_new (wr.alloc (.cells #[.int .i64 5, .bool false, .int .i64 0, .float .f64 0, .string ⟨#[]⟩, .string ⟨#[]⟩, .slice none 0 0, .slice none 0 0] 30)) (.cells #[.int .i64 6, .bool false, .int .i64 0, .float .f64 0, .string ⟨#[]⟩, .string ⟨#[]⟩, .slice none 0 0, .slice none 0 0] 30), Row.nil _ _ _, Row.nil _ _ _, by simp, hszr⟩
        have HV0 : Hid (BdV vals ns 0 [] [] ⟨#[91]⟩ ⟨#[123]⟩) := Lib.hid ⟨rfl, by simp only [lks], by simp, by simp only [oks], by simp only [okf], by simp [wts], by simp [nbs], by simp only [txs]; rfl, by simp only [txf]; rfl⟩
        clear hp hp0 hp1 hq hlt HRS
        generalize ((wr.alloc (.cells #[.int .i64 5, .bool false, .int .i64 0, .float .f64 0, .string ⟨#[]⟩, .string ⟨#[]⟩, .slice none 0 0, .slice none 0 0] 30)).alloc (.cells #[.int .i64 6, .bool false, .int .i64 0, .float .f64 0, .string ⟨#[]⟩, .string ⟨#[]⟩, .slice none 0 0, .slice none 0 0] 30)) = wz at *
        generalize wr = wl at *
        clear HB hszr
        go_loopw [9, 10, 11] (fun v9 v10 v11 wr => ∃ (q : Nat) (v7 v8 : Value) (l : List V) (fs : List (ByteArray × V)) (s9 s10 : ByteArray), q ≤ n ∧ q ≤ m ∧ v9 = .string s9 ∧ v10 = .string s10 ∧ v11 = .int .i64 (q : Int) ∧ Hid (BdV vals ns q l fs s9 s10) ∧ Hid (BdSt w wl S v7 v8 l fs wr)) (fun _ _ v _ => n - (intOf v).toNat)
        case atStart => exact ⟨0, _, _, [], [], _, _, Nat.zero_le _, Nat.zero_le _, rfl, rfl, rfl, HV0, HST⟩
        case round =>
          clear HST HV0
          obtain ⟨q, v7, v8, l, fs, s9, s10, hq, hqm, rfl, rfl, rfl, HBV, HC⟩ := hrel
          have hszr := HC.out.be.size
          have hszw := HC.out.sz
          have hwl := HC.out.wl
          by_cases hgo : q < n ∧ q < m
          · obtain ⟨hlt, hltm⟩ := hgo
            · obtain ⟨x, hx⟩ : ∃ p, vals[q]? = some p := ⟨_, List.getElem?_eq_getElem (by rw [HN.out]; exact hlt)⟩
              obtain ⟨s, hs⟩ : ∃ p, ns[q]? = some p := ⟨_, List.getElem?_eq_getElem (by rw [HM.out]; exact hltm)⟩
              obtain ⟨ad, cs, rfl, hadB, hcs, hvx⟩ := HAT.out _ HC.out.be _ _ hx
              rw [Nat.zero_add] at hcs
              obtain ⟨an, rfl, hanw, hcn⟩ := HNA.out _ HC.out.be _ _ hs
              have hadw : ad.block < w.heap.size := HS.out _ hadB
              have HXV := Lib.hid hvx
              have HWX := Lib.hid (HWR.out _ HC.out.be _ _ _ hx hvx)
              have HXQ := Lib.hid hx
              have HSQ := Lib.hid hs
              have HCS := Lib.hid hcs
              have HCN := Lib.hid hcn
              have hq0 : (0 : Int) ≤ (q : Int) := by omega
              have hqn : (q : Int) < (n : Int) := by omega
              have hqmm : (q : Int) < (m : Int) := by omega
              obtain ⟨r, hr⟩ : ∃ r, val.lk x = r := ⟨_, rfl⟩
              obtain ⟨T, hT⟩ : ∃ T, tx x = T := ⟨_, rfl⟩
              rw [hr, hT] at HWX
              have HLK := Lib.hid hr
              have HTX := Lib.hid hT
              have HTL : Hid (T.length ≤ 2097152000) := Lib.hid (by rw [← hT]; have := tx_len x (oks_get HOK.out hx); have := wts_get hx; have := HX.out; omega)
              obtain ⟨k2, b2, i2, f2, t2, y2, is2, fs2⟩ := x
              simp only [IsV] at hvx
              obtain ⟨A2, c2, A2', c2', rfl, _⟩ := hvx
              obtain ⟨d0, d1, d2, d3, d4, d5, d6, d7⟩ := hcs.eight
              clear hcs hx hs hr hT hcn
              go_wp2_with fail
              refine HWX.out.mono ?_
              rintro e wa ⟨ha, hb, hbl⟩
              have HCa := Lib.hid (HC.out.below HS.out hbl)
              have hcna := (HCa.out.be.cell (p := an.add q) (by rw [add_block]; exact hanw)).trans ((HC.out.be.cell (p := an.add q) (by rw [add_block]; exact hanw)).symm.trans HCN.out)
              have HLa := Lib.hid hbl
              clear d0 d1 d2 d3 d4 d5 d6 d7 HWX hbl
              by_cases hr : r = 0
              · obtain ⟨vb, B, rfl, ho, hB⟩ := ha hr
                obtain ⟨Ab, cb, rfl, hAb, _⟩ := own_form ho
                have HOa := Lib.hid ho
                have HAb := Lib.hid hAb
                have HBb := Lib.hid hB
                clear ha hb ho hAb hB
                subst hr
                go_wp2_with fail
                have hmem : s ∈ ns := List.mem_of_getElem? HSQ.out
                have hsz1 := HNS.out s hmem
                by_cases hv : Lib.validD s.data.toList = true
                · refine (HTO.out wa HCa.out.be s hmem hv).mono ?_
                  rintro e wb ⟨rfl, hb2⟩
                  have HCb := Lib.hid (HCa.out.below HS.out hb2)
                  have HOb := Lib.hid (own_below HOa.out hb2)
                  have HLb := Lib.hid (HLa.out.trans (hb2.mono HLa.out.size))
                  obtain ⟨y, hy⟩ : ∃ y, textOf s = y := ⟨_, rfl⟩
                  have hys := textOf_le s
                  rw [hy] at hys ⊢
                  have HY := Lib.hid hy
                  have HVS := Lib.hid hv
                  have h9 := HBV.out.size9 (by have := HX.out; omega)
                  have h10 := HBV.out.size10 (by have := HX.out; omega) HNB.out
                  have hbl2 := hb2.size
                  clear hb2 hv hy HCa HOa hcna HLa
                  obtain ⟨A7, c7, rfl, hA7⟩ := HCb.out.r7.form
                  have HCbr := HCb.out.be
                  obtain ⟨m0, m1, m2, m3, m4, m5, m6, m7⟩ := blk8 HCb.out.b7
                  go_upto_if 82 with (fail)
                  go_cut [9, 10] from 79 to 86 (fun u9 u10 wx => ∃ a9 a10 : ByteArray, u9 = .string a9 ∧ u10 = .string a10 ∧ a9.size ≤ 2199023255553 ∧ a10.size ≤ 4398046511105 ∧ Hid (a9 = if l.length = 0 then s9 else s9 ++ ⟨#[44]⟩) ∧ Hid (a10 = if l.length = 0 then s10 else s10 ++ ⟨#[44]⟩) ∧ wb = wx)
                  case first =>
                    by_cases hl0 : l.length = 0
                    · have h1 : ¬ (0 : Int) < (l.length : Int) := by omega
                      go_wp2_with fail
                      go_meet
                      case rel => exact ⟨s9, s10, rfl, rfl, by omega, by omega, Lib.hid (by rw [if_pos hl0]), Lib.hid (by rw [if_pos hl0]), rfl⟩
                    · have h1 : (0 : Int) < (l.length : Int) := by omega
                      go_wp2_with fail

                      go_meet
                      case rel => exact ⟨s9 ++ ⟨#[44]⟩, s10 ++ ⟨#[44]⟩, rfl, rfl, by rw [ByteArray.size_append]; show s9.size + 1 ≤ _; omega, by rw [ByteArray.size_append]; show s10.size + 1 ≤ _; omega, Lib.hid (by rw [if_neg hl0]), Lib.hid (by rw [if_neg hl0]), rfl⟩
                  case rest =>
                    obtain ⟨a9, a10, rfl, rfl, ha9, ha10, HA9, HA10, rfl⟩ := hcut
                    clear m0 m1 m2 m3 m4 m5 m6 m7
                    have hll : l.length ≤ 1048576 := by have e1 := szs_len l; have e2 := szs_wt l; have e3 := HBV.out.w1; have e4 := wts_le vals q; have e5 := HX.out; omega
                    have hfl : fs.length ≤ 1048576 := by rw [HBV.out.len]; exact hll
                    have hkk : ∀ (W : World), Below w.heap.size w W → ∀ p : Addr, p.block < w.heap.size → W.cell? p = wr.cell? p := fun W hW p hp => (hW.cell hp).trans (HC.out.be.cell hp).symm
                    have HKK := Lib.hid hkk
                    clear hkk
                    have HXB : Hid (IsV wb S (.mk k2 b2 i2 f2 t2 y2 is2 fs2) [.int .i64 k2, .bool b2, .int .i64 i2, .float .f64 f2, .string t2, .string y2, .slice A2 is2.length c2, .slice A2' fs2.length c2']) := Lib.hid (HXV.out.keep (fun p hp => HKK.out wb HCb.out.be p (HS.out _ hp)) (fun _ h => h))
                    obtain ⟨d0, d1, d2, d3, d4, d5, d6, d7⟩ := (HCS.out.keep (S := fun b => b < w.heap.size) (by rw [add_block]; exact hadw) (fun p hp => HKK.out wb HCb.out.be p hp)).eight
                    have HD7 := Lib.hid (HCb.out.below HS.out ((Below.refl _ _).drew))
                    have HOB7 : Hid (wb.drew.ownsRow B 5 1 (.slice Ab T.length cb) T.length (zs T)) := Lib.hid HOb.out
                    have HKV7 : Hid (IsV wb.drew S (.mk k2 b2 i2 f2 t2 y2 is2 fs2) [.int .i64 k2, .bool b2, .int .i64 i2, .float .f64 f2, .string t2, .string y2, .slice A2 is2.length c2, .slice A2' fs2.length c2']) := Lib.hid (IsV.keep (w := wb) (w' := wb.drew) (fun p hp => rfl) (fun _ h => h) _ _ HXB.out)
                    obtain ⟨css7, hown7, hel7⟩ := HD7.out.r7
                    obtain ⟨m0, m1, m2, m3, m4, m5, m6, m7⟩ := blk8 HCb.out.b7
                    have m6' : (wb.alloc (.cells #[.int .i64 k2, .bool b2, .int .i64 i2, .float .f64 f2, .string t2, .string y2, .slice A2 is2.length c2, .slice A2' fs2.length c2'] 30)).cell? ⟨wl.heap.size, 6, none⟩ = some (.slice A7 l.length c7) := (World.cell?_of_block (Below.heap_alloc wb _ _ (blk_lt HCb.out.b7))).trans m6
                    have hgl7 := blk_lt HCb.out.b7
                    have hwbs := HCb.out.sz
                    go_upto_region 23 with (fail)
                    go_cut [9] from 87 to 95 (fun u9 wx => u9 = .string a9 ∧ ∃ u' : Value, Hid (BdSt w wl S u' v8 (l ++ [.mk k2 b2 i2 f2 t2 y2 is2 fs2]) fs wx) ∧ Hid (wx.ownsRow B 5 1 (.slice Ab T.length cb) T.length (zs T)))
                    case first =>
                      first
                        | (go_region_law ((refine step_app (wb.drew.alloc (.cells #[.int .i64 k2, .bool b2, .int .i64 i2, .float .f64 f2, .string t2, .string y2, .slice A2 is2.length c2, .slice A2' fs2.length c2'] 30)) rfl (.tmp 88) (.tmp 93) _ rfl (wl.heap.size + 2) 30 iv _ 8 112 Tryd.underlying22 hiv hv0 hv1 hv2 rfl (by omega) (.slice A7 l.length c7) l.length css7.flatten rfl (hown7.alloc _) (wb.heap.size + 1) (some ⟨wb.heap.size, 0, none⟩) 1 1 [.int .i64 k2, .bool b2, .int .i64 i2, .float .f64 f2, .string t2, .string y2, .slice A2 is2.length c2, .slice A2' fs2.length c2'] rfl rfl (Rd.new wb.drew [.int .i64 k2, .bool b2, .int .i64 i2, .float .f64 f2, .string t2, .string y2, .slice A2 is2.length c2, .slice A2' fs2.length c2'] 30) (by simp) (isV_one HXB.out) (by unfold maxLen; omega) (by omega) (by simp; omega) ?_; intro v' w5 hown' hgrow hat; have HO' := Lib.hid hown'; have HG' := Lib.hid hgrow; have R3w := HD7.out.grow7 hgrow; have j6w := (blk8 R3w).2.2.2.2.2.2.1; have jfw := blk_frozen R3w 6; obtain ⟨A5, c5, rfl, _, _, _⟩ := own_form hown'; clear hown' hgrow hat R3w)))
                        | fail
                      all_goals
                        have hst := HD7.out.step7 HS.out hel7 HG'.out HO'.out HKV7.out
                        have hby := own_kept (w' := w5.setCell ⟨wl.heap.size, 6, none⟩ (.slice A5 (l.length + 1) c5)) HOB7.out (fun g hg => by
                          have h1 := HOB7.out.lt g hg
                          have h4 : g < wb.heap.size := h1.2
                          have h3 := HBb.out
                          rw [Below.heap_setCell _ _ _ g (show g ≠ wl.heap.size by omega), HG'.out.block g (by simp; omega) (fun e => by have := (HC.out.r7.lt g e.symm).2; omega)]
                          exact Below.heap_alloc wb.drew _ g (by have := h1.2; simpa using this))
                        have HST2 := Lib.hid hst
                        have HBY := Lib.hid hby
                        clear hst hby j6w jfw
                        go_wp2_with fail
                        go_meet
                        case rel => exact ⟨rfl, _, HST2, HBY⟩
                    case rest =>
                      obtain ⟨rfl, v7', HCc, HOc⟩ := hcut
                      obtain ⟨A8, c8, rfl, hA8⟩ := HCc.out.r8.form
                      have HXC : Hid (IsV wc S (.mk k2 b2 i2 f2 t2 y2 is2 fs2) [.int .i64 k2, .bool b2, .int .i64 i2, .float .f64 f2, .string t2, .string y2, .slice A2 is2.length c2, .slice A2' fs2.length c2']) := Lib.hid (HXV.out.keep (fun p hp => HKK.out wc HCc.out.be p (HS.out _ hp)) (fun _ h => h))
                      clear d0 d1 d2 d3 d4 d5 d6 d7 m0 m1 m2 m3 m4 m5 m6 m7 m6' hown7 hel7 HD7 HKV7 HOB7 hgl7
                      obtain ⟨d0, d1, d2, d3, d4, d5, d6, d7⟩ := (HCS.out.keep (S := fun b => b < w.heap.size) (by rw [add_block]; exact hadw) (fun p hp => HKK.out wc HCc.out.be p hp)).eight
                      have hcn := (HKK.out wc HCc.out.be (an.add q) (by rw [add_block]; exact hanw)).trans HCN.out
                      have HD8 := Lib.hid (HCc.out.below HS.out ((Below.refl _ _).drew))
                      have HOB8 : Hid (wc.drew.ownsRow B 5 1 (.slice Ab T.length cb) T.length (zs T)) := Lib.hid HOc.out
                      have HKV8 : Hid (IsF wc.drew S (s, .mk k2 b2 i2 f2 t2 y2 is2 fs2) [.string s, .int .i64 k2, .bool b2, .int .i64 i2, .float .f64 f2, .string t2, .string y2, .slice A2 is2.length c2, .slice A2' fs2.length c2']) := Lib.hid ⟨[.int .i64 k2, .bool b2, .int .i64 i2, .float .f64 f2, .string t2, .string y2, .slice A2 is2.length c2, .slice A2' fs2.length c2'], rfl, IsV.keep (w := wc) (w' := wc.drew) (fun p hp => rfl) (fun _ h => h) _ _ HXC.out⟩
                      obtain ⟨css8, hown8, hel8⟩ := HD8.out.r8
                      obtain ⟨m0, m1, m2, m3, m4, m5, m6, m7⟩ := blk8 HCc.out.b8
                      have m7' : (wc.alloc (.cells #[.string s, .int .i64 k2, .bool b2, .int .i64 i2, .float .f64 f2, .string t2, .string y2, .slice A2 is2.length c2, .slice A2' fs2.length c2'] 38)).cell? ⟨wl.heap.size + 1, 7, none⟩ = some (.slice A8 fs.length c8) := (World.cell?_of_block (Below.heap_alloc wc _ _ (blk_lt HCc.out.b8))).trans m7
                      have hgl8 := blk_lt HCc.out.b8
                      have hwcs := HCc.out.sz
                      go_upto_region 24 with (fail)
                      go_cut [9] from 96 to 109 (fun u9 wx => u9 = .string a9 ∧ ∃ u' : Value, Hid (BdSt w wl S v7' u' (l ++ [.mk k2 b2 i2 f2 t2 y2 is2 fs2]) (fs ++ [(s, .mk k2 b2 i2 f2 t2 y2 is2 fs2)]) wx) ∧ Hid (wx.ownsRow B 5 1 (.slice Ab T.length cb) T.length (zs T)))
                      case first =>
                        first
                          | (go_region_law ((refine step_app (wc.drew.alloc (.cells #[.string s, .int .i64 k2, .bool b2, .int .i64 i2, .float .f64 f2, .string t2, .string y2, .slice A2 is2.length c2, .slice A2' fs2.length c2'] 38)) rfl (.tmp 97) (.tmp 107) _ rfl (wl.heap.size + 2) 38 im _ 9 128 Tryd.underlying28 him hm0 hm1 hm2 rfl (by omega) (.slice A8 fs.length c8) fs.length css8.flatten rfl (hown8.alloc _) (wc.heap.size + 1) (some ⟨wc.heap.size, 0, none⟩) 1 1 [.string s, .int .i64 k2, .bool b2, .int .i64 i2, .float .f64 f2, .string t2, .string y2, .slice A2 is2.length c2, .slice A2' fs2.length c2'] rfl rfl (Rd.new wc.drew [.string s, .int .i64 k2, .bool b2, .int .i64 i2, .float .f64 f2, .string t2, .string y2, .slice A2 is2.length c2, .slice A2' fs2.length c2'] 38) (by simp) (isF_one HXC.out) (by unfold maxLen; omega) (by omega) (by simp; omega) ?_; intro v' w5 hown' hgrow hat; have HO' := Lib.hid hown'; have HG' := Lib.hid hgrow; have R3w := HD8.out.grow8 hgrow; have j6w := (blk8 R3w).2.2.2.2.2.2.2; have jfw := blk_frozen R3w 7; obtain ⟨A5, c5, rfl, _, _, _⟩ := own_form hown'; clear hown' hgrow hat R3w)))
                          | fail
                        all_goals
                          have hst := HD8.out.step8 HS.out hel8 HG'.out HO'.out HKV8.out
                          have hby := own_kept (w' := w5.setCell ⟨wl.heap.size + 1, 7, none⟩ (.slice A5 (fs.length + 1) c5)) HOB8.out (fun g hg => by
                            have h1 := HOB8.out.lt g hg
                            have h4 : g < wc.heap.size := h1.2
                            have h3 := HBb.out
                            rw [Below.heap_setCell _ _ _ g (show g ≠ wl.heap.size + 1 by omega), HG'.out.block g (by simp; omega) (fun e => by have := (HC.out.r8.lt g e.symm).2; omega)]
                            exact Below.heap_alloc wc.drew _ g (by have := h1.2; simpa using this))
                          have HST2 := Lib.hid hst
                          have HBY := Lib.hid hby
                          clear hst hby j6w jfw
                          go_wp2_with fail
                          go_meet
                          case rel => exact ⟨rfl, _, HST2, HBY⟩
                      case rest =>
                        obtain ⟨rfl, v8', HCd, HOd⟩ := hcut
                        have hcv : (convert 31 9 (.slice Ab T.length cb)).run Tryd.prog wc = .ok (.string (strOf T)) wc := run_conv_bytes 31 9 5 Ab T cb Tryd.underlying31 Tryd.underlying5 Tryd.underlying9 (Rd.of_own HOd.out) HAb.out
                        have hzz := strOf_size T
                        have hTl := HTL.out
                        have HBV2 := HBV.out.step HXQ.out HSQ.out HLK.out HVS.out (oks_get HOK.out HXQ.out) hsz1
                        rw [HTX.out, HY.out, ← HA9.out, ← HA10.out] at HBV2
                        have HBV3 := Lib.hid HBV2
                        clear HBV2
                        generalize strOf T = z at *
                        clear d0 d1 d2 d3 d4 d5 d6 d7 m0 m1 m2 m3 m4 m5 m6 m7 m7' hown8 hel8 HD8 HKV8 HOB8 hgl8 hcn
                        have hz1 : ¬ 9223372036854775807 < a9.size + z.size := by omega
                        have hz2 : ¬ 9223372036854775807 < a10.size + y.size := by omega
                        have hz3 : ¬ 9223372036854775807 < a10.size + y.size + 1 := by omega
                        have hz4 : ¬ 9223372036854775807 < a10.size + y.size + 1 + z.size := by omega
                        go_wp2_with fail
                        exact ⟨⟨q + 1, _, _, _, _, _, _, by omega, by omega, rfl, rfl, by go_num, HBV3, HCd⟩, by simp [intOf]; omega⟩
                · refine (HTB.out wa HCa.out.be s hmem (by simpa using hv)).mono ?_
                  rintro e wb ⟨rfl, hb2⟩
                  have HCb := Lib.hid (HCa.out.below HS.out hb2)
                  clear hb2 hv hcna
                  go_wp2_with fail
                  exact ⟨⟨q + 1, _, _, l, fs, _, _, by omega, by omega, rfl, rfl, by go_num, Lib.hid HBV.out.skip, HCb⟩, by simp [intOf]; omega⟩
              · obtain rfl := hb hr
                clear ha hb
                have hne : (r == 0) = false := beq_false_of_ne hr
                have hne2 : (r != 0) = true := by simp [bne, hne]
                go_wp2_with fail
                have hmem : s ∈ ns := List.mem_of_getElem? HSQ.out
                by_cases hv : Lib.validD s.data.toList = true
                · refine (HTO.out wa HCa.out.be s hmem hv).mono ?_
                  rintro e wb ⟨rfl, hb2⟩
                  have HCb := Lib.hid (HCa.out.below HS.out hb2)
                  clear hb2 hv hcna hr
                  go_wp2_with fail
                  exact ⟨⟨q + 1, _, _, l, fs, _, _, by omega, by omega, rfl, rfl, by go_num, Lib.hid HBV.out.skip, HCb⟩, by simp [intOf]; omega⟩
                · refine (HTB.out wa HCa.out.be s hmem (by simpa using hv)).mono ?_
                  rintro e wb ⟨rfl, hb2⟩
                  have HCb := Lib.hid (HCa.out.below HS.out hb2)
                  clear hb2 hv hcna hr
                  go_wp2_with fail
                  exact ⟨⟨q + 1, _, _, l, fs, _, _, by omega, by omega, rfl, rfl, by go_num, Lib.hid HBV.out.skip, HCb⟩, by simp [intOf]; omega⟩
          · obtain ⟨A7, c7, rfl, hA7⟩ := HC.out.r7.form
            obtain ⟨A8, c8, rfl, hA8⟩ := HC.out.r8.form
            have hSw : Bel S wr.heap.size := HS.out.mono (by omega)
            have hVL : IsV wr (fun b => b < wr.heap.size) (.mk 5 false 0 0 ⟨#[]⟩ ⟨#[]⟩ l []) [.int .i64 5, .bool false, .int .i64 0, .float .f64 0, .string ⟨#[]⟩, .string ⟨#[]⟩, .slice A7 l.length c7, .slice none 0 0] := by
              simp only [IsV]
              exact ⟨A7, c7, none, 0, rfl, hA7, by simp, (row_isVs HC.out.r7).resolve_right (fun h => h hSw), by simp only [IsFs]⟩
            have hwL : wts l ≤ 1048575 := by have e3 := HBV.out.w1; have e4 := wts_le vals q; have e5 := HX.out; omega
            have hsL := szs_wt l
            have hwO := HBV.out.wtf
            have hsO := szf_wt fs
            have hfm : szf fs ≤ wts l := by rw [← szf_map, HBV.out.mp]; omega
            have HW1 := Lib.hid (HWL.out wr HC.out.be _ _ (by simp only [wt, wtf, ByteArray.size]; simp; omega) (by simp only [sz, szf]; omega) (by simp only [val.ok]; exact ⟨⟨by decide, by decide, by decide, by decide, by decide⟩, HBV.out.ok, by simp only [val.okf]⟩) hVL)
            have hkL := HBV.out.lkL
            have hzL := HBV.out.txL
            rw [hkL] at HW1
            have h9 := HBV.out.size9 (by have := HX.out; omega)
            have h10 := HBV.out.size10 (by have := HX.out; omega) HNB.out
            obtain ⟨T1, hT1⟩ : ∃ T1, tx (.mk 5 false 0 0 ⟨#[]⟩ ⟨#[]⟩ l []) = T1 := ⟨_, rfl⟩
            rw [hT1] at HW1 hzL
            have HZL := Lib.hid hzL
            have HOKO : Hid (val.ok (.mk 6 false 0 0 ⟨#[]⟩ ⟨#[]⟩ [] fs)) := Lib.hid (by simp only [val.ok]; exact ⟨⟨by decide, by decide, by decide, by decide, by decide⟩, by simp only [val.oks], HBV.out.okf⟩)
            have HWTO : Hid (wt (.mk 6 false 0 0 ⟨#[]⟩ ⟨#[]⟩ [] fs) ≤ 16777216) := Lib.hid (by have := HX.out; have := HNB.out; simp only [wt, wts, ByteArray.size]; simp; omega)
            have HSZO : Hid (sz (.mk 6 false 0 0 ⟨#[]⟩ ⟨#[]⟩ [] fs) ≤ 1048576) := Lib.hid (by simp only [sz, szs]; omega)
            clear hVL hkL hzL hT1 hwL hsL hwO hsO hfm
            obtain ⟨m0, m1, m2, m3, m4, m5, m6, m7⟩ := blk8 HC.out.b7
            have hlq : ¬ q < n ∨ ¬ q < m := by omega
            by_cases hlt : q < n
            all_goals
              first
                | (have hltm : ¬ q < m := fun h => hgo ⟨hlt, h⟩)
                | skip
              clear hgo hlq
              go_wp2_with fail
              refine HW1.out.mono ?_
              rintro e wa ⟨ha, _, hbl⟩
              obtain ⟨vb, B, rfl, ho, hB⟩ := ha rfl
              obtain ⟨Ab, cb, rfl, hAb, _⟩ := own_form ho
              have HCa := Lib.hid (HC.out.below HS.out hbl)
              have hcv : (convert 31 9 (.slice Ab T1.length cb)).run Tryd.prog wa = .ok (.string (s9 ++ ⟨#[93]⟩)) wa := by
                rw [← HZL.out]
                exact run_conv_bytes 31 9 5 Ab T1 cb Tryd.underlying31 Tryd.underlying5 Tryd.underlying9 (Rd.of_own ho) hAb
              have hz1 : ¬ 9223372036854775807 < s9.size + 1 := by omega
              clear m0 m1 m2 m3 m4 m5 m6 m7 ha ho hbl HW1 hAb hB
              obtain ⟨m0, m1, m2, m3, m4, m5, m6, m7⟩ := blk8 HCa.out.b8
              go_wp2_with fail
              have hSa : Bel S wa.heap.size := HS.out.mono HCa.out.be.size
              have hVO : IsV wa (fun b => b < wa.heap.size) (.mk 6 false 0 0 ⟨#[]⟩ ⟨#[]⟩ [] fs) [.int .i64 6, .bool false, .int .i64 0, .float .f64 0, .string ⟨#[]⟩, .string ⟨#[]⟩, .slice none 0 0, .slice A8 fs.length c8] := by
                simp only [IsV]
                exact ⟨none, 0, A8, c8, rfl, by simp, hA8, by simp only [IsVs], (row_isFs HCa.out.r8).resolve_right (fun h => h hSa)⟩
              refine (HWL.out wa HCa.out.be _ _ HWTO.out HSZO.out HOKO.out hVO).mono ?_
              rintro e wb ⟨ha, hb, hbl⟩
              have HCb := Lib.hid (HCa.out.below HS.out hbl)
              have hkO := HBV.out.lkO
              have hzO := HBV.out.txO
              rw [hkO] at ha hb
              clear hVO hkO m0 m1 m2 m3 m4 m5 m6 m7 hcv
              obtain ⟨m0, m1, m2, m3, m4, m5, m6, m7⟩ := blk8 HCb.out.b8
              have hfl1 : fs.length ≤ 1048576 := by have e1 := szf_len fs; have e2 := HSZO.out; simp only [sz, szs] at e2; omega
              have HTW := Lib.hid (twice_any (fs.map (·.1)) (A8.getD ⟨0, 0, none⟩) fs.length c8 A8 wb (by simp) hfl1 (fun h => by
                cases h8 : A8 with
                | none => have := hA8 h8; omega
                | some ad => rfl) (fun h => by
                cases h8 : A8 with
                | none => have := hA8 h8; omega
                | some ad =>
                  have hr := HCb.out.r8
                  rw [h8] at hr
                  obtain ⟨x, hx⟩ : ∃ p, fs[0]? = some p := ⟨_, List.getElem?_eq_getElem h⟩
                  obtain ⟨ad', cs, e, hlt, _⟩ := hr.at_ recF hx
                  injection e with e
                  subst e
                  exact hlt) (fun W hW j s hs => by
                rw [List.getElem?_map] at hs
                cases hx : fs[j]? with
                | none => rw [hx] at hs; cases hs
                | some pv =>
                  rw [hx] at hs
                  simp at hs
                  have hr := (HCb.out.below HS.out hW).r8
                  obtain ⟨ad', cs, e, hlt, hc, ds, rfl, _⟩ := hr.at_ recF hx
                  subst e
                  have h0 := hc 0 _ rfl
                  rw [← hs]
                  simpa [Addr.add] using h0))
              by_cases hnd : (fs.map (·.1)).Nodup
              · rw [if_pos hnd] at ha hb
                obtain ⟨vb2, B2, rfl, ho2, hB2⟩ := ha rfl
                obtain ⟨Ab2, cb2, rfl, hAb2, _⟩ := own_form ho2
                have HOW := Lib.hid ho2
                have HAB := Lib.hid hAb2
                have HZO := Lib.hid hzO
                have hdd : decide (¬ (fs.map (·.1)).Nodup) = false := decide_eq_false (fun h => h hnd)
                rw [hdd] at HTW
                clear ha hb ho2 hAb2 hzO hB2 hbl hnd hdd
                generalize tx (.mk 6 false 0 0 ⟨#[]⟩ ⟨#[]⟩ [] fs) = T2 at *
                go_wp2_with fail
                refine HTW.out.mono ?_
                rintro e wf ⟨rfl, hbf⟩
                have hbz := HCb.out.be.trans (hbf.mono HCb.out.be.size)
                have hof := own_below HOW.out hbf
                have hcv2 : (convert 31 9 (.slice Ab2 T2.length cb2)).run Tryd.prog wf = .ok (.string (s10 ++ ⟨#[125]⟩)) wf := by
                  rw [← HZO.out]
                  exact run_conv_bytes 31 9 5 Ab2 T2 cb2 Tryd.underlying31 Tryd.underlying5 Tryd.underlying9 (Rd.of_own hof) HAB.out
                have hz2 : ¬ 9223372036854775807 < s10.size + 1 := by omega
                clear hof hbf m0 m1 m2 m3 m4 m5 m6 m7
                go_wp2_with fail
                go_ret
                exact ⟨by simp, hbz⟩
              · rw [if_neg hnd] at ha hb
                obtain rfl := hb (by decide)
                have hdd : decide (¬ (fs.map (·.1)).Nodup) = true := decide_eq_true hnd
                rw [hdd] at HTW
                clear ha hb hzO hbl hnd hdd
                go_wp2_with fail
                refine HTW.out.mono ?_
                rintro e wf ⟨rfl, hbf⟩
                have hbz := HCb.out.be.trans (hbf.mono HCb.out.be.size)
                clear hbf m0 m1 m2 m3 m4 m5 m6 m7
                go_wp2_with fail
                go_ret
                exact ⟨by simp, hbz⟩
      · clear hgo
        by_cases hlt : q < n
        all_goals
          go_wp2_with fail
          go_ret
          exact ⟨rfl, HB.out⟩
end Go.Proofs.YthlncdcfppehcaaDoor.look
