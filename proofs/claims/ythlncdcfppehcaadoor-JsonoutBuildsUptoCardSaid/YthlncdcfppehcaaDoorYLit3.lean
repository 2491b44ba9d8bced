/- The law's littered at an object. -/
import Derived.Test.YthlncdcfppehcaaDoorGLit1
namespace Go.Proofs.YthlncdcfppehcaaDoor.look
open Go.RowKit mem txt app smap val
attribute [local go_sem] run_store_float
set_option linter.unusedVariables false
/-- while the new list grows -/
structure LfSt (w : World) (vb : Array Value) (cur : Value → Array Value) (vv : Value) (css : List (List Value)) (done : List (ByteArray × V)) (W : World) : Prop where
  be : Below w.heap.size w W
  box : W.heap[w.heap.size]? = some (.cells vb 30 (0, 0))
  res : W.heap[w.heap.size + 1]? = some (.cells #[.int .i64 0, .bool false, .int .i64 0, .float .f64 0, .string ⟨#[]⟩, .string ⟨#[]⟩, .slice none 0 0, .slice none 0 0] 30 (0, 0))
  j2 : W.heap[w.heap.size + 1 + 1]? = some (.cells #[.int .i64 9, .bool false, .int .i64 0, .float .f64 0, .string ⟨#[]⟩, .string ⟨#[]⟩, .slice none 0 0, .slice none 0 0] 30 (0, 0))
  cu : W.heap[w.heap.size + 1 + 1 + 1 + 1]? = some (.cells (cur vv) 30 (0, 0))
  own : W.ownsRow (w.heap.size + 5) 38 9 vv done.length css.flatten
  el : Elems IsF W (val.Kids W (w.heap.size + 5) vv) done css
  sz : w.heap.size + 5 ≤ W.heap.size
theorem LfSt.below {w W W' : World} {vb : Array Value} {cur : Value → Array Value} {vv : Value} {css : List (List Value)} {done : List (ByteArray × V)} (h : LfSt w vb cur vv css done W) (hb : Below W.heap.size W W') : LfSt w vb cur vv css done W' :=
  ⟨h.be.trans (hb.mono h.be.size), blk_below h.box hb (blk_lt h.box), blk_below h.res hb (blk_lt h.res), blk_below h.j2 hb (blk_lt h.j2), blk_below h.cu hb (blk_lt h.cu), own_below h.own hb, h.el.below recF hb, Nat.le_trans h.sz hb.size⟩
theorem LfSt.grow {w W w5 : World} {o : Obj} {vb : Array Value} {cur : Value → Array Value} {vv : Value} {css : List (List Value)} {done : List (ByteArray × V)} (h : LfSt w vb cur vv css done W) (hg : (W.alloc o).grownBy w5 vv.ownBlock) : w5.heap[w.heap.size + 1 + 1 + 1 + 1]? = some (.cells (cur vv) 30 (0, 0)) :=
  blk_grown (blk_alloc h.cu _) hg (own_ne h.own (by omega))
theorem LfSt.step {w W w5 : World} {o : Obj} {vb : Array Value} {cur : Value → Array Value} {vv v' : Value} {css : List (List Value)} {done : List (ByteArray × V)} {x : ByteArray × V} {cs : List Value} (h : LfSt w vb cur vv css done W) (hg : (W.alloc o).grownBy w5 vv.ownBlock)
    (hat : v'.ownBlock = vv.ownBlock ∨ v'.ownBlock = some (W.alloc o).heap.size) (hown : w5.ownsRow (w.heap.size + 5) 38 9 v' (done.length + 1) (css.flatten ++ cs)) (hx : IsF W (val.Kids W (w.heap.size + 5) vv) x cs) (hc : (cur vv).setIfInBounds 7 v' = cur v') :
    LfSt w vb cur v' (css ++ [cs]) (done ++ [x]) (w5.setCell ⟨w.heap.size + 1 + 1 + 1 + 1, 7, none⟩ v') := by
  have hne : ∀ g, g < w.heap.size + 5 → some g ≠ vv.ownBlock := fun g hg => own_ne h.own hg
  have hs := hg.size
  have hs2 := h.sz
  have far : ∀ {g : Nat} {o' : Obj}, W.heap[g]? = some o' → g < w.heap.size + 1 + 1 + 1 + 1 → (w5.setCell ⟨w.heap.size + 1 + 1 + 1 + 1, 7, none⟩ v').heap[g]? = some o' := fun hgg hl => blk_far (blk_grown (blk_alloc hgg _) hg (hne _ (by omega))) (show _ ≠ w.heap.size + 1 + 1 + 1 + 1 by omega) _
  refine ⟨?_, far h.box (by omega), far h.res (by omega), far h.j2 (by omega), ?_, ?_, ?_, by simp [World.setCell] at hs ⊢; omega⟩
  · exact ((h.be.alloc (by omega) _).grown hg (by simp; omega) (fun kk hkk => by have := (h.own.lt kk hkk).1; omega)).setCell (show w.heap.size ≤ w.heap.size + 1 + 1 + 1 + 1 by omega) _
  · rw [← hc]
    exact blk_set (h.grow hg) 7 v'
  · rw [List.length_append, List.flatten_append]
    have hown2 : w5.ownsRow (w.heap.size + 5) 38 9 v' (done.length + [x].length) (css.flatten ++ [cs].flatten) := by simpa using hown
    exact ownsRow_setCell_below hown2 (show w.heap.size + 1 + 1 + 1 + 1 < w.heap.size + 5 by omega) _
  · exact (Elems.app recF h.el hx hg hat).low recF (show w.heap.size + 1 + 1 + 1 + 1 < w.heap.size + 5 by omega) _
theorem infoM : (Tryd.prog.info? 38).map (fun i => (i.zero, i.size, i.bytes)) = some (some (.agg #[.string ⟨#[]⟩, .int .i64 0, .bool false, .int .i64 0, .float .f64 0, .string ⟨#[]⟩, .string ⟨#[]⟩, .slice none 0 0, .slice none 0 0]), 9, 128) := by kernel_rfl
section
variable (b : Bool) (i : Int) (f : Nat) (t y : ByteArray) (A A' : Option Addr) (n m c c' : Nat) (w : World) (S : Nat → Prop)
set_option maxRecDepth 100000 in
set_option maxHeartbeats 4000000 in
theorem lit_obj (k nn : Int) (hk : k = 6) (is : List V) (fs : List (ByteArray × V)) (hl : fs.length = m) (hn2 : m ≤ 1048576) (hI : IsFs w S fs A' 0) (hof : okf fs) (hS : Bel S w.heap.size) (hn : -4611686018427387904 ≤ nn ∧ nn + 1048576 ≤ 4611686018427387904)
    (hR : ∀ (W : World) (x : V) (cs : List Value) (q : Nat), q < m → Below w.heap.size w W → x ∈ fs.map (·.2) → IsV W S x cs → Calls Tryd.prog 13 #[.agg cs.toArray, .int .i64 (nn + (q : Int))] W (LtPost x W)) :
    Calls Tryd.prog 13 #[.agg #[.int .i64 k, .bool b, .int .i64 i, .float .f64 f, .string t, .string y, .slice A n c, .slice A' m c'], .int .i64 nn] w (LtPost (.mk k b i f t y is fs) w) := by
  obtain ⟨iv, hiv, hv0, hv1, hv2⟩ := info_parts infoM
  have q1 : (k == 1) = false := by rw [hk]; rfl
  have q2 : (k == 2) = false := by rw [hk]; rfl
  have q3 : (k == 3) = false := by rw [hk]; rfl
  have q4 : (k == 4) = false := by rw [hk]; rfl
  have q5 : (k == 5) = false := by rw [hk]; rfl
  have q6 : (k == 6) = true := by rw [hk]; rfl
  obtain ⟨bb, hbb⟩ : ∃ bb, (nn.tmod 2 == 0) = bb := ⟨_, rfl⟩
  have HKK := Lib.hid hk
  have HOF := Lib.hid hof
  have HI := Lib.hid hI
  have HS := Lib.hid hS
  have HR := Lib.hid hR
  have HN := Lib.hid hl
  clear hk hI hS hR hl hof
  go_enter Tryd.func13, Tryd.ntmps13
  go_wp2_with fail
  obtain ⟨W5, hW5⟩ : ∃ W5, (((((w.alloc (.cells #[.int .i64 k, .bool b, .int .i64 i, .float .f64 f, .string t, .string y, .slice A n c, .slice A' m c'] 30)).alloc (.cells #[.int .i64 0, .bool false, .int .i64 0, .float .f64 0, .string ⟨#[]⟩, .string ⟨#[]⟩, .slice none 0 0, .slice none 0 0] 30)).alloc (.cells #[.int .i64 9, .bool false, .int .i64 0, .float .f64 0, .string ⟨#[]⟩, .string ⟨#[]⟩, .slice none 0 0, .slice none 0 0] 30)).alloc (.cells #[.string ⟨#[255]⟩, .int .i64 0, .bool false, .int .i64 0, .float .f64 0, .string ⟨#[]⟩, .string ⟨#[]⟩, .slice none 0 0, .slice none 0 0, .string ⟨#[255]⟩, .int .i64 0, .bool false, .int .i64 0, .float .f64 0, .string ⟨#[]⟩, .string ⟨#[]⟩, .slice none 0 0, .slice none 0 0] 38)).alloc (.cells #[.int .i64 k, .bool bb, .int .i64 nn, .float .f64 4602678819172646912, .string ⟨#[255]⟩, .string ⟨#[254]⟩, .slice (some ⟨w.heap.size + 1 + 1, 0, none⟩) 1 1, .slice none 0 0] 30)) = W5 := ⟨_, rfl⟩
  rw [hW5]
  obtain ⟨g0, g1, g2, g3, g4, hb, hz⟩ := five_alloc w _ _ _ _ _ hW5
  have HST : Hid (LfSt w #[.int .i64 k, .bool b, .int .i64 i, .float .f64 f, .string t, .string y, .slice A n c, .slice A' m c'] (fun vv => #[.int .i64 k, .bool bb, .int .i64 nn, .float .f64 4602678819172646912, .string ⟨#[255]⟩, .string ⟨#[254]⟩, .slice (some ⟨w.heap.size + 1 + 1, 0, none⟩) 1 1, vv]) (.slice none 0 0) [] [] W5) := Lib.hid ⟨hb, g0, g1, g2, g4, World.ownsRow_nil _ _ _ _, Elems.nil, by omega⟩
  clear hW5 g0 g1 g2 g3 g4 hb hz hbb
  go_loopw [8] (fun v6 wr => ∃ (q : Nat) (vv : Value) (css : List (List Value)) (done : List (ByteArray × V)), q ≤ m ∧ v6 = .int .i64 (q : Int) ∧ done.length = q ∧ Hid (FLikes (fs.take q) done) ∧ Hid (LfSt w #[.int .i64 k, .bool b, .int .i64 i, .float .f64 f, .string t, .string y, .slice A n c, .slice A' m c'] (fun vv => #[.int .i64 k, .bool bb, .int .i64 nn, .float .f64 4602678819172646912, .string ⟨#[255]⟩, .string ⟨#[254]⟩, .slice (some ⟨w.heap.size + 1 + 1, 0, none⟩) 1 1, vv]) vv css done wr)) (fun v _ => m - (intOf v).toNat)
  case atStart => exact ⟨0, _, [], [], Nat.zero_le _, rfl, rfl, Lib.hid (by simp [FLikes]), HST⟩
  case round =>
    clear HST
    obtain ⟨q, vv, css, done, hq, rfl, hdl, HL, HC⟩ := hrel
    obtain ⟨m0, m1, m2, m3, m4, m5, m6, m7⟩ := blk8 HC.out.box
    have hszr := HC.out.sz
    by_cases hlt : q < m
    · obtain ⟨x, hx⟩ : ∃ p, fs[q]? = some p := ⟨_, List.getElem?_eq_getElem (by rw [HN.out]; exact hlt)⟩
      obtain ⟨sn, x⟩ := x
      obtain ⟨ad, cs, rfl, hadB, hcs, hvx⟩ := (HI.out.below HS.out HC.out.be).at_ hx
      rw [Nat.zero_add] at hcs
      simp only at hcs hvx
      have hsn := (okf_get HOF.out hx).1
      simp only at hsn
      have hadw : ad.block < w.heap.size := HS.out _ hadB
      have HRX := Lib.hid (fun (W : World) (hW : Below wr.heap.size wr W) => HR.out W x cs q hlt (HC.out.be.trans (hW.mono (by omega))) (List.mem_map.2 ⟨(sn, x), List.mem_of_getElem? hx, rfl⟩) (hvx.below (HS.out.mono (by omega)) hW))
      have HX := Lib.hid hx
      obtain ⟨k2, b2, i2, f2, t2, y2, is2, fs2⟩ := x
      simp only [IsV] at hvx
      obtain ⟨A2, c2, A2', c2', rfl, _⟩ := hvx
      have HCS := Lib.hid hcs
      obtain ⟨d0, d1, d2, d3, d4, d5, d6, d7, d8⟩ := hcs.nine
      have hq0 : (0 : Int) ≤ (q : Int) := by omega
      have hqn : (q : Int) < (m : Int) := by omega
      clear hcs hx
      go_wp2_with fail
      refine (HRX.out wr (Below.refl _ _)).mono ?_
      rintro e wc ⟨x', cs', hlk, rfl, hV', hb2⟩
      have HLK := Lib.hid hlk
      have HV := Lib.hid hV'
      obtain ⟨k3, b3, i3, f3, t3, y3, is3, fs3⟩ := x'
      simp only [IsV] at hV'
      obtain ⟨A3, c3, A3', c3', rfl, _⟩ := hV'
      have hb3 : Below wr.heap.size wr (wc.alloc (.cells #[.int .i64 k3, .bool b3, .int .i64 i3, .float .f64 f3, .string t3, .string y3, .slice A3 is3.length c3, .slice A3' fs3.length c3'] 30)) := hb2.alloc hb2.size _
      have hb4 : Below wc.heap.size wc (wc.alloc (.cells #[.int .i64 k3, .bool b3, .int .i64 i3, .float .f64 f3, .string t3, .string y3, .slice A3 is3.length c3, .slice A3' fs3.length c3'] 30)) := (Below.refl _ _).alloc (Nat.le_refl _) _
      have gX := heap_alloc_new wc (.cells #[.int .i64 k3, .bool b3, .int .i64 i3, .float .f64 f3, .string t3, .string y3, .slice A3 is3.length c3, .slice A3' fs3.length c3'] 30)
      have hzc := hb2.size
      have HV2 : Hid (IsV (wc.alloc (.cells #[.int .i64 k3, .bool b3, .int .i64 i3, .float .f64 f3, .string t3, .string y3, .slice A3 is3.length c3, .slice A3' fs3.length c3'] 30)) (New wr.heap.size wc) (.mk k3 b3 i3 f3 t3 y3 is3 fs3) [.int .i64 k3, .bool b3, .int .i64 i3, .float .f64 f3, .string t3, .string y3, .slice A3 is3.length c3, .slice A3' fs3.length c3']) := Lib.hid (HV.out.keep (fun p hp => hb4.cell hp.2) (fun _ h => h))
      have hzd : wc.heap.size + 1 = (wc.alloc (.cells #[.int .i64 k3, .bool b3, .int .i64 i3, .float .f64 f3, .string t3, .string y3, .slice A3 is3.length c3, .slice A3' fs3.length c3'] 30)).heap.size := by simp
      clear d0 d1 d2 d3 d4 d5 d6 d7 d8 m0 m1 m2 m3 m4 m5 m6 m7 HRX hlk hb2 hb4 HV
      obtain ⟨wd, hwd⟩ : ∃ wd, wc.alloc (.cells #[.int .i64 k3, .bool b3, .int .i64 i3, .float .f64 f3, .string t3, .string y3, .slice A3 is3.length c3, .slice A3' fs3.length c3'] 30) = wd := ⟨_, rfl⟩
      rw [hwd] at hb3 gX HV2 hzd
      have HD := Lib.hid (HC.out.below hb3)
      have HWD := Lib.hid hwd
      have HDL := Lib.hid hdl
      obtain ⟨m0, m1, m2, m3, m4, m5, m6, m7⟩ := blk8 HD.out.box
      obtain ⟨n0, n1, n2, n3, n4, n5, n6, n7⟩ := blk8 HD.out.cu
      obtain ⟨s0, s1, s2, s3, s4, s5, s6, s7⟩ := blk8 gX
      have hzr := HC.out.sz
      have hcl : wc.heap.size < wd.heap.size := by omega
      clear hwd gX hb3
      have k0 : wd.cell? (ad.add (q * 9)) = some (.string sn) := (HD.out.be.cell (by rw [add_block]; exact hadw)).trans ((HC.out.be.cell (by rw [add_block]; exact hadw)).symm.trans (by have := HCS.out 0 _ rfl; simpa [Addr.add] using this))
      have hlen0 : done.length = q := HDL.out
      have HDD := Lib.hid (HD.out.below ((Below.refl _ _).drew))
      have HKF : Hid (IsF wd.drew (val.Kids wd.drew (w.heap.size + 5) vv) (sn, .mk k3 b3 i3 f3 t3 y3 is3 fs3) [.string sn, .int .i64 k3, .bool b3, .int .i64 i3, .float .f64 f3, .string t3, .string y3, .slice A3 is3.length c3, .slice A3' fs3.length c3']) := Lib.hid ⟨[.int .i64 k3, .bool b3, .int .i64 i3, .float .f64 f3, .string t3, .string y3, .slice A3 is3.length c3, .slice A3' fs3.length c3'], rfl, IsV.keep (w := wd) (w' := wd.drew) (fun p hp => rfl) (fun b hb => (show val.Kids wd.drew (w.heap.size + 5) vv b from ⟨by have := hb.1; omega, by have := hb.2; simp; omega, fun e => by have := (HC.out.own.lt b e).2; have := hb.1; omega⟩)) _ _ HV2.out⟩
      have hgl4 := blk_lt HD.out.cu
      have n7' : (wd.alloc (.cells #[.string sn, .int .i64 k3, .bool b3, .int .i64 i3, .float .f64 f3, .string t3, .string y3, .slice A3 is3.length c3, .slice A3' fs3.length c3'] 38)).cell? ⟨w.heap.size + 1 + 1 + 1 + 1, 7, none⟩ = some vv := (World.cell?_of_block (Below.heap_alloc wd _ _ hgl4)).trans n7
      go_wp2_with fail
      rw [HWD.out]
      first
        | (go_region_law ((refine step_app (wd.drew.alloc (.cells #[.string sn, .int .i64 k3, .bool b3, .int .i64 i3, .float .f64 f3, .string t3, .string y3, .slice A3 is3.length c3, .slice A3' fs3.length c3'] 38)) rfl (.tmp 90) (.tmp 99) _ rfl (w.heap.size + 5) 38 iv _ 9 128 Tryd.underlying28 hiv hv0 hv1 hv2 rfl (by omega) vv done.length css.flatten rfl (HDD.out.own.alloc _) (wd.heap.size + 1) (some ⟨wd.heap.size, 0, none⟩) 1 1 [.string sn, .int .i64 k3, .bool b3, .int .i64 i3, .float .f64 f3, .string t3, .string y3, .slice A3 is3.length c3, .slice A3' fs3.length c3'] rfl rfl (Rd.new wd.drew [.string sn, .int .i64 k3, .bool b3, .int .i64 i3, .float .f64 f3, .string t3, .string y3, .slice A3 is3.length c3, .slice A3' fs3.length c3'] 38) (by simp) (isF_one HV2.out) (by unfold maxLen; omega) (by omega) (by simp; omega) ?_; intro v' w5 hown' hgrow hat; have HO' := Lib.hid hown'; have HG' := Lib.hid hgrow; have HA' := Lib.hid hat; have R3w := HDD.out.grow hgrow; have j7w := (blk8 R3w).2.2.2.2.2.2.2; have jfw := blk_frozen R3w 7; obtain ⟨A5, c5, rfl, _, _, _⟩ := own_form hown'; clear hown' hgrow hat R3w)))
        | fail
      all_goals
        have hst := HDD.out.step (x := (sn, .mk k3 b3 i3 f3 t3 y3 is3 fs3)) HG'.out HA'.out HO'.out HKF.out (by simp)
        rw [hlen0] at hst
        have HLL : Hid (FLikes (fs.take (q + 1)) (done ++ [(sn, .mk k3 b3 i3 f3 t3 y3 is3 fs3)])) := Lib.hid (by rw [List.take_add_one, HX.out]; exact FLikes.snoc (x := (sn, .mk k2 b2 i2 f2 t2 y2 is2 fs2)) (x' := (sn, .mk k3 b3 i3 f3 t3 y3 is3 fs3)) ⟨rfl, hsn, HLK.out⟩ HL.out)
        have HST2 := Lib.hid hst
        have HLE := Lib.hid hlen0
        clear hst hlen0 m0 m1 m2 m3 m4 m5 m6 m7 n0 n1 n2 n3 n4 n5 n6 n7 s0 s1 s2 s3 s4 s5 s6 s7 n7' k0 j7w jfw
        go_wp2_with fail
        exact ⟨⟨q + 1, _, _, _, by have := HLE.out; omega, by go_num, by simp [HLE.out], HLL, HST2⟩, by have := HLE.out; simp [intOf]; omega⟩
    · obtain rfl : q = m := by omega
      have hT : fs.take q = fs := List.take_of_length_le (by rw [HN.out]; exact Nat.le_refl _)
      rw [hT] at HL
      obtain ⟨A1, c1, rfl, hA1, _⟩ := own_form HC.out.own
      obtain ⟨n0, n1, n2, n3, n4, n5, n6, n7⟩ := blk8 HC.out.cu
      obtain ⟨o0, o1, o2, o3, o4, o5, o6, o7⟩ := blk8 HC.out.res
      have of0 := blk_frozen HC.out.res 0
      have of1 := blk_frozen HC.out.res 1
      have of2 := blk_frozen HC.out.res 2
      have of3 := blk_frozen HC.out.res 3
      have of4 := blk_frozen HC.out.res 4
      have of5 := blk_frozen HC.out.res 5
      have of6 := blk_frozen HC.out.res 6
      have of7 := blk_frozen HC.out.res 7
      go_wp2_with fail
      obtain ⟨W', hW'⟩ : ∃ W', (((((((wr.setCell ⟨w.heap.size + 1, 0, none⟩ (.int .i64 k)).setCell ⟨w.heap.size + 1, 1, none⟩ (.bool bb)).setCell ⟨w.heap.size + 1, 2, none⟩ (.int .i64 nn)).setCell ⟨w.heap.size + 1, 3, none⟩ (.float .f64 4602678819172646912)).setCell ⟨w.heap.size + 1, 4, none⟩ (.string ⟨#[255]⟩)).setCell ⟨w.heap.size + 1, 5, none⟩ (.string ⟨#[254]⟩)).setCell ⟨w.heap.size + 1, 6, none⟩ (.slice (some ⟨w.heap.size + 1 + 1, 0, none⟩) 1 1)).setCell ⟨w.heap.size + 1, 7, none⟩ (.slice A1 q c1) = W' := ⟨_, rfl⟩
      rw [hW']
      obtain ⟨e1, e2, e3, e4⟩ := set8 HC.out.res _ _ _ _ _ _ _ _ hW'
      have hI' := own_isFs HC.out.own HC.out.el
      have hF' := nine_at (B := w.heap.size + 1 + 1) (Nat.le_refl _) HC.out.j2
      have hall := HL.out.all
      have hx : Like (.mk k b i f t y is fs) (.mk k bb nn 4602678819172646912 ⟨#[255]⟩ ⟨#[254]⟩ [nine] done) :=
        like_mk (fun h => absurd (h.symm.trans HKK.out) (by decide)) (fun h => absurd (h.symm.trans HKK.out) (by decide)) (fun h => absurd (h.symm.trans HKK.out) (by decide)) (fun h => absurd (h.symm.trans HKK.out) (by decide)) (fun h => absurd (h.symm.trans HKK.out) (by decide)) (fun _ => HL.out)
          ⟨by omega, by omega, by omega, by decide⟩ (show (1 : Nat) ≤ 1 + t.size by omega) (by decide) (fun _ => nine_ok) (fun h => absurd HKK.out h)
      have hfin := lit_end (c := 1) (c' := c1) (W' := W') hx HC.out.be (by have := HC.out.sz; omega) (by simp) hA1 hF' (hI'.keep (fun _ _ => rfl) (fun b hb => (show New (w.heap.size + 1 + 1) wr b from ⟨by have := hb.1; omega, hb.2⟩))) e2 e3 e4
      rw [hdl] at hfin
      obtain ⟨p0, p1, p2, p3, p4, p5, p6, p7⟩ := blk8 e1
      exact bodyPost_ret (v := .agg #[.int .i64 k, .bool bb, .int .i64 nn, .float .f64 4602678819172646912, .string ⟨#[255]⟩, .string ⟨#[254]⟩, .slice (some ⟨w.heap.size + 1 + 1, 0, none⟩) 1 1, .slice A1 q c1]) (by simp [results, Tryd.results13, go_sem, p0, p1, p2, p3, p4, p5, p6, p7]) rfl hfin
end
end Go.Proofs.YthlncdcfppehcaaDoor.look
