/- tree.Equal of objects. tree.Equal of any two values that are written: are their texts alike? JsonoutSame, the walk. -/
import Derived.Test.YthlncdcfppehcaaDoorGEq1
import Derived.Test.YthlncdcfppehcaaDoorGBld1
import Derived.Handy
import Derived.WalkSpells
import Derived.WalkLawsBesides
import Derived.Deep.DeepMust
import Derived.Deep.RegionHeld3
import Derived.Deep.RegionLaw
import Derived.Deep.RegionWith
import Derived.Deep.Cut
import Derived.Deep.CutRange
import Derived.Test.YthlncdcfppehcaaDoorGSpl
import Derived.Test.YthlncdcfppehcaaDoorYRsz
import Derived.Test.YthlncdcfppehcaaDoorGDfq
section
namespace Go.Proofs.YthlncdcfppehcaaDoor.look
open Go.RowKit mem txt app smap val
attribute [local go_sem] run_store_float
set_option linter.unusedVariables false

section
variable (b b2 : Bool) (i i2 : Int) (f f2 : Nat) (t y t2 y2 : ByteArray) (A A' E E' : Option Addr) (n m c c' n2 m2 e e' : Nat) (w : World) (S S' : Nat → Prop)
set_option maxRecDepth 100000 in
set_option maxHeartbeats 8000000 in
theorem equal_obj (k : Int) (hk : 0 ≤ k ∧ k ≤ 6) (hk6 : k = 6) (fs fs' : List (ByteArray × V)) (hn : fs.length = m) (hn' : fs'.length = m2) (hnn : m ≤ 1048576) (hI : IsFs w S fs A' 0) (hI' : IsFs w S' fs' E' 0) (hS : Bel S w.heap.size) (hS' : Bel S' w.heap.size)
    (hR : ∀ (W : World) (q : Nat) (p p' : ByteArray × V) (cs cs' : List Value), Below w.heap.size w W → fs[q]? = some p → fs'[q]? = some p' → IsV W S p.2 cs → IsV W S' p'.2 cs' → Calls Tryd.prog 14 #[.agg cs.toArray, .agg cs'.toArray] W (EqP (tx p.2 = tx p'.2) W)) : Calls Tryd.prog 14 #[.agg #[.int .i64 k, .bool b, .int .i64 i, .float .f64 f, .string t, .string y, .slice A n c, .slice A' m c'], .agg #[.int .i64 k, .bool b2, .int .i64 i2, .float .f64 f2, .string t2, .string y2, .slice E n2 e, .slice E' m2 e']] w (EqP (fs.map (fun p => (p.1, tx p.2)) = fs'.map (fun p => (p.1, tx p.2))) w) := by
  have hkd : kd k = k := if_neg (by omega)
  have HK := Lib.hid (fun W : World => tkind_any b i f t y A A' n m c c' W k)
  have HL := Lib.hid (fun W : World => tkind_any b2 i2 f2 t2 y2 E E' n2 m2 e e' W k)
  rw [hkd] at HK
  rw [hkd] at HL
  clear hkd hk
  have hq : (k != k) = false := by simp
  have q5 : (k == 5) = false := by rw [hk6]; rfl
  have q6 : (k == 6) = true := by rw [hk6]; rfl
  have HI := Lib.hid hI
  have HI' := Lib.hid hI'
  have HS := Lib.hid hS
  have HS' := Lib.hid hS'
  have HN := Lib.hid hn
  have HN' := Lib.hid hn'
  have HR := Lib.hid hR
  clear hk6 hI hI' hS hS' hR hn hn'
  obtain ⟨W2, hW2⟩ : ∃ W2, (w.alloc (.cells #[.int .i64 k, .bool b, .int .i64 i, .float .f64 f, .string t, .string y, .slice A n c, .slice A' m c'] 30)).alloc (.cells #[.int .i64 k, .bool b2, .int .i64 i2, .float .f64 f2, .string t2, .string y2, .slice E n2 e, .slice E' m2 e'] 30) = W2 := ⟨_, rfl⟩
  obtain ⟨g1, g2, hb, hz⟩ := two_alloc w _ _ hW2
  have HB2 : Hid (Bx w (.cells #[.int .i64 k, .bool b, .int .i64 i, .float .f64 f, .string t, .string y, .slice A n c, .slice A' m c'] 30) (.cells #[.int .i64 k, .bool b2, .int .i64 i2, .float .f64 f2, .string t2, .string y2, .slice E n2 e, .slice E' m2 e'] 30) W2) := Lib.hid ⟨hb, g1, g2⟩
  clear g1 g2 hb
  go_enter Tryd.func14, Tryd.ntmps14
  go_upto_region 1 with (fail)
  have hhs : W2.heap.size = w.heap.size + 2 := hz.symm
  clear hW2
  go_cut [12] from 8 to 11 (fun s12 wx => s12 = .bool (k != k) ∧ Hid (Bx w (.cells #[.int .i64 k, .bool b, .int .i64 i, .float .f64 f, .string t, .string y, .slice A n c, .slice A' m c'] 30) (.cells #[.int .i64 k, .bool b2, .int .i64 i2, .float .f64 f2, .string t2, .string y2, .slice E n2 e, .slice E' m2 e'] 30) wx))
  case first =>
    obtain ⟨m0, m1, m2', m3, m4, m5, m6, m7⟩ := val.blk8 HB2.out.b1
    obtain ⟨n0, n1, n2', n3, n4, n5, n6, n7⟩ := val.blk8 HB2.out.b2
    go_region_held3 (fun w' => w'.cell? ⟨w.heap.size, 0, none⟩ = some (.int .i64 k) ∧ w'.cell? ⟨w.heap.size, 1, none⟩ = some (.bool b) ∧ w'.cell? ⟨w.heap.size, 2, none⟩ = some (.int .i64 i) ∧ w'.cell? ⟨w.heap.size, 3, none⟩ = some (.float .f64 f) ∧ w'.cell? ⟨w.heap.size, 4, none⟩ = some (.string t) ∧ w'.cell? ⟨w.heap.size, 5, none⟩ = some (.string y) ∧ w'.cell? ⟨w.heap.size, 6, none⟩ = some (.slice A n c) ∧ w'.cell? ⟨w.heap.size, 7, none⟩ = some (.slice A' m c') ∧ w'.cell? ⟨w.heap.size + 1, 0, none⟩ = some (.int .i64 k) ∧ w'.cell? ⟨w.heap.size + 1, 1, none⟩ = some (.bool b2) ∧ w'.cell? ⟨w.heap.size + 1, 2, none⟩ = some (.int .i64 i2) ∧ w'.cell? ⟨w.heap.size + 1, 3, none⟩ = some (.float .f64 f2) ∧ w'.cell? ⟨w.heap.size + 1, 4, none⟩ = some (.string t2) ∧ w'.cell? ⟨w.heap.size + 1, 5, none⟩ = some (.string y2) ∧ w'.cell? ⟨w.heap.size + 1, 6, none⟩ = some (.slice E n2 e) ∧ w'.cell? ⟨w.heap.size + 1, 7, none⟩ = some (.slice E' m2 e') ∧ Below W2.heap.size W2 w')
      (first | assumption | (refine ⟨?_, ?_, ?_, ?_, ?_, ?_, ?_, ?_, ?_, ?_, ?_, ?_, ?_, ?_, ?_, ?_, ?_⟩; all_goals first | assumption | exact (Below.refl _ _).drew) | (obtain ⟨h0, h1, h2, h3, h4, h5, h6, h7, h8, h9, h10, h11, h12, h13, h14, h15, h16⟩ := ‹_ ∧ _›; exact ⟨(hb3.cell (World.block_lt_of_cell? _ _ h0)).trans h0, (hb3.cell (World.block_lt_of_cell? _ _ h1)).trans h1, (hb3.cell (World.block_lt_of_cell? _ _ h2)).trans h2, (hb3.cell (World.block_lt_of_cell? _ _ h3)).trans h3, (hb3.cell (World.block_lt_of_cell? _ _ h4)).trans h4, (hb3.cell (World.block_lt_of_cell? _ _ h5)).trans h5, (hb3.cell (World.block_lt_of_cell? _ _ h6)).trans h6, (hb3.cell (World.block_lt_of_cell? _ _ h7)).trans h7, (hb3.cell (World.block_lt_of_cell? _ _ h8)).trans h8, (hb3.cell (World.block_lt_of_cell? _ _ h9)).trans h9, (hb3.cell (World.block_lt_of_cell? _ _ h10)).trans h10, (hb3.cell (World.block_lt_of_cell? _ _ h11)).trans h11, (hb3.cell (World.block_lt_of_cell? _ _ h12)).trans h12, (hb3.cell (World.block_lt_of_cell? _ _ h13)).trans h13, (hb3.cell (World.block_lt_of_cell? _ _ h14)).trans h14, (hb3.cell (World.block_lt_of_cell? _ _ h15)).trans h15, h16.trans (hb3.mono h16.size)⟩))
      (first | (go_simp; go_at_call_of 24 c'; refine (HK.out _).mono ?_; rintro e0 wc ⟨rfl, hb3⟩) | (go_simp; go_at_call_of 24 e'; refine (HL.out _).mono ?_; rintro e0 wc ⟨rfl, hb3⟩))
    all_goals
      go_wp2_with fail
      go_meet
      case rel =>
        have hend := ‹(_ = _) ∧ _›
        obtain ⟨_, _, _, _, _, _, _, _, _, _, _, _, _, _, _, _, hbe⟩ := hend
        exact ⟨by simp, Lib.hid (HB2.out.below hbe)⟩
  case rest =>
    obtain ⟨rfl, HB3⟩ := hcut
    clear HB2 hz hhs
    obtain ⟨m0, m1, m2', m3, m4, m5, m6, m7⟩ := val.blk8 HB3.out.b1
    go_wp2_with fail
    refine (HK.out _).mono ?_
    rintro e0 wk ⟨rfl, hbk⟩
    have HB4 := Lib.hid (HB3.out.below hbk)
    clear m0 m1 m2' m3 m4 m5 m6 m7 hbk HK HL
    obtain ⟨m0, m1, m2', m3, m4, m5, m6, m7⟩ := val.blk8 HB4.out.b1
    obtain ⟨n0, n1, n2', n3, n4, n5, n6, n7⟩ := val.blk8 HB4.out.b2
    by_cases hnq : m = m2
    · subst hnq
      have hdd : (((m : Int)) != (m : Int)) = false := by simp
      go_wp2_with fail
      clear m0 m1 m2' m3 m4 m5 m6 m7 n0 n1 n2' n3 n4 n5 n6 n7 hdd
      go_loopw [55] (fun v55 wr => ∃ (q : Nat), q ≤ m ∧ v55 = .int .i64 (q : Int) ∧ Hid (Bx w (.cells #[.int .i64 k, .bool b, .int .i64 i, .float .f64 f, .string t, .string y, .slice A n c, .slice A' m c'] 30) (.cells #[.int .i64 k, .bool b2, .int .i64 i2, .float .f64 f2, .string t2, .string y2, .slice E n2 e, .slice E' m e'] 30) wr) ∧ Hid ((fs.take q).map (fun p => (p.1, tx p.2)) = (fs'.take q).map fun p => (p.1, tx p.2))) (fun v _ => m - (intOf v).toNat)
      case atStart => exact ⟨0, Nat.zero_le _, rfl, HB4, Lib.hid rfl⟩
      case round =>
        clear HB4 HB3
        obtain ⟨q, hqn, rfl, HB, HE⟩ := hrel
        have hszr := HB.out.be.size
        by_cases hlt : q < m
        · obtain ⟨p, hx⟩ : ∃ p, fs[q]? = some p := ⟨_, List.getElem?_eq_getElem (by rw [HN.out]; exact hlt)⟩
          obtain ⟨p', hx'⟩ : ∃ p, fs'[q]? = some p := ⟨_, List.getElem?_eq_getElem (by rw [HN'.out]; exact hlt)⟩
          obtain ⟨s, x⟩ := p
          obtain ⟨s', x'⟩ := p'
          obtain ⟨ad, cs, rfl, hadB, hcs, hvx⟩ := (HI.out.below HS.out HB.out.be).at_ hx
          obtain ⟨ae, cs', rfl, haeB, hcs', hvx'⟩ := (HI'.out.below HS'.out HB.out.be).at_ hx'
          rw [Nat.zero_add] at hcs hcs'
          simp only at hcs hcs' hvx hvx'
          have HC := Lib.hid (fun (W : World) (hW : Below wr.heap.size wr W) => HR.out W q (s, x) (s', x') cs cs' (HB.out.be.trans (hW.mono hszr)) hx hx' (hvx.below (HS.out.mono hszr) hW) (hvx'.below (HS'.out.mono hszr) hW))
          have HTE : Hid ((fs.take (q + 1)).map (fun p => (p.1, tx p.2)) = (fs'.take (q + 1)).map (fun p => (p.1, tx p.2)) ↔ (s = s' ∧ tx x = tx x')) := Lib.hid (by
            rw [List.take_add_one, List.take_add_one, hx, hx', List.map_append, List.map_append, HE.out]
            simp)
          have HNE : Hid (fs.map (fun p => (p.1, tx p.2)) = fs'.map (fun p => (p.1, tx p.2)) → s = s' ∧ tx x = tx x') := Lib.hid (fun h => by
            have h1 : (fs.map fun p => (p.1, tx p.2))[q]? = (fs'.map fun p => (p.1, tx p.2))[q]? := by rw [h]
            rw [List.getElem?_map, List.getElem?_map, hx, hx'] at h1
            simpa using h1)
          simp only at HC
          obtain ⟨P, hP⟩ : ∃ P, (tx x = tx x') = P := ⟨_, rfl⟩
          rw [hP] at HC HTE HNE
          clear hP hx hx'
          obtain ⟨k3, b3, i3, f3, t3, y3, is3, fs3⟩ := x
          obtain ⟨k4, b4, i4, f4, t4, y4, is4, fs4⟩ := x'
          simp only [IsV] at hvx hvx'
          obtain ⟨A3, c3, A3', c3', rfl, _⟩ := hvx
          obtain ⟨A4, c4, A4', c4', rfl, _⟩ := hvx'
          obtain ⟨d0, d1, d2, d3, d4, d5, d6, d7, d8⟩ := hcs.nine
          have HCS := Lib.hid hcs'
          have hq0 : (0 : Int) ≤ (q : Int) := by omega
          have hqi : (q : Int) < (m : Int) := by omega
          clear hcs hcs'
          obtain ⟨W1, hW1⟩ : ∃ W1, wr.alloc (.cells #[.string s, .int .i64 k3, .bool b3, .int .i64 i3, .float .f64 f3, .string t3, .string y3, .slice A3 is3.length c3, .slice A3' fs3.length c3'] 38) = W1 := ⟨_, rfl⟩
          have hbW : Below wr.heap.size wr W1 := by rw [← hW1]; exact (Below.refl _ _).alloc (Nat.le_refl _) _
          have gM : W1.heap[wr.heap.size]? = some (.cells #[.string s, .int .i64 k3, .bool b3, .int .i64 i3, .float .f64 f3, .string t3, .string y3, .slice A3 is3.length c3, .slice A3' fs3.length c3'] 38 (0, 0)) := by rw [← hW1]; exact heap_alloc_new _ _
          have hzW : wr.heap.size + 1 = W1.heap.size := by rw [← hW1]; simp
          have HB1 := Lib.hid (HB.out.below hbW)
          have haew : ae.block < wr.heap.size := by have := HS'.out _ haeB; omega
          obtain ⟨g0, g1, g2, g3, g4, g5, g6, g7, g8⟩ := (HCS.out.keep (S := fun b => b < wr.heap.size) (by rw [add_block]; exact haew) (fun p hp => hbW.cell hp)).nine
          obtain ⟨o0, o1, o2, o3, o4, o5, o6, o7, o8⟩ := val.blk9 gM
          obtain ⟨_, _, _, _, _, _, _, n7⟩ := val.blk8 HB1.out.b2
          have HM := Lib.hid hW1
          have HBW := Lib.hid hbW
          have HBD := Lib.hid (HBW.out.trans (((Below.refl W1.heap.size W1).drew).mono (by omega)))
          clear hW1 gM hbW
          by_cases hss : s = s'
          · subst hss
            go_upto_region 20 with (fail)
            rw [HM.out]
            go_region_held3 (fun w' => w'.cell? ⟨wr.heap.size, 0, none⟩ = some (.string s) ∧ w'.cell? ⟨wr.heap.size, 1, none⟩ = some (.int .i64 k3) ∧ w'.cell? ⟨wr.heap.size, 2, none⟩ = some (.bool b3) ∧ w'.cell? ⟨wr.heap.size, 3, none⟩ = some (.int .i64 i3) ∧ w'.cell? ⟨wr.heap.size, 4, none⟩ = some (.float .f64 f3) ∧ w'.cell? ⟨wr.heap.size, 5, none⟩ = some (.string t3) ∧ w'.cell? ⟨wr.heap.size, 6, none⟩ = some (.string y3) ∧ w'.cell? ⟨wr.heap.size, 7, none⟩ = some (.slice A3 is3.length c3) ∧ w'.cell? ⟨wr.heap.size, 8, none⟩ = some (.slice A3' fs3.length c3') ∧ w'.cell? ⟨w.heap.size + 1, 7, none⟩ = some (.slice (some ae) m e') ∧ w'.cell? (ae.add (q * 9)) = some (.string s) ∧ w'.cell? ⟨(ae.add (q * 9)).block, (ae.add (q * 9)).off + 1, none⟩ = some (.int .i64 k4) ∧ w'.cell? ⟨(ae.add (q * 9)).block, (ae.add (q * 9)).off + 2, none⟩ = some (.bool b4) ∧ w'.cell? ⟨(ae.add (q * 9)).block, (ae.add (q * 9)).off + 3, none⟩ = some (.int .i64 i4) ∧ w'.cell? ⟨(ae.add (q * 9)).block, (ae.add (q * 9)).off + 4, none⟩ = some (.float .f64 f4) ∧ w'.cell? ⟨(ae.add (q * 9)).block, (ae.add (q * 9)).off + 5, none⟩ = some (.string t4) ∧ w'.cell? ⟨(ae.add (q * 9)).block, (ae.add (q * 9)).off + 6, none⟩ = some (.string y4) ∧ w'.cell? ⟨(ae.add (q * 9)).block, (ae.add (q * 9)).off + 7, none⟩ = some (.slice A4 is4.length c4) ∧ w'.cell? ⟨(ae.add (q * 9)).block, (ae.add (q * 9)).off + 8, none⟩ = some (.slice A4' fs4.length c4') ∧ Below W1.heap.size W1 w')
              (first | assumption | (refine ⟨?_, ?_, ?_, ?_, ?_, ?_, ?_, ?_, ?_, ?_, ?_, ?_, ?_, ?_, ?_, ?_, ?_, ?_, ?_, ?_⟩; all_goals first | assumption | exact (Below.refl _ _).drew) | (obtain ⟨h0, h1, h2, h3, h4, h5, h6, h7, h8, h9, h10, h11, h12, h13, h14, h15, h16, h17, h18, h19⟩ := ‹_ ∧ _›; exact ⟨(hb3.cell (World.block_lt_of_cell? _ _ h0)).trans h0, (hb3.cell (World.block_lt_of_cell? _ _ h1)).trans h1, (hb3.cell (World.block_lt_of_cell? _ _ h2)).trans h2, (hb3.cell (World.block_lt_of_cell? _ _ h3)).trans h3, (hb3.cell (World.block_lt_of_cell? _ _ h4)).trans h4, (hb3.cell (World.block_lt_of_cell? _ _ h5)).trans h5, (hb3.cell (World.block_lt_of_cell? _ _ h6)).trans h6, (hb3.cell (World.block_lt_of_cell? _ _ h7)).trans h7, (hb3.cell (World.block_lt_of_cell? _ _ h8)).trans h8, (hb3.cell (World.block_lt_of_cell? _ _ h9)).trans h9, (hb3.cell (World.block_lt_of_cell? _ _ h10)).trans h10, (hb3.cell (World.block_lt_of_cell? _ _ h11)).trans h11, (hb3.cell (World.block_lt_of_cell? _ _ h12)).trans h12, (hb3.cell (World.block_lt_of_cell? _ _ h13)).trans h13, (hb3.cell (World.block_lt_of_cell? _ _ h14)).trans h14, (hb3.cell (World.block_lt_of_cell? _ _ h15)).trans h15, (hb3.cell (World.block_lt_of_cell? _ _ h16)).trans h16, (hb3.cell (World.block_lt_of_cell? _ _ h17)).trans h17, (hb3.cell (World.block_lt_of_cell? _ _ h18)).trans h18, h19.trans (hb3.mono h19.size)⟩))
              ((go_simp; go_at_call 14; refine (HC.out _ HBD.out).mono ?_; rintro e0 wc ⟨rr, rfl, hrr, hb3⟩))
            all_goals
              have HRR := Lib.hid hrr
              have HBn := Lib.hid (HB1.out.below (((Below.refl _ _).drew).trans (hb3.mono (Nat.le_refl _))))
              clear d0 d1 d2 d3 d4 d5 d6 d7 d8 g0 g1 g2 g3 g4 g5 g6 g7 g8 o0 o1 o2 o3 o4 o5 o6 o7 o8 n7 hrr hb3
              cases rr with
              | true =>
                go_wp2_with fail
                exact ⟨⟨q + 1, by omega, by go_num, HBn, Lib.hid (HTE.out.2 ⟨by trivial, HRR.out.1 rfl⟩)⟩, by simp [intOf]; omega⟩
              | false =>
                go_wp2_with fail
                go_ret
                exact ⟨false, rfl, ⟨fun h => (by cases h), fun h => HRR.out.2 (HNE.out h).2⟩, HBn.out.be⟩
          · have hs1 : (s.toList == s'.toList) = false := str_ne hss
            have hs2 : (s.toList != s'.toList) = true := by simp [bne, hs1]
            go_upto_region 20 with (fail)
            rw [HM.out]
            go_quiet (fail)
            all_goals
              have HBn := Lib.hid (HB1.out.below (below_drewN (Below.refl W1.heap.size W1) nq))
              clear d0 d1 d2 d3 d4 d5 d6 d7 d8 g0 g1 g2 g3 g4 g5 g6 g7 g8 o0 o1 o2 o3 o4 o5 o6 o7 o8 n7
              go_wp2_with fail
              go_ret
              exact ⟨false, rfl, ⟨fun h => (by cases h), fun h => absurd (HNE.out h).1 hss⟩, HBn.out.be⟩
        · obtain rfl : q = m := by omega
          have hfin : fs.map (fun p => (p.1, tx p.2)) = fs'.map (fun p => (p.1, tx p.2)) := by
            have h := HE.out
            rw [List.take_of_length_le (by rw [HN.out]; exact Nat.le_refl _), List.take_of_length_le (by rw [HN'.out]; exact Nat.le_refl _)] at h
            exact h
          go_wp2_with fail
          go_ret
          exact ⟨true, rfl, ⟨fun _ => hfin, fun _ => rfl⟩, HB.out.be⟩
    · have hdd : ((m : Int) != (m2 : Int)) = true := by simp [bne]; omega
      go_wp2_with fail
      go_ret
      exact ⟨false, rfl, ⟨fun h => (by cases h), fun h => absurd (by rw [← HN.out, ← HN'.out, ← List.length_map (f := fun p : ByteArray × V => (p.1, tx p.2)), h, List.length_map]) hnq⟩, HB4.out.be⟩
end
end Go.Proofs.YthlncdcfppehcaaDoor.look
end
section
namespace Go.Proofs.YthlncdcfppehcaaDoor.look
open Go.RowKit mem txt app smap val
set_option linter.unusedVariables false

theorem EqPost.eqP {r : Bool} {P : Prop} {w : World} {e : Ending} {w' : World} (h : EqPost r w e w') (hp : r = true ↔ P) : EqP P w e w' := ⟨r, h.1, hp, h.2⟩
theorem EqP.iff {P Q : Prop} {w : World} {e : Ending} {w' : World} (h : EqP P w e w') (hp : P ↔ Q) : EqP Q w e w' := by
  obtain ⟨r, h1, h2, h3⟩ := h
  exact ⟨r, h1, h2.trans hp, h3⟩
theorem str_eq {a b : ByteArray} : (a.toList == b.toList) = true ↔ a = b := by
  constructor
  · intro h
    have := eq_of_beq h
    rw [ByteArray.toList_eq, ByteArray.toList_eq] at this
    exact ByteArray.ext (Array.toList_inj.mp this)
  · rintro rfl; simp
theorem gds_get {l : List V} (h : gds l) {q : Nat} {x : V} (hx : l[q]? = some x) : gd x := by
  induction l generalizing q with
  | nil => simp at hx
  | cons v r ih =>
    obtain ⟨h1, h2⟩ := gds_cons h
    cases q with
    | zero => simp at hx; subst hx; exact h1
    | succ q => exact ih h2 (by simpa using hx)
theorem gdf_get {l : List (ByteArray × V)} (h : gdf l) {q : Nat} {p : ByteArray × V} (hx : l[q]? = some p) : gd p.2 := by
  induction l generalizing q with
  | nil => simp at hx
  | cons v r ih =>
    obtain ⟨s, v⟩ := v
    obtain ⟨_, h1, h2⟩ := gdf_cons h
    cases q with
    | zero => simp at hx; subst hx; exact h1
    | succ q => exact ih h2 (by simpa using hx)
theorem equal_any (HF : Floats) : ∀ (N : Nat) (x x' : V), sz x ≤ N → N ≤ 1048576 → gd x → gd x' → ∀ (cs cs' : List Value) (w : World) (S S' : Nat → Prop), IsV w S x cs → IsV w S' x' cs' → Bel S w.heap.size → Bel S' w.heap.size →
    Calls Tryd.prog 14 #[.agg cs.toArray, .agg cs'.toArray] w (EqP (tx x = tx x') w) := by
  intro N
  induction N with
  | zero => intro x x' hx; have := sz_pos x; omega
  | succ N ih =>
    intro x x' hx hN hg hg' cs cs' w S S' hV hV' hS hS'
    have hte := tx_eqv HF hg hg'
    obtain ⟨k, b, i, f, t, y, is, fs⟩ := x
    obtain ⟨k', b2, i2, f2, t2, y2, is', fs'⟩ := x'
    simp only [sz] at hx
    obtain ⟨k0, k6, p1, p2, p3, p4, p5⟩ := gd_parts hg
    obtain ⟨k0', k6', p1', p2', p3', p4', p5'⟩ := gd_parts hg'
    simp only [IsV] at hV hV'
    obtain ⟨A, c, A', c', rfl, _, _, hI, hF⟩ := hV
    obtain ⟨E, e, E', e', rfl, _, _, hI', hF'⟩ := hV'
    have hl1 := szs_len is
    have hl2 := szf_len fs
    simp only [Eqv] at hte
    by_cases hk : k = k'
    · subst hk
      by_cases h5 : k = 5
      · refine (equal_list b b2 i i2 f f2 t y t2 y2 A A' E E' _ _ c c' _ _ e e' w S S' k ⟨k0, k6⟩ h5 is is' rfl rfl (by omega) hI hI' hS hS' (fun W q z z' ds ds' hW hz hz' hZ hZ' => ?_)).mono fun en w' h => h.iff ?_
        · exact ih z z' (by have := szs_get hz; omega) (by omega) (gds_get (p4 h5) hz) (gds_get (p4' h5) hz') ds ds' W S S' hZ hZ' (hS.mono hW.size) (hS'.mono hW.size)
        · rw [hte]
          exact ⟨fun h => ⟨rfl, by omega, by omega, by omega, by omega, fun _ => h, by omega⟩, fun h => h.2.2.2.2.2.1 h5⟩
      by_cases h6 : k = 6
      · refine (equal_obj b b2 i i2 f f2 t y t2 y2 A A' E E' _ _ c c' _ _ e e' w S S' k ⟨k0, k6⟩ h6 fs fs' rfl rfl (by omega) hF hF' hS hS' (fun W q z z' ds ds' hW hz hz' hZ hZ' => ?_)).mono fun en w' h => h.iff ?_
        · exact ih z.2 z'.2 (by have := szf_get hz; omega) (by omega) (gdf_get (p5 h6) hz) (gdf_get (p5' h6) hz') ds ds' W S S' hZ hZ' (hS.mono hW.size) (hS'.mono hW.size)
        · rw [hte]
          exact ⟨fun h => ⟨rfl, by omega, by omega, by omega, by omega, by omega, fun _ => h⟩, fun h => h.2.2.2.2.2.2 h6⟩
      have fin : ∀ (r : Bool), (∀ W : World, Below w.heap.size w W → Calls Tryd.prog 25 #[.agg #[.int .i64 k, .bool b, .int .i64 i, .float .f64 f, .string t, .string y, .slice A is.length c, .slice A' fs.length c'], .agg #[.int .i64 k, .bool b2, .int .i64 i2, .float .f64 f2, .string t2, .string y2, .slice E is'.length e, .slice E' fs'.length e']] W (EqPost r W)) →
          (r = true ↔ tx (.mk k b i f t y is fs) = tx (.mk k b2 i2 f2 t2 y2 is' fs')) → Calls Tryd.prog 14 #[.agg #[.int .i64 k, .bool b, .int .i64 i, .float .f64 f, .string t, .string y, .slice A is.length c, .slice A' fs.length c'], .agg #[.int .i64 k, .bool b2, .int .i64 i2, .float .f64 f2, .string t2, .string y2, .slice E is'.length e, .slice E' fs'.length e']] w (EqP (tx (.mk k b i f t y is fs) = tx (.mk k b2 i2 f2 t2 y2 is' fs')) w) := fun r hP hr =>
        (equal_plain b b2 i i2 f f2 t y t2 y2 A A' E E' _ _ c c' _ _ e e' w k ⟨k0, k6⟩ h5 h6 r hP).mono fun en w' h => h.eqP hr
      by_cases h0 : k = 0
      · refine fin true (fun W hW => plain_null b b2 i i2 f f2 t y t2 y2 A A' E E' _ _ c c' _ _ e e' W k h0) ?_
        rw [hte]
        exact ⟨fun _ => ⟨rfl, by omega, by omega, by omega, by omega, by omega, by omega⟩, fun _ => rfl⟩
      by_cases h1 : k = 1
      · refine fin _ (fun W hW => plain_bool b b2 i i2 f f2 t y t2 y2 A A' E E' _ _ c c' _ _ e e' W k h1) ?_
        rw [hte]
        exact ⟨fun h => ⟨rfl, fun _ => eq_of_beq h, by omega, by omega, by omega, by omega, by omega⟩, fun h => by rw [h.2.1 h1]; simp⟩
      by_cases h2 : k = 2
      · refine fin _ (fun W hW => plain_int b b2 i i2 f f2 t y t2 y2 A A' E E' _ _ c c' _ _ e e' W k h2) ?_
        rw [hte]
        exact ⟨fun h => ⟨rfl, by omega, fun _ => eq_of_beq h, by omega, by omega, by omega, by omega⟩, fun h => by rw [h.2.2.1 h2]; simp⟩
      by_cases h3 : k = 3
      · refine fin (decide (f = f2)) (fun W hW => plain_float b b2 i i2 f f2 t y t2 y2 A A' E E' _ _ c c' _ _ e e' W k h3 _ (fun W' => nsame_any f f2 p1 (p2 h3) p1' (p2' h3) W')) ?_
        rw [hte]
        exact ⟨fun h => ⟨rfl, by omega, by omega, fun _ => of_decide_eq_true h, by omega, by omega, by omega⟩, fun h => decide_eq_true (h.2.2.2.1 h3)⟩
      · have h4 : k = 4 := by omega
        refine fin _ (fun W hW => plain_text b b2 i i2 f f2 t y t2 y2 A A' E E' _ _ c c' _ _ e e' W k h4) ?_
        rw [hte, str_eq]
        exact ⟨fun h => ⟨rfl, by omega, by omega, by omega, fun _ => h, by omega, by omega⟩, fun h => h.2.2.2.2.1 h4⟩
    · refine (equal_kinds b b2 i i2 f f2 t y t2 y2 A A' E E' _ _ c c' _ _ e e' w k k' ⟨k0, k6⟩ ⟨k0', k6'⟩ hk).mono fun en w' h => h.iff ?_
      rw [hte]
      exact ⟨fun h => h.elim, fun h => hk h.1⟩
end Go.Proofs.YthlncdcfppehcaaDoor.look
end
section
namespace Go.Proofs.YthlncdcfppehcaaDoor.look
open Go.RowKit mem txt app smap val
attribute [local go_sem] run_store_float
set_option linter.unusedVariables false

theorem tx_byte_bz (s : ByteArray) : ∀ x ∈ bz s, 0 ≤ x ∧ x < 256 := by
  intro x hx
  unfold bz at hx
  obtain ⟨c, _, rfl⟩ := List.mem_map.1 hx
  have := c.toNat_lt
  omega
mutual
theorem tx_byte : ∀ v : V, ∀ x ∈ tx v, 0 ≤ x ∧ x < 256
  | .mk k b i f t y is fs => by
    intro x hx
    simp only [tx] at hx
    split at hx
    · unfold tfz at hx; split at hx <;> simp at hx <;> omega
    split at hx
    · exact tx_byte_bz _ x hx
    split at hx
    · exact tx_byte_bz _ x hx
    split at hx
    · exact quoteZ_byte _ x hx
    split at hx
    · rcases List.mem_cons.1 hx with rfl | hx
      · omega
      rcases List.mem_append.1 hx with hx | hx
      · exact (txs_byte is).1 x hx
      · simp at hx; omega
    split at hx
    · rcases List.mem_cons.1 hx with rfl | hx
      · omega
      rcases List.mem_append.1 hx with hx | hx
      · exact (txf_byte fs).1 x hx
      · simp at hx; omega
    · simp at hx; omega
theorem txs_byte : ∀ l : List V, (∀ x ∈ txs l, 0 ≤ x ∧ x < 256) ∧ (∀ x ∈ txr l, 0 ≤ x ∧ x < 256)
  | [] => by simp [txs, txr]
  | v :: r => by
    have h1 := tx_byte v
    have h2 := (txs_byte r).2
    simp only [txs, txr]
    refine ⟨fun x hx => ?_, fun x hx => ?_⟩
    · rcases List.mem_append.1 hx with hx | hx
      · exact h1 x hx
      · exact h2 x hx
    · rcases List.mem_cons.1 hx with rfl | hx
      · omega
      rcases List.mem_append.1 hx with hx | hx
      · exact h1 x hx
      · exact h2 x hx
theorem txf_byte : ∀ l : List (ByteArray × V), (∀ x ∈ txf l, 0 ≤ x ∧ x < 256) ∧ (∀ x ∈ txg l, 0 ≤ x ∧ x < 256)
  | [] => by simp [txf, txg]
  | (s, v) :: r => by
    have h1 := tx_byte v
    have h2 := (txf_byte r).2
    have h3 := quoteZ_byte s.data.toList
    simp only [txf, txg]
    refine ⟨fun x hx => ?_, fun x hx => ?_⟩
    · rcases List.mem_append.1 hx with hx | hx
      · exact h3 x hx
      rcases List.mem_cons.1 hx with rfl | hx
      · omega
      rcases List.mem_append.1 hx with hx | hx
      · exact h1 x hx
      · exact h2 x hx
    · rcases List.mem_cons.1 hx with rfl | hx
      · omega
      rcases List.mem_append.1 hx with hx | hx
      · exact h3 x hx
      rcases List.mem_cons.1 hx with rfl | hx
      · omega
      rcases List.mem_append.1 hx with hx | hx
      · exact h1 x hx
      · exact h2 x hx
end
theorem strOf_inj {l m : List Int} (hl : ∀ x ∈ l, 0 ≤ x ∧ x < 256) (hm : ∀ x ∈ m, 0 ≤ x ∧ x < 256) (h : strOf l = strOf m) : l = m := by
  have e : ∀ l : List Int, (∀ x ∈ l, 0 ≤ x ∧ x < 256) → (bz (strOf l)) = l := fun l hl => by
    unfold bz strOf
    rw [List.map_map]
    conv => rhs; rw [← List.map_id l]
    refine List.map_congr_left fun x hx => ?_
    have := hl x hx
    simp only [Function.comp, id]
    rw [UInt8.toNat_ofNat']
    omega
  rw [← e l hl, ← e m hm, h]
section
variable (b b2 : Bool) (i i2 : Int) (f f2 : Nat) (t y t2 y2 : ByteArray) (A A' E E' : Option Addr) (n m c c' n2 m2 e e' : Nat) (w : World)
set_option maxRecDepth 100000 in
set_option maxHeartbeats 8000000 in
theorem same_cells (k k' : Int) (r1 r2 : Int) (N1 N2 : Nat) (T1 T2 : List Int) (hN1 : N1 ≤ 1048576) (hN2 : N2 ≤ 1048576) (hT1 : T1.length ≤ 4398046511104) (hT2 : T2.length ≤ 4398046511104) (hb1 : ∀ x ∈ T1, 0 ≤ x ∧ x < 256) (hb2 : ∀ x ∈ T2, 0 ≤ x ∧ x < 256)
    (h0 : ∀ W, Below w.heap.size w W → Calls Tryd.prog 7 #[] W (TruePost W))
    (h1 : ∀ W, Below w.heap.size w W → Calls Tryd.prog 8 #[.agg #[.int .i64 k, .bool b, .int .i64 i, .float .f64 f, .string t, .string y, .slice A n c, .slice A' m c'], .int .i64 100000] W (RsPost N1 W))
    (h2 : ∀ W, Below w.heap.size w W → Calls Tryd.prog 8 #[.agg #[.int .i64 k', .bool b2, .int .i64 i2, .float .f64 f2, .string t2, .string y2, .slice E n2 e, .slice E' m2 e'], .int .i64 100000] W (RsPost N2 W))
    (h3 : ∀ W, Below w.heap.size w W → Calls Tryd.prog 9 #[.agg #[.int .i64 k, .bool b, .int .i64 i, .float .f64 f, .string t, .string y, .slice A n c, .slice A' m c']] W (WrPost r1 T1 W))
    (h4 : ∀ W, Below w.heap.size w W → Calls Tryd.prog 9 #[.agg #[.int .i64 k', .bool b2, .int .i64 i2, .float .f64 f2, .string t2, .string y2, .slice E n2 e, .slice E' m2 e']] W (WrPost r2 T2 W))
    (h5 : ∀ W g, Below w.heap.size w W → W.heap[g]? = some (.cells #[.int .i64 k, .bool b, .int .i64 i, .float .f64 f, .string t, .string y, .slice A n c, .slice A' m c', .int .i64 k', .bool b2, .int .i64 i2, .float .f64 f2, .string t2, .string y2, .slice E n2 e, .slice E' m2 e'] 30 (0, 0)) → Calls Tryd.prog 9 #[.agg #[.int .i64 5, .bool false, .int .i64 0, .float .f64 0, .string ⟨#[]⟩, .string ⟨#[]⟩, .slice (some ⟨g, 0, none⟩) 2 2, .slice none 0 0]] W (WrPost (if r1 = 0 then r2 else r1) (91 :: (T1 ++ 44 :: (T2 ++ [93]))) W))
    (h6 : r1 = 0 → r2 = 0 → ∀ W, Below w.heap.size w W → Calls Tryd.prog 14 #[.agg #[.int .i64 k, .bool b, .int .i64 i, .float .f64 f, .string t, .string y, .slice A n c, .slice A' m c'], .agg #[.int .i64 k', .bool b2, .int .i64 i2, .float .f64 f2, .string t2, .string y2, .slice E n2 e, .slice E' m2 e']] W (EqP (T1 = T2) W)) :
    Calls Tryd.prog 5 #[.agg #[.int .i64 k, .bool b, .int .i64 i, .float .f64 f, .string t, .string y, .slice A n c, .slice A' m c'], .agg #[.int .i64 k', .bool b2, .int .i64 i2, .float .f64 f2, .string t2, .string y2, .slice E n2 e, .slice E' m2 e']] w (TruePost w) := by
  have H0 := Lib.hid h0
  have H1 := Lib.hid h1
  have H2 := Lib.hid h2
  have H3 := Lib.hid h3
  have H4 := Lib.hid h4
  have H5 := Lib.hid h5
  have H6 := Lib.hid h6
  have HI : Hid (strOf T1 = strOf T2 → T1 = T2) := Lib.hid (strOf_inj hb1 hb2)
  clear h0 h1 h2 h3 h4 h5 h6 hb1 hb2
  obtain ⟨W2, hW2⟩ : ∃ W2, (w.alloc (.cells #[.int .i64 k, .bool b, .int .i64 i, .float .f64 f, .string t, .string y, .slice A n c, .slice A' m c'] 30)).alloc (.cells #[.int .i64 k', .bool b2, .int .i64 i2, .float .f64 f2, .string t2, .string y2, .slice E n2 e, .slice E' m2 e'] 30) = W2 := ⟨_, rfl⟩
  obtain ⟨g1, g2, hb, hz⟩ := two_alloc w _ _ hW2
  have HB0 : Hid (Bx w (.cells #[.int .i64 k, .bool b, .int .i64 i, .float .f64 f, .string t, .string y, .slice A n c, .slice A' m c'] 30) (.cells #[.int .i64 k', .bool b2, .int .i64 i2, .float .f64 f2, .string t2, .string y2, .slice E n2 e, .slice E' m2 e'] 30) W2) := Lib.hid ⟨hb, g1, g2⟩
  have HA := Lib.hid (H0.out W2 hb)
  clear g1 g2 hb H0
  go_enter Tryd.func5, Tryd.ntmps5
  go_wp2_with fail
  refine HA.out.mono ?_
  rintro e0 w1 ⟨rfl, hbl⟩
  have HB1 := Lib.hid (HB0.out.below hbl)
  clear hbl HA HB0 hz hW2
  obtain ⟨m0, m1, m2', m3, m4, m5, m6, m7⟩ := val.blk8 HB1.out.b1
  have H10 := Lib.hid (H1.out w1 HB1.out.be)
  clear H1
  go_wp2_with fail
  refine H10.out.mono ?_
  rintro e0 w2 ⟨p, hp0, hp1, rfl, hbl⟩
  have HB2 := Lib.hid (HB1.out.below hbl)
  clear hbl H10 HB1 m0 m1 m2' m3 m4 m5 m6 m7
  by_cases hbig : p > 100000
  · go_wp2_with fail
    go_ret
    exact ⟨rfl, HB2.out.be⟩
  obtain ⟨n0, n1, n2', n3, n4, n5, n6, n7⟩ := val.blk8 HB2.out.b2
  have H20 := Lib.hid (H2.out w2 HB2.out.be)
  clear H2
  go_wp2_with fail
  refine H20.out.mono ?_
  rintro e0 w3 ⟨p', hp0', hp1', rfl, hbl⟩
  have HB3 := Lib.hid (HB2.out.below hbl)
  clear hbl H20 HB2 n0 n1 n2' n3 n4 n5 n6 n7
  by_cases hbig' : p' > 100000
  · go_wp2_with fail
    go_ret
    exact ⟨rfl, HB3.out.be⟩
  obtain ⟨m0, m1, m2', m3, m4, m5, m6, m7⟩ := val.blk8 HB3.out.b1
  have H30 := Lib.hid (H3.out w3 HB3.out.be)
  clear H3
  go_wp2_with fail
  refine H30.out.mono ?_
  rintro e0 w4 ⟨ha, hb, hbl⟩
  have HB4 := Lib.hid (HB3.out.below hbl)
  have hz4 := HB3.out.be.size
  clear hbl H30 HB3 m0 m1 m2' m3 m4 m5 m6 m7
  have H40 := Lib.hid (H4.out w4 HB4.out.be)
  clear H4
  obtain ⟨n0, n1, n2', n3, n4, n5, n6, n7⟩ := val.blk8 HB4.out.b2
  by_cases hr1 : r1 = 0
  · obtain ⟨v1, B1, rfl, ho1, _⟩ := ha hr1
    obtain ⟨A1, c1, rfl, hA1, _⟩ := own_form ho1
    have HO1 := Lib.hid ho1
    have HA1 := Lib.hid hA1
    clear ha hb ho1 hA1
    go_wp2_with fail
    refine H40.out.mono ?_
    rintro e0 w5 ⟨ha, hb, hbl⟩
    have HB5 := Lib.hid (HB4.out.below hbl)
    have HO15 := Lib.hid (own_below HO1.out hbl)
    clear hbl H40 HB4 HO1 n0 n1 n2' n3 n4 n5 n6 n7
    obtain ⟨m0, m1, m2', m3, m4, m5, m6, m7⟩ := val.blk8 HB5.out.b1
    obtain ⟨n0, n1, n2', n3, n4, n5, n6, n7⟩ := val.blk8 HB5.out.b2
    obtain ⟨wx, hwx⟩ : ∃ wx, w5.alloc (.cells #[.int .i64 k, .bool b, .int .i64 i, .float .f64 f, .string t, .string y, .slice A n c, .slice A' m c', .int .i64 k', .bool b2, .int .i64 i2, .float .f64 f2, .string t2, .string y2, .slice E n2 e, .slice E' m2 e'] 30) = wx := ⟨_, rfl⟩
    have hbx : Below w5.heap.size w5 wx := by rw [← hwx]; exact (Below.refl _ _).alloc (Nat.le_refl _) _
    have gx : wx.heap[w5.heap.size]? = some (.cells #[.int .i64 k, .bool b, .int .i64 i, .float .f64 f, .string t, .string y, .slice A n c, .slice A' m c', .int .i64 k', .bool b2, .int .i64 i2, .float .f64 f2, .string t2, .string y2, .slice E n2 e, .slice E' m2 e'] 30 (0, 0)) := by rw [← hwx]; exact heap_alloc_new _ _
    have HBx := Lib.hid (HB5.out.below hbx)
    have H50 := Lib.hid (H5.out wx w5.heap.size HBx.out.be gx)
    have HOx := Lib.hid (own_below HO15.out hbx)
    rw [if_pos hr1] at H50
    clear H5 hbx gx HO15
    by_cases hr2 : r2 = 0
    · obtain ⟨v2, B2, rfl, ho2, _⟩ := ha hr2
      obtain ⟨A2, c2, rfl, hA2, _⟩ := own_form ho2
      have HE := Lib.hid (H6.out hr1 hr2)
      have HO2 := Lib.hid (own_below ho2 (show Below w5.heap.size w5 wx by rw [← hwx]; exact (Below.refl _ _).alloc (Nat.le_refl _) _))
      have HA2 := Lib.hid hA2
      subst hr1 hr2
      clear ha hb ho2 hA2 H6
      go_wp2_with fail
      refine H50.out.mono ?_
      rintro e0 w6 ⟨ha, _, hbl⟩
      obtain ⟨v3, B3, rfl, ho3, _⟩ := ha rfl
      obtain ⟨A3, c3, rfl, hA3, _⟩ := own_form ho3
      have HB6 := Lib.hid (HBx.out.below hbl)
      have ho1 := own_below HOx.out hbl
      have ho2 := own_below HO2.out hbl
      obtain ⟨TL, hTL⟩ : ∃ TL, (91 :: (T1 ++ 44 :: (T2 ++ [93]))).length = TL := ⟨_, rfl⟩
      have hZ : strOf (91 :: (T1 ++ 44 :: (T2 ++ [93]))) = ((((⟨#[91]⟩ ++ strOf T1) ++ ⟨#[44]⟩) ++ strOf T2) ++ ⟨#[93]⟩) := by
        have e1 : (⟨#[91]⟩ : ByteArray) = strOf [91] := rfl
        have e2 : (⟨#[44]⟩ : ByteArray) = strOf [44] := rfl
        have e3 : (⟨#[93]⟩ : ByteArray) = strOf [93] := rfl
        rw [e1, e2, e3, ← strOf_app, ← strOf_app, ← strOf_app, ← strOf_app]
        simp
      have hz1 := strOf_size T1
      have hz2 := strOf_size T2
      obtain ⟨X, hX⟩ : ∃ X, strOf T1 = X := ⟨_, rfl⟩
      obtain ⟨Y, hY⟩ : ∃ Y, strOf T2 = Y := ⟨_, rfl⟩
      rw [hX, hY] at hZ
      have HZ : Hid (∀ W, Below w6.heap.size w6 W → (convert 31 9 (.slice A3 TL c3)).run Tryd.prog W = .ok (.string ((((⟨#[91]⟩ ++ X) ++ ⟨#[44]⟩) ++ Y) ++ ⟨#[93]⟩)) W) := Lib.hid (fun W hW => by
        rw [← hZ, ← hTL]
        exact run_conv_bytes 31 9 5 A3 _ c3 Tryd.underlying31 Tryd.underlying5 Tryd.underlying9 (Rd.of_own (own_below ho3 hW)) hA3)
      have HXc : Hid (∀ W, Below w6.heap.size w6 W → (convert 31 9 (.slice A1 T1.length c1)).run Tryd.prog W = .ok (.string X) W) := Lib.hid (fun W hW => by
        rw [← hX]
        exact run_conv_bytes 31 9 5 A1 _ c1 Tryd.underlying31 Tryd.underlying5 Tryd.underlying9 (Rd.of_own (own_below ho1 hW)) HA1.out)
      have HYc : Hid (∀ W, Below w6.heap.size w6 W → (convert 31 9 (.slice A2 T2.length c2)).run Tryd.prog W = .ok (.string Y) W) := Lib.hid (fun W hW => by
        rw [← hY]
        exact run_conv_bytes 31 9 5 A2 _ c2 Tryd.underlying31 Tryd.underlying5 Tryd.underlying9 (Rd.of_own (own_below ho2 hW)) HA2.out)
      obtain ⟨q, hq⟩ : ∃ q, (X.toList == Y.toList) = q := ⟨_, rfl⟩
      have HQ : Hid (q = true ↔ T1 = T2) := Lib.hid (by
        rw [← hq, str_eq, ← hX, ← hY]
        exact ⟨HI.out, fun h => by rw [h]⟩)
      rw [hX] at hz1
      rw [hY] at hz2
      rw [hTL]
      have hs1 : ¬ 9223372036854775807 < 1 + X.size := by omega
      have hu1 : ∀ w : World, (Op.stringOp .add ⟨#[91]⟩ X).run Tryd.prog w = .ok (.string (⟨#[91]⟩ ++ X)) w := fun w => run_string_add_sum w _ _ (by show 1 + X.size ≤ _; omega)
      have hu2 : ∀ w : World, (Op.stringOp .add (⟨#[91]⟩ ++ X) ⟨#[44]⟩).run Tryd.prog w = .ok (.string ((⟨#[91]⟩ ++ X) ++ ⟨#[44]⟩)) w := fun w => run_string_add_sum w _ _ (by rw [ByteArray.size_append]; show 1 + X.size + 1 ≤ _; omega)
      have hu3 : ∀ w : World, (Op.stringOp .add ((⟨#[91]⟩ ++ X) ++ ⟨#[44]⟩) Y).run Tryd.prog w = .ok (.string (((⟨#[91]⟩ ++ X) ++ ⟨#[44]⟩) ++ Y)) w := fun w => run_string_add_sum w _ _ (by rw [ByteArray.size_append, ByteArray.size_append]; show 1 + X.size + 1 + Y.size ≤ _; omega)
      have hu4 : ∀ w : World, (Op.stringOp .add (((⟨#[91]⟩ ++ X) ++ ⟨#[44]⟩) ++ Y) ⟨#[93]⟩).run Tryd.prog w = .ok (.string ((((⟨#[91]⟩ ++ X) ++ ⟨#[44]⟩) ++ Y) ++ ⟨#[93]⟩)) w := fun w => run_string_add_sum w _ _ (by rw [ByteArray.size_append, ByteArray.size_append, ByteArray.size_append]; show 1 + X.size + 1 + Y.size + 1 ≤ _; omega)
      have ht1 : ¬ 9223372036854775807 < (⟨#[91]⟩ : ByteArray).size + X.size := hs1
      have hs2 : ¬ 9223372036854775807 < 1 + X.size + 1 := by omega
      have hs3 : ¬ 9223372036854775807 < 1 + X.size + 1 + Y.size := by omega
      have hs4 : ¬ 9223372036854775807 < 1 + X.size + 1 + Y.size + 1 := by omega
      have hv1 : ¬ 9223372036854775807 < (#[91] : Array UInt8).size + X.size := hs1
      have hv2 : ¬ 9223372036854775807 < (#[91] : Array UInt8).size + X.size + (#[44] : Array UInt8).size := hs2
      have hv3 : ¬ 9223372036854775807 < (#[91] : Array UInt8).size + X.size + (#[44] : Array UInt8).size + Y.size := hs3
      have hv4 : ¬ 9223372036854775807 < (#[91] : Array UInt8).size + X.size + (#[44] : Array UInt8).size + Y.size + (#[93] : Array UInt8).size := hs4
      clear hX hY hZ hTL ho1 ho2 ho3 hA3 ha hbl m0 m1 m2' m3 m4 m5 m6 m7 n0 n1 n2' n3 n4 n5 n6 n7 H50 HOx HO2 hwx HBx HB5 HI
      obtain ⟨m0, m1, m2', m3, m4, m5, m6, m7⟩ := val.blk8 HB6.out.b1
      obtain ⟨n0, n1, n2', n3, n4, n5, n6, n7⟩ := val.blk8 HB6.out.b2
      have HED := Lib.hid (HE.out w6.drew (HB6.out.be.trans (((Below.refl w6.heap.size w6).drew).mono HB6.out.be.size)))
      go_upto_region 10 with (fail)
      go_region_held3 (fun w' => w'.cell? ⟨w.heap.size, 0, none⟩ = some (.int .i64 k) ∧ w'.cell? ⟨w.heap.size, 1, none⟩ = some (.bool b) ∧ w'.cell? ⟨w.heap.size, 2, none⟩ = some (.int .i64 i) ∧ w'.cell? ⟨w.heap.size, 3, none⟩ = some (.float .f64 f) ∧ w'.cell? ⟨w.heap.size, 4, none⟩ = some (.string t) ∧ w'.cell? ⟨w.heap.size, 5, none⟩ = some (.string y) ∧ w'.cell? ⟨w.heap.size, 6, none⟩ = some (.slice A n c) ∧ w'.cell? ⟨w.heap.size, 7, none⟩ = some (.slice A' m c') ∧ w'.cell? ⟨w.heap.size + 1, 0, none⟩ = some (.int .i64 k') ∧ w'.cell? ⟨w.heap.size + 1, 1, none⟩ = some (.bool b2) ∧ w'.cell? ⟨w.heap.size + 1, 2, none⟩ = some (.int .i64 i2) ∧ w'.cell? ⟨w.heap.size + 1, 3, none⟩ = some (.float .f64 f2) ∧ w'.cell? ⟨w.heap.size + 1, 4, none⟩ = some (.string t2) ∧ w'.cell? ⟨w.heap.size + 1, 5, none⟩ = some (.string y2) ∧ w'.cell? ⟨w.heap.size + 1, 6, none⟩ = some (.slice E n2 e) ∧ w'.cell? ⟨w.heap.size + 1, 7, none⟩ = some (.slice E' m2 e') ∧ (convert 31 9 (.slice A3 TL c3)).run Tryd.prog w' = .ok (.string ((((⟨#[91]⟩ ++ X) ++ ⟨#[44]⟩) ++ Y) ++ ⟨#[93]⟩)) w' ∧ (convert 31 9 (.slice A1 T1.length c1)).run Tryd.prog w' = .ok (.string X) w' ∧ (convert 31 9 (.slice A2 T2.length c2)).run Tryd.prog w' = .ok (.string Y) w' ∧ Below w6.heap.size w6 w')
        (first | assumption | (refine ⟨?_, ?_, ?_, ?_, ?_, ?_, ?_, ?_, ?_, ?_, ?_, ?_, ?_, ?_, ?_, ?_, ?_, ?_, ?_, ?_⟩; all_goals first | assumption | exact HZ.out _ ((Below.refl _ _).drew) | exact HXc.out _ ((Below.refl _ _).drew) | exact HYc.out _ ((Below.refl _ _).drew) | exact (Below.refl _ _).drew) | (obtain ⟨h0, h1, h2, h3, h4, h5, h6, h7, h8, h9, h10, h11, h12, h13, h14, h15, h16, h17, h18, h19⟩ := ‹_ ∧ _›; exact ⟨(hb3.cell (World.block_lt_of_cell? _ _ h0)).trans h0, (hb3.cell (World.block_lt_of_cell? _ _ h1)).trans h1, (hb3.cell (World.block_lt_of_cell? _ _ h2)).trans h2, (hb3.cell (World.block_lt_of_cell? _ _ h3)).trans h3, (hb3.cell (World.block_lt_of_cell? _ _ h4)).trans h4, (hb3.cell (World.block_lt_of_cell? _ _ h5)).trans h5, (hb3.cell (World.block_lt_of_cell? _ _ h6)).trans h6, (hb3.cell (World.block_lt_of_cell? _ _ h7)).trans h7, (hb3.cell (World.block_lt_of_cell? _ _ h8)).trans h8, (hb3.cell (World.block_lt_of_cell? _ _ h9)).trans h9, (hb3.cell (World.block_lt_of_cell? _ _ h10)).trans h10, (hb3.cell (World.block_lt_of_cell? _ _ h11)).trans h11, (hb3.cell (World.block_lt_of_cell? _ _ h12)).trans h12, (hb3.cell (World.block_lt_of_cell? _ _ h13)).trans h13, (hb3.cell (World.block_lt_of_cell? _ _ h14)).trans h14, (hb3.cell (World.block_lt_of_cell? _ _ h15)).trans h15, HZ.out _ (h19.trans (hb3.mono h19.size)), HXc.out _ (h19.trans (hb3.mono h19.size)), HYc.out _ (h19.trans (hb3.mono h19.size)), h19.trans (hb3.mono h19.size)⟩))
        ((go_simp; go_at_call 14; refine HED.out.mono ?_; rintro e0 wc ⟨rr, rfl, hrr, hb3⟩; have hqr : (q == rr) = true := (by have h1 := HQ.out; cases q <;> cases rr <;> simp_all)))
      all_goals
        have hbz := HB6.out.be.trans ((((Below.refl w6.heap.size w6).drew).trans (hb3.mono (Nat.le_refl _))).mono HB6.out.be.size)
        go_wp2_with fail
        go_ret
        exact ⟨by simp, hbz⟩
    · obtain rfl := hb hr2
      have hne : (r2 == 0) = false := beq_false_of_ne hr2
      have hne2 : (r2 != 0) = true := by simp [bne, hne]
      have HR2 := Lib.hid hr2
      subst hr1
      clear ha hb hr2
      go_wp2_with fail
      refine H50.out.mono ?_
      rintro e0 w6 ⟨_, hb, hbl⟩
      obtain rfl := hb HR2.out
      have hbz := (HBx.out.below hbl).be
      clear hb hbl m0 m1 m2' m3 m4 m5 m6 m7 n0 n1 n2' n3 n4 n5 n6 n7
      go_wp2_with fail
      go_ret
      exact ⟨by simp, hbz⟩
  · obtain rfl := hb hr1
    have hne : (r1 == 0) = false := beq_false_of_ne hr1
    have hne2 : (r1 != 0) = true := by simp [bne, hne]
    have HR1 := Lib.hid hr1
    rw [if_neg hr1] at H5
    clear ha hb hr1
    go_wp2_with fail
    refine H40.out.mono ?_
    rintro e0 w5 ⟨ha, hb, hbl⟩
    have HB5 := Lib.hid (HB4.out.below hbl)
    clear hbl H40 HB4 n0 n1 n2' n3 n4 n5 n6 n7
    obtain ⟨m0, m1, m2', m3, m4, m5, m6, m7⟩ := val.blk8 HB5.out.b1
    obtain ⟨n0, n1, n2', n3, n4, n5, n6, n7⟩ := val.blk8 HB5.out.b2
    have hbx : Below w5.heap.size w5 (w5.alloc (.cells #[.int .i64 k, .bool b, .int .i64 i, .float .f64 f, .string t, .string y, .slice A n c, .slice A' m c', .int .i64 k', .bool b2, .int .i64 i2, .float .f64 f2, .string t2, .string y2, .slice E n2 e, .slice E' m2 e'] 30)) := (Below.refl _ _).alloc (Nat.le_refl _) _
    have HBx := Lib.hid (HB5.out.below hbx)
    have H50 := Lib.hid (H5.out _ w5.heap.size HBx.out.be (heap_alloc_new _ _))
    clear H5 hbx
    have hv2 : ∃ v : Value, e0 = .returned (.tuple #[v, .int .i64 r2]) := by
      by_cases hr2 : r2 = 0
      · obtain ⟨v2, B2, rfl, _⟩ := ha hr2
        exact ⟨v2, by rw [hr2]⟩
      · exact ⟨_, hb hr2⟩
    obtain ⟨v2, rfl⟩ := hv2
    clear ha hb
    go_wp2_with fail
    refine H50.out.mono ?_
    rintro e0 w6 ⟨_, hb, hbl⟩
    obtain rfl := hb HR1.out
    have hbz := (HBx.out.below hbl).be
    clear hb hbl m0 m1 m2' m3 m4 m5 m6 m7 n0 n1 n2' n3 n4 n5 n6 n7 H50 HBx
    go_wp2_with fail
    go_ret
    exact ⟨by simp, hbz⟩
end
end Go.Proofs.YthlncdcfppehcaaDoor.look
end
