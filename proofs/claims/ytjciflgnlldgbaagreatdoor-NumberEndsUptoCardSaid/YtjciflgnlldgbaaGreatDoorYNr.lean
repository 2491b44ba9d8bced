/- NumberReads, walked. -/
import Derived.Test.YtjciflgnlldgbaaGreatDoorGRgc
import Derived.Test.YtjciflgnlldgbaaGreatDoorGFi
import Derived.Deep.RegionHeld3
import Derived.Deep.RegionLaw
namespace Go.Proofs.YtjciflgnlldgbaaGreatDoor.dcm
open Go.RowKit mem fl big us uw pg
set_option linter.unusedVariables false
attribute [local go_sem] run_store_float

def strs (l : List ByteArray) : List Value := l.map .string
theorem strs_get {l : List ByteArray} {k : Nat} (h : k < l.length) : (strs l)[k]? = some (.string (l.getD k ByteArray.empty)) := by
  unfold strs
  rw [List.getElem?_map, List.getElem?_eq_getElem h, List.getD_eq_getElem?_getD, List.getElem?_eq_getElem h]
  rfl
theorem same_ans {P : Nat} {l : List Nat} {R R' : Nat} (h : asks l → Sd P l R ∧ R ≤ 9218868437227405312) (h' : asks l → Sd P l R' ∧ R' ≤ 9218868437227405312) : ∃ (k v : Int) (b : Nat) (e : Int), ans l R = numV k v b e ∧ ansR l R' = refV k v b e := by
  unfold ans ansR
  by_cases h0 : form l = 0
  · rw [if_pos h0, if_pos h0]
    exact ⟨_, _, _, _, rfl, rfl⟩
  · rw [if_neg h0, if_neg h0]
    by_cases h1 : form l = 1 ∧ fits l
    · rw [if_pos h1, if_pos h1]
      exact ⟨_, _, _, _, rfl, rfl⟩
    · rw [if_neg h1, if_neg h1]
      have ha : asks l := by
        unfold asks
        rcases fm_range (pfx.adv 0 l) with hfm | hfm | hfm
        · exact absurd hfm h0
        · exact .inr ⟨hfm, fun hf => h1 ⟨hfm, hf⟩⟩
        · exact .inl hfm
      have he : R = R' := dec_unique (h ha).1 (h' ha).1
      subst he
      unfold fltV rfltV
      split
      · exact ⟨_, _, _, _, rfl, rfl⟩
      · exact ⟨_, _, _, _, rfl, rfl⟩
theorem ans_shape (l : List Nat) (R : Nat) : ∃ (k v : Int) (b : Nat) (e : Int), ans l R = numV k v b e := by
  unfold ans fltV
  split
  · exact ⟨_, _, _, _, rfl⟩
  · split
    · exact ⟨_, _, _, _, rfl⟩
    · split
      · exact ⟨_, _, _, _, rfl⟩
      · exact ⟨_, _, _, _, rfl⟩
theorem numV_inj {k v e k' v' e' : Int} {b b' : Nat} (h : numV k v b e = numV k' v' b' e') : k = k' ∧ v = v' ∧ b = b' ∧ e = e' := by
  unfold numV at h
  simpa [and_assoc] using h
/-- an answer of the text l, in its parts -/
def Nm (P : Nat) (l : List Nat) (k v : Int) (b : Nat) (e : Int) : Prop := ∃ R, (asks l → Sd P l R ∧ R ≤ 9218868437227405312) ∧ ans l R = numV k v b e
theorem read_parts' {P z : Nat} (hz : z = 1074) (hP : P = 2 ^ z) (s : ByteArray) (hn : s.size ≤ 1100000) (w : World) (hE : REnv w) :
    Calls Tryz.prog 8 #[.string s] w fun e w' => ∃ (k v : Int) (b : Nat) (er : Int), Hid (Nm P (nats s) k v b er) ∧ e = .returned (.tuple #[.agg #[.int .i64 k, .int .i64 v, .float .f64 b], .int .i64 er]) ∧ Below w.heap.size w w' := by
  refine (read_all hz hP s hn w hE).mono ?_
  rintro e w' ⟨R, hR, he, hb⟩
  obtain ⟨k, v, b, er, hs⟩ := ans_shape (nats s) R
  exact ⟨k, v, b, er, Lib.hid ⟨R, hR, hs⟩, by rw [he, hs]; rfl, hb⟩
theorem ref_parts {P z : Nat} (hz : z = 1074) (hP : P = 2 ^ z) (s : ByteArray) (hn : s.size ≤ 1100000) {k v : Int} {b : Nat} {er : Int} (hm : Nm P (nats s) k v b er) (w : World) :
    Calls Tryz.prog 9 #[.string s] w fun e w' => e = .returned (.tuple #[.agg #[.int .i64 k, .int .i64 v, .int .u64 (b : Int)], .int .i64 er]) ∧ Below w.heap.size w w' := by
  obtain ⟨R, hR, hs⟩ := hm
  refine (refnum_any hz hP s hn w).mono ?_
  rintro e w' ⟨R', hR', he, hb⟩
  obtain ⟨k', v', b', er', h1, h2⟩ := same_ans hR hR'
  obtain ⟨rfl, rfl, rfl, rfl⟩ := numV_inj (hs.symm.trans h1)
  exact ⟨by rw [he, h2]; rfl, hb⟩
theorem below_dr {B : Nat} {w w' : World} (h : Below B w w') (n : Nat) : Below B w (w'.drewN n) := ⟨h.os, h.tape, h.output, h.size, h.block⟩
set_option maxRecDepth 100000 in
set_option maxHeartbeats 400000 in
theorem same_num (k v : Int) (b : Nat) (w : World) : Calls Tryz.prog 10 #[.agg #[.int .i64 k, .int .i64 v, .float .f64 b], .agg #[.int .i64 k, .int .i64 v, .int .u64 (b : Int)]] w fun e w' => e = .returned (.bool true) ∧ Below w.heap.size w w' := by
  have hbits := run_f64bits
  have hk : (k == k) = true := by simp
  have hv : (v == v) = true := by simp
  have hbb : ((b : Int) == (b : Int)) = true := by simp
  go_enter Tryz.func10, Tryz.ntmps10
  go_wp2_with fail
  go_quiet (fail)
  go_wp2_with fail
  go_ret
  exact ⟨rfl, below_dr (((Below.refl _ _).alloc (Nat.le_refl _) _).alloc (by simp) _) _⟩
set_option maxRecDepth 100000 in
set_option maxHeartbeats 400000 in
theorem numberReads_any {P z : Nat} (hz : z = 1074) (hP : P = 2 ^ z) (A : Option Addr) (c n : Nat) (l : List ByteArray) (w : World) (hr : Rd w w.heap.size A (strs l)) (hl : l.length = n) (hb : ∀ k, k < n → (l.getD k ByteArray.empty).size ≤ 1100000) (hn : n ≤ 4611686018427387904) (hE : REnv w) :
    Calls Tryz.prog 3 #[.slice A n c] w fun e w' => e = .returned (.bool true) ∧ Below w.heap.size w w' := by
  have HR := Lib.hid hr
  have HL := Lib.hid hl
  have HB := Lib.hid hb
  have HN := Lib.hid hn
  have HE := Lib.hid hE
  have HFx := Lib.hid (fixed_any w hE.ne.lt hE.ne.hi hE.ne.ho hE.ne.pow hE.ne.tab)
  have HRd := Lib.hid (fun (s : ByteArray) (hs : s.size ≤ 1100000) w (hE : REnv w) => read_parts' hz hP s hs w hE)
  have HSm := Lib.hid (fun k v b w => same_num k v b w)
  have HRf := Lib.hid (fun (s : ByteArray) (hs : s.size ≤ 1100000) (k v : Int) (b : Nat) (er : Int) (hm : Nm P (nats s) k v b er) w => ref_parts hz hP s hs hm w)
  clear hr hl hb hn hE hz hP
  go_enter Tryz.func3, Tryz.ntmps3
  go_wp2_with fail
  refine HFx.out.mono ?_
  rintro e w1 ⟨rfl, hb1⟩
  have HBl := Lib.hid hb1
  clear hb1 HFx
  go_wp2_with fail
  go_loopw [3] (fun v3 wr => ∃ i : Nat, i ≤ n ∧ v3 = .int .i64 (i : Int) ∧ Hid (Below w.heap.size w wr)) (fun v3 _ => n - (intOf v3).toNat)
  case atStart => exact ⟨0, Nat.zero_le _, rfl, HBl⟩
  case round =>
    clear HBl
    obtain ⟨i, hi, rfl, hbl⟩ := hrel
    have HBl := Lib.hid hbl.out
    clear hbl
    have hnn := HN.out
    by_cases hlt : i < n
    · obtain ⟨ad, rfl, hab, hc1⟩ := HR.out i _ (strs_get (by rw [HL.out]; exact hlt))
      have hx := HB.out i hlt
      obtain ⟨s, hss⟩ : ∃ s, l.getD i ByteArray.empty = s := ⟨_, rfl⟩
      rw [hss] at hx hc1
      have hcr := (HBl.out.cell (p := ad.add i) (by rw [add_block]; exact hab)).trans hc1
      have HKeep : Hid (∀ wx, Below w.heap.size w wx → wx.cell? (ad.add i) = some (.string s)) := Lib.hid (fun wx hb => (hb.cell (p := ad.add i) (by rw [add_block]; exact hab)).trans hc1)
      have HEr := Lib.hid (HE.out.below HBl.out)
      have HRd' := Lib.hid (HRd.out s hx wr HEr.out)
      have HRf' := Lib.hid (HRf.out s hx)
      have hib : (i : Int) ≤ 4611686018427387904 := by omega
      have hilt : (i : Int) < (n : Int) := by omega
      clear hnn hx hc1 hss
      go_wp2_with fail
      refine HRd'.out.mono ?_
      rintro e w2 ⟨k, v, b, er, HNm, rfl, hb2⟩
      have HB2 := Lib.hid (HBl.out.trans (hb2.mono HBl.out.size))
      have hz2 := HB2.out.size
      have HZ2 := Lib.hid hz2
      have hb3 : Below w.heap.size w (w2.alloc (.cells #[.int .i64 k, .int .i64 v, .float .f64 b] 27)) := HB2.out.alloc hz2 _
      have hg3 := heap_alloc_new w2 (.cells #[.int .i64 k, .int .i64 v, .float .f64 b] 27)
      have hs3 : w2.heap.size < (w2.alloc (.cells #[.int .i64 k, .int .i64 v, .float .f64 b] 27)).heap.size := by simp
      have hc3 := HKeep.out _ hb3
      have HB3 := Lib.hid hb3
      have HG3 := Lib.hid hg3
      have HS3 := Lib.hid hs3
      have HRf2 := Lib.hid (HRf'.out k v b er HNm.out)
      clear hb2 hz2 hb3 hg3 hs3 HRd' HRf' hcr
      go_wp2_with fail
      refine (HRf2.out _).mono ?_
      rintro e w4 ⟨rfl, hb4⟩
      have HG4 := Lib.hid ((hb4.block _ HS3.out).trans HG3.out)
      have HB4 := Lib.hid (HB3.out.trans (hb4.mono HB3.out.size))
      have hlt4 : w2.heap.size < w4.heap.size := Nat.lt_of_lt_of_le HS3.out hb4.size
      have hg5 := heap_alloc_new w4 (.cells #[.int .i64 k, .int .i64 v, .int .u64 (b : Int)] 33)
      have hg4' : (w4.alloc (.cells #[.int .i64 k, .int .i64 v, .int .u64 (b : Int)] 33)).heap[w2.heap.size]? = some (.cells #[.int .i64 k, .int .i64 v, .float .f64 b] 27) := (heap_alloc_old w4 _ hlt4).trans HG4.out
      have n0 := blk_cell hg4' (i := 0) (by simp)
      have n1 := blk_cell hg4' (i := 1) (by simp)
      have n2 := blk_cell hg4' (i := 2) (by simp)
      have m0 := blk_cell hg5 (i := 0) (by simp)
      have m1 := blk_cell hg5 (i := 1) (by simp)
      have m2 := blk_cell hg5 (i := 2) (by simp)
      simp only [List.getElem_toArray, List.getElem_cons_zero, List.getElem_cons_succ] at n0 n1 n2 m0 m1 m2
      have HB5 := Lib.hid (HB4.out.alloc HB4.out.size (.cells #[.int .i64 k, .int .i64 v, .int .u64 (b : Int)] 33))
      have her : (er != er) = false := by simp
      clear hb4 hlt4 hg5 hg4' HRf2 HG3 HS3
      go_wp2_with fail
      refine (HSm.out k v b _).mono ?_
      rintro e w6 ⟨rfl, hb6⟩
      have HB6 := Lib.hid (HB5.out.trans (hb6.mono HB5.out.size))
      clear hb6 n0 n1 n2 m0 m1 m2
      go_wp2_with fail
      exact ⟨⟨i + 1, hlt, by simp, HB6⟩, by simp [intOf]; omega⟩
    · have hie : i = n := by omega
      have hilt : ¬ ((i : Int) < (n : Int)) := by omega
      clear hnn hlt hi hie
      go_wp2_with fail
      go_ret
      exact ⟨rfl, HBl.out⟩
end Go.Proofs.YtjciflgnlldgbaaGreatDoor.dcm
