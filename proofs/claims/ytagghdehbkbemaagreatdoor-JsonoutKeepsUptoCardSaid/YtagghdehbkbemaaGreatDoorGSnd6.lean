/- The reference's Sound, Write, Size. The law: writes; JsonoutWrites, JsonoutSizes, the walks. JsonoutWrites, the walk. -/
import Derived.Test.YtagghdehbkbemaaGreatDoorGSnd3
import Derived.Test.YtagghdehbkbemaaGreatDoorGDfq
import Derived.Test.YtagghdehbkbemaaGreatDoorGSzp
import Derived.Test.YtagghdehbkbemaaGreatDoorGSpl
section
namespace Go.Proofs.YtagghdehbkbemaaGreatDoor.look
open Go.RowKit mem txt app smap val
attribute [local go_sem] run_store_float
set_option linter.unusedVariables false

mutual
theorem prt_ok : ∀ v : V, ok v → ∀ p ∈ prt v, ok p ∧ sz p ≤ sz v
  | .mk k b i f t y is fs, h => by
    have h0 := h
    simp only [ok] at h
    have e1 := prts_ok is h.2.1
    have e2 := prtf_ok fs h.2.2
    intro p hp
    simp only [prt] at hp
    rcases List.mem_cons.1 hp with rfl | hp
    · exact ⟨h0, Nat.le_refl _⟩
    · simp only [sz]
      split at hp
      · have := e1 p hp
        exact ⟨this.1, by omega⟩
      · split at hp
        · have := e2 p hp
          exact ⟨this.1, by omega⟩
        · cases hp
theorem prts_ok : ∀ l : List V, oks l → ∀ p ∈ prts l, ok p ∧ sz p ≤ szs l
  | [], _ => by intro p hp; simp [prts] at hp
  | v :: r, h => by
    simp only [oks] at h
    have e1 := prt_ok v h.1
    have e2 := prts_ok r h.2
    intro p hp
    simp only [prts] at hp
    simp only [szs]
    rcases List.mem_append.1 hp with hp | hp
    · have := e1 p hp
      exact ⟨this.1, by omega⟩
    · have := e2 p hp
      exact ⟨this.1, by omega⟩
theorem prtf_ok : ∀ l : List (ByteArray × V), okf l → ∀ p ∈ prtf l, ok p ∧ sz p ≤ szf l
  | [], _ => by intro p hp; simp [prtf] at hp
  | (s, v) :: r, h => by
    simp only [okf] at h
    have e1 := prt_ok v h.2.1
    have e2 := prtf_ok r h.2.2
    intro p hp
    simp only [prtf] at hp
    simp only [szf]
    rcases List.mem_append.1 hp with hp | hp
    · have := e1 p hp
      exact ⟨this.1, by omega⟩
    · have := e2 p hp
      exact ⟨this.1, by omega⟩
end
theorem fst0_drop {l : List V} {q : Nat} {x : V} (h : l[q]? = some x) : fst0 (l.drop q) = if own x = 0 then fst0 (l.drop (q + 1)) else own x := by
  obtain ⟨h1, h2⟩ := List.getElem?_eq_some_iff.1 h
  rw [List.drop_eq_getElem_cons h1, h2, fst0]
def SnPost (r : Int) (w : World) (e : Ending) (w' : World) : Prop := ∃ A n c, e = .returned (.tuple #[.slice A n c, .int .i64 r]) ∧ Below w.heap.size w w'
section
variable (b : Bool) (i : Int) (f : Nat) (t y : ByteArray) (A A' : Option Addr) (n m c c' : Nat) (w : World) (S : Nat → Prop)
set_option maxRecDepth 100000 in
set_option maxHeartbeats 4000000 in
theorem sound_cells (k : Int) (l : List V) (hl : l.length ≤ 1048576) (hps : ∀ W, Below w.heap.size w W → Calls Tryz.prog 28 #[.agg #[.int .i64 k, .bool b, .int .i64 i, .float .f64 f, .string t, .string y, .slice A n c, .slice A' m c']] W fun e w' => ∃ A c, e = .returned (.slice A l.length c) ∧ Row 60 9 IsPt w' W.heap.size S (.slice A l.length c) l ∧ Below W.heap.size W w')
    (hfl : ∀ (W : World) (x : V) (cs : List Value), Below w.heap.size w W → x ∈ l → IsV W S x cs → Calls Tryz.prog 29 #[.agg cs.toArray] W (FlPost (own x) W)) (hS : Bel S w.heap.size) :
    Calls Tryz.prog 17 #[.agg #[.int .i64 k, .bool b, .int .i64 i, .float .f64 f, .string t, .string y, .slice A n c, .slice A' m c']] w (SnPost (fst0 l) w) := by
  have HPS := Lib.hid hps
  have HFL := Lib.hid hfl
  have HS := Lib.hid hS
  clear hps hfl hS
  obtain ⟨N, hN⟩ : ∃ N, l.length = N := ⟨_, rfl⟩
  have HN := Lib.hid hN
  rw [hN] at hl HPS
  clear hN
  have HE : Hid (fst0 (l.drop 0) = fst0 l) := Lib.hid rfl
  obtain ⟨r, hr⟩ : ∃ r, fst0 l = r := ⟨_, rfl⟩
  rw [hr] at HE ⊢
  clear hr
  go_enter Tryz.func17, Tryz.ntmps17
  go_wp2_with fail
  have hb0 := (Below.refl w.heap.size w).alloc (Nat.le_refl _) (.cells #[.int .i64 k, .bool b, .int .i64 i, .float .f64 f, .string t, .string y, .slice A n c, .slice A' m c'] 27)
  generalize (w.alloc (.cells #[.int .i64 k, .bool b, .int .i64 i, .float .f64 f, .string t, .string y, .slice A n c, .slice A' m c'] 27)) = W0 at *
  refine (HPS.out W0 hb0).mono ?_
  rintro e w2 ⟨A1, c1, rfl, hr, hb⟩
  have HR := Lib.hid hr
  have HB2 := Lib.hid (hb0.trans (hb.mono hb0.size))
  have hz2 := hb.size
  clear hb0 hb hr HPS
  generalize W0.heap.size = B at *
  go_wp2_with fail
  go_loopw [5, 6] (fun v5 _ wr => ∃ (q : Nat), q ≤ N ∧ v5 = .int .i64 (q : Int) ∧ Hid (Below w2.heap.size w2 wr) ∧ Hid (fst0 (l.drop q) = r)) (fun v _ _ => N - (intOf v).toNat)
  case atStart => exact ⟨0, Nat.zero_le _, rfl, Lib.hid (Below.refl _ _), HE⟩
  case round =>
    clear HE
    obtain ⟨q, hq, rfl, HW, HE⟩ := hrel
    have hszr := HW.out.size
    by_cases hlt : q < N
    · obtain ⟨x, hx⟩ : ∃ p, l[q]? = some p := ⟨_, List.getElem?_eq_getElem (by rw [HN.out]; exact hlt)⟩
      obtain ⟨ad, cs, rfl, hadl, hcs, hvx⟩ := HR.out.at_ recPt hx
      obtain ⟨Ap, np, cp, ds, rfl, hvx⟩ := hvx
      have hvw : IsV wr S x ds := hvx.below (HS.out.mono (show w.heap.size ≤ w2.heap.size from HB2.out.size)) HW.out
      have hcr : CellsAt wr (ad.add (q * 9)) (.slice Ap np cp :: ds) := hcs.keep (S := fun b => b < w2.heap.size) (by rw [add_block]; exact hadl) (fun p hp => HW.out.cell hp)
      have HFX := Lib.hid (HFL.out wr x ds (HB2.out.trans (HW.out.mono HB2.out.size)) (List.mem_of_getElem? hx) hvw)
      have HX := Lib.hid hx
      obtain ⟨k2, b2, i2, f2, t2, y2, is2, fs2⟩ := x
      simp only [IsV] at hvw
      obtain ⟨A2, c2, A2', c2', rfl, _⟩ := hvw
      have HCR := Lib.hid hcr
      obtain ⟨d0, d1, d2, d3, d4, d5, d6, d7, d8⟩ := hcr.nine
      have hadr : ad.block < wr.heap.size := by omega
      clear hvx hcs hcr hx
      obtain ⟨o, ho⟩ : ∃ o, own (.mk k2 b2 i2 f2 t2 y2 is2 fs2) = o := ⟨_, rfl⟩
      rw [ho] at HFX
      have hd := fst0_drop HX.out
      rw [ho, HE.out] at hd
      clear ho
      go_wp2_with fail
      refine HFX.out.mono ?_
      rintro e w4 ⟨rfl, hb4⟩
      have HW4 := Lib.hid (HW.out.trans (hb4.mono hszr))
      clear d0 d1 d2 d3 d4 d5 d6 d7 d8 HFX
      by_cases ho0 : o = 0
      · rw [if_pos ho0] at hd
        subst ho0
        have HE2 := Lib.hid hd.symm
        clear hd hb4
        go_wp2_with fail
        exact ⟨⟨q + 1, by omega, by go_num, HW4, HE2⟩, by simp [intOf]; omega⟩
      · rw [if_neg ho0] at hd
        subst hd
        obtain ⟨d0, d1, d2, d3, d4, d5, d6, d7, d8⟩ := (HCR.out.keep (S := fun b => b < wr.heap.size) (by rw [add_block]; exact hadr) (fun p hp => hb4.cell hp)).nine
        clear hb4
        go_wp2_with fail
        go_ret2
        exact ⟨Ap, np, cp, rfl, HB2.out.trans (HW4.out.mono HB2.out.size)⟩
    · obtain rfl : q = N := by omega
      have hr := HE.out
      rw [← HN.out, List.drop_length, fst0] at hr
      subst hr
      go_wp2_with fail
      go_ret2
      exact ⟨none, 0, 0, rfl, HB2.out.trans (HW.out.mono HB2.out.size)⟩
end
theorem sound_any (x : V) (hsz : sz x ≤ 1048576) (hok : ok x) (cs : List Value) (w : World) (S : Nat → Prop) (hV : IsV w S x cs) (hS : Bel S w.heap.size) : Calls Tryz.prog 17 #[.agg cs.toArray] w (SnPost (lk x) w) := by
  have hps := fun W (hW : Below w.heap.size w W) => parts_all x hsz cs W S (hV.below hS hW) (hS.mono hW.size)
  have hfl := fun (W : World) (z : V) (cs : List Value) (hW : Below w.heap.size w W) (hz : z ∈ prt x) (hZ : IsV W S z cs) => flaw_any z (by have := (prt_ok x hok z hz).2; omega) (prt_ok x hok z hz).1 cs W S hZ (hS.mono hW.size)
  have hle := prt_len x
  rw [← lk_prt]
  unfold PsPost at hps
  generalize prt x = l at *
  obtain ⟨k, b, i, f, t, y, is, fs⟩ := x
  simp only [IsV] at hV
  obtain ⟨A, c, A', c', rfl, _⟩ := hV
  exact sound_cells b i f t y A A' _ _ c c' w S k l (by omega) hps hfl hS
/-- the reference's Write: the text, or the first fault -/
def RwPost (r : Int) (T : List Int) (w : World) (e : Ending) (w' : World) : Prop :=
  (r = 0 → ∃ v', e = .returned (.tuple #[v', .int .i64 0]) ∧ w'.ownsRow w.heap.size 5 1 v' T.length (zs T)) ∧ (r ≠ 0 → e = .returned (.tuple #[.slice none 0 0, .int .i64 r])) ∧ Below w.heap.size w w'
section
variable (b : Bool) (i : Int) (f : Nat) (t y : ByteArray) (A A' : Option Addr) (n m c c' : Nat) (w : World)
set_option maxRecDepth 100000 in
set_option maxHeartbeats 4000000 in
theorem rwrite_cells (k : Int) (r : Int) (T : List Int) (hsn : ∀ W, Below w.heap.size w W → Calls Tryz.prog 17 #[.agg #[.int .i64 k, .bool b, .int .i64 i, .float .f64 f, .string t, .string y, .slice A n c, .slice A' m c']] W (SnPost r W))
    (hpt : r = 0 → ∀ W, Below w.heap.size w W → Calls Tryz.prog 18 #[.slice none 0 0, .agg #[.int .i64 k, .bool b, .int .i64 i, .float .f64 f, .string t, .string y, .slice A n c, .slice A' m c']] W (RowP w.heap.size 0 (.slice none 0 0) [] T W)) :
    Calls Tryz.prog 7 #[.agg #[.int .i64 k, .bool b, .int .i64 i, .float .f64 f, .string t, .string y, .slice A n c, .slice A' m c']] w (RwPost r T w) := by
  have HSN := Lib.hid hsn
  have HPT := Lib.hid hpt
  clear hsn hpt
  have hG0 := heap_alloc_new w (.cells #[.int .i64 k, .bool b, .int .i64 i, .float .f64 f, .string t, .string y, .slice A n c, .slice A' m c'] 27)
  have hb0 := (Below.refl w.heap.size w).alloc (Nat.le_refl _) (.cells #[.int .i64 k, .bool b, .int .i64 i, .float .f64 f, .string t, .string y, .slice A n c, .slice A' m c'] 27)
  have hz0 : (w.alloc (.cells #[.int .i64 k, .bool b, .int .i64 i, .float .f64 f, .string t, .string y, .slice A n c, .slice A' m c'] 27)).heap.size = w.heap.size + 1 := by simp
  obtain ⟨m0, m1, m2, m3, m4, m5, m6, m7⟩ := blk8 hG0
  generalize hW0 : (w.alloc (.cells #[.int .i64 k, .bool b, .int .i64 i, .float .f64 f, .string t, .string y, .slice A n c, .slice A' m c'] 27)) = W0 at *
  have HSN0 := Lib.hid (HSN.out W0 hb0)
  go_enter Tryz.func7, Tryz.ntmps7
  go_wp2_with fail
  refine HSN0.out.mono ?_
  rintro e w2 ⟨A1, n1, c1, rfl, hb⟩
  have HB2 := Lib.hid (hb0.trans (hb.mono hb0.size))
  have HG2 := Lib.hid ((hb.block w.heap.size (by omega)).trans hG0)
  have hz2 := hb.size
  clear hW0 hb0 hb HSN0 HSN m0 m1 m2 m3 m4 m5 m6 m7 hG0
  by_cases hr : r = 0
  · have HPT2 := Lib.hid (HPT.out hr w2 HB2.out)
    subst hr
    obtain ⟨m0, m1, m2, m3, m4, m5, m6, m7⟩ := blk8 HG2.out
    clear HPT
    go_wp2_with fail
    refine HPT2.out.mono ?_
    rintro e w4 ⟨v', rfl, ho, hg, hn⟩
    have HO := Lib.hid ho
    have HB4 := Lib.hid (HB2.out.trans (Below.mk hg.os hg.tape hg.output hg.size (fun q hq => hg.block q (by omega) (by simp [Value.ownBlock]))))
    clear ho hg hn m0 m1 m2 m3 m4 m5 m6 m7 HPT2
    go_wp2_with fail
    go_ret2
    exact ⟨fun _ => ⟨v', rfl, by simpa using HO.out⟩, fun h => absurd rfl h, HB4.out⟩
  · go_wp2_with fail
    go_ret2
    exact ⟨fun h => absurd h hr, fun _ => rfl, HB2.out⟩
end
theorem rwrite_any (x : V) (cs : List Value) (w : World) (S : Nat → Prop) (hx : wt x ≤ 16777216) (hs : sz x ≤ 1048576) (hok : ok x) (hV : IsV w S x cs) (hS : Bel S w.heap.size) :
    Calls Tryz.prog 7 #[.agg cs.toArray] w (RwPost (lk x) (tx x) w) := by
  have hlen := tx_len x hok
  have hsz := sz_wt x
  have h1 := fun W (hW : Below w.heap.size w W) => sound_any x (by omega) hok cs W S (hV.below hS hW) (hS.mono hW.size)
  have h2 := fun (hr : lk x = 0) W (hW : Below w.heap.size w W) => put_any (sz x) x (Nat.le_refl _) (by omega) hok hr cs w.heap.size (.slice none 0 0) 0 [] W S (hV.below hS hW) hS (World.ownsRow_nil _ _ _ _) hW.size (by omega)
  generalize lk x = r at *
  generalize tx x = T at *
  obtain ⟨k, b, i, f, t, y, is, fs⟩ := x
  simp only [IsV] at hV
  obtain ⟨A, c, A', c', rfl, _⟩ := hV
  exact rwrite_cells b i f t y A A' _ _ c c' w k r T h1 h2
/-- the reference's Size: the text's length, or 0 and the first fault -/
def RzPost (r : Int) (n0 : Nat) (w : World) (e : Ending) (w' : World) : Prop :=
  (r = 0 → e = .returned (.tuple #[.int .i64 (n0 : Int), .int .i64 0])) ∧ (r ≠ 0 → e = .returned (.tuple #[.int .i64 0, .int .i64 r])) ∧ Below w.heap.size w w'
section
variable (b : Bool) (i : Int) (f : Nat) (t y : ByteArray) (A A' : Option Addr) (n m c c' : Nat) (w : World)
set_option maxRecDepth 100000 in
set_option maxHeartbeats 4000000 in
theorem rlen_cells (k : Int) (r : Int) (T : List Int) (hsn : ∀ W, Below w.heap.size w W → Calls Tryz.prog 7 #[.agg #[.int .i64 k, .bool b, .int .i64 i, .float .f64 f, .string t, .string y, .slice A n c, .slice A' m c']] W (RwPost r T W)) :
    Calls Tryz.prog 13 #[.agg #[.int .i64 k, .bool b, .int .i64 i, .float .f64 f, .string t, .string y, .slice A n c, .slice A' m c']] w (RzPost r T.length w) := by
  have HSN := Lib.hid hsn
  clear hsn
  have hb0 := (Below.refl w.heap.size w).alloc (Nat.le_refl _) (.cells #[.int .i64 k, .bool b, .int .i64 i, .float .f64 f, .string t, .string y, .slice A n c, .slice A' m c'] 27)
  go_enter Tryz.func13, Tryz.ntmps13
  go_wp2_with fail
  generalize (w.alloc (.cells #[.int .i64 k, .bool b, .int .i64 i, .float .f64 f, .string t, .string y, .slice A n c, .slice A' m c'] 27)) = W0 at *
  refine (HSN.out W0 hb0).mono ?_
  rintro e w2 ⟨h1, h2, hb⟩
  have HB2 := Lib.hid (hb0.trans (hb.mono hb0.size))
  clear hb0 hb HSN
  by_cases hr : r = 0
  · obtain ⟨v', rfl, ho⟩ := h1 hr
    subst hr
    obtain ⟨A2, c2, rfl, _⟩ := own_form ho
    clear h1 h2 ho
    go_wp2_with fail
    go_ret2
    exact ⟨fun _ => rfl, fun h => absurd rfl h, HB2.out⟩
  · obtain rfl := h2 hr
    clear h1 h2
    go_wp2_with fail
    go_ret2
    exact ⟨fun h => absurd h hr, fun _ => rfl, HB2.out⟩
end
theorem rlen_any (x : V) (cs : List Value) (w : World) (S : Nat → Prop) (hx : wt x ≤ 16777216) (hs : sz x ≤ 1048576) (hok : ok x) (hV : IsV w S x cs) (hS : Bel S w.heap.size) :
    Calls Tryz.prog 13 #[.agg cs.toArray] w (RzPost (lk x) (tx x).length w) := by
  have h1 := fun W (hW : Below w.heap.size w W) => rwrite_any x cs W S hx hs hok (hV.below hS hW) (hS.mono hW.size)
  generalize lk x = r at *
  generalize tx x = T at *
  obtain ⟨k, b, i, f, t, y, is, fs⟩ := x
  simp only [IsV] at hV
  obtain ⟨A, c, A', c', rfl, _⟩ := hV
  exact rlen_cells b i f t y A A' _ _ c c' w k r T h1
end Go.Proofs.YtagghdehbkbemaaGreatDoor.look
end
section
namespace Go.Proofs.YtagghdehbkbemaaGreatDoor.look
open Go.RowKit mem txt app smap val
attribute [local go_sem] run_store_float
set_option linter.unusedVariables false

section
variable (b : Bool) (i : Int) (f : Nat) (t y : ByteArray) (A A' : Option Addr) (n m c c' : Nat) (w : World)
set_option maxRecDepth 100000 in
set_option maxHeartbeats 4000000 in
theorem writes_cells (k : Int) (r : Int) (T : List Int) (h1 : ∀ W, Below w.heap.size w W → Calls Tryz.prog 7 #[.agg #[.int .i64 k, .bool b, .int .i64 i, .float .f64 f, .string t, .string y, .slice A n c, .slice A' m c']] W (RwPost r T W))
    (h2 : ∀ W, Below w.heap.size w W → Calls Tryz.prog 8 #[.agg #[.int .i64 k, .bool b, .int .i64 i, .float .f64 f, .string t, .string y, .slice A n c, .slice A' m c']] W (WrPost r T W)) :
    Calls Tryz.prog 14 #[.agg #[.int .i64 k, .bool b, .int .i64 i, .float .f64 f, .string t, .string y, .slice A n c, .slice A' m c']] w (TruePost w) := by
  have H1 := Lib.hid h1
  have H2 := Lib.hid h2
  clear h1 h2
  have hG0 := heap_alloc_new w (.cells #[.int .i64 k, .bool b, .int .i64 i, .float .f64 f, .string t, .string y, .slice A n c, .slice A' m c'] 27)
  have hb0 := (Below.refl w.heap.size w).alloc (Nat.le_refl _) (.cells #[.int .i64 k, .bool b, .int .i64 i, .float .f64 f, .string t, .string y, .slice A n c, .slice A' m c'] 27)
  have hz0 : (w.alloc (.cells #[.int .i64 k, .bool b, .int .i64 i, .float .f64 f, .string t, .string y, .slice A n c, .slice A' m c'] 27)).heap.size = w.heap.size + 1 := by simp
  obtain ⟨m0, m1, m2, m3, m4, m5, m6, m7⟩ := blk8 hG0
  generalize hW0 : (w.alloc (.cells #[.int .i64 k, .bool b, .int .i64 i, .float .f64 f, .string t, .string y, .slice A n c, .slice A' m c'] 27)) = W0 at *
  have H10 := Lib.hid (H1.out W0 hb0)
  go_enter Tryz.func14, Tryz.ntmps14
  go_wp2_with fail
  refine H10.out.mono ?_
  rintro e w2 ⟨ha, hb, hbl⟩
  have HB2 := Lib.hid (hb0.trans (hbl.mono hb0.size))
  have HG2 := Lib.hid ((hbl.block w.heap.size (by omega)).trans hG0)
  have H20 := Lib.hid (H2.out w2 HB2.out)
  clear m0 m1 m2 m3 m4 m5 m6 m7 hW0
  obtain ⟨m0, m1, m2, m3, m4, m5, m6, m7⟩ := blk8 HG2.out
  have hz2 := hbl.size
  clear hb0 hbl H10 H1 H2 hG0
  by_cases hr : r = 0
  · subst hr
    obtain ⟨v1, rfl, ho⟩ := ha rfl
    clear ha hb
    obtain ⟨A1, c1, rfl, hA1, _⟩ := own_form ho
    have HO1 := Lib.hid ho
    have HA1 := Lib.hid hA1
    clear ho hA1
    go_wp2_with fail
    refine H20.out.mono ?_
    rintro e w3 ⟨ha, hb, hbl⟩
    obtain ⟨v2, B2, rfl, ho2, _⟩ := ha rfl
    obtain ⟨A2, c2, rfl, hA2, _⟩ := own_form ho2
    have ho1 := own_below HO1.out hbl
    have hcv1 : (convert 31 9 (.slice A1 T.length c1)).run Tryz.prog w3 = .ok (.string (strOf T)) w3 := run_conv_bytes 31 9 5 A1 T c1 Tryz.underlying31 Tryz.underlying5 Tryz.underlying9 (Rd.of_own ho1) HA1.out
    have hcv2 : (convert 31 9 (.slice A2 T.length c2)).run Tryz.prog w3 = .ok (.string (strOf T)) w3 := run_conv_bytes 31 9 5 A2 T c2 Tryz.underlying31 Tryz.underlying5 Tryz.underlying9 (Rd.of_own ho2) hA2
    have HB3 := Lib.hid (HB2.out.trans (hbl.mono HB2.out.size))
    clear ha hb hbl ho2 hA2 ho1 H20 m0 m1 m2 m3 m4 m5 m6 m7
    generalize strOf T = s at *
    go_wp2_with fail
    go_ret
    exact ⟨by simp, HB3.out⟩
  · obtain rfl := hb hr
    clear ha hb
    go_wp2_with fail
    refine H20.out.mono ?_
    rintro e w3 ⟨ha, hb, hbl⟩
    obtain rfl := hb hr
    have hcv : (convert 31 9 (.slice none 0 0)).run Tryz.prog w3 = .ok (.string (strOf [])) w3 := run_conv_bytes (B := 0) 31 9 5 none [] 0 Tryz.underlying31 Tryz.underlying5 Tryz.underlying9 (fun i v h => by simp at h) (fun _ => rfl)
    have HB3 := Lib.hid (HB2.out.trans (hbl.mono HB2.out.size))
    clear ha hb hbl H20 m0 m1 m2 m3 m4 m5 m6 m7
    generalize strOf [] = s at *
    go_wp2_with fail
    go_ret
    exact ⟨by simp, HB3.out⟩
end
theorem writes_any (x : V) (cs : List Value) (w : World) (S : Nat → Prop) (hx : wt x ≤ 16777216) (hs : sz x ≤ 1048576) (hok : ok x) (hV : IsV w S x cs) (hS : Bel S w.heap.size) (hE : Env w) :
    Calls Tryz.prog 14 #[.agg cs.toArray] w (TruePost w) := by
  have h1 := fun W (hW : Below w.heap.size w W) => rwrite_any x cs W S hx hs hok (hV.below hS hW) (hS.mono hW.size)
  have h2 := fun W (hW : Below w.heap.size w W) => write_any x cs W S hx hs hok (hV.below hS hW) (hS.mono hW.size) (hE.below hW)
  generalize lk x = r at *
  generalize tx x = T at *
  obtain ⟨k, b, i, f, t, y, is, fs⟩ := x
  simp only [IsV] at hV
  obtain ⟨A, c, A', c', rfl, _⟩ := hV
  exact writes_cells b i f t y A A' _ _ c c' w k r T h1 h2
section
variable (b : Bool) (i : Int) (f : Nat) (t y : ByteArray) (A A' : Option Addr) (n m c c' : Nat) (w : World)
end
end Go.Proofs.YtagghdehbkbemaaGreatDoor.look
end
section
namespace Go.Proofs.YtagghdehbkbemaaGreatDoor.look
open Go.RowKit mem txt app smap val
attribute [local go_sem] run_store_float
set_option linter.unusedVariables false

theorem szs_get2 {l : List V} {j : Nat} {v : V} (h : l[j]? = some v) : sz v ≤ szs l := szs_get h
end Go.Proofs.YtagghdehbkbemaaGreatDoor.look
end
