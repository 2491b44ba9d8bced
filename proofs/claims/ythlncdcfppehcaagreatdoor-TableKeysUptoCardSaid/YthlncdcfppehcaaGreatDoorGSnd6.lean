/- The reference's Sound, Write, Size. The law: writes; JsonoutWrites, JsonoutSizes, the walks. JsonoutWrites, the walk. -/
import Derived.Test.YthlncdcfppehcaaGreatDoorGSnd3
import Derived.Test.YthlncdcfppehcaaGreatDoorGDfq
import Derived.Test.YthlncdcfppehcaaGreatDoorGSzp
import Derived.Test.YthlncdcfppehcaaGreatDoorGSpl
section
namespace Go.Proofs.YthlncdcfppehcaaGreatDoor.look
open Go.RowKit mem txt app smap val
attribute [local go_sem] run_store_float
set_option linter.unusedVariables false

mutual
theorem prt_ok : ∀ v : V, ok v → ∀ p ∈ prt v, ok p ∧ sz p ≤ sz v
  | .mk k b i f t y is fs, h => by
    have h0 := h
    simp only [ok] at h
    have e1 := prts_ok is h.2.1
    have e2 := prtf_ok fs h.2.2
    intro p hp
    simp only [prt] at hp
    rcases List.mem_cons.1 hp with rfl | hp
    · exact ⟨h0, Nat.le_refl _⟩
    · simp only [sz]
      split at hp
      · have := e1 p hp
        exact ⟨this.1, by omega⟩
      · split at hp
        · have := e2 p hp
          exact ⟨this.1, by omega⟩
        · cases hp
theorem prts_ok : ∀ l : List V, oks l → ∀ p ∈ prts l, ok p ∧ sz p ≤ szs l
  | [], _ => by intro p hp; simp [prts] at hp
  | v :: r, h => by
    simp only [oks] at h
    have e1 := prt_ok v h.1
    have e2 := prts_ok r h.2
    intro p hp
    simp only [prts] at hp
    simp only [szs]
    rcases List.mem_append.1 hp with hp | hp
    · have := e1 p hp
      exact ⟨this.1, by omega⟩
    · have := e2 p hp
      exact ⟨this.1, by omega⟩
theorem prtf_ok : ∀ l : List (ByteArray × V), okf l → ∀ p ∈ prtf l, ok p ∧ sz p ≤ szf l
  | [], _ => by intro p hp; simp [prtf] at hp
  | (s, v) :: r, h => by
    simp only [okf] at h
    have e1 := prt_ok v h.2.1
    have e2 := prtf_ok r h.2.2
    intro p hp
    simp only [prtf] at hp
    simp only [szf]
    rcases List.mem_append.1 hp with hp | hp
    · have := e1 p hp
      exact ⟨this.1, by omega⟩
    · have := e2 p hp
      exact ⟨this.1, by omega⟩
end
theorem fst0_drop {l : List V} {q : Nat} {x : V} (h : l[q]? = some x) : fst0 (l.drop q) = if own x = 0 then fst0 (l.drop (q + 1)) else own x := by
  obtain ⟨h1, h2⟩ := List.getElem?_eq_some_iff.1 h
  rw [List.drop_eq_getElem_cons h1, h2, fst0]
def SnPost (r : Int) (w : World) (e : Ending) (w' : World) : Prop := ∃ A n c, e = .returned (.tuple #[.slice A n c, .int .i64 r]) ∧ Below w.heap.size w w'
section
variable (b : Bool) (i : Int) (f : Nat) (t y : ByteArray) (A A' : Option Addr) (n m c c' : Nat) (w : World) (S : Nat → Prop)
set_option maxRecDepth 100000 in
set_option maxHeartbeats 4000000 in
theorem sound_cells (k : Int) (l : List V) (hl : l.length ≤ 1048576) (hps : ∀ W, Below w.heap.size w W → Calls Tryz.prog 43 #[.agg #[.int .i64 k, .bool b, .int .i64 i, .float .f64 f, .string t, .string y, .slice A n c, .slice A' m c']] W fun e w' => ∃ A c, e = .returned (.slice A l.length c) ∧ Row 79 9 IsPt w' W.heap.size S (.slice A l.length c) l ∧ Below W.heap.size W w')
    (hfl : ∀ (W : World) (x : V) (cs : List Value), Below w.heap.size w W → x ∈ l → IsV W S x cs → Calls Tryz.prog 44 #[.agg cs.toArray] W (FlPost (own x) W)) (hS : Bel S w.heap.size) :
    Calls Tryz.prog 30 #[.agg #[.int .i64 k, .bool b, .int .i64 i, .float .f64 f, .string t, .string y, .slice A n c, .slice A' m c']] w (SnPost (fst0 l) w) := by
  have HPS := Lib.hid hps
  have HFL := Lib.hid hfl
  have HS := Lib.hid hS
  clear hps hfl hS
  obtain ⟨N, hN⟩ : ∃ N, l.length = N := ⟨_, rfl⟩
  have HN := Lib.hid hN
  rw [hN] at hl HPS
  clear hN
  have HE : Hid (fst0 (l.drop 0) = fst0 l) := Lib.hid rfl
  obtain ⟨r, hr⟩ : ∃ r, fst0 l = r := ⟨_, rfl⟩
  rw [hr] at HE ⊢
  clear hr
  go_enter Tryz.func30, Tryz.ntmps30
  go_wp2_with fail
  have hb0 := (Below.refl w.heap.size w).alloc (Nat.le_refl _) (.cells #[.int .i64 k, .bool b, .int .i64 i, .float .f64 f, .string t, .string y, .slice A n c, .slice A' m c'] 29)
  generalize (w.alloc (.cells #[.int .i64 k, .bool b, .int .i64 i, .float .f64 f, .string t, .string y, .slice A n c, .slice A' m c'] 29)) = W0 at *
  refine (HPS.out W0 hb0).mono ?_
  rintro e w2 ⟨A1, c1, rfl, hr, hb⟩
  have HR := Lib.hid hr
  have HB2 := Lib.hid (hb0.trans (hb.mono hb0.size))
  have hz2 := hb.size
  clear hb0 hb hr HPS
  generalize W0.heap.size = B at *
  go_wp2_with fail
  go_loopw [5, 6] (fun v5 _ wr => ∃ (q : Nat), q ≤ N ∧ v5 = .int .i64 (q : Int) ∧ Hid (Below w2.heap.size w2 wr) ∧ Hid (fst0 (l.drop q) = r)) (fun v _ _ => N - (intOf v).toNat)
  case atStart => exact ⟨0, Nat.zero_le _, rfl, Lib.hid (Below.refl _ _), HE⟩
  case round =>
    clear HE
    obtain ⟨q, hq, rfl, HW, HE⟩ := hrel
    have hszr := HW.out.size
    by_cases hlt : q < N
    · obtain ⟨x, hx⟩ : ∃ p, l[q]? = some p := ⟨_, List.getElem?_eq_getElem (by rw [HN.out]; exact hlt)⟩
      obtain ⟨ad, cs, rfl, hadl, hcs, hvx⟩ := HR.out.at_ recPt hx
      obtain ⟨Ap, np, cp, ds, rfl, hvx⟩ := hvx
      have hvw : IsV wr S x ds := hvx.below (HS.out.mono (show w.heap.size ≤ w2.heap.size from HB2.out.size)) HW.out
      have hcr : CellsAt wr (ad.add (q * 9)) (.slice Ap np cp :: ds) := hcs.keep (S := fun b => b < w2.heap.size) (by rw [add_block]; exact hadl) (fun p hp => HW.out.cell hp)
      have HFX := Lib.hid (HFL.out wr x ds (HB2.out.trans (HW.out.mono HB2.out.size)) (List.mem_of_getElem? hx) hvw)
      have HX := Lib.hid hx
      obtain ⟨k2, b2, i2, f2, t2, y2, is2, fs2⟩ := x
      simp only [IsV] at hvw
      obtain ⟨A2, c2, A2', c2', rfl, _⟩ := hvw
      have HCR := Lib.hid hcr
      obtain ⟨d0, d1, d2, d3, d4, d5, d6, d7, d8⟩ := hcr.nine
      have hadr : ad.block < wr.heap.size := by omega
      clear hvx hcs hcr hx
      obtain ⟨o, ho⟩ : ∃ o, own (.mk k2 b2 i2 f2 t2 y2 is2 fs2) = o := ⟨_, rfl⟩
      rw [ho] at HFX
      have hd := fst0_drop HX.out
      rw [ho, HE.out] at hd
      clear ho
      go_wp2_with fail
      refine HFX.out.mono ?_
      rintro e w4 ⟨rfl, hb4⟩
      have HW4 := Lib.hid (HW.out.trans (hb4.mono hszr))
      clear d0 d1 d2 d3 d4 d5 d6 d7 d8 HFX
      by_cases ho0 : o = 0
      · rw [if_pos ho0] at hd
        subst ho0
        have HE2 := Lib.hid hd.symm
        clear hd hb4
        go_wp2_with fail
        exact ⟨⟨q + 1, by omega, by go_num, HW4, HE2⟩, by simp [intOf]; omega⟩
      · rw [if_neg ho0] at hd
        subst hd
        obtain ⟨d0, d1, d2, d3, d4, d5, d6, d7, d8⟩ := (HCR.out.keep (S := fun b => b < wr.heap.size) (by rw [add_block]; exact hadr) (fun p hp => hb4.cell hp)).nine
        clear hb4
        go_wp2_with fail
        go_ret2
        exact ⟨Ap, np, cp, rfl, HB2.out.trans (HW4.out.mono HB2.out.size)⟩
    · obtain rfl : q = N := by omega
      have hr := HE.out
      rw [← HN.out, List.drop_length, fst0] at hr
      subst hr
      go_wp2_with fail
      go_ret2
      exact ⟨none, 0, 0, rfl, HB2.out.trans (HW.out.mono HB2.out.size)⟩
end
theorem sound_any (x : V) (hsz : sz x ≤ 1048576) (hok : ok x) (cs : List Value) (w : World) (S : Nat → Prop) (hV : IsV w S x cs) (hS : Bel S w.heap.size) : Calls Tryz.prog 30 #[.agg cs.toArray] w (SnPost (lk x) w) := by
  have hps := fun W (hW : Below w.heap.size w W) => parts_all x hsz cs W S (hV.below hS hW) (hS.mono hW.size)
  have hfl := fun (W : World) (z : V) (cs : List Value) (hW : Below w.heap.size w W) (hz : z ∈ prt x) (hZ : IsV W S z cs) => flaw_any z (by have := (prt_ok x hok z hz).2; omega) (prt_ok x hok z hz).1 cs W S hZ (hS.mono hW.size)
  have hle := prt_len x
  rw [← lk_prt]
  unfold PsPost at hps
  generalize prt x = l at *
  obtain ⟨k, b, i, f, t, y, is, fs⟩ := x
  simp only [IsV] at hV
  obtain ⟨A, c, A', c', rfl, _⟩ := hV
  exact sound_cells b i f t y A A' _ _ c c' w S k l (by omega) hps hfl hS
/-- the reference's Write: the text, or the first fault -/
def RwPost (r : Int) (T : List Int) (w : World) (e : Ending) (w' : World) : Prop :=
  (r = 0 → ∃ v', e = .returned (.tuple #[v', .int .i64 0]) ∧ w'.ownsRow w.heap.size 5 1 v' T.length (zs T)) ∧ (r ≠ 0 → e = .returned (.tuple #[.slice none 0 0, .int .i64 r])) ∧ Below w.heap.size w w'
section
variable (b : Bool) (i : Int) (f : Nat) (t y : ByteArray) (A A' : Option Addr) (n m c c' : Nat) (w : World)
set_option maxRecDepth 100000 in
set_option maxHeartbeats 4000000 in
theorem rwrite_cells (k : Int) (r : Int) (T : List Int) (hsn : ∀ W, Below w.heap.size w W → Calls Tryz.prog 30 #[.agg #[.int .i64 k, .bool b, .int .i64 i, .float .f64 f, .string t, .string y, .slice A n c, .slice A' m c']] W (SnPost r W))
    (hpt : r = 0 → ∀ W, Below w.heap.size w W → Calls Tryz.prog 31 #[.slice none 0 0, .agg #[.int .i64 k, .bool b, .int .i64 i, .float .f64 f, .string t, .string y, .slice A n c, .slice A' m c']] W (RowP w.heap.size 0 (.slice none 0 0) [] T W)) :
    Calls Tryz.prog 14 #[.agg #[.int .i64 k, .bool b, .int .i64 i, .float .f64 f, .string t, .string y, .slice A n c, .slice A' m c']] w (RwPost r T w) := by
  have HSN := Lib.hid hsn
  have HPT := Lib.hid hpt
  clear hsn hpt
  have hG0 := heap_alloc_new w (.cells #[.int .i64 k, .bool b, .int .i64 i, .float .f64 f, .string t, .string y, .slice A n c, .slice A' m c'] 29)
  have hb0 := (Below.refl w.heap.size w).alloc (Nat.le_refl _) (.cells #[.int .i64 k, .bool b, .int .i64 i, .float .f64 f, .string t, .string y, .slice A n c, .slice A' m c'] 29)
  have hz0 : (w.alloc (.cells #[.int .i64 k, .bool b, .int .i64 i, .float .f64 f, .string t, .string y, .slice A n c, .slice A' m c'] 29)).heap.size = w.heap.size + 1 := by simp
  obtain ⟨m0, m1, m2, m3, m4, m5, m6, m7⟩ := blk8 hG0
  generalize hW0 : (w.alloc (.cells #[.int .i64 k, .bool b, .int .i64 i, .float .f64 f, .string t, .string y, .slice A n c, .slice A' m c'] 29)) = W0 at *
  have HSN0 := Lib.hid (HSN.out W0 hb0)
  go_enter Tryz.func14, Tryz.ntmps14
  go_wp2_with fail
  refine HSN0.out.mono ?_
  rintro e w2 ⟨A1, n1, c1, rfl, hb⟩
  have HB2 := Lib.hid (hb0.trans (hb.mono hb0.size))
  have HG2 := Lib.hid ((hb.block w.heap.size (by omega)).trans hG0)
  have hz2 := hb.size
  clear hW0 hb0 hb HSN0 HSN m0 m1 m2 m3 m4 m5 m6 m7 hG0
  by_cases hr : r = 0
  · have HPT2 := Lib.hid (HPT.out hr w2 HB2.out)
    subst hr
    obtain ⟨m0, m1, m2, m3, m4, m5, m6, m7⟩ := blk8 HG2.out
    clear HPT
    go_wp2_with fail
    refine HPT2.out.mono ?_
    rintro e w4 ⟨v', rfl, ho, hg, hn⟩
    have HO := Lib.hid ho
    have HB4 := Lib.hid (HB2.out.trans (Below.mk hg.os hg.tape hg.output hg.size (fun q hq => hg.block q (by omega) (by simp [Value.ownBlock]))))
    clear ho hg hn m0 m1 m2 m3 m4 m5 m6 m7 HPT2
    go_wp2_with fail
    go_ret2
    exact ⟨fun _ => ⟨v', rfl, by simpa using HO.out⟩, fun h => absurd rfl h, HB4.out⟩
  · go_wp2_with fail
    go_ret2
    exact ⟨fun h => absurd h hr, fun _ => rfl, HB2.out⟩
end
theorem rwrite_any (x : V) (cs : List Value) (w : World) (S : Nat → Prop) (hx : wt x ≤ 16777216) (hs : sz x ≤ 1048576) (hok : ok x) (hV : IsV w S x cs) (hS : Bel S w.heap.size) :
    Calls Tryz.prog 14 #[.agg cs.toArray] w (RwPost (lk x) (tx x) w) := by
  have hlen := tx_len x hok
  have hsz := sz_wt x
  have h1 := fun W (hW : Below w.heap.size w W) => sound_any x (by omega) hok cs W S (hV.below hS hW) (hS.mono hW.size)
  have h2 := fun (hr : lk x = 0) W (hW : Below w.heap.size w W) => put_any (sz x) x (Nat.le_refl _) (by omega) hok hr cs w.heap.size (.slice none 0 0) 0 [] W S (hV.below hS hW) hS (World.ownsRow_nil _ _ _ _) hW.size (by omega)
  generalize lk x = r at *
  generalize tx x = T at *
  obtain ⟨k, b, i, f, t, y, is, fs⟩ := x
  simp only [IsV] at hV
  obtain ⟨A, c, A', c', rfl, _⟩ := hV
  exact rwrite_cells b i f t y A A' _ _ c c' w k r T h1 h2
/-- the reference's Size: the text's length, or 0 and the first fault -/
def RzPost (r : Int) (n0 : Nat) (w : World) (e : Ending) (w' : World) : Prop :=
  (r = 0 → e = .returned (.tuple #[.int .i64 (n0 : Int), .int .i64 0])) ∧ (r ≠ 0 → e = .returned (.tuple #[.int .i64 0, .int .i64 r])) ∧ Below w.heap.size w w'
section
variable (b : Bool) (i : Int) (f : Nat) (t y : ByteArray) (A A' : Option Addr) (n m c c' : Nat) (w : World)
set_option maxRecDepth 100000 in
set_option maxHeartbeats 4000000 in
theorem rlen_cells (k : Int) (r : Int) (T : List Int) (hsn : ∀ W, Below w.heap.size w W → Calls Tryz.prog 14 #[.agg #[.int .i64 k, .bool b, .int .i64 i, .float .f64 f, .string t, .string y, .slice A n c, .slice A' m c']] W (RwPost r T W)) :
    Calls Tryz.prog 10 #[.agg #[.int .i64 k, .bool b, .int .i64 i, .float .f64 f, .string t, .string y, .slice A n c, .slice A' m c']] w (RzPost r T.length w) := by
  have HSN := Lib.hid hsn
  clear hsn
  have hb0 := (Below.refl w.heap.size w).alloc (Nat.le_refl _) (.cells #[.int .i64 k, .bool b, .int .i64 i, .float .f64 f, .string t, .string y, .slice A n c, .slice A' m c'] 29)
  go_enter Tryz.func10, Tryz.ntmps10
  go_wp2_with fail
  generalize (w.alloc (.cells #[.int .i64 k, .bool b, .int .i64 i, .float .f64 f, .string t, .string y, .slice A n c, .slice A' m c'] 29)) = W0 at *
  refine (HSN.out W0 hb0).mono ?_
  rintro e w2 ⟨h1, h2, hb⟩
  have HB2 := Lib.hid (hb0.trans (hb.mono hb0.size))
  clear hb0 hb HSN
  by_cases hr : r = 0
  · obtain ⟨v', rfl, ho⟩ := h1 hr
    subst hr
    obtain ⟨A2, c2, rfl, _⟩ := own_form ho
    clear h1 h2 ho
    go_wp2_with fail
    go_ret2
    exact ⟨fun _ => rfl, fun h => absurd rfl h, HB2.out⟩
  · obtain rfl := h2 hr
    clear h1 h2
    go_wp2_with fail
    go_ret2
    exact ⟨fun h => absurd h hr, fun _ => rfl, HB2.out⟩
end
theorem rlen_any (x : V) (cs : List Value) (w : World) (S : Nat → Prop) (hx : wt x ≤ 16777216) (hs : sz x ≤ 1048576) (hok : ok x) (hV : IsV w S x cs) (hS : Bel S w.heap.size) :
    Calls Tryz.prog 10 #[.agg cs.toArray] w (RzPost (lk x) (tx x).length w) := by
  have h1 := fun W (hW : Below w.heap.size w W) => rwrite_any x cs W S hx hs hok (hV.below hS hW) (hS.mono hW.size)
  generalize lk x = r at *
  generalize tx x = T at *
  obtain ⟨k, b, i, f, t, y, is, fs⟩ := x
  simp only [IsV] at hV
  obtain ⟨A, c, A', c', rfl, _⟩ := hV
  exact rlen_cells b i f t y A A' _ _ c c' w k r T h1
end Go.Proofs.YthlncdcfppehcaaGreatDoor.look
end
section
namespace Go.Proofs.YthlncdcfppehcaaGreatDoor.look
open Go.RowKit mem txt app smap val
attribute [local go_sem] run_store_float
set_option linter.unusedVariables false

section
variable (b : Bool) (i : Int) (f : Nat) (t y : ByteArray) (A A' : Option Addr) (n m c c' : Nat) (w : World)
set_option maxRecDepth 100000 in
set_option maxHeartbeats 4000000 in
theorem writes_cells (k : Int) (r : Int) (T : List Int) (h1 : ∀ W, Below w.heap.size w W → Calls Tryz.prog 14 #[.agg #[.int .i64 k, .bool b, .int .i64 i, .float .f64 f, .string t, .string y, .slice A n c, .slice A' m c']] W (RwPost r T W))
    (h2 : ∀ W, Below w.heap.size w W → Calls Tryz.prog 15 #[.agg #[.int .i64 k, .bool b, .int .i64 i, .float .f64 f, .string t, .string y, .slice A n c, .slice A' m c']] W (WrPost r T W)) :
    Calls Tryz.prog 9 #[.agg #[.int .i64 k, .bool b, .int .i64 i, .float .f64 f, .string t, .string y, .slice A n c, .slice A' m c']] w (TruePost w) := by
  have H1 := Lib.hid h1
  have H2 := Lib.hid h2
  clear h1 h2
  have hG0 := heap_alloc_new w (.cells #[.int .i64 k, .bool b, .int .i64 i, .float .f64 f, .string t, .string y, .slice A n c, .slice A' m c'] 29)
  have hb0 := (Below.refl w.heap.size w).alloc (Nat.le_refl _) (.cells #[.int .i64 k, .bool b, .int .i64 i, .float .f64 f, .string t, .string y, .slice A n c, .slice A' m c'] 29)
  have hz0 : (w.alloc (.cells #[.int .i64 k, .bool b, .int .i64 i, .float .f64 f, .string t, .string y, .slice A n c, .slice A' m c'] 29)).heap.size = w.heap.size + 1 := by simp
  obtain ⟨m0, m1, m2, m3, m4, m5, m6, m7⟩ := blk8 hG0
  generalize hW0 : (w.alloc (.cells #[.int .i64 k, .bool b, .int .i64 i, .float .f64 f, .string t, .string y, .slice A n c, .slice A' m c'] 29)) = W0 at *
  have H10 := Lib.hid (H1.out W0 hb0)
  go_enter Tryz.func9, Tryz.ntmps9
  go_wp2_with fail
  refine H10.out.mono ?_
  rintro e w2 ⟨ha, hb, hbl⟩
  have HB2 := Lib.hid (hb0.trans (hbl.mono hb0.size))
  have HG2 := Lib.hid ((hbl.block w.heap.size (by omega)).trans hG0)
  have H20 := Lib.hid (H2.out w2 HB2.out)
  clear m0 m1 m2 m3 m4 m5 m6 m7 hW0
  obtain ⟨m0, m1, m2, m3, m4, m5, m6, m7⟩ := blk8 HG2.out
  have hz2 := hbl.size
  clear hb0 hbl H10 H1 H2 hG0
  by_cases hr : r = 0
  · subst hr
    obtain ⟨v1, rfl, ho⟩ := ha rfl
    clear ha hb
    obtain ⟨A1, c1, rfl, hA1, _⟩ := own_form ho
    have HO1 := Lib.hid ho
    have HA1 := Lib.hid hA1
    clear ho hA1
    go_wp2_with fail
    refine H20.out.mono ?_
    rintro e w3 ⟨ha, hb, hbl⟩
    obtain ⟨v2, B2, rfl, ho2, _⟩ := ha rfl
    obtain ⟨A2, c2, rfl, hA2, _⟩ := own_form ho2
    have ho1 := own_below HO1.out hbl
    have hcv1 : (convert 36 9 (.slice A1 T.length c1)).run Tryz.prog w3 = .ok (.string (strOf T)) w3 := run_conv_bytes 36 9 5 A1 T c1 Tryz.underlying36 Tryz.underlying5 Tryz.underlying9 (Rd.of_own ho1) HA1.out
    have hcv2 : (convert 36 9 (.slice A2 T.length c2)).run Tryz.prog w3 = .ok (.string (strOf T)) w3 := run_conv_bytes 36 9 5 A2 T c2 Tryz.underlying36 Tryz.underlying5 Tryz.underlying9 (Rd.of_own ho2) hA2
    have HB3 := Lib.hid (HB2.out.trans (hbl.mono HB2.out.size))
    clear ha hb hbl ho2 hA2 ho1 H20 m0 m1 m2 m3 m4 m5 m6 m7
    generalize strOf T = s at *
    go_wp2_with fail
    go_ret
    exact ⟨by simp, HB3.out⟩
  · obtain rfl := hb hr
    clear ha hb
    go_wp2_with fail
    refine H20.out.mono ?_
    rintro e w3 ⟨ha, hb, hbl⟩
    obtain rfl := hb hr
    have hcv : (convert 36 9 (.slice none 0 0)).run Tryz.prog w3 = .ok (.string (strOf [])) w3 := run_conv_bytes (B := 0) 36 9 5 none [] 0 Tryz.underlying36 Tryz.underlying5 Tryz.underlying9 (fun i v h => by simp at h) (fun _ => rfl)
    have HB3 := Lib.hid (HB2.out.trans (hbl.mono HB2.out.size))
    clear ha hb hbl H20 m0 m1 m2 m3 m4 m5 m6 m7
    generalize strOf [] = s at *
    go_wp2_with fail
    go_ret
    exact ⟨by simp, HB3.out⟩
end
theorem writes_any (x : V) (cs : List Value) (w : World) (S : Nat → Prop) (hx : wt x ≤ 16777216) (hs : sz x ≤ 1048576) (hok : ok x) (hV : IsV w S x cs) (hS : Bel S w.heap.size) (hE : Env w) :
    Calls Tryz.prog 9 #[.agg cs.toArray] w (TruePost w) := by
  have h1 := fun W (hW : Below w.heap.size w W) => rwrite_any x cs W S hx hs hok (hV.below hS hW) (hS.mono hW.size)
  have h2 := fun W (hW : Below w.heap.size w W) => write_any x cs W S hx hs hok (hV.below hS hW) (hS.mono hW.size) (hE.below hW)
  generalize lk x = r at *
  generalize tx x = T at *
  obtain ⟨k, b, i, f, t, y, is, fs⟩ := x
  simp only [IsV] at hV
  obtain ⟨A, c, A', c', rfl, _⟩ := hV
  exact writes_cells b i f t y A A' _ _ c c' w k r T h1 h2
section
variable (b : Bool) (i : Int) (f : Nat) (t y : ByteArray) (A A' : Option Addr) (n m c c' : Nat) (w : World)
set_option maxRecDepth 100000 in
set_option maxHeartbeats 4000000 in
theorem sizes_cells (k : Int) (r : Int) (N q0 : Nat) (hN : N ≤ 1048576) (hq : q0 ≤ 1099511627776) (h0 : ∀ W, Below w.heap.size w W → Calls Tryz.prog 7 #[] W (TruePost W)) (h1 : ∀ W, Below w.heap.size w W → Calls Tryz.prog 8 #[.agg #[.int .i64 k, .bool b, .int .i64 i, .float .f64 f, .string t, .string y, .slice A n c, .slice A' m c'], .int .i64 100000] W (RsPost N W))
    (h2 : ∀ W, Below w.heap.size w W → Calls Tryz.prog 10 #[.agg #[.int .i64 k, .bool b, .int .i64 i, .float .f64 f, .string t, .string y, .slice A n c, .slice A' m c']] W (RzPost r q0 W))
    (h3 : ∀ W, Below w.heap.size w W → Calls Tryz.prog 11 #[.agg #[.int .i64 k, .bool b, .int .i64 i, .float .f64 f, .string t, .string y, .slice A n c, .slice A' m c']] W (SzPost r q0 W)) :
    Calls Tryz.prog 4 #[.agg #[.int .i64 k, .bool b, .int .i64 i, .float .f64 f, .string t, .string y, .slice A n c, .slice A' m c']] w (TruePost w) := by
  have H0 := Lib.hid h0
  have H1 := Lib.hid h1
  have H2 := Lib.hid h2
  have H3 := Lib.hid h3
  clear h0 h1 h2 h3
  have hG0 := heap_alloc_new w (.cells #[.int .i64 k, .bool b, .int .i64 i, .float .f64 f, .string t, .string y, .slice A n c, .slice A' m c'] 29)
  have hb0 := (Below.refl w.heap.size w).alloc (Nat.le_refl _) (.cells #[.int .i64 k, .bool b, .int .i64 i, .float .f64 f, .string t, .string y, .slice A n c, .slice A' m c'] 29)
  have hz0 : (w.alloc (.cells #[.int .i64 k, .bool b, .int .i64 i, .float .f64 f, .string t, .string y, .slice A n c, .slice A' m c'] 29)).heap.size = w.heap.size + 1 := by simp
  generalize hW0 : (w.alloc (.cells #[.int .i64 k, .bool b, .int .i64 i, .float .f64 f, .string t, .string y, .slice A n c, .slice A' m c'] 29)) = W0 at *
  have HA := Lib.hid (H0.out W0 hb0)
  go_enter Tryz.func4, Tryz.ntmps4
  go_wp2_with fail
  refine HA.out.mono ?_
  rintro e w1 ⟨rfl, hbl⟩
  have HB1 := Lib.hid (hb0.trans (hbl.mono hb0.size))
  have HG1 := Lib.hid ((hbl.block w.heap.size (by omega)).trans hG0)
  obtain ⟨m0, m1, m2, m3, m4, m5, m6, m7⟩ := blk8 HG1.out
  have H10 := Lib.hid (H1.out w1 HB1.out)
  have hz1 := hbl.size
  clear hb0 hbl HA H0 hG0 hW0
  go_wp2_with fail
  refine H10.out.mono ?_
  rintro e w2 ⟨p, hp0, hp1, rfl, hbl⟩
  have HB2 := Lib.hid (HB1.out.trans (hbl.mono HB1.out.size))
  have HG2 := Lib.hid ((hbl.block w.heap.size (by omega)).trans HG1.out)
  have hz2 := hbl.size
  clear m0 m1 m2 m3 m4 m5 m6 m7 HG1 HB1 hbl H10 H1
  by_cases hbig : p > 100000
  · go_wp2_with fail
    go_ret
    exact ⟨rfl, HB2.out⟩
  obtain ⟨m0, m1, m2, m3, m4, m5, m6, m7⟩ := blk8 HG2.out
  have H20 := Lib.hid (H2.out w2 HB2.out)
  go_wp2_with fail
  refine H20.out.mono ?_
  rintro e w3 ⟨ha, hb, hbl⟩
  have HB3 := Lib.hid (HB2.out.trans (hbl.mono HB2.out.size))
  have HG3 := Lib.hid ((hbl.block w.heap.size (by omega)).trans HG2.out)
  have hz3 := hbl.size
  clear m0 m1 m2 m3 m4 m5 m6 m7 HG2 HB2 hbl H20 H2
  obtain ⟨m0, m1, m2, m3, m4, m5, m6, m7⟩ := blk8 HG3.out
  have H30 := Lib.hid (H3.out w3 HB3.out)
  by_cases hr : r = 0
  · obtain rfl := ha hr
    clear ha hb
    go_wp2_with fail
    refine H30.out.mono ?_
    rintro e w4 ⟨ha, hb, hbl⟩
    obtain rfl := ha hr
    have HB4 := Lib.hid (HB3.out.trans (hbl.mono HB3.out.size))
    clear ha hb hbl m0 m1 m2 m3 m4 m5 m6 m7
    go_wp2_with fail
    go_ret
    exact ⟨rfl, HB4.out⟩
  · obtain rfl := hb hr
    clear ha hb
    go_wp2_with fail
    refine H30.out.mono ?_
    rintro e w4 ⟨ha, hb, hbl⟩
    obtain rfl := hb hr
    have HB4 := Lib.hid (HB3.out.trans (hbl.mono HB3.out.size))
    clear ha hb hbl m0 m1 m2 m3 m4 m5 m6 m7
    go_wp2_with fail
    go_ret
    exact ⟨by simp, HB4.out⟩
end
theorem sizes_any (x : V) (cs : List Value) (w : World) (S : Nat → Prop) (hx : wt x ≤ 16777216) (hs : sz x ≤ 1048576) (hok : ok x) (hV : IsV w S x cs) (hS : Bel S w.heap.size) (hE : Env w) :
    Calls Tryz.prog 4 #[.agg cs.toArray] w (TruePost w) := by
  have hlen := tx_len x hok
  have hsz := sz_wt x
  have h0 := fun W (hW : Below w.heap.size w W) => awake_any W (hE.below hW)
  have h1 := fun W (hW : Below w.heap.size w W) => rsize_any (sz x) x (Nat.le_refl _) (by omega) cs 100000 W S (hV.below hS hW) (hS.mono hW.size) (by omega) (by omega)
  have h2 := fun W (hW : Below w.heap.size w W) => rlen_any x cs W S hx hs hok (hV.below hS hW) (hS.mono hW.size)
  have h3 := fun W (hW : Below w.heap.size w W) => size_any x cs W S hx hs hok (hV.below hS hW) (hS.mono hW.size) (hE.below hW)
  have hN : sz x ≤ 1048576 := by omega
  have hq : (tx x).length ≤ 1099511627776 := by omega
  generalize sz x = N at *
  generalize lk x = r at *
  generalize (tx x).length = q0 at *
  obtain ⟨k, b, i, f, t, y, is, fs⟩ := x
  simp only [IsV] at hV
  obtain ⟨A, c, A', c', rfl, _⟩ := hV
  exact sizes_cells b i f t y A A' _ _ c c' w k r N q0 hN hq h0 h1 h2 h3
end Go.Proofs.YthlncdcfppehcaaGreatDoor.look
end
section
namespace Go.Proofs.YthlncdcfppehcaaGreatDoor.look
open Go.RowKit mem txt app smap val
attribute [local go_sem] run_store_float
set_option linter.unusedVariables false

theorem szs_get2 {l : List V} {j : Nat} {v : V} (h : l[j]? = some v) : sz v ≤ szs l := szs_get h
set_option maxRecDepth 100000 in
set_option maxHeartbeats 4000000 in
theorem jwrites_any (l : List V) (A : Option Addr) (n c : Nat) (w : World) (S : Nat → Prop) (hn : l.length = n) (hx : wts l ≤ 1048576) (hok : oks l) (hV : IsVs w S l A 0) (hS : Bel S w.heap.size) (hE : Env w) :
    Calls Tryz.prog 3 #[.slice A n c] w (TruePost w) := by
  have hnw : n ≤ 1048576 := by
    have e1 := szs_len l
    have e2 := szs_wt l
    omega
  have HN := Lib.hid hn
  have H0 := Lib.hid (awake_any w hE)
  have HRS := Lib.hid (fun (W : World) (hW : Below w.heap.size w W) (j : Nat) (x : V) (cs : List Value) (m : Int) (hj : l[j]? = some x) (h : IsV W S x cs) (h1 : -1000000 ≤ m) (h2 : m ≤ 1000000) => rsize_any 1048576 x (by have e1 := szs_get hj; have e2 := szs_wt l; omega) (Nat.le_refl _) cs m W S h (hS.mono hW.size) h1 h2)
  have HWR := Lib.hid (fun (W : World) (hW : Below w.heap.size w W) (j : Nat) (x : V) (cs : List Value) (hj : l[j]? = some x) (h : IsV W S x cs) => writes_any x cs W S (by have e1 := wts_get hj; omega) (by have e1 := szs_get hj; have e2 := szs_wt l; omega) (oks_get hok hj) h (hS.mono hW.size) (hE.below hW))
  have HAT := Lib.hid (fun (W : World) (hW : Below w.heap.size w W) (j : Nat) (x : V) (hj : l[j]? = some x) => (hV.below hS hW).at_ hj)
  have HS := Lib.hid hS
  clear hx hok hV hE hS hn
  go_enter Tryz.func3, Tryz.ntmps3
  go_wp2_with fail
  refine H0.out.mono ?_
  rintro e w1 ⟨rfl, hb1⟩
  have HB1 := Lib.hid hb1
  clear hb1 H0
  go_wp2_with fail
  go_loopw [3, 4] (fun v3 v4 wr => ∃ (q : Nat) (p : Int), q ≤ n ∧ 0 ≤ p ∧ p ≤ 2199023255552 ∧ v3 = .int .i64 p ∧ v4 = .int .i64 (q : Int) ∧ Hid (Below w.heap.size w wr)) (fun _ v _ => n - (intOf v).toNat)
  case atStart => exact ⟨0, 0, Nat.zero_le _, by omega, by omega, rfl, rfl, HB1⟩
  case round =>
    clear HB1
    obtain ⟨q, p, hq, hp0, hp1, rfl, rfl, HB⟩ := hrel
    have hszr := HB.out.size
    by_cases hlt : q < n
    · by_cases hp : p ≤ 100000
      · obtain ⟨x, hx⟩ : ∃ p, l[q]? = some p := ⟨_, List.getElem?_eq_getElem (by rw [HN.out]; exact hlt)⟩
        obtain ⟨ad, cs, rfl, hadB, hcs, hvx⟩ := HAT.out _ HB.out _ _ hx
        rw [Nat.zero_add] at hcs
        have hadw : ad.block < wr.heap.size := by have := HS.out _ hadB; omega
        have HR := Lib.hid (HRS.out _ HB.out _ _ _ (100000 - p) hx hvx (by omega) (by omega))
        obtain ⟨k2, b2, i2, f2, t2, y2, is2, fs2⟩ := x
        simp only [IsV] at hvx
        obtain ⟨A2, c2, A2', c2', rfl, _⟩ := hvx
        obtain ⟨d0, d1, d2, d3, d4, d5, d6, d7⟩ := hcs.eight
        clear hcs hx
        go_wp2_with fail
        refine HR.out.mono ?_
        rintro e w2 ⟨p2, hp20, hp21, rfl, hb2⟩
        have HB2 := Lib.hid (HB.out.trans (hb2.mono HB.out.size))
        clear hb2 HR d0 d1 d2 d3 d4 d5 d6 d7
        go_wp2_with fail
        exact ⟨⟨q + 1, p + p2, by omega, by omega, by omega, by go_num, by go_num, HB2⟩, by simp [intOf]; omega⟩
      · go_wp2_with fail
        go_ret
        exact ⟨rfl, HB.out⟩
    · obtain rfl : q = n := by omega
      by_cases hp : p ≤ 100000
      · go_wp2_with fail
        go_loopw [5] (fun v5 wr => ∃ (j : Nat), j ≤ q ∧ v5 = .int .i64 (j : Int) ∧ Hid (Below w.heap.size w wr)) (fun v _ => q - (intOf v).toNat)
        case atStart => exact ⟨0, Nat.zero_le _, rfl, HB⟩
        case round =>
          clear HB hszr hp hp0 hp1
          obtain ⟨j, hj, rfl, HB⟩ := hrel
          have hszr := HB.out.size
          by_cases hlt : j < q
          · obtain ⟨x, hx⟩ : ∃ p, l[j]? = some p := ⟨_, List.getElem?_eq_getElem (by rw [HN.out]; exact hlt)⟩
            obtain ⟨ad, cs, rfl, hadB, hcs, hvx⟩ := HAT.out _ HB.out _ _ hx
            rw [Nat.zero_add] at hcs
            have hadw : ad.block < wr.heap.size := by have := HS.out _ hadB; omega
            have HW := Lib.hid (HWR.out _ HB.out _ _ _ hx hvx)
            obtain ⟨k2, b2, i2, f2, t2, y2, is2, fs2⟩ := x
            simp only [IsV] at hvx
            obtain ⟨A2, c2, A2', c2', rfl, _⟩ := hvx
            obtain ⟨d0, d1, d2, d3, d4, d5, d6, d7⟩ := hcs.eight
            clear hcs hx
            go_wp2_with fail
            refine HW.out.mono ?_
            rintro e w2 ⟨rfl, hb2⟩
            have HB2 := Lib.hid (HB.out.trans (hb2.mono HB.out.size))
            clear hb2 HW d0 d1 d2 d3 d4 d5 d6 d7
            go_wp2_with fail
            exact ⟨⟨j + 1, by omega, by go_num, HB2⟩, by simp [intOf]; omega⟩
          · obtain rfl : j = q := by omega
            go_wp2_with fail
            go_loopw [6] (fun v6 wr => ∃ (i : Nat), i ≤ j ∧ v6 = .int .i64 ((i : Int) - 1) ∧ Hid (Below w.heap.size w wr)) (fun v _ => (intOf v + 1).toNat)
            case atStart => exact ⟨j, Nat.le_refl _, by go_num, HB⟩
            case round =>
              clear HB hszr
              obtain ⟨i, hi, rfl, HB⟩ := hrel
              have hszr := HB.out.size
              by_cases hi0 : i = 0
              · subst hi0
                go_wp2_with fail
                go_ret
                exact ⟨rfl, HB.out⟩
              · obtain ⟨q, rfl⟩ : ∃ q, i = q + 1 := ⟨i - 1, by omega⟩
                have hq1 : ((q + 1 : Nat) : Int) - 1 = (q : Int) := by omega
                rw [hq1]
                have hltq : (q : Int) < (j : Int) := by omega
                obtain ⟨x, hx⟩ : ∃ p, l[q]? = some p := ⟨_, List.getElem?_eq_getElem (by rw [HN.out]; omega)⟩
                obtain ⟨ad, cs, rfl, hadB, hcs, hvx⟩ := HAT.out _ HB.out _ _ hx
                rw [Nat.zero_add] at hcs
                have hadw : ad.block < wr.heap.size := by have := HS.out _ hadB; omega
                have HW := Lib.hid (HWR.out _ HB.out _ _ _ hx hvx)
                obtain ⟨k2, b2, i2, f2, t2, y2, is2, fs2⟩ := x
                simp only [IsV] at hvx
                obtain ⟨A2, c2, A2', c2', rfl, _⟩ := hvx
                obtain ⟨d0, d1, d2, d3, d4, d5, d6, d7⟩ := hcs.eight
                clear hcs hx hq1
                go_wp2_with fail
                refine HW.out.mono ?_
                rintro e w2 ⟨rfl, hb2⟩
                have HB2 := Lib.hid (HB.out.trans (hb2.mono HB.out.size))
                clear hb2 HW d0 d1 d2 d3 d4 d5 d6 d7
                go_wp2_with fail
                exact ⟨⟨q, by omega, by go_num, HB2⟩, by simp [intOf]⟩
      · go_wp2_with fail
        go_ret
        exact ⟨rfl, HB.out⟩
end Go.Proofs.YthlncdcfppehcaaGreatDoor.look
end
