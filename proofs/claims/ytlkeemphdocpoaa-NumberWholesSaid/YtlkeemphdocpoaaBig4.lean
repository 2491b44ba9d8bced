/- The reference's whole numbers: ten, dec, against, Split. -/
import Derived.Test.YtlkeemphdocpoaaBig3
import Derived.Test.YtlkeemphdocpoaaNear
import Derived.Deep.Cut
namespace Go.Proofs.Ytlkeemphdocpoaa.big
open Go.RowKit mem fl
set_option linter.unusedVariables false

theorem Bn.lit_one (w : World) : Bn (w.alloc (.cells #[.int .u32 1] 60)) (w.heap.size + 1) (.slice (some ⟨w.heap.size, 0, none⟩) 1 1) 1 := by
  refine ⟨some ⟨w.heap.size, 0, none⟩, 1, rfl, Rd.new w [.int .u32 1] 60, Nat.le_refl _⟩
/-- a number that is made bit by bit -/
def MkSt (w : World) (v : Value) (N : Nat) (wr : World) : Prop := Bn wr wr.heap.size v N ∧ Below w.heap.size w wr
theorem wd_len_ten {N k b : Nat} (h : N < 10 ^ k) : (wd N).length ≤ k := wd_len_le (Nat.lt_of_lt_of_le h (Nat.pow_le_pow_left (by decide) _))
theorem ten_step {K : Nat} {r : Int} {d : Nat} (h : (d : Int) ≤ r) (hK : r.toNat ≤ K) : 10 ^ (K - r.toNat) * 10 ^ d + 0 = 10 ^ (K - (r - d).toNat) := by
  rw [Nat.add_zero, ← Nat.pow_add]
  congr 1
  omega
theorem wd_len_p10 {K j : Nat} (h : j ≤ K) : (wd (10 ^ j)).length ≤ K + 1 := wd_len_le (Nat.lt_of_lt_of_le (Nat.pow_lt_pow_right (a := 10) (by decide) (Nat.lt_succ_of_le h)) (Nat.pow_le_pow_left (by decide) _))

set_option maxHeartbeats 1000000 in
theorem ten_any (k : Int) (w : World) (hk : k ≤ 5000) (hk0 : -1000000 ≤ k) :
    Calls Try.prog 29 #[.int .i64 k] w (BnPost (10 ^ k.toNat) w) := by
  obtain ⟨K, hK⟩ : ∃ K, k.toNat = K := ⟨_, rfl⟩
  have HK := Lib.hid hK
  have hK5 : K ≤ 5000 := by omega
  rw [hK]
  clear hK
  go_enter Try.func29, Try.ntmps29
  go_wp2_with fail
  go_loopw [0, 3] (fun v0 v3 wr => ∃ (r : Int) (vv : Value), r ≤ 5000 ∧ -1000000 ≤ r ∧ r.toNat ≤ K ∧ v0 = .int .i64 r ∧ vv = v3 ∧ Hid (MkSt w vv (10 ^ (K - r.toNat)) wr)) (fun v0 _ _ => (intOf v0).toNat)
  case atStart =>
    refine ⟨k, _, hk, hk0, by have := HK.out; omega, rfl, rfl, Lib.hid ⟨?_, (Below.refl _ _).alloc (Nat.le_refl _) _⟩⟩
    rw [HK.out, Nat.sub_self, World.size_alloc]
    exact Bn.lit_one w
  case round =>
    obtain ⟨r, vv, hr5, hr0, hrK, rfl, rfl, hst⟩ := hrel
    have HS := Lib.hid hst.out
    have hz := hst.out.2.size
    clear hst
    by_cases hgo : 9 ≤ r
    · have hl := wd_len_p10 (K := 5000) (j := K - r.toNat) (by omega)
      have hs := ten_step (d := 9) hgo hrK
      have HN := Lib.hid hs
      clear hs
      go_wp2_with fail
      refine (times_any vv (10 ^ (K - r.toNat)) 1000000000 0 wr HS.out.1 (by omega) (by omega) (by omega)).mono ?_
      rintro e w2 ⟨v2, rfl, hbn2, hb2⟩
      rw [show (1000000000 : Nat) = 10 ^ 9 by decide, HN.out] at hbn2
      have HB2 := Lib.hid hbn2
      have HBl2 := Lib.hid (HS.out.2.trans (hb2.mono hz))
      clear hbn2 hb2
      go_wp2_with fail
      exact ⟨⟨r - 9, v2, by omega, by omega, by omega, by simp, rfl, Lib.hid ⟨HB2.out, HBl2.out⟩⟩, by simp [intOf]; omega⟩
    · go_wp2_with fail
      go_loopw [0, 3] (fun v0 v3 wr => ∃ (r : Int) (vv : Value), r ≤ 5000 ∧ -1000000 ≤ r ∧ r.toNat ≤ K ∧ v0 = .int .i64 r ∧ vv = v3 ∧ Hid (MkSt w vv (10 ^ (K - r.toNat)) wr)) (fun v0 _ _ => (intOf v0).toNat)
      case atStart => exact ⟨r, _, hr5, hr0, hrK, rfl, rfl, Lib.hid HS.out⟩
      case round =>
        clear HS hz hgo hr5 hr0 hrK
        obtain ⟨r, vv, hr5, hr0, hrK, rfl, rfl, hst⟩ := hrel
        have HS := Lib.hid hst.out
        have hz := hst.out.2.size
        clear hst
        by_cases hgo : 0 < r
        · have hl := wd_len_p10 (K := 5000) (j := K - r.toNat) (by omega)
          have hs := ten_step (d := 1) (r := r) (by omega) hrK
          have HN := Lib.hid hs
          clear hs
          go_wp2_with fail
          refine (times_any vv (10 ^ (K - r.toNat)) 10 0 _ HS.out.1 (by omega) (by omega) (by omega)).mono ?_
          rintro e w2 ⟨v2, rfl, hbn2, hb2⟩
          rw [show (10 : Nat) = 10 ^ 1 by decide] at hbn2
          have hbn3 : Bn w2 w2.heap.size v2 (10 ^ (K - (r - 1).toNat)) := by
            have := HN.out
            rw [show ((1 : Nat) : Int) = 1 by rfl] at this
            rw [← this]
            exact hbn2
          have HB2 := Lib.hid hbn3
          have HBl2 := Lib.hid (HS.out.2.trans (hb2.mono hz))
          clear hbn2 hb2 hbn3
          go_wp2_with fail
          exact ⟨⟨r - 1, v2, by omega, by omega, by omega, by simp, rfl, Lib.hid ⟨HB2.out, HBl2.out⟩⟩, by simp [intOf]; omega⟩
        · have hr2 : K - r.toNat = K := by omega
          have hS2 := HS.out
          rw [hr2] at hS2
          have HS2 := Lib.hid hS2
          clear HS hS2 hr2
          go_wp2_with fail
          go_ret
          exact ⟨_, rfl, HS2.out.1, HS2.out.2⟩

theorem bn_form {w : World} {B N : Nat} {v : Value} (h : Bn w B v N) : ∃ A n c, v = .slice A n c ∧ Hid (Bn w B (.slice A n c) N) := by
  obtain ⟨A, c, rfl, hr, hc⟩ := h
  exact ⟨A, _, c, rfl, Lib.hid ⟨A, c, rfl, hr, hc⟩⟩
/-- what dec answers: two numbers -/
def DecPost (T B : Nat) (w : World) (e : Ending) (w' : World) : Prop := ∃ v0 v1, e = .returned (.agg #[v0, v1]) ∧ Bn w' w'.heap.size v0 T ∧ Bn w' w'.heap.size v1 B ∧ Below w.heap.size w w'

/-- while dec works: the two numbers lie in a block of its own, the answer's block is there -/
def DcSt (w : World) (G : Nat) (A3 : Option Addr) (n3 c3 : Nat) (A : Option Addr) (n c : Nat) (N M : Nat) (wr : World) : Prop :=
  wr.heap[G]? = some (.cells #[.slice A n c, .slice A3 n3 c3] 51) ∧ wr.heap[w.heap.size]? = some (.cells #[.slice none 0 0, .slice none 0 0] 51) ∧
  Bn wr wr.heap.size (.slice A n c) N ∧ Bn wr wr.heap.size (.slice A3 n3 c3) M ∧ Below w.heap.size w wr ∧ w.heap.size < G ∧ G < wr.heap.size
theorem two_slices {w : World} {p : Addr} {g n1 c1 n2 c2 : Nat} {A1 A2 : Option Addr} {t : TypeId} {z : Int} (hcell : w.cell? p = some (.int .u32 z)) (he : p.block = g) (hb : w.heap[g]? = some (.cells #[.slice A1 n1 c1, .slice A2 n2 c2] t)) : False := by
  obtain ⟨b, o, s⟩ := p
  have hb' : w.heap[b]? = _ := (congrArg (fun k => w.heap[k]?) he).trans hb
  unfold World.cell? at hcell
  simp only [hb'] at hcell
  cases s with
  | some q => simp at hcell
  | none =>
    match o, hcell with
    | 0, hcell => simp at hcell
    | 1, hcell => simp at hcell
    | o + 2, hcell => simp at hcell
/-- a store into a block of two slices touches no number -/
theorem Bn.setCell {w : World} {B N g i n1 c1 n2 c2 : Nat} {v u : Value} {A1 A2 : Option Addr} {t : TypeId} (h : Bn w B v N) (hb : w.heap[g]? = some (.cells #[.slice A1 n1 c1, .slice A2 n2 c2] t)) : Bn (w.setCell ⟨g, i, none⟩ u) B v N := by
  obtain ⟨A, c, rfl, hr, hc⟩ := h
  refine ⟨A, c, rfl, ?_, hc⟩
  intro j y hj
  obtain ⟨ad, rfl, hB, hcell⟩ := hr j y hj
  refine ⟨ad, rfl, hB, ?_⟩
  have hne : (ad.add j).block ≠ g := by
    intro he
    have hy : ∃ z : Nat, y = .int .u32 (z : Int) := by
      unfold us at hj
      rw [List.getElem?_map] at hj
      cases hq : (wd N)[j]? with
      | none => rw [hq] at hj; cases hj
      | some z => rw [hq] at hj; exact ⟨z, by simpa using hj.symm⟩
    obtain ⟨z, rfl⟩ := hy
    exact two_slices hcell he hb
  rw [← hcell]
  exact World.cell?_of_block (Below.heap_setCell _ _ _ _ hne)
theorem DcSt.call {w wr w2 : World} {G n3 c3 n c N M : Nat} {A3 A : Option Addr} (h : DcSt w G A3 n3 c3 A n c N M wr) (hb : Below wr.heap.size wr w2) : DcSt w G A3 n3 c3 A n c N M w2 := by
  obtain ⟨h1, h2, h3, h4, h5, h6, h7⟩ := h
  have hs := hb.size
  exact ⟨(hb.block _ h7).trans h1, (hb.block _ (by omega)).trans h2, (h3.below hb).more hs, (h4.below hb).more hs, h5.trans (hb.mono (by omega)), h6, by omega⟩
theorem DcSt.store {w wr : World} {G n3 c3 n c N M n' c' N' : Nat} {A3 A A' : Option Addr} (h : DcSt w G A3 n3 c3 A n c N M wr) (hb : Bn wr wr.heap.size (.slice A' n' c') N') : DcSt w G A3 n3 c3 A' n' c' N' M (wr.setCell ⟨G, 0, none⟩ (.slice A' n' c')) := by
  obtain ⟨h1, h2, h3, h4, h5, h6, h7⟩ := h
  refine ⟨?_, (Below.heap_setCell _ _ _ _ (by simp; omega)).trans h2, ?_, ?_, h5.setCell (by simp; omega) _, h6, by simpa using h7⟩
  · have := blk_set h1 0 (.slice A' n' c')
    simpa using this
  · have := Bn.setCell (i := 0) (u := .slice A' n' c') hb h1
    simpa using this
  · have := Bn.setCell (i := 0) (u := .slice A' n' c') h4 h1
    simpa using this
theorem DcSt.facts {w wr : World} {G n3 c3 n c N M : Nat} {A3 A : Option Addr} (h : DcSt w G A3 n3 c3 A n c N M wr) :
    wr.cell? ⟨G, 0, none⟩ = some (.slice A n c) ∧ wr.cell? ⟨G, 1, none⟩ = some (.slice A3 n3 c3) ∧ wr.frozen? ⟨G, 0, none⟩ = false ∧
    wr.cell? ⟨w.heap.size, 0, none⟩ = some (.slice none 0 0) ∧ wr.cell? ⟨w.heap.size, 1, none⟩ = some (.slice none 0 0) ∧ wr.frozen? ⟨w.heap.size, 0, none⟩ = false ∧ wr.frozen? ⟨w.heap.size, 1, none⟩ = false := by
  obtain ⟨h1, h2, _⟩ := h
  exact ⟨blk_cell h1 (i := 0) (by simp), blk_cell h1 (i := 1) (by simp), blk_frozen h1 0, blk_cell h2 (i := 0) (by simp), blk_cell h2 (i := 1) (by simp), blk_frozen h2 0, blk_frozen h2 1⟩
theorem DcSt.fin {w wr : World} {G n3 c3 n c N M : Nat} {A3 A : Option Addr} (h : DcSt w G A3 n3 c3 A n c N M wr) :
    DecPost N M w (.returned (.agg #[.slice A n c, .slice A3 n3 c3])) ((wr.setCell ⟨w.heap.size, 0, none⟩ (.slice A n c)).setCell ⟨w.heap.size, 1, none⟩ (.slice A3 n3 c3)) := by
  obtain ⟨h1, h2, h3, h4, h5, h6, h7⟩ := h
  have h8 : (wr.setCell ⟨w.heap.size, 0, none⟩ (.slice A n c)).heap[w.heap.size]? = some (.cells #[.slice A n c, .slice none 0 0] 51) := by
    have := blk_set h2 0 (.slice A n c)
    simpa using this
  refine ⟨_, _, rfl, ?_, ?_, (h5.setCell (by simp) _).setCell (by simp) _⟩
  · have := Bn.setCell (i := 1) (u := .slice A3 n3 c3) (Bn.setCell (i := 0) (u := .slice A n c) h3 h2) h8
    simpa using this
  · have := Bn.setCell (i := 1) (u := .slice A3 n3 c3) (Bn.setCell (i := 0) (u := .slice A n c) h4 h2) h8
    simpa using this
theorem DcSt.finCells {w wr : World} {G n3 c3 n c N M : Nat} {A3 A : Option Addr} (h : DcSt w G A3 n3 c3 A n c N M wr) :
    (wr.setCell ⟨w.heap.size, 0, none⟩ (.slice A n c)).cell? ⟨w.heap.size, 0, none⟩ = some (.slice A n c) ∧ ((wr.setCell ⟨w.heap.size, 0, none⟩ (.slice A n c)).setCell ⟨w.heap.size, 1, none⟩ (.slice A3 n3 c3)).cell? ⟨w.heap.size, 1, none⟩ = some (.slice A3 n3 c3) := by
  obtain ⟨h1, h2, h3, h4, h5, h6, h7⟩ := h
  have h8 := blk_set h2 0 (.slice A n c)
  have h9 := blk_set h8 1 (.slice A3 n3 c3)
  have a1 := blk_cell h8 (i := 0) (by simp)
  have a2 := blk_cell h9 (i := 1) (by simp)
  exact ⟨by simpa using a1, by simpa using a2⟩
theorem ten_step2 {D K : Nat} {r : Int} {d : Nat} (h : (d : Int) ≤ r) (hK : r.toNat ≤ K) : D * 10 ^ (K - r.toNat) * 10 ^ d + 0 = D * 10 ^ (K - (r - d).toNat) := by
  rw [Nat.add_zero, Nat.mul_assoc, ← Nat.pow_add]
  congr 2
  omega
theorem wd_len_mulp {D b K j : Nat} (h : (wd D).length ≤ b) (hj : j ≤ K) : (wd (D * 10 ^ j)).length ≤ b + (K + 1) := by
  have h1 := val_lt (wd D) (wds_wd D)
  rw [val_wd] at h1
  refine wd_len_le ?_
  rw [Nat.pow_add]
  have h2 : D < 4294967296 ^ b := Nat.lt_of_lt_of_le h1 (Nat.pow_le_pow_right (by decide) h)
  have h3 : 10 ^ j < 4294967296 ^ (K + 1) := Nat.lt_of_lt_of_le (Nat.pow_lt_pow_right (a := 10) (by decide) (Nat.lt_succ_of_le hj)) (Nat.pow_le_pow_left (by decide) _)
  exact Nat.mul_lt_mul_of_lt_of_lt h2 h3
set_option maxHeartbeats 1000000 in
theorem dec_any (s : ByteArray) (x : Int) (w : World) (hd : Digs s.data.toList) (hn : s.size ≤ 10000) (hx : x ≤ 5000) (hx0 : -5000 ≤ x) :
    Calls Try.prog 23 #[.string s, .int .i64 x] w (DecPost (dv s.data.toList * 10 ^ x.toNat) (10 ^ (-x).toNat) w) := by
  have HD := Lib.hid hd
  have HO := Lib.hid (fun w => ofDigits_any s w HD.out (by omega))
  have hlen := wd_len_dv hd
  have hls : s.data.toList.length = s.size := by simp
  rw [hls] at hlen
  obtain ⟨D, hD⟩ : ∃ D, dv s.data.toList = D := ⟨_, rfl⟩
  rw [hD] at hlen HO ⊢
  clear hD hls hd HD
  go_enter Try.func23, Try.ntmps23
  go_wp2_with fail
  refine (HO.out _).mono ?_
  rintro e w2 ⟨v2, rfl, hbn2, hb2⟩
  have hz2 := hb2.size
  obtain ⟨A2, n2, c2, rfl, HB2⟩ := bn_form hbn2
  have HBl2 := Lib.hid hb2
  clear hbn2 hb2
  go_wp2_with fail
  refine (ten_any (-x) w2 (by omega) (by omega)).mono ?_
  rintro e w3 ⟨v3, rfl, hbn3, hb3⟩
  have hz3 := hb3.size
  obtain ⟨A3, n3, c3, rfl, HB3⟩ := bn_form hbn3
  have HBl3 := Lib.hid hb3
  clear hbn3 hb3
  go_upto_region 2 with (fail)
  have hst : DcSt w w3.heap.size A3 n3 c3 A2 n2 c2 D (10 ^ (-x).toNat) (w3.alloc (.cells #[.slice A2 n2 c2, .slice A3 n3 c3] 51)) := by
    have h0 : (w.alloc (.cells #[.slice none 0 0, .slice none 0 0] 51)).heap[w.heap.size]? = some (.cells #[.slice none 0 0, .slice none 0 0] 51) := heap_alloc_new w _
    have h1 : w2.heap[w.heap.size]? = _ := (HBl2.out.block _ (by simp)).trans h0
    have h2 : w3.heap[w.heap.size]? = _ := (HBl3.out.block _ (by simp at hz2; omega)).trans h1
    have hb3 : Below w.heap.size w w3 := ((Below.refl _ _).alloc (Nat.le_refl _) _).trans ((HBl2.out.mono (by simp)).trans (HBl3.out.mono (by simp at hz2; omega)))
    have hba : ∀ o, Below w3.heap.size w3 (w3.alloc o) := fun o => (Below.refl _ _).alloc (Nat.le_refl _) o
    refine ⟨heap_alloc_new w3 _, (Below.heap_alloc w3 _ _ (by simp at hz2; omega)).trans h2, ((HB2.out.below HBl3.out).more hz3).below (hba _) |>.more (by simp), (HB3.out.below (hba _)).more (by simp), hb3.alloc (by simp at hz2; omega) _, by simp at hz2; omega, by simp⟩
  have HSt := Lib.hid hst
  clear hst HB2 HB3 HBl2 HBl3 HO
  generalize hW : (w3.alloc (.cells #[.slice A2 n2 c2, .slice A3 n3 c3] 51)) = wa at *
  generalize w3.heap.size = G5 at *
  clear hW
  by_cases hx1 : 0 < x
  · go_wp2_with fail
    obtain ⟨X, hX⟩ : ∃ X, x.toNat = X := ⟨_, rfl⟩
    have HX := Lib.hid hX
    have hX5 : X ≤ 5000 := by omega
    clear hX
    go_loopw [1] (fun v1 wr => ∃ (r : Int) (A : Option Addr) (n c : Nat), 0 ≤ r ∧ r ≤ 5000 ∧ r.toNat ≤ X ∧ v1 = .int .i64 r ∧ Hid (DcSt w G5 A3 n3 c3 A n c (D * 10 ^ (X - r.toNat)) (10 ^ (-x).toNat) wr)) (fun v1 _ => (intOf v1).toNat)
    case atStart => exact ⟨x, A2, n2, c2, by omega, hx, by have := HX.out; omega, rfl, Lib.hid (by rw [HX.out, Nat.sub_self, Nat.pow_zero, Nat.mul_one]; exact HSt.out)⟩
    case round =>
      clear HSt
      obtain ⟨r, A, n, c, hr0, hr5, hrX, rfl, hst⟩ := hrel
      have HSt := Lib.hid hst.out
      clear hst
      obtain ⟨f1, f2, f3, f4, f5, f6, f7⟩ := HSt.out.facts
      by_cases hgo : 9 ≤ r
      · have hl := wd_len_mulp (D := D) (b := 10000) (K := 5000) (j := X - r.toNat) (by omega) (by omega)
        have HN := Lib.hid (ten_step2 (D := D) (d := 9) hgo hrX)
        go_wp2_with fail
        refine (times_any _ (D * 10 ^ (X - r.toNat)) 1000000000 0 wr HSt.out.2.2.1 (by omega) (by omega) (by omega)).mono ?_
        rintro e w5 ⟨v5, rfl, hbn5, hb5⟩
        rw [show (1000000000 : Nat) = 10 ^ 9 by decide, HN.out] at hbn5
        obtain ⟨A5, n5, c5, rfl, HB5⟩ := bn_form hbn5
        have HSt2 := Lib.hid (HSt.out.call hb5)
        clear hbn5 hb5 f1 f2 f3 f4 f5 f6 f7 HSt
        obtain ⟨f1, f2, f3, f4, f5, f6, f7⟩ := HSt2.out.facts
        go_wp2_with fail
        exact ⟨⟨r - 9, A5, n5, c5, by omega, by omega, by omega, by simp, Lib.hid (HSt2.out.store HB5.out)⟩, by simp [intOf]; omega⟩
      · go_wp2_with fail
        go_loopw [1] (fun v1 wr => ∃ (r : Int) (A : Option Addr) (n c : Nat), 0 ≤ r ∧ r ≤ 5000 ∧ r.toNat ≤ X ∧ v1 = .int .i64 r ∧ Hid (DcSt w G5 A3 n3 c3 A n c (D * 10 ^ (X - r.toNat)) (10 ^ (-x).toNat) wr)) (fun v1 _ => (intOf v1).toNat)
        case atStart => exact ⟨r, A, n, c, hr0, hr5, hrX, rfl, Lib.hid HSt.out⟩
        case round =>
          clear HSt hgo f1 f2 f3 f4 f5 f6 f7 hr0 hr5 hrX
          obtain ⟨r, A, n, c, hr0, hr5, hrX, rfl, hst⟩ := hrel
          have HSt := Lib.hid hst.out
          clear hst
          obtain ⟨f1, f2, f3, f4, f5, f6, f7⟩ := HSt.out.facts
          by_cases hgo : 0 < r
          · have hl := wd_len_mulp (D := D) (b := 10000) (K := 5000) (j := X - r.toNat) (by omega) (by omega)
            have HN := Lib.hid (ten_step2 (D := D) (d := 1) (r := r) (by omega) hrX)
            go_wp2_with fail
            refine (times_any _ (D * 10 ^ (X - r.toNat)) 10 0 _ HSt.out.2.2.1 (by omega) (by omega) (by omega)).mono ?_
            rintro e w5 ⟨v5, rfl, hbn5, hb5⟩
            have hbn6 : Bn w5 w5.heap.size v5 (D * 10 ^ (X - (r - 1).toNat)) := by
              have := HN.out
              rw [show ((1 : Nat) : Int) = 1 by rfl] at this
              rw [← this]
              exact hbn5
            obtain ⟨A5, n5, c5, rfl, HB5⟩ := bn_form hbn6
            have HSt2 := Lib.hid (HSt.out.call hb5)
            clear hbn5 hb5 hbn6 f1 f2 f3 f4 f5 f6 f7 HSt
            obtain ⟨f1, f2, f3, f4, f5, f6, f7⟩ := HSt2.out.facts
            go_wp2_with fail
            exact ⟨⟨r - 1, A5, n5, c5, by omega, by omega, by omega, by simp, Lib.hid (HSt2.out.store HB5.out)⟩, by simp [intOf]; omega⟩
          · have hr2 : X - r.toNat = X := by omega
            have hS2 := HSt.out
            rw [hr2] at hS2
            have HS2 := Lib.hid hS2
            have hfin := hS2.fin
            rw [← HX.out] at hfin
            have HF := Lib.hid hfin
            obtain ⟨q1, q2⟩ := hS2.finCells
            clear HSt hS2 hr2 hfin
            go_wp2_with fail
            exact bodyPost_ret (v := .agg #[.slice A n c, .slice A3 n3 c3]) (by simp [results, Try.results23, go_sem, q1, q2]) rfl HF.out
  · have hx2 : x.toNat = 0 := by omega
    obtain ⟨f1, f2, f3, f4, f5, f6, f7⟩ := HSt.out.facts
    have hfin := HSt.out.fin
    have hDx : D = D * 10 ^ x.toNat := by rw [hx2, Nat.pow_zero, Nat.mul_one]
    have HF := Lib.hid (show DecPost (D * 10 ^ x.toNat) (10 ^ (-x).toNat) w _ _ from hDx ▸ hfin)
    obtain ⟨q1, q2⟩ := HSt.out.finCells
    clear hx2 hfin hDx
    go_wp2_with fail
    exact bodyPost_ret (v := .agg #[.slice A2 n2 c2, .slice A3 n3 c3]) (by simp [results, Try.results23, go_sem, q1, q2]) rfl HF.out
end Go.Proofs.Ytlkeemphdocpoaa.big
