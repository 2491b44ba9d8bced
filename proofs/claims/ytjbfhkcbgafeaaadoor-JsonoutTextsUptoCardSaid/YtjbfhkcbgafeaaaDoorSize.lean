/- sizeOfText, and sizeOf of null, an empty list, and an object of such members. -/
import Derived.Test.YtjbfhkcbgafeaaaDoorAppV
import Derived.Deep.RegionHeld3
namespace Go.Proofs.YtjbfhkcbgafeaaaDoor.look
open Go.RowKit mem txt app smap esc
attribute [local go_sem] run_store_float
set_option linter.unusedVariables false

/-- how many bytes more than its own a character's text has -/
def extra (r : Nat) : Nat := if escB r = 0 then 0 else if escB r = 117 then 5 else 1
def ext (l : List UInt8) : Nat := ((runes l).map extra).sum
theorem ext_nil : ext [] = 0 := rfl
theorem ext_step (l : List UInt8) (hne : l ≠ []) : ext l = extra (Lib.decodeL l).1 + ext (l.drop (Lib.decodeL l).2) := by
  unfold ext
  rw [runes_step l hne]
  simp

set_option maxRecDepth 100000 in
set_option maxHeartbeats 4000000 in
theorem sizeOfText_any (s : ByteArray) (hs : s.size ≤ 4194304) (w : World) :
    Calls Tryd.prog 35 #[.string s] w fun e w' => e = .returned (.int .i64 ((s.size + 2 + ext s.data.toList : Nat) : Int)) ∧ Below w.heap.size w w' := by
  go_enter Tryd.func35, Tryd.ntmps35
  go_wp2
  go_loopw [3] (fun v3 wr => ∃ (pos acc : Nat), v3 = .int .i64 (acc : Int) ∧ wr.heap[w.heap.size]? = some (.stringIter s pos) ∧ Below w.heap.size w wr ∧ pos ≤ s.size ∧ Hid (acc + ext (s.data.toList.drop pos) = s.size + 2 + ext s.data.toList) ∧ acc ≤ s.size + 2 + 5 * pos) (fun _ wr => s.size - wr.iterPos w.heap.size)
  case atStart =>
    exact ⟨0, s.size + 2, by go_num, World.iter_heap w s 0, (Below.refl _ _).alloc (Nat.le_refl _) _, Nat.zero_le _, rfl, by omega⟩
  case round =>
    obtain ⟨pos, acc, rfl, hit, hb, hpos, hacc, hlen⟩ := hrel
    have hszr : w.heap.size < wr.heap.size := (Array.getElem?_eq_some_iff.1 hit).1
    have hszL := Lib.size_eq s
    by_cases hp : pos < s.size
    · have hwd := Lib.decode_width_pos s pos hp
      have hne : s.data.toList.drop pos ≠ [] := by
        intro h0
        have := congrArg List.length h0
        rw [List.length_drop] at this
        simp at this
        omega
      have hr1 : (Utf8.decode s pos).1 ≤ 1114111 := by
        rw [← Lib.decodeL_drop]
        exact Lib.decodeL_rune _
      have hpw : pos + (Utf8.decode s pos).2 ≤ s.size := by
        have h1 := Lib.decodeL_le _ hne
        rw [Lib.decodeL_drop, List.length_drop] at h1
        omega
      have hst : ext (s.data.toList.drop pos) = extra (Utf8.decode s pos).1 + ext (s.data.toList.drop (pos + (Utf8.decode s pos).2)) := by
        rw [ext_step _ hne, Lib.decodeL_drop, List.drop_drop]
      have hnx : ∀ ty, (Instr.next (.pointer (some ⟨w.heap.size, 0, none⟩)) true ty).run Tryd.prog wr = _ := fun ty => Lib.run_next_any_at wr w.heap.size s pos ty hit hp
      have hit2 := Lib.iterAt_heap wr w.heap.size s pos (pos + (Utf8.decode s pos).2) hit
      have hb2 := Lib.below_iterAt hb (k := w.heap.size) (Nat.le_refl _) s (pos + (Utf8.decode s pos).2)
      have hz2 : (wr.iterAt w.heap.size s (pos + (Utf8.decode s pos).2)).heap.size = wr.heap.size := Lib.iterAt_size _ _ _ _
      rw [hst] at hacc
      have HAC := Lib.hid hacc
      have hmz : ∀ W : World, W.heap[w.heap.size]? = some (.stringIter s (pos + (Utf8.decode s pos).2)) → s.size - W.iterPos w.heap.size < s.size - wr.iterPos w.heap.size := fun W hW => by
        simp only [World.iterPos, hW, hit]
        omega
      have HM := Lib.hid hmz
      clear hst hne hacc hmz hit
      obtain ⟨q, hq⟩ : ∃ q, pos + (Utf8.decode s pos).2 = q := ⟨_, rfl⟩
      obtain ⟨r, hr⟩ : ∃ r, (Utf8.decode s pos).1 = r := ⟨_, rfl⟩
      rw [hq] at hpw hnx hit2 hb2 hz2 HM HAC
      rw [hr] at hr1 hnx HAC
      obtain ⟨W, hW⟩ : ∃ W, wr.iterAt w.heap.size s q = W := ⟨_, rfl⟩
      rw [hW] at hnx hit2 hb2 hz2
      clear hW
      have HI2 := Lib.hid hit2
      have hqp : pos + 1 ≤ q := by omega
      clear hq hr hwd hit2 hszL
      go_wp2_with fail
      refine (escape_any r hr1 _).mono ?_
      rintro e w' ⟨rfl, o, rfl⟩
      have HI3 := Lib.hid (iter_alloc HI2.out o)
      have hb3 : Below w.heap.size w (W.alloc o) := hb2.alloc (by omega) o
      generalize W.alloc o = W3 at *
      clear HI2 hb2 hz2 hnx
      obtain ⟨el, hel⟩ : ∃ el, escB r = el := ⟨_, rfl⟩
      have hez : extra r = if el = 0 then 0 else if el = 117 then 5 else 1 := by rw [← hel]; rfl
      rw [hel]
      clear hel
      rw [hez] at HAC
      clear hez
      by_cases e0 : el = 0
      · subst e0
        have hA : acc + ext (s.data.toList.drop q) = s.size + 2 + ext s.data.toList := by have := HAC.out.out; simp at this; omega
        have HA := Lib.hid hA
        clear hA
        go_wp2_with fail
        exact ⟨⟨q, acc, rfl, HI3.out, hb3, hpw, HA.out, by omega⟩, HM.out _ HI3.out⟩
      · by_cases e1 : el = 117
        · subst e1
          have hA : acc + 5 + ext (s.data.toList.drop q) = s.size + 2 + ext s.data.toList := by have := HAC.out.out; simp at this; omega
          have HA := Lib.hid hA
          clear hA
          go_wp2_with fail
          exact ⟨⟨q, acc + 5, by go_num, HI3.out, hb3, hpw, HA.out, by omega⟩, HM.out _ HI3.out⟩
        · have he0 : ((el : Int) == 0) = false := by simp; omega
          have he1 : ((el : Int) == 117) = false := by simp; omega
          have hA : acc + 1 + ext (s.data.toList.drop q) = s.size + 2 + ext s.data.toList := by have := HAC.out.out; rw [if_neg e0, if_neg e1] at this; omega
          have HA := Lib.hid hA
          clear hA
          go_wp2_with fail
          exact ⟨⟨q, acc + 1, by go_num, HI3.out, hb3, hpw, HA.out, by omega⟩, HM.out _ HI3.out⟩
    · have hend : s.data.toList.drop pos = [] := List.drop_eq_nil_of_le (by omega)
      rw [hend, ext_nil] at hacc
      have HAC := Lib.hid hacc
      clear hacc hend hszL
      have hnx : ∀ ty, (Instr.next (.pointer (some ⟨w.heap.size, 0, none⟩)) true ty).run Tryd.prog wr = _ := fun ty => Lib.run_next_end_at wr w.heap.size s pos ty hit hp
      go_wp2_with fail
      go_ret
      exact ⟨by have := HAC.out.out; exact ret_int (by omega), hb⟩

/-- a value's size is m -/
def SizePost (w : World) (m : Nat) (e : Ending) (w' : World) : Prop := e = .returned (.int .i64 (m : Int)) ∧ Below w.heap.size w w'

set_option maxRecDepth 100000 in
set_option maxHeartbeats 4000000 in
theorem sizeOf_null (w : World) : Calls Tryd.prog 25 #[.agg #[.int .i64 0, .bool false, .int .i64 0, .float .f64 0, .string ⟨#[]⟩, .string ⟨#[]⟩, .slice none 0 0, .slice none 0 0]] w (SizePost w 4) := by
  go_enter Tryd.func25, Tryd.ntmps25
  go_wp2_with fail
  refine (appV_null w.heap.size (.slice none 0 0) 0 [] _ (World.ownsRow_nil _ _ _ _) (by simp) (by omega)).mono ?_
  rintro e w' ⟨v', rfl, ho, hb, hk⟩
  obtain ⟨A, c, rfl, _⟩ := own_form ho
  clear ho
  go_wp2_with fail
  go_ret
  exact ⟨rfl, ((Below.refl _ _).alloc (Nat.le_refl _) _).trans hb⟩

set_option maxRecDepth 100000 in
set_option maxHeartbeats 4000000 in
theorem sizeOf_list (w : World) : Calls Tryd.prog 25 #[.agg #[.int .i64 5, .bool false, .int .i64 0, .float .f64 0, .string ⟨#[]⟩, .string ⟨#[]⟩, .slice none 0 0, .slice none 0 0]] w (SizePost w 2) := by
  go_enter Tryd.func25, Tryd.ntmps25
  go_wp2_with fail
  go_loopw [3, 20] (fun v3 v wr => v3 = .int .i64 0 ∧ v = .int .i64 0 ∧ wr = w.alloc (.cells #[.int .i64 5, .bool false, .int .i64 0, .float .f64 0, .string ⟨#[]⟩, .string ⟨#[]⟩, .slice none 0 0, .slice none 0 0] 40)) (fun _ _ _ => 0)
  case atStart => exact ⟨rfl, rfl, rfl⟩
  case round =>
    obtain ⟨rfl, rfl, rfl⟩ := hrel
    go_wp2_with fail
    go_ret
    exact ⟨ret_int (by decide), (Below.refl _ _).alloc (Nat.le_refl _) _⟩

def sumZ (nm : Nat → ByteArray) (sf : Nat → Nat) : Nat → Nat
  | 0 => 0
  | i + 1 => sumZ nm sf i + ((nm i).size + 2 + ext (nm i).data.toList + 1 + sf i)
theorem sumZ_le (nm : Nat → ByteArray) (sf : Nat → Nat) (i : Nat) : ∀ d, sumZ nm sf i ≤ sumZ nm sf (i + d)
  | 0 => Nat.le_refl _
  | d + 1 => by
    have := sumZ_le nm sf i d
    show _ ≤ sumZ nm sf (i + d) + _
    omega
theorem keep9 {W w' : World} {g B : Nat} {s c0 c1 c2 c3 c4 c5 c6 c7 : Value} (hb : Below B W w') (hg : g < B) (h0 : W.cell? ⟨g, 0, none⟩ = some s) (h1 : W.cell? ⟨g, 1, none⟩ = some c0) (h2 : W.cell? ⟨g, 2, none⟩ = some c1) (h3 : W.cell? ⟨g, 3, none⟩ = some c2) (h4 : W.cell? ⟨g, 4, none⟩ = some c3) (h5 : W.cell? ⟨g, 5, none⟩ = some c4) (h6 : W.cell? ⟨g, 6, none⟩ = some c5) (h7 : W.cell? ⟨g, 7, none⟩ = some c6) (h8 : W.cell? ⟨g, 8, none⟩ = some c7) :
    w'.cell? ⟨g, 0, none⟩ = some s ∧ w'.cell? ⟨g, 1, none⟩ = some c0 ∧ w'.cell? ⟨g, 2, none⟩ = some c1 ∧ w'.cell? ⟨g, 3, none⟩ = some c2 ∧ w'.cell? ⟨g, 4, none⟩ = some c3 ∧ w'.cell? ⟨g, 5, none⟩ = some c4 ∧ w'.cell? ⟨g, 6, none⟩ = some c5 ∧ w'.cell? ⟨g, 7, none⟩ = some c6 ∧ w'.cell? ⟨g, 8, none⟩ = some c7 :=
  ⟨(hb.cell hg).trans h0, (hb.cell hg).trans h1, (hb.cell hg).trans h2, (hb.cell hg).trans h3, (hb.cell hg).trans h4, (hb.cell hg).trans h5, (hb.cell hg).trans h6, (hb.cell hg).trans h7, (hb.cell hg).trans h8⟩

set_option maxRecDepth 100000 in
set_option maxHeartbeats 4000000 in
theorem sizeOf_obj (A : Option Addr) (c N : Nat) (hN : N ≤ 1000) (nm : Nat → ByteArray) (kd : Nat → Int) (sf : Nat → Nat) (m : Nat) (hm : (m : Int) = (sumZ nm sf N : Int) + max ((N : Int) - 1) 0 + 2) (hmx : sumZ nm sf N ≤ 1099511627776) (w : World)
    (hM : Mems w A N nm kd) (hs : ∀ i, i < N → (nm i).size ≤ 4194304)
    (hl : ∀ i, i < N → ∀ (W : World), Calls Tryd.prog 25 #[.agg #[.int .i64 (kd i), .bool false, .int .i64 0, .float .f64 0, .string ⟨#[]⟩, .string ⟨#[]⟩, .slice none 0 0, .slice none 0 0]] W (SizePost W (sf i))) :
    Calls Tryd.prog 25 #[.agg #[.int .i64 6, .bool false, .int .i64 0, .float .f64 0, .string ⟨#[]⟩, .string ⟨#[]⟩, .slice none 0 0, .slice A N c]] w (SizePost w m) := by
  have HM := Lib.hid hM
  have HL := Lib.hid hl
  have HS := Lib.hid hs
  have HMM := Lib.hid hm
  clear hM hl hs hm
  go_enter Tryd.func25, Tryd.ntmps25
  go_upto_region 1 with (fail)
  have gB := heap_alloc_new w (.cells #[.int .i64 6, .bool false, .int .i64 0, .float .f64 0, .string ⟨#[]⟩, .string ⟨#[]⟩, .slice none 0 0, .slice A N c] 40)
  have hb0 : Below w.heap.size w (w.alloc (.cells #[.int .i64 6, .bool false, .int .i64 0, .float .f64 0, .string ⟨#[]⟩, .string ⟨#[]⟩, .slice none 0 0, .slice A N c] 40)) := (Below.refl _ _).alloc (Nat.le_refl _) _
  have hz0 : w.heap.size + 1 = (w.alloc (.cells #[.int .i64 6, .bool false, .int .i64 0, .float .f64 0, .string ⟨#[]⟩, .string ⟨#[]⟩, .slice none 0 0, .slice A N c] 40)).heap.size := by simp
  generalize (w.alloc (.cells #[.int .i64 6, .bool false, .int .i64 0, .float .f64 0, .string ⟨#[]⟩, .string ⟨#[]⟩, .slice none 0 0, .slice A N c] 40)) = W0 at *
  obtain ⟨m0, m1, m2, m3, m4, m5, m6, m7⟩ := blk8 gB
  have GB := Lib.hid gB
  clear gB
  go_wp2_with fail
  clear m0 m1 m2 m3 m4 m5 m6 m7
  go_loopw [3, 42] (fun v3 v wr => ∃ (i : Nat), i ≤ N ∧ v = .int .i64 (i : Int) ∧ v3 = .int .i64 (sumZ nm sf i : Int) ∧ Below W0.heap.size W0 wr) (fun _ v _ => N - (intOf v).toNat)
  case atStart => exact ⟨0, Nat.zero_le _, rfl, rfl, Below.refl _ _⟩
  case round =>
    obtain ⟨i, hi, rfl, rfl, hbr⟩ := hrel
    have hszr := hbr.size
    have hbw : Below w.heap.size w wr := hb0.trans (hbr.mono (by omega))
    by_cases hlt : i < N
    · obtain ⟨ad, rfl, hadB, hcs⟩ := HM.out i hlt
      have HK := Lib.hid (HL.out i hlt)
      have hsz := HS.out i hlt
      have hmi := sumZ_le nm sf (i + 1) (N - (i + 1))
      rw [show i + 1 + (N - (i + 1)) = N by omega] at hmi
      have hmE : sumZ nm sf (i + 1) = sumZ nm sf i + ((nm i).size + 2 + ext (nm i).data.toList + 1 + sf i) := rfl
      have HST := Lib.hid (fun W => sizeOfText_any (nm i) hsz W)
      obtain ⟨d0, d1, d2, d3, d4, d5, d6, d7, d8⟩ := (hcs.below (by rw [add_block]; exact hadB) hbw).nine
      have hadr : ad.block < wr.heap.size := by have := hbw.size; omega
      obtain ⟨st, hst⟩ : ∃ st, (nm i).size + 2 + ext (nm i).data.toList = st := ⟨_, rfl⟩
      rw [hst] at hmE HST
      clear hcs hst
      generalize nm i = s at *
      generalize kd i = k at *
      generalize sf i = l at *
      generalize hzz : sumZ nm sf (i + 1) = z1 at *
      have HZZ := Lib.hid hzz
      clear hzz
      generalize sumZ nm sf i = z at *
      go_upto_region 16 with (fail)
      clear d0 d1 d2 d3 d4 d5 d6 d7 d8
      have gM := heap_alloc_new wr (.cells #[.string s, .int .i64 k, .bool false, .int .i64 0, .float .f64 0, .string ⟨#[]⟩, .string ⟨#[]⟩, .slice none 0 0, .slice none 0 0] 55)
      have hbM : Below W0.heap.size W0 (wr.alloc (.cells #[.string s, .int .i64 k, .bool false, .int .i64 0, .float .f64 0, .string ⟨#[]⟩, .string ⟨#[]⟩, .slice none 0 0, .slice none 0 0] 55)) := hbr.alloc hszr _
      have hzM : wr.heap.size + 1 = (wr.alloc (.cells #[.string s, .int .i64 k, .bool false, .int .i64 0, .float .f64 0, .string ⟨#[]⟩, .string ⟨#[]⟩, .slice none 0 0, .slice none 0 0] 55)).heap.size := by simp
      generalize (wr.alloc (.cells #[.string s, .int .i64 k, .bool false, .int .i64 0, .float .f64 0, .string ⟨#[]⟩, .string ⟨#[]⟩, .slice none 0 0, .slice none 0 0] 55)) = W1 at *
      obtain ⟨d0, d1, d2, d3, d4, d5, d6, d7, d8⟩ := blk9 gM
      clear gM
      have hgl : wr.heap.size < W1.heap.size := by omega
      have hbx : Below W1.heap.size W1 W1.drew := (Below.refl _ _).drew
      go_region_held3 (fun w' => w'.cell? ⟨wr.heap.size, 0, none⟩ = some (.string s) ∧ w'.cell? ⟨wr.heap.size, 1, none⟩ = some (.int .i64 k) ∧ w'.cell? ⟨wr.heap.size, 2, none⟩ = some (.bool false) ∧ w'.cell? ⟨wr.heap.size, 3, none⟩ = some (.int .i64 0) ∧ w'.cell? ⟨wr.heap.size, 4, none⟩ = some (.float .f64 0) ∧ w'.cell? ⟨wr.heap.size, 5, none⟩ = some (.string ⟨#[]⟩) ∧ w'.cell? ⟨wr.heap.size, 6, none⟩ = some (.string ⟨#[]⟩) ∧ w'.cell? ⟨wr.heap.size, 7, none⟩ = some (.slice none 0 0) ∧ w'.cell? ⟨wr.heap.size, 8, none⟩ = some (.slice none 0 0))
        (first | (refine keep9 ?_ hgl d0 d1 d2 d3 d4 d5 d6 d7 d8; (with_reducible first | exact hbz | exact hby | exact hbx)))
        (first
          | (go_at_call 35; go_must (refine (HST.out _).mono ?_; rintro e wa ⟨rfl, hba⟩; first | (have hbz : Below W1.heap.size W1 wa := hby.trans (hba.mono hby.size)) | (have hby : Below W1.heap.size W1 wa := hbx.trans (hba.mono hbx.size))))
          | (go_at_call 25; go_must (refine (HK.out _).mono ?_; rintro e wb ⟨rfl, hbb⟩; first | (have hbz : Below W1.heap.size W1 wb := hby.trans (hbb.mono hby.size)) | (have hby : Below W1.heap.size W1 wb := hbx.trans (hbb.mono hbx.size)))))
      have HZ1 : Hid ((z1 : Int) = (z : Int) + ((st : Int) + 1 + (l : Int))) := Lib.hid (by omega)
      have HNX : Hid (z1 ≤ 1099511627776) := Lib.hid (by omega)
      all_goals
        have hb9 : Below W0.heap.size W0 _ := hbM.trans (hbz.mono (by have := hbM.size; omega))
        clear d0 d1 d2 d3 d4 d5 d6 d7 d8 hbx hby hbz
        rw [IntWalk.i64_in ((st : Int) + 1) (by omega), IntWalk.i64_in ((st : Int) + 1 + (l : Int)) (by omega), IntWalk.i64_in ((z : Int) + ((st : Int) + 1 + (l : Int))) (by omega)]
        go_wp2_with fail
        exact ⟨⟨i + 1, by omega, by go_num, by rw [HZZ.out, ← HZ1.out], hb9⟩, by simp [intOf]; omega⟩
    · obtain rfl : i = N := by omega
      obtain ⟨m0, m1, m2, m3, m4, m5, m6, m7⟩ := blk8 ((hbr.block w.heap.size (by omega)).trans GB.out)
      obtain ⟨z, hz⟩ : ∃ z, sumZ nm sf i = z := ⟨_, rfl⟩
      rw [hz] at hmx HMM
      rw [hz]
      obtain ⟨mx, hmxx⟩ : ∃ mx, max ((i : Int) - 1) 0 = mx := ⟨_, rfl⟩
      rw [hmxx] at HMM
      have hmx1 : 0 ≤ mx ∧ mx ≤ 1000 := by omega
      clear hz
      go_wp2
      go_ret
      exact ⟨ret_int (by have := HMM.out; omega), hbw⟩
end Go.Proofs.YtjbfhkcbgafeaaaDoor.look
