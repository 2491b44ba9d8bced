/- The reference's Decode. -/
import Derived.Test.YtjbfhkcbgafeaaaDoorRefO
namespace Go.Proofs.YtjbfhkcbgafeaaaDoor.app
open Go.RowKit mem txt esc
set_option linter.unusedVariables false

def rz (l : List Nat) : List Value := l.map fun r => Value.int .i32 (r : Nat)
theorem rz_append (l r : List Nat) : rz (l ++ r) = rz l ++ rz r := by simp [rz]
theorem infoR : (Tryd.prog.info? 21).map (fun i => (i.zero, i.size, i.bytes)) = some (some (.int .i32 0), 1, 4) := by kernel_rfl
theorem add_add (ad : Addr) (p i : Nat) : (ad.add p).add i = ad.add (p + i) := by
  unfold Addr.add
  split
  · simp_all
  · rename_i h
    split <;> split <;> simp_all <;> omega
theorem BytesAt.drop {w : World} {ad : Addr} {l : List UInt8} (h : BytesAt w ad l.length (bytesOf l)) (p : Nat) : BytesAt w (ad.add p) (l.drop p).length (bytesOf (l.drop p)) := by
  refine ⟨by rw [add_block]; exact h.1, fun i hi => ?_⟩
  rw [List.length_drop] at hi
  rw [add_add, bytesOf_drop]
  exact h.2 _ (by omega)
def DecPost (l : List UInt8) (w : World) (e : Ending) (w' : World) : Prop :=
  ∃ v' n, e = .returned (.tuple #[v', .int .i64 (n : Nat)]) ∧ (Lib.validD l = true → n = l.length ∧ w'.ownsRow w.heap.size 21 1 v' (runes l).length (rz (runes l))) ∧ (Lib.validD l = false → n < l.length) ∧ Below w.heap.size w w'

set_option maxRecDepth 100000 in
set_option maxHeartbeats 2000000 in
theorem decode_any (l : List UInt8) (hL : l.length ≤ 4194304) (ad : Addr) (c : Nat) (hc : l.length ≤ c) (hc2 : c ≤ maxLen) (w : World) (h : BytesAt w ad l.length (bytesOf l)) :
    Calls Tryd.prog 14 #[.slice (some ad) l.length c] w (DecPost l w) := by
  obtain ⟨iv, hiv, hv0, hv1, hv2⟩ := info_parts infoR
  have H := Lib.hid h
  have hcm : c ≤ 9223372036854775807 := hc2
  clear h hc2
  obtain ⟨L, hLL⟩ : ∃ L, l.length = L := ⟨_, rfl⟩
  have HL := Lib.hid hLL
  rw [hLL] at hL hc ⊢
  clear hLL
  go_enter Tryd.func14, Tryd.ntmps14
  go_wp2_with fail
  go_loopw [4, 5] (fun v4 v5 wr => ∃ (p : Nat) (done : List Nat) (vv : Value), p ≤ L ∧ v5 = .int .i64 (p : Int) ∧ vv = v4 ∧ Hid (wr.ownsRow w.heap.size 21 1 vv done.length (rz done)) ∧ Below w.heap.size w wr ∧ Hid (done ++ runes (l.drop p) = runes l) ∧ Hid (Lib.validD (l.drop p) = Lib.validD l) ∧ done.length ≤ p) (fun _ v5 _ => L - (intOf v5).toNat)
  case atStart => exact ⟨0, [], _, Nat.zero_le _, rfl, rfl, Lib.hid (World.ownsRow_nil _ _ _ _), Below.refl _ _, Lib.hid rfl, Lib.hid rfl, Nat.zero_le _⟩
  case round =>
    obtain ⟨p, done, vv, hp, rfl, rfl, hown, hb, hru, hva, hdl⟩ := hrel
    by_cases hpL : p < L
    · have hp3 : (p : Int) < (L : Int) := by omega
      have hp4 : (p : Int) ≤ (L : Int) := by omega
      have hp5 : (L : Int) ≤ (c : Int) := by omega
      have HBW := Lib.hid hb
      have hbz := hb.size
      clear hb
      go_wp2_with fail
      have hlen : (l.drop p).length = L - p := by rw [List.length_drop, HL.out]
      have hbt := (H.out.below HBW.out).drop p
      rw [hlen] at hbt
      refine (one_any (bytesOf (l.drop p)) (bytesOf_lt _) (L - p) (by omega) (by omega) (ad.add p) (c - p) (by omega) (by unfold maxLen; omega) wr hbt).mono ?_
      rintro e w1 ⟨rfl, hb1⟩
      have hone : oneB (bytesOf (l.drop p)) (L - p) = if (Lib.decodeL (l.drop p)).1 = 65533 ∧ (Lib.decodeL (l.drop p)).2 = 1 then (0, 0) else Lib.decodeL (l.drop p) := by
        unfold oneB
        rw [← hlen, decB_of]
      have hne : l.drop p ≠ [] := by
        intro h0
        rw [h0] at hlen
        simp at hlen
        omega
      have hvs := Lib.validD_step (l.drop p) hne
      have hrs := runes_step (l.drop p) hne
      have hwd := Lib.decodeL_width (l.drop p)
      have hle := Lib.decodeL_le (l.drop p) hne
      have hrl := Lib.decodeL_rune (l.drop p)
      rw [hlen] at hle
      rw [hone]
      have HB1 := Lib.hid (HBW.out.trans (hb1.mono HBW.out.size))
      have HO1 := Lib.hid (own_kept hown.out fun g hg => hb1.block g (hown.out.lt g hg).2)
      clear hone hbt hb1 hown
      by_cases he : (Lib.decodeL (l.drop p)).1 = 65533 ∧ (Lib.decodeL (l.drop p)).2 = 1
      · rw [if_pos he] at hvs ⊢
        have HV := Lib.hid (show Lib.validD l = false by rw [← hva.out, hvs])
        clear hvs hrs hwd hle he hru hva hrl
        go_wp2_with fail
        go_ret2
        refine ⟨vv, p, rfl, fun h => (by rw [HV.out] at h; cases h), fun _ => (by rw [HL.out]; exact hpL), HB1.out⟩
      · rw [if_neg he] at hvs ⊢
        rw [List.drop_drop] at hvs hrs
        have HRU := Lib.hid hru.out
        have HVA := Lib.hid hva.out
        rw [hrs] at HRU
        rw [hvs] at HVA
        clear hvs hrs he hru hva hlen hne
        obtain ⟨r, hr⟩ : ∃ r, (Lib.decodeL (l.drop p)).1 = r := ⟨_, rfl⟩
        obtain ⟨k, hk⟩ : ∃ k, (Lib.decodeL (l.drop p)).2 = k := ⟨_, rfl⟩
        rw [hr] at hrl HRU ⊢
        rw [hk] at hwd hle HRU HVA ⊢
        clear hr hk
        have hk0 : ((k : Int) == 0) = false := by simp; omega
        obtain ⟨q, hq⟩ : ∃ q, p + k = q := ⟨_, rfl⟩
        have hq3 : (p : Int) + (k : Int) = (q : Int) := by omega
        rw [hq] at HRU HVA
        have hqL : q ≤ L := by omega
        have hpq : p + 1 ≤ q := by omega
        clear hq
        have hz1 : w.heap.size ≤ w1.heap.size := HB1.out.size
        go_wp2_with (at_builtin; go_must (refine wpList_app _ rfl (.tmp 21) (.tmp 23) _ rfl w.heap.size 21 iv (.int .i32 0) 1 4 Tryd.underlying44 hiv hv0 hv1 hv2 rfl (by omega) vv done.length (rz done) rfl (HO1.out.alloc _) (w1.heap.size + 1) (some ⟨w1.heap.size, 0, none⟩) 1 1 [.int .i32 r] rfl rfl (Rd.new w1 [.int .i32 r] 21) (by simp) (by intro u hu; simp at hu; subst hu; rfl) (by unfold maxLen; omega) (by omega) (by simp; omega) ?_; intro v' w5 hown' hgrow' hat'; have HO' := Lib.hid hown'; have HG' := Lib.hid hgrow'; clear hown' hgrow' hat'))
        refine ⟨⟨q, done ++ [r], _, hqL, by simp, rfl, Lib.hid ?_, below_app1 HB1.out HO1.out (Nat.le_refl _) hz1 HG'.out, Lib.hid (by rw [List.append_assoc]; exact HRU.out), HVA, by simp; omega⟩, by simp [intOf]; omega⟩
        rw [rz_append, List.length_append]
        exact HO'.out
    · have hpE : p = L := by omega
      have hend : l.drop p = [] := List.drop_eq_nil_of_le (by rw [HL.out]; omega)
      have hv : Lib.validD l = true := by rw [← hva.out, hend]; rfl
      have hr : runes l = done := by rw [← hru.out, hend, runes_nil, List.append_nil]
      have HV := Lib.hid hv
      have HR := Lib.hid hr
      have HP := Lib.hid hpE
      clear hv hr hend hpE hru hva
      go_wp2_with fail
      go_ret2
      refine ⟨vv, p, rfl, fun _ => ⟨(by rw [HP.out, HL.out]), (by rw [HR.out]; exact hown.out)⟩, fun h => (by rw [HV.out] at h; cases h), hb⟩
end Go.Proofs.YtjbfhkcbgafeaaaDoor.app
