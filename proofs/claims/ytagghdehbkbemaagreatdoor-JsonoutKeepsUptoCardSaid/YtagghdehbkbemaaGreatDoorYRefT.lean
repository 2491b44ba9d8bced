/- The reference's Text; JsonoutTexts, the walk. -/
import Derived.Test.YtagghdehbkbemaaGreatDoorGRefN
import Derived.Test.YtagghdehbkbemaaGreatDoorGSpl
import Derived.Lib.ConvBytes
namespace Go.Proofs.YtagghdehbkbemaaGreatDoor.look
open Go.RowKit mem txt app smap
attribute [local go_sem] run_store_float
set_option linter.unusedVariables false

theorem below_bytes (w : World) (e : TypeId) (s : ByteArray) : Below w.heap.size w (Lib.bytesWorld w e s) :=
  ⟨rfl, rfl, rfl, by rw [Lib.bytesWorld_size]; omega, fun k hk => Lib.bytesWorld_at_old w e s k hk⟩
theorem bytes_at (w : World) (e : TypeId) (s : ByteArray) : BytesAt (Lib.bytesWorld w e s) ⟨w.heap.size, 0, none⟩ s.data.toList.length (bytesOf s.data.toList) :=
  ⟨by rw [Lib.bytesWorld_size]; exact Nat.lt_succ_self _, fun i hi => by
    rw [add_zero_off]
    exact Lib.bytesWorld_cell w e s i (by rw [Lib.size_eq]; exact hi)⟩
theorem runes_scalar : ∀ (n : Nat) (l : List UInt8), l.length ≤ n → ∀ r ∈ runes l, r < 55296 ∨ (57343 < r ∧ r ≤ 1114111)
  | 0, l, h, r, hr => by
    obtain rfl : l = [] := List.eq_nil_of_length_eq_zero (by omega)
    cases hr
  | n + 1, l, h, r, hr => by
    by_cases hne : l = []
    · subst hne; cases hr
    · have hl : 0 < l.length := List.length_pos_iff.2 hne
      have hw := Lib.decodeL_width l
      rw [runes_step l hne] at hr
      rcases List.mem_cons.1 hr with rfl | hr
      · rw [← decB_of]
        exact decB_scalar _ (bytesOf_lt l) _
      · exact runes_scalar n _ (by rw [List.length_drop]; omega) r hr
theorem runes_le : ∀ (n : Nat) (l : List UInt8), l.length ≤ n → (runes l).length ≤ n
  | 0, l, h => by
    obtain rfl : l = [] := List.eq_nil_of_length_eq_zero (by omega)
    exact Nat.le_refl _
  | n + 1, l, h => by
    by_cases hne : l = []
    · subst hne; exact Nat.zero_le _
    · have hl : 0 < l.length := List.length_pos_iff.2 hne
      have hw := Lib.decodeL_width l
      rw [runes_step l hne]
      have := runes_le n (l.drop (Lib.decodeL l).2) (by rw [List.length_drop]; omega)
      simp
      omega
theorem flat_le : ∀ (rs : List Nat), (rs.flatMap escZ).length ≤ 6 * rs.length
  | [] => by simp
  | r :: rs => by
    have h1 := escZ_length r
    have h2 := flat_le rs
    simp only [List.flatMap_cons, List.length_append, List.length_cons]
    omega

set_option maxRecDepth 100000 in
set_option maxHeartbeats 4000000 in
theorem refText_any (s : ByteArray) (hs : s.size ≤ 1048576) (w : World) :
    Calls Tryz.prog 32 #[.string s] w fun e w' => e = .returned (.tuple #[.string (if Lib.validD s.data.toList = true then textOf s else ⟨#[]⟩), .int .i64 (if Lib.validD s.data.toList = true then 0 else 1)]) ∧ Below w.heap.size w w' := by
  obtain ⟨iv, hiv, hv0, hv1, hv2⟩ := info_parts infoB
  have hcv : (convert 9 31 (.string s)).run Tryz.prog w = _ := Lib.run_convert_string_bytes w 9 31 5 s Tryz.underlying9 Tryz.underlying31 Tryz.underlying5
  have hlen : s.data.toList.length = s.size := (Lib.size_eq s).symm
  have hg1 : s.size ≤ grownCap w s.size 0 5 := grownCap_ge w s.size 0 _
  have hg2 : grownCap w s.size 0 5 ≤ maxLen := grownCap_le_maxLen w s.size 0 _ (by unfold maxLen; omega)
  have HDC := Lib.hid (decode_any s.data.toList (by omega) ⟨w.heap.size, 0, none⟩ (grownCap w s.size 0 5) (by omega) hg2 (Lib.bytesWorld w 5 s) (bytes_at w _ s))
  have HB0 := Lib.hid (below_bytes w 5 s)
  rw [hlen] at HDC
  generalize grownCap w s.size 0 5 = c at *
  generalize Lib.bytesWorld w 5 s = W0 at *
  have HLN := Lib.hid hlen
  clear hg1 hg2 hlen
  cases hva : Lib.validD s.data.toList with
  | false =>
    simp only [Bool.false_eq_true, if_false]
    go_enter Tryz.func32, Tryz.ntmps32
    go_wp2_with fail
    refine HDC.out.mono ?_
    rintro e w1 ⟨v', n, rfl, _, hn, hb1⟩
    have hns : n < s.size := by have := hn hva; rw [HLN.out] at this; exact this
    have hns3 : (n : Int) < (s.size : Int) := by omega
    have HB1 := Lib.hid (HB0.out.trans (hb1.mono HB0.out.size))
    clear hn hb1 hva hcv
    go_wp2_with fail
    go_ret2
    exact ⟨rfl, HB1.out⟩
  | true =>
    simp only [if_true]
    go_enter Tryz.func32, Tryz.ntmps32
    go_wp2_with fail
    refine HDC.out.mono ?_
    rintro e w1 ⟨v', n, rfl, hok, _, hb1⟩
    obtain ⟨hn, ho⟩ := hok hva
    rw [HLN.out] at hn
    subst hn
    have HB1 := Lib.hid (HB0.out.trans (hb1.mono HB0.out.size))
    have hoz := own_lt ho
    obtain ⟨A, c1, rfl, hA, hrc, hrm⟩ := own_form ho
    have HRS := Lib.hid (runes_scalar s.data.toList.length s.data.toList (Nat.le_refl _))
    have hrl := runes_le s.data.toList.length s.data.toList (Nat.le_refl _)
    rw [HLN.out] at hrl
    have HTX := Lib.hid (show textOf s = strOf ((34 :: (runes s.data.toList).flatMap escZ)) ++ ⟨#[34]⟩ by
      unfold textOf quoteZ encZ
      rw [← List.cons_append, strOf_app]
      rfl)
    have HRD := Lib.hid (Rd.of_own ho)
    clear hok hva hcv hb1 ho hA
    obtain ⟨rs, hrs⟩ : ∃ rs, runes s.data.toList = rs := ⟨_, rfl⟩
    rw [hrs] at hrl HRS HTX HRD hrc ⊢
    clear hrs
    obtain ⟨R, hR⟩ : ∃ R, rs.length = R := ⟨_, rfl⟩
    have HR := Lib.hid hR
    rw [hR] at hrl hrc ⊢
    clear hR
    go_wp2_with fail
    go_loopw [6, 7] (fun v6 v7 wr => ∃ (i : Nat) (vv : Value), i ≤ R ∧ v7 = .int .i64 (i : Int) ∧ vv = v6 ∧ Hid (wr.ownsRow w1.heap.size 5 1 vv (34 :: (rs.take i).flatMap escZ).length (zs (34 :: (rs.take i).flatMap escZ))) ∧ Below w1.heap.size w1 wr) (fun _ v7 _ => R - (intOf v7).toNat)
    case atStart =>
      refine ⟨0, _, Nat.zero_le _, rfl, rfl, Lib.hid ?_, (Below.refl _ _).alloc (Nat.le_refl _) _⟩
      exact ⟨by simp [zs], .inr ⟨w1.heap.size, 1, #[.int .u8 34], rfl, Nat.le_refl _, heap_alloc_new w1 _, Nat.le_refl _, by unfold maxLen; omega, by simp, by simp [zs]⟩⟩
    case round =>
      obtain ⟨i, vv, hi, rfl, rfl, hown, hb⟩ := hrel
      have HBW := Lib.hid hb
      have hbz := hb.size
      clear hb
      have hfl := flat_le (rs.take i)
      have hil : (rs.take i).length ≤ i := List.length_take_le _ _
      by_cases hiR : i < R
      · have hi3 : (i : Int) < (R : Int) := by omega
        have hil2 : i < rs.length := by rw [HR.out]; exact hiR
        obtain ⟨r, er⟩ : ∃ r, rs[i]? = some r := ⟨_, List.getElem?_eq_getElem hil2⟩
        obtain ⟨ad, rfl, had, hcell⟩ := HRD.out i (.int .i32 (r : Nat)) (by simp [rz, er])
        have hcw : wr.cell? (ad.add i) = some (.int .i32 (r : Nat)) := (HBW.out.cell (p := ad.add i) (by rw [add_block]; exact had)).trans hcell
        have hsc := HRS.out r (List.mem_of_getElem? er)
        have HSC := Lib.hid (char_any r hsc)
        have HTK := Lib.hid (show (34 : Int) :: (rs.take (i + 1)).flatMap escZ = (34 :: (rs.take i).flatMap escZ) ++ escZ r by
          rw [List.take_add_one, er, Option.toList_some, List.flatMap_append]
          simp)
        have hez := escZ_length r
        clear er hil2 hsc hcell
        go_wp2_with fail
        refine (HSC.out wr).mono ?_
        rintro e w2 ⟨A2, c2, rfl, hrd2, hA2, hc21, hc22, hb2⟩
        have HO2 := Lib.hid (own_kept hown.out fun g hg => hb2.block g (hown.out.lt g hg).2)
        have HB2 := Lib.hid (HBW.out.trans (hb2.mono hbz))
        have hz2 : w1.heap.size ≤ w2.heap.size := HB2.out.size
        have HRD2 := Lib.hid hrd2
        have HA2 := Lib.hid hA2
        clear hb2 hown hcw hrd2 hA2
        have hone := zs_one (escZ r)
        have HON := Lib.hid hone
        clear hone
        have hfl2 : (34 :: (rs.take i).flatMap escZ).length ≤ 7 * R + 1 := by simp only [List.length_cons]; omega
        obtain ⟨pre, hpre⟩ : ∃ pre, (34 :: (rs.take i).flatMap escZ) = pre := ⟨_, rfl⟩
        rw [hpre] at HTK HO2 hfl2
        clear hpre hfl
        obtain ⟨ez, hezz⟩ : ∃ ez, escZ r = ez := ⟨_, rfl⟩
        rw [hezz] at HTK HRD2 hez HON HA2 ⊢
        clear hezz HSC
        go_wp2_with (at_builtin; go_must (refine wpList_app _ rfl (.tmp 25) (.tmp 30) _ rfl w1.heap.size 5 iv (.int .u8 0) 1 1 Tryz.underlying31 hiv hv0 hv1 hv2 rfl (by omega) vv pre.length (zs pre) rfl HO2.out w2.heap.size A2 ez.length c2 (zs ez) rfl (by rw [zs_length, Nat.mul_one]) HRD2.out HA2.out HON.out (by unfold maxLen; omega) (by omega) hz2 ?_; intro v' w5 hown' hgrow' hat'; have HO' := Lib.hid hown'; have HG' := Lib.hid hgrow'; clear hown' hgrow' hat'))
        refine ⟨⟨i + 1, _, by omega, by simp, rfl, Lib.hid ?_, below_app HB2.out HO2.out (Nat.le_refl _) hz2 HG'.out⟩, by simp [intOf]; omega⟩
        rw [HTK.out, List.length_append, zs_append]
        exact HO'.out
      · have hiE : i = R := by omega
        subst hiE
        have htk : rs.take i = rs := List.take_of_length_le (by rw [HR.out]; exact Nat.le_refl _)
        rw [htk] at hown hfl
        rw [HR.out] at hfl
        clear htk
        have HO := Lib.hid hown.out
        obtain ⟨A3, c3, rfl, hA3, _⟩ := own_form hown.out
        clear hown
        have hlp : (34 :: rs.flatMap escZ).length ≤ 6 * i + 1 := by simp only [List.length_cons]; omega
        obtain ⟨pre, hpre⟩ : ∃ pre, (34 :: rs.flatMap escZ) = pre := ⟨_, rfl⟩
        rw [hpre] at hA3 HO HTX hlp
        rw [hpre]
        clear hpre hfl
        have hcv : (convert 31 9 (.slice A3 pre.length c3)).run Tryz.prog wr = .ok (.string (strOf pre)) wr := run_conv_bytes 31 9 5 A3 pre c3 Tryz.underlying31 Tryz.underlying5 Tryz.underlying9 (Rd.of_own HO.out) hA3
        have hsz := strOf_size pre
        have HSZ := Lib.hid hsz
        have hsl : (strOf pre).size ≤ 67108864 := by omega
        clear hsz hA3
        generalize strOf pre = P at *
        go_wp2_with fail
        go_ret2
        rw [HTX.out]
        exact ⟨rfl, HB1.out.trans (HBW.out.mono HB1.out.size)⟩

end Go.Proofs.YtagghdehbkbemaaGreatDoor.look
