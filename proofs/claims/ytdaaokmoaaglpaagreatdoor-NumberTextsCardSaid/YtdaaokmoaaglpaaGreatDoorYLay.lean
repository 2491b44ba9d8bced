/- The program's noughts and WholeText, the reference's noughts, walked; the text that both lay. -/
import Derived.Test.YtdaaokmoaaglpaaGreatDoorYDl
import Derived.Test.YtdaaokmoaaglpaaGreatDoorGDig
import Derived.Test.YtdaaokmoaaglpaaGreatDoorShelf
namespace Go.Proofs.YtdaaokmoaaglpaaGreatDoor.pg
open Go.RowKit mem fl big
set_option linter.unusedVariables false

theorem made_zero8 (n : Nat) : (madeCells (Value.int IntKind.u8 0).cells (n * 1)).toList = ns (List.replicate n 0) := by
  rw [Nat.mul_one]
  show (madeCells #[_] n).toList = _
  simp [madeCells, ns, List.eq_replicate_iff]
  intro a _
  rw [Nat.mod_one]
  rfl
/-- noughts while they are laid -/
def nq (i n : Nat) : List Nat := List.replicate i 48 ++ List.replicate (n - i) 0
theorem nq_length (i n : Nat) (h : i ≤ n) : (nq i n).length = n := by simp [nq]; omega
theorem nq_get (i n k : Nat) : (nq i n).getD k 0 = if k < i then 48 else 0 := by
  unfold nq
  rw [List.getD_eq_getElem?_getD, List.getElem?_append]
  simp only [List.length_replicate, List.getElem?_replicate]
  by_cases hk : k < i
  · rw [if_pos hk, if_pos hk, if_pos hk]; rfl
  · rw [if_neg hk, if_neg hk]
    split <;> rfl
theorem nq_step (i n : Nat) (h : i < n) : (nq i n).set i 48 = nq (i + 1) n := by
  refine getD_ext (by rw [List.length_set, nq_length _ _ (by omega), nq_length _ _ (by omega)]) fun k hk => ?_
  rw [getD_set _ _ _ _ (by rw [nq_length _ _ (by omega)]; exact h), nq_get, nq_get]
  by_cases hk : k = i
  · rw [if_pos hk, if_pos (by omega)]
  · rw [if_neg hk]
    by_cases hk2 : k < i
    · rw [if_pos hk2, if_pos (by omega)]
    · rw [if_neg hk2, if_neg (by omega)]
def StPost (l : List Nat) (w : World) (e : Ending) (w' : World) : Prop := e = .returned (.string (strN l)) ∧ Below w.heap.size w w'
set_option maxRecDepth 100000 in
theorem noughts_any (n : Nat) (w : World) (hn : n ≤ 100000) : Calls Tryz.prog 59 #[.int .i64 (n : Int)] w (StPost (List.replicate n 48) w) := by
  obtain ⟨iv, hiv, hv0, hv1, hv2⟩ := info_parts infoB
  go_enter Tryz.func59, Tryz.ntmps59
  go_wp2_with (refine wpList_make_full _ rfl (.tmp 5) (.tmp 5) 53 rfl w.heap.size 5 iv _ 1 Tryz.underlying53 hiv hv0 hv1 .i64 .i64 (n : Int) (n : Int) n rfl rfl (by simp) (by simp) (by rw [hv2]; omega) (by unfold maxLen; omega) (Nat.le_refl _) ?_; intro w6 hown6 hgrow6)
  rw [made_zero8] at hown6
  have hb6 : Below w.heap.size w w6 := (Below.refl _ _).grown hgrow6 (Nat.le_refl _) (fun k hk => by cases hk)
  have hlt6 := hown6.lt _ rfl
  have HO6 := Lib.hid hown6
  have HB6 := Lib.hid hb6
  clear hown6 hgrow6 hb6
  go_wp2_with fail
  go_loopw [9] (fun v9 wr => ∃ i : Nat, i ≤ n ∧ v9 = .int .i64 (i : Int) ∧ w.heap.size < wr.heap.size ∧ Hid (wr.ownsRow w.heap.size 5 1 (.slice (some ⟨w.heap.size, 0, none⟩) n n) n (ns (nq i n)) ∧ Below w.heap.size w wr)) (fun v9 _ => n - (intOf v9).toNat)
  case atStart => exact ⟨0, by omega, rfl, hlt6.2, Lib.hid ⟨by simpa [nq] using HO6.out, HB6.out⟩⟩
  case round =>
    clear HO6 HB6 hlt6
    obtain ⟨i, hi, rfl, hgl, hst⟩ := hrel
    obtain ⟨hown, hb⟩ := hst.out
    have HO := Lib.hid hown
    have HBl := Lib.hid hb
    clear hst hown hb
    by_cases hlt : i < n
    · have hci : ∃ x : Nat, wr.cell? ⟨w.heap.size, i, none⟩ = some (.int .u8 (x : Int)) := by
        exact ⟨_, by rw [World.ownsRow.cellAt HO.out i (by omega), ns_get (by rw [nq_length _ _ (by omega)]; exact hlt)]⟩
      obtain ⟨x, hx⟩ := hci
      have hfi := World.ownsRow.frozenAt HO.out i
      have hnx : (wr.setCell ⟨w.heap.size, i, none⟩ (.int .u8 48)).ownsRow w.heap.size 5 1 (.slice (some ⟨w.heap.size, 0, none⟩) n n) n (ns (nq (i + 1) n)) := by
        have h1 := (World.ownsRow.stored HO.out i (.int .u8 48)).1
        rw [show (Value.int IntKind.u8 48) = .int .u8 ((48 : Nat) : Int) from rfl, ns_set, nq_step i n hlt] at h1
        exact h1
      have HNx := Lib.hid hnx
      have HNb := Lib.hid (HBl.out.setCell (p := ⟨w.heap.size, i, none⟩) (Nat.le_refl _) (.int .u8 48))
      have hlt2 : (i : Int) < (n : Int) := by omega
      clear hnx
      go_wp2_with fail
      exact ⟨⟨i + 1, by omega, by simp, by simpa using hgl, Lib.hid ⟨HNx.out, HNb.out⟩⟩, by simp [intOf]; omega⟩
    · obtain rfl : i = n := by omega
      have hcv := conv_bytes (w := wr) (some ⟨w.heap.size, 0, none⟩) (nq i i) i (Rd.of_own HO.out)
      rw [nq_length _ _ (by omega), show nq i i = List.replicate i 48 by simp [nq]] at hcv
      go_wp2_with fail
      go_ret
      exact ⟨rfl, HBl.out⟩
theorem itoa_eq (n : Int) : (⟨(Lib.itoa n).toArray⟩ : ByteArray) = strN (wtx n) := by
  have h : ∀ u : Nat, Lib.decDigits u = (dgs u).map UInt8.ofNat := fun u => by
    rw [Lib.decDigits_eq, uw.dgs_eq, List.map_map]
    rfl
  unfold strN wtx
  congr 2
  by_cases hn : n < 0
  · rw [if_pos hn]
    obtain ⟨k, rfl⟩ : ∃ k : Nat, n = -(k : Int) := ⟨(-n).toNat, by omega⟩
    rw [Lib.itoa_neg k (by omega), h]
    simp
  · rw [if_neg hn]
    obtain ⟨k, rfl⟩ : ∃ k : Nat, n = (k : Int) := ⟨n.toNat, by omega⟩
    rw [Lib.itoa_nonneg, h]
    simp
theorem wholeT_any (n : Int) (w : World) (h1 : -9223372036854775808 ≤ n) (h2 : n ≤ 9223372036854775807) (htab : Lib.TabIs Tryz.prog w "internal/strconv.uint64pow10" .u64 Lib.pow10Tab) :
    Calls Tryz.prog 17 #[.int .i64 n] w (StPost (wtx n) w) := by
  have H := Lib.hid (shelf.strconv_FormatInt_10 n h1 h2 w htab)
  rw [itoa_eq] at H
  clear htab
  go_enter Tryz.func17, Tryz.ntmps17
  go_wp2_with fail
  refine H.out.mono ?_
  rintro e w2 ⟨rfl, k, os, rfl⟩
  have hb := Lib.below_grow w.heap.size w (Nat.le_refl _) k os
  generalize Sort.grow (w.drewN k) os = w3 at *
  have HB := Lib.hid hb
  clear hb
  go_wp2_with fail
  go_ret
  exact ⟨rfl, HB.out⟩
end Go.Proofs.YtdaaokmoaaglpaaGreatDoor.pg
