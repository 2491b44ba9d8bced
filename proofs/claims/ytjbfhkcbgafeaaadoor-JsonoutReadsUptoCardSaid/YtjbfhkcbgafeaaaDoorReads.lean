/- JsonoutReads, the walk. -/
import Derived.Test.YtjbfhkcbgafeaaaDoorUnread
import Derived.Test.YtjbfhkcbgafeaaaDoorSpl
namespace Go.Proofs.YtjbfhkcbgafeaaaDoor.look
open Go.RowKit mem txt app smap
attribute [local go_sem] run_store_float
set_option linter.unusedVariables false

theorem strOf_ints (s : ByteArray) : strOf (ints s.data.toList) = s := by
  apply ByteArray.ext
  unfold strOf ints
  rw [List.map_map]
  apply Array.toList_inj.1
  refine (List.map_congr_left (g := id) fun x _ => ?_).trans (List.map_id _)
  simp [Function.comp]
theorem text_first (s : ByteArray) : ∃ h : 0 < (textOf s).size, ((textOf s)[0]'h).toNat = 34 := strOf_get (quoteZ s.data.toList) 0 34 (by omega) rfl
theorem text_last (s : ByteArray) : ∃ h : (textOf s).size - 1 < (textOf s).size, ((textOf s)[(textOf s).size - 1]'h).toNat = 34 := by
  refine strOf_get (quoteZ s.data.toList) ((textOf s).size - 1) 34 (by omega) ?_
  have : (textOf s).size - 1 = (encZ s.data.toList).length + 1 := by
    unfold textOf
    rw [strOf_size]
    simp [quoteZ]
  rw [this]
  show (34 :: (encZ s.data.toList ++ [34]))[(encZ s.data.toList).length + 1]? = _
  rw [List.getElem?_cons_succ, List.getElem?_append_right (Nat.le_refl _)]
  simp
theorem text_mid (s : ByteArray) : (textOf s).extract 1 ((textOf s).size - 1) = strOf (encZ s.data.toList) := by
  have : (textOf s).size - 1 = (encZ s.data.toList).length + 1 := by
    unfold textOf
    rw [strOf_size]
    simp [quoteZ]
  rw [this]
  unfold textOf
  rw [strOf_ext]
  congr 1
  unfold quoteZ
  rw [List.drop_succ_cons, List.drop_zero, Nat.add_sub_cancel, List.take_left]

set_option maxRecDepth 100000 in
set_option maxHeartbeats 4000000 in
theorem reads_any (s : ByteArray) (hs : s.size ≤ 1048576) (w : World) (hT : Tabs w) :
    Calls Tryd.prog 5 #[.string s] w (TruePost w) := by
  have HT := Lib.hid hT
  clear hT
  go_enter Tryd.func5, Tryd.ntmps5
  go_wp2_with fail
  refine (awake_any w HT.out).mono ?_
  rintro e w1 ⟨rfl, hb1⟩
  go_wp2_with fail
  refine (text_any s (by omega) w1 (HT.out.below hb1)).mono ?_
  rintro e w2 ⟨rfl, hb2⟩
  have hb3 : Below w.heap.size w w2 := hb1.trans (hb2.mono hb1.size)
  clear hb1 hb2
  have HCL := Lib.hid (clean_any s w2 (by omega) (HT.out.below hb3))
  cases hva : Lib.validD s.data.toList with
  | false =>
    rw [hva] at HCL
    simp only [Bool.false_eq_true, if_false]
    go_wp2_with fail
    refine HCL.out.mono ?_
    rintro e w5 ⟨rfl, hb8⟩
    have hb9 : Below w.heap.size w w5 := hb3.trans (hb8.mono hb3.size)
    go_wp2_with fail
    go_ret
    exact ⟨rfl, hb9⟩
  | true =>
    rw [hva] at HCL
    simp only [if_true]
    go_wp2_with fail
    refine HCL.out.mono ?_
    rintro e w5 ⟨rfl, hb8⟩
    have hb9 : Below w.heap.size w w5 := hb3.trans (hb8.mono hb3.size)
    have hHB := Lib.hid hb9
    have hun := un_enc s.data.toList.length s.data.toList (Nat.le_refl _) hva
    have hlen : (encZ s.data.toList).length ≤ 1099511627776 := by
      have h1 := encZ_length s.data.toList.length s.data.toList (Nat.le_refl _)
      have h2 := Lib.size_eq s
      omega
    have HUN := Lib.hid (fun W => unread_any (encZ s.data.toList) (ints s.data.toList) hlen hun W)
    have hxs := textOf_size s
    have hxl := textOf_le s
    obtain ⟨t1, t2⟩ := text_first s
    obtain ⟨t3, t4⟩ := text_last s
    have hm := text_mid s
    have HSI := Lib.hid (strOf_ints s)
    obtain ⟨M, hM⟩ : ∃ M, strOf (encZ s.data.toList) = M := ⟨_, rfl⟩
    obtain ⟨Y, hY⟩ : ∃ Y, ints s.data.toList = Y := ⟨_, rfl⟩
    rw [hM] at hm HUN
    rw [hY] at HUN HSI
    generalize textOf s = x at *
    clear hM hY hun hlen hb8 hb9 hb3 hva HCL
    obtain ⟨m, hmm⟩ : ∃ m, x.size - 1 = m := ⟨_, rfl⟩
    have t5 : m < x.size := by omega
    have t6 : (x[m]'t5).toNat = 34 := by subst hmm; exact t4
    rw [hmm] at hm
    clear t3 t4
    have hm1 : (x.size : Int) - 1 = (m : Int) := by omega
    have hm2 : (m : Int) ≤ (x.size : Int) := by omega
    have hm3 : m ≤ x.size := by omega
    have hm4 : (1 : Int) ≤ (m : Int) := by omega
    have hm5 : 1 ≤ m := by omega
    have d1 : decide ((x.size : Int) < 2) = false := decide_eq_false (by omega)
    clear hmm
    go_wp2_with fail
    refine (HUN.out _).mono ?_
    rintro e w6 ⟨v', rfl, ho, hb10⟩
    have hb11 : Below w.heap.size w w6 := hHB.out.trans (hb10.mono hHB.out.size)
    obtain ⟨A, c, rfl, hA, _⟩ := own_form ho
    have hcv : (convert 30 9 (.slice A Y.length c)).run Tryd.prog w6 = .ok (.string s) w6 := by
      rw [run_conv_bytes 30 9 5 A Y c Tryd.underlying30 Tryd.underlying5 Tryd.underlying9 (Rd.of_own ho) hA, HSI.out]
    clear ho hb10 hA
    go_wp2_with fail
    go_ret
    exact ⟨ret_bool (by simp), hb11⟩
end Go.Proofs.YtjbfhkcbgafeaaaDoor.look
