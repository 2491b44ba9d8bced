/- jsonout.Text at every text; awake. JsonoutSplices, the walk. -/
import Derived.Test.YtagghdehbkbemaaGreatDoorGSzp
section
namespace Go.Proofs.YtagghdehbkbemaaGreatDoor.look
open Go.RowKit mem txt app smap val
attribute [local go_sem] run_store_float
set_option linter.unusedVariables false

/-- the text's text -/
def textOf (s : ByteArray) : ByteArray := strOf (quoteZ s.data.toList)

set_option maxRecDepth 100000 in
set_option maxHeartbeats 4000000 in
theorem text_ok (s : ByteArray) (hs : s.size ≤ 4194304) (w : World) (hT : Tabs w) (hv : Lib.validD s.data.toList = true) :
    Calls Tryz.prog 16 #[.string s] w fun e w' => e = .returned (.tuple #[.string (textOf s), .int .i64 0]) ∧ Below w.heap.size w w' := by
  have cV := clean_any s w (by omega) hT
  rw [hv] at cV
  go_enter Tryz.func16, Tryz.ntmps16
  go_wp2_with fail
  refine cV.mono ?_
  rintro e w1 ⟨rfl, hb1⟩
  go_wp2_with fail
  refine (appendText_any s hs w1.heap.size (.slice none 0 0) 0 [] w1 (World.ownsRow_nil _ _ _ _) (Nat.le_refl _) (by omega)).mono ?_
  rintro e w2 ⟨v', rfl, ho, hb2, _⟩
  have hb3 : Below w.heap.size w w2 := hb1.trans (hb2.mono hb1.size)
  obtain ⟨A, c, rfl, hA, _⟩ := own_form ho
  rw [Nat.zero_add, List.nil_append] at *
  have hcv : (convert 31 9 (.slice A (quoteZ s.data.toList).length c)).run Tryz.prog w2 = .ok (.string (textOf s)) w2 := run_conv_bytes 31 9 5 A (quoteZ s.data.toList) c Tryz.underlying31 Tryz.underlying5 Tryz.underlying9 (Rd.of_own ho) hA
  clear ho hb1 hb2 cV
  go_wp2_with fail
  go_ret2
  exact ⟨rfl, hb3⟩

set_option maxRecDepth 100000 in
set_option maxHeartbeats 4000000 in
theorem text_bad (s : ByteArray) (hs : s.size ≤ 4194304) (w : World) (hT : Tabs w) (hv : Lib.validD s.data.toList = false) :
    Calls Tryz.prog 16 #[.string s] w fun e w' => e = .returned (.tuple #[.string ⟨#[]⟩, .int .i64 1]) ∧ Below w.heap.size w w' := by
  have cV := clean_any s w (by omega) hT
  rw [hv] at cV
  go_enter Tryz.func16, Tryz.ntmps16
  go_wp2_with fail
  refine cV.mono ?_
  rintro e w1 ⟨rfl, hb1⟩
  go_wp2_with fail
  go_ret2
  exact ⟨rfl, hb1⟩

/-! ### the document's object -/
theorem cells_at {w : World} {b : Nat} {cs : Array Value} {t : TypeId} (h : w.heap[b]? = some (.cells cs t (0, 0))) (k : Nat) : CellsAt w ((⟨b, 0, none⟩ : Addr).add k) ((cs.toList.drop k).take 9) := by
  intro o u hu
  rw [add_zero_off]
  have e1 : (⟨b, k, none⟩ : Addr).add o = ⟨b, k + o, none⟩ := by unfold Addr.add; split <;> simp_all
  rw [e1, cell_of_row w b (k + o) cs t (0, 0) h]
  rw [List.getElem?_take] at hu
  split at hu
  · rw [List.getElem?_drop] at hu
    simpa using hu
  · cases hu
def eV (k : Int) : V := .mk k false 0 0 ⟨#[]⟩ ⟨#[]⟩ [] []
def exF : List (ByteArray × V) := [(⟨#[98]⟩, eV 5), (⟨#[97]⟩, eV 6), (⟨#[]⟩, eV 0)]
def exV : V := .mk 6 false 0 0 ⟨#[]⟩ ⟨#[]⟩ [] exF
def exT : List Int := [123, 34, 98, 34, 58, 91, 93, 44, 34, 97, 34, 58, 123, 125, 44, 34, 34, 58, 110, 117, 108, 108, 125]
theorem exText : tx exV = exT := by
  have q1 : quoteZ (⟨#[98]⟩ : ByteArray).data.toList = [34, 98, 34] := by decide +kernel
  have q2 : quoteZ (⟨#[97]⟩ : ByteArray).data.toList = [34, 97, 34] := by decide +kernel
  have q3 : quoteZ (⟨#[]⟩ : ByteArray).data.toList = [34, 34] := by decide +kernel
  have e5 : tx (eV 5) = [91, 93] := by simp [eV, tx, txs]
  have e6 : tx (eV 6) = [123, 125] := by simp [eV, tx, txf]
  have e0 : tx (eV 0) = [110, 117, 108, 108] := by simp [eV, tx]
  have h : tx exV = 123 :: (txf exF ++ [125]) := by simp [exV, tx]
  rw [h]
  simp only [exF, txf, txg, q1, q2, q3, e5, e6, e0]
  rfl
theorem exValid : Lib.validD (⟨#[98]⟩ : ByteArray).data.toList = true ∧ Lib.validD (⟨#[97]⟩ : ByteArray).data.toList = true ∧ Lib.validD (⟨#[]⟩ : ByteArray).data.toList = true := ⟨by decide +kernel, by decide +kernel, by decide +kernel⟩
theorem exNe : (⟨#[97]⟩ : ByteArray) ≠ ⟨#[98]⟩ ∧ (⟨#[]⟩ : ByteArray) ≠ ⟨#[97]⟩ ∧ (⟨#[]⟩ : ByteArray) ≠ ⟨#[98]⟩ := by
  refine ⟨?_, ?_, ?_⟩ <;> (intro h; have := congrArg (fun s : ByteArray => s.data.toList) h; simp at this)
theorem exLk : lk exV = 0 := by
  obtain ⟨v1, v2, v3⟩ := exValid
  obtain ⟨n1, n2, n3⟩ := exNe
  have e5 : lk (eV 5) = 0 := by simp [eV, lk, lks]
  have e6 : lk (eV 6) = 0 := by simp [eV, lk, nmE, lkf]
  have e0 : lk (eV 0) = 0 := by simp [eV, lk]
  have hf : lkf exF = 0 := by simp [exF, lkf, e5, e6, e0]
  have hn : nmE [] exF = 0 := by
    unfold exF
    rw [nmE, if_pos v1, if_neg (by simp), nmE, if_pos v2, if_neg (by simp [n1]), nmE, if_pos v3, if_neg (by simp [n2, n3]), nmE]
  unfold exV
  rw [lk, if_neg (by omega), if_neg (by omega), if_neg (by omega), if_neg (by omega), if_pos rfl, if_pos hn, hf]
theorem exOk : ok exV := by simp [exV, exF, eV, ok, oks, okf, ByteArray.size]
theorem exWt : wt exV ≤ 1048576 := by simp [exV, exF, eV, wt, wts, wtf, ByteArray.size]
theorem exIs {w : World} {b : Nat} (h : w.heap[b]? = some (.cells exC 41 (0, 0))) : IsV w (fun k => k = b) exV [.int .i64 6, .bool false, .int .i64 0, .float .f64 0, .string ⟨#[]⟩, .string ⟨#[]⟩, .slice none 0 0, .slice (some ⟨b, 0, none⟩) 3 3] := by
  have he : ∀ k : Int, IsV w (fun k => k = b) (eV k) [.int .i64 k, .bool false, .int .i64 0, .float .f64 0, .string ⟨#[]⟩, .string ⟨#[]⟩, .slice none 0 0, .slice none 0 0] := fun k => by
    simp only [eV, IsV]
    exact ⟨none, 0, none, 0, rfl, fun _ => rfl, fun _ => rfl, by simp only [IsVs], by simp only [IsFs]⟩
  unfold exV
  rw [IsV]
  refine ⟨none, 0, some ⟨b, 0, none⟩, 3, rfl, fun _ => rfl, (fun h => nomatch h), by simp only [IsVs], ?_⟩
  simp only [exF, IsFs]
  refine ⟨⟨_, _, rfl, rfl, ?_, he 5⟩, ⟨_, _, rfl, rfl, ?_, he 6⟩, ⟨_, _, rfl, rfl, ?_, he 0⟩, trivial⟩
  · exact cells_at h 0
  · exact cells_at h 9
  · exact cells_at h 18
theorem exTxt : textOf ⟨#[97, 34, 92, 47, 8, 11]⟩ = ⟨#[34, 97, 92, 34, 92, 92, 47, 92, 98, 92, 117, 48, 48, 48, 98, 34]⟩ := by decide +kernel
theorem exVal2 : Lib.validD (⟨#[97, 34, 92, 47, 8, 11]⟩ : ByteArray).data.toList = true := by decide +kernel
def TruePost (w : World) (e : Ending) (w' : World) : Prop := e = .returned (.bool true) ∧ Below w.heap.size w w'

set_option maxRecDepth 100000 in
set_option maxHeartbeats 4000000 in
theorem awake_any (w : World) (hE : Env w) : Calls Tryz.prog 4 #[] w (TruePost w) := by
  have HE := Lib.hid hE
  clear hE
  go_enter Tryz.func4, Tryz.ntmps4
  go_wp2_with fail
  refine (example_any w).mono ?_
  rintro e w1 ⟨b1, rfl, hlo1, hlt1, hg1, hb1⟩
  go_wp2_with fail
  refine (write_any exV _ w1 _ (Nat.le_trans exWt (by decide)) (Nat.le_trans (sz_wt exV) exWt) exOk (exIs hg1) (fun k hk => by rw [hk]; exact hlt1) (HE.out.below hb1)).mono ?_
  rintro e w2 ⟨hw, _, hb2⟩
  obtain ⟨v2, B2, rfl, ho2, _⟩ := hw exLk
  rw [exText] at ho2
  obtain ⟨A2, c2, rfl, hA2, _⟩ := own_form ho2
  have hb3 : Below w.heap.size w w2 := hb1.trans (hb2.mono hb1.size)
  have HO2 := Lib.hid ho2
  clear ho2 hb1 hb2 hg1 hlo1 hlt1 hw
  rw [show exT.length = 23 from rfl]
  go_wp2_with fail
  refine (text_ok ⟨#[97, 34, 92, 47, 8, 11]⟩ (by decide) w2 (HE.out.below hb3).tabs exVal2).mono ?_
  rintro e w3 ⟨rfl, hb4⟩
  rw [exTxt]
  go_wp2_with fail
  refine (example_any w3).mono ?_
  rintro e w4 ⟨b4, rfl, hlo4, hlt4, hg4, hb5⟩
  have hb6 : Below w2.heap.size w2 w4 := hb4.trans (hb5.mono hb4.size)
  have hb7 : Below w.heap.size w w4 := hb3.trans (hb6.mono hb3.size)
  go_wp2_with fail
  refine (size_any exV _ w4 _ (Nat.le_trans exWt (by decide)) (Nat.le_trans (sz_wt exV) exWt) exOk (exIs hg4) (fun k hk => by rw [hk]; exact hlt4) (HE.out.below hb7)).mono ?_
  rintro e w5 ⟨hs, _, hb8⟩
  obtain rfl := hs exLk
  rw [exText, show exT.length = 23 from rfl]
  have hb9 : Below w2.heap.size w2 w5 := hb6.trans (hb8.mono hb6.size)
  have hb10 : Below w.heap.size w w5 := hb3.trans (hb9.mono hb3.size)
  have hr := (Rd.of_own HO2.out).below hb9
  have hcv : (convert 31 9 (.slice A2 23 c2)).run Tryz.prog w5 = .ok (.string ⟨#[123, 34, 98, 34, 58, 91, 93, 44, 34, 97, 34, 58, 123, 125, 44, 34, 34, 58, 110, 117, 108, 108, 125]⟩) w5 := run_conv_bytes 31 9 5 A2 exT c2 Tryz.underlying31 Tryz.underlying5 Tryz.underlying9 hr hA2
  clear hr hb9 hb8 hb7 hb6 hb5 hb4 hg4 hlo4 hlt4 hs
  go_wp2_with fail
  go_ret
  exact ⟨rfl, hb10⟩
end Go.Proofs.YtagghdehbkbemaaGreatDoor.look
end
section
namespace Go.Proofs.YtagghdehbkbemaaGreatDoor.look
open Go.RowKit mem txt app smap
attribute [local go_sem] run_store_float
set_option linter.unusedVariables false

/-- jsonout.Text, whatever the text -/
theorem text_any (s : ByteArray) (hs : s.size ≤ 4194304) (w : World) (hT : Tabs w) :
    Calls Tryz.prog 16 #[.string s] w fun e w' => e = .returned (.tuple #[.string (if Lib.validD s.data.toList = true then textOf s else ⟨#[]⟩), .int .i64 (if Lib.validD s.data.toList = true then 0 else 1)]) ∧ Below w.heap.size w w' := by
  cases hv : Lib.validD s.data.toList with
  | true => exact text_ok s hs w hT hv
  | false => exact text_bad s hs w hT hv

theorem data_app (a b : ByteArray) : (a ++ b).data.toList = a.data.toList ++ b.data.toList := by
  rw [ByteArray.data_append]
  simp
theorem textOf_size (s : ByteArray) : 2 ≤ (textOf s).size := by
  unfold textOf
  rw [strOf_size]
  simp [quoteZ]
theorem textOf_le (s : ByteArray) : (textOf s).size ≤ 6 * s.size + 2 := by
  unfold textOf
  rw [strOf_size]
  have := encZ_length s.data.toList.length s.data.toList (Nat.le_refl _)
  have h2 := Lib.size_eq s
  simp only [quoteZ, List.length_cons, List.length_append, List.length_nil]
  omega
theorem strOf_app (l r : List Int) : strOf (l ++ r) = strOf l ++ strOf r := by
  apply ByteArray.ext
  rw [ByteArray.data_append]
  simp [strOf]
theorem strOf_ext (l : List Int) (i j : Nat) : (strOf l).extract i j = strOf ((l.drop i).take (j - i)) := by
  apply ByteArray.ext
  rw [ByteArray.data_extract]
  simp only [strOf, List.extract_toArray, List.extract_eq_take_drop, List.map_take, List.map_drop]
/-- the text of two texts is the one's and the other's -/
theorem splice (a b : ByteArray) (hv : Lib.validD a.data.toList = true) : textOf (a ++ b) = (textOf a).extract 0 ((textOf a).size - 1) ++ (textOf b).extract 1 (textOf b).size := by
  unfold textOf
  rw [strOf_ext, strOf_ext, strOf_size, strOf_size, ← strOf_app]
  congr 1
  unfold quoteZ
  rw [data_app, (app_both _ a.data.toList b.data.toList (Nat.le_refl _) hv).2]
  have e1 : (List.drop 0 (34 :: (encZ a.data.toList ++ [34]))).take ((34 :: (encZ a.data.toList ++ [34])).length - 1 - 0) = 34 :: encZ a.data.toList := by
    simp
  have e2 : (List.drop 1 (34 :: (encZ b.data.toList ++ [34]))).take ((34 :: (encZ b.data.toList ++ [34])).length - 1) = encZ b.data.toList ++ [34] := by
    rw [List.drop_succ_cons, List.drop_zero]
    exact List.take_of_length_le (by simp)
  rw [e1, e2]
  simp

end Go.Proofs.YtagghdehbkbemaaGreatDoor.look
end
