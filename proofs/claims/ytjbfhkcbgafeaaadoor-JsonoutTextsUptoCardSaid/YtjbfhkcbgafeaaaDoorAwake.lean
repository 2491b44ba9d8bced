/- jsonout.Text at every text; awake. -/
import Derived.Test.YtjbfhkcbgafeaaaDoorWrite
namespace Go.Proofs.YtjbfhkcbgafeaaaDoor.look
open Go.RowKit mem txt app smap
attribute [local go_sem] run_store_float
set_option linter.unusedVariables false

/-- the text's text -/
def textOf (s : ByteArray) : ByteArray := strOf (quoteZ s.data.toList)

set_option maxRecDepth 100000 in
set_option maxHeartbeats 4000000 in
theorem text_ok (s : ByteArray) (hs : s.size ≤ 4194304) (w : World) (hT : Tabs w) (hv : Lib.validD s.data.toList = true) :
    Calls Tryd.prog 8 #[.string s] w fun e w' => e = .returned (.tuple #[.string (textOf s), .int .i64 0]) ∧ Below w.heap.size w w' := by
  have cV := clean_any s w (by omega) hT
  rw [hv] at cV
  go_enter Tryd.func8, Tryd.ntmps8
  go_wp2_with fail
  refine cV.mono ?_
  rintro e w1 ⟨rfl, hb1⟩
  go_wp2_with fail
  refine (appendText_any s hs w1.heap.size (.slice none 0 0) 0 [] w1 (World.ownsRow_nil _ _ _ _) (Nat.le_refl _) (by omega)).mono ?_
  rintro e w2 ⟨v', rfl, ho, hb2, _⟩
  have hb3 : Below w.heap.size w w2 := hb1.trans (hb2.mono hb1.size)
  obtain ⟨A, c, rfl, hA, _⟩ := own_form ho
  rw [Nat.zero_add, List.nil_append] at *
  have hcv : (convert 30 9 (.slice A (quoteZ s.data.toList).length c)).run Tryd.prog w2 = .ok (.string (textOf s)) w2 := run_conv_bytes 30 9 5 A (quoteZ s.data.toList) c Tryd.underlying30 Tryd.underlying5 Tryd.underlying9 (Rd.of_own ho) hA
  clear ho hb1 hb2 cV
  go_wp2_with fail
  go_ret2
  exact ⟨rfl, hb3⟩

set_option maxRecDepth 100000 in
set_option maxHeartbeats 4000000 in
theorem text_bad (s : ByteArray) (hs : s.size ≤ 4194304) (w : World) (hT : Tabs w) (hv : Lib.validD s.data.toList = false) :
    Calls Tryd.prog 8 #[.string s] w fun e w' => e = .returned (.tuple #[.string ⟨#[]⟩, .int .i64 1]) ∧ Below w.heap.size w w' := by
  have cV := clean_any s w (by omega) hT
  rw [hv] at cV
  go_enter Tryd.func8, Tryd.ntmps8
  go_wp2_with fail
  refine cV.mono ?_
  rintro e w1 ⟨rfl, hb1⟩
  go_wp2_with fail
  go_ret2
  exact ⟨rfl, hb1⟩

/-! ### the document's object -/
def exN : Nat → ByteArray
  | 0 => ⟨#[98]⟩
  | 1 => ⟨#[97]⟩
  | _ => ⟨#[]⟩
def exK : Nat → Int
  | 0 => 5
  | 1 => 6
  | _ => 0
def exL : Nat → List Int
  | 0 => [91, 93]
  | 1 => [123, 125]
  | _ => [110, 117, 108, 108]
def exS : Nat → Nat
  | 0 => 2
  | 1 => 2
  | _ => 4
theorem cells_at {w : World} {b : Nat} {cs : Array Value} {t : TypeId} (h : w.heap[b]? = some (.cells cs t (0, 0))) (k : Nat) : CellsAt w ((⟨b, 0, none⟩ : Addr).add k) ((cs.toList.drop k).take 9) := by
  intro o u hu
  rw [add_zero_off]
  have e1 : (⟨b, k, none⟩ : Addr).add o = ⟨b, k + o, none⟩ := by unfold Addr.add; split <;> simp_all
  rw [e1, cell_of_row w b (k + o) cs t (0, 0) h]
  rw [List.getElem?_take] at hu
  split at hu
  · rw [List.getElem?_drop] at hu
    simpa using hu
  · cases hu
theorem exMems {w : World} {b : Nat} (h : w.heap[b]? = some (.cells exC 55 (0, 0))) : Mems w (some ⟨b, 0, none⟩) 3 exN exK := by
  have hlt : b < w.heap.size := (Array.getElem?_eq_some_iff.1 h).1
  intro i hi
  refine ⟨_, rfl, hlt, ?_⟩
  match i, hi with
  | 0, _ => exact cells_at h 0
  | 1, _ => exact cells_at h 9
  | 2, _ => exact cells_at h 18
  | n + 3, hi => omega
theorem noMems (w : World) (nm : Nat → ByteArray) (kd : Nat → Int) : Mems w none 0 nm kd := fun i hi => by omega
theorem exLook : ∀ i, i < 3 → ∀ W, Tabs W → Calls Tryd.prog 22 #[.agg #[.int .i64 (exK i), .bool false, .int .i64 0, .float .f64 0, .string ⟨#[]⟩, .string ⟨#[]⟩, .slice none 0 0, .slice none 0 0]] W (UnitPost W) := by
  intro i hi W hT
  match i, hi with
  | 0, _ => exact look_list W
  | 1, _ => exact look_obj none 0 0 (by omega) exN exK W (noMems _ _ _) hT (by omega) (by omega) (by omega) (by omega)
  | 2, _ => exact look_null W
  | n + 3, hi => omega
theorem exApp : ∀ i, i < 3 → ∀ (B : Nat) (v : Value) (n : Nat) (xs : List Value) (W : World), W.ownsRow B 5 1 v n xs → B ≤ W.heap.size → n ≤ 549755813888 →
      Calls Tryd.prog 23 #[v, .agg #[.int .i64 (exK i), .bool false, .int .i64 0, .float .f64 0, .string ⟨#[]⟩, .string ⟨#[]⟩, .slice none 0 0, .slice none 0 0]] W (RowPost B n xs (exL i) W) := by
  intro i hi B v n xs W ho hB hn
  match i, hi with
  | 0, _ => exact appV_list B v n xs W ho hB (by omega)
  | 1, _ => exact appV_obj 1099511627776 (Nat.le_refl _) none 0 0 (by omega) exN exK exL B v n xs W ho hB (by show n + 2 ≤ _; omega) (noMems _ _ _) (fun ad e => by cases e) (by omega) (by omega)
  | 2, _ => exact appV_null B v n xs W ho hB (by omega)
  | n + 3, hi => omega
theorem exSize : ∀ i, i < 3 → ∀ (W : World), Calls Tryd.prog 25 #[.agg #[.int .i64 (exK i), .bool false, .int .i64 0, .float .f64 0, .string ⟨#[]⟩, .string ⟨#[]⟩, .slice none 0 0, .slice none 0 0]] W (SizePost W (exS i)) := by
  intro i hi W
  match i, hi with
  | 0, _ => exact sizeOf_list W
  | 1, _ => exact sizeOf_obj none 0 0 (by omega) exN exK exS 2 (by decide) (by decide) W (noMems _ _ _) (by omega) (by omega)
  | 2, _ => exact sizeOf_null W
  | n + 3, hi => omega
theorem exText : objZ exN exL 3 = [123, 34, 98, 34, 58, 91, 93, 44, 34, 97, 34, 58, 123, 125, 44, 34, 34, 58, 110, 117, 108, 108, 125] := by decide +kernel
theorem exValid : ∀ i, i < 3 → Lib.validD (exN i).data.toList = true := by
  intro i hi
  match i, hi with
  | 0, _ => decide +kernel
  | 1, _ => decide +kernel
  | 2, _ => decide +kernel
  | n + 3, hi => omega
theorem exSum : (23 : Int) = (sumZ exN exS 3 : Int) + max (((3 : Nat) : Int) - 1) 0 + 2 := by decide +kernel
theorem exSum2 : sumZ exN exS 3 ≤ 1099511627776 := by decide +kernel
theorem exTxt : textOf ⟨#[97, 34, 92, 47, 8, 11]⟩ = ⟨#[34, 97, 92, 34, 92, 92, 47, 92, 98, 92, 117, 48, 48, 48, 98, 34]⟩ := by decide +kernel
theorem exVal2 : Lib.validD (⟨#[97, 34, 92, 47, 8, 11]⟩ : ByteArray).data.toList = true := by decide +kernel
theorem exSz : ∀ i, i < 3 → (exN i).size ≤ 4194304 := by
  intro i hi
  match i, hi with
  | 0, _ => decide
  | 1, _ => decide
  | 2, _ => decide
  | n + 3, hi => omega
theorem exNe : ∀ i j, i < j → j < 3 → exN i ≠ exN j := by
  intro i j hi hj
  match i, j, hi, hj with
  | 0, 1, _, _ => decide
  | 0, 2, _, _ => decide
  | 1, 2, _, _ => decide
  | 0, n + 3, _, h => omega
  | 1, n + 3, _, h => omega
  | n + 2, m, h1, h2 => omega
  | 1, 1, h, _ => omega
  | 1, 0, h, _ => omega
  | 0, 0, h, _ => omega

def TruePost (w : World) (e : Ending) (w' : World) : Prop := e = .returned (.bool true) ∧ Below w.heap.size w w'

set_option maxRecDepth 100000 in
set_option maxHeartbeats 4000000 in
theorem awake_any (w : World) (hT : Tabs w) : Calls Tryd.prog 6 #[] w (TruePost w) := by
  have HT := Lib.hid hT
  clear hT
  go_enter Tryd.func6, Tryd.ntmps6
  go_wp2_with fail
  refine (example_any w).mono ?_
  rintro e w1 ⟨b1, rfl, hlo1, hlt1, hg1, hb1⟩
  go_wp2_with fail
  refine (write_obj (some ⟨b1, 0, none⟩) 3 3 (by omega) exN exK exL w1 (exMems hg1) (fun ad e => by injection e with e; subst e; exact hlt1) (HT.out.below hb1) exSz exValid exNe (by rw [exText]; decide) exLook exApp).mono ?_
  rintro e w2 ⟨v2, B2, rfl, ho2, hb2⟩
  rw [exText] at ho2
  obtain ⟨A2, c2, rfl, hA2, _⟩ := own_form ho2
  have hb3 : Below w.heap.size w w2 := hb1.trans (hb2.mono hb1.size)
  have HO2 := Lib.hid ho2
  clear ho2 hb1 hb2 hg1 hlo1 hlt1
  go_wp2_with fail
  refine (text_ok ⟨#[97, 34, 92, 47, 8, 11]⟩ (by decide) w2 (HT.out.below hb3) exVal2).mono ?_
  rintro e w3 ⟨rfl, hb4⟩
  rw [exTxt]
  go_wp2_with fail
  refine (example_any w3).mono ?_
  rintro e w4 ⟨b4, rfl, hlo4, hlt4, hg4, hb5⟩
  have hb6 : Below w2.heap.size w2 w4 := hb4.trans (hb5.mono hb4.size)
  have hb7 : Below w.heap.size w w4 := hb3.trans (hb6.mono hb3.size)
  go_wp2_with fail
  refine (size_obj (some ⟨b4, 0, none⟩) 3 3 (by omega) exN exK exS 23 exSum exSum2 w4 (exMems hg4) (HT.out.below hb7) exSz exValid exNe exLook exSize).mono ?_
  rintro e w5 ⟨rfl, hb8⟩
  have hb9 : Below w2.heap.size w2 w5 := hb6.trans (hb8.mono hb6.size)
  have hb10 : Below w.heap.size w w5 := hb3.trans (hb9.mono hb3.size)
  have hr := (Rd.of_own HO2.out).below hb9
  have hcv : (convert 30 9 (.slice A2 23 c2)).run Tryd.prog w5 = .ok (.string ⟨#[123, 34, 98, 34, 58, 91, 93, 44, 34, 97, 34, 58, 123, 125, 44, 34, 34, 58, 110, 117, 108, 108, 125]⟩) w5 := run_conv_bytes 30 9 5 A2 [123, 34, 98, 34, 58, 91, 93, 44, 34, 97, 34, 58, 123, 125, 44, 34, 34, 58, 110, 117, 108, 108, 125] c2 Tryd.underlying30 Tryd.underlying5 Tryd.underlying9 hr hA2
  clear hr hb9 hb8 hb7 hb6 hb5 hb4 hg4 hlo4 hlt4
  go_wp2_with fail
  go_ret
  exact ⟨rfl, hb10⟩
end Go.Proofs.YtjbfhkcbgafeaaaDoor.look
