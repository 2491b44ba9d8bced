/- toFloat, walked: of a number text of which no digit is cut off. -/
import Derived.Test.YtjciflgnlldgbaaGreatDoorYTf
import Derived.Test.YtjciflgnlldgbaaGreatDoorGAp
namespace Go.Proofs.YtjciflgnlldgbaaGreatDoor.pg
open Go.RowKit mem fl big us uw
set_option linter.unusedVariables false

theorem wtx_nat (E : Nat) : wtx (E : Int) = dgs E := by unfold wtx; rw [if_neg (by omega)]; simp
theorem wtx_neg (E : Nat) (h : 0 < E) : wtx (-(E : Int)) = 45 :: dgs E := by unfold wtx; rw [if_pos (by omega)]; simp
theorem wtx_chars (x : Int) : ∀ c ∈ wtx x, 45 ≤ c ∧ c ≤ 57 := by
  intro c hc
  unfold wtx at hc
  split at hc
  · rcases List.mem_cons.1 hc with rfl | hc
    · omega
    · have := dgs_bytes _ c hc; omega
  · have := dgs_bytes _ c hc; omega
theorem strN_lit48 : (⟨#[48, 46]⟩ : ByteArray) = strN [48, 46] := rfl
theorem strN_lit101 : (⟨#[101]⟩ : ByteArray) = strN [101] := rfl
/-- the text that toFloat hands on -/
def tfT (D : List Nat) (x : Int) : ByteArray := strN (rfT D (wtx x))
theorem tfT_eq (D : List Nat) (x : Int) : (⟨#[48, 46]⟩ ++ strN D ++ ⟨#[101]⟩ ++ strN (wtx x) : ByteArray) = tfT D x := by
  rw [strN_lit48, strN_lit101, strN_app, strN_app, strN_app]
  unfold tfT rfT
  simp
theorem nats_strN (l : List Nat) (h : ∀ c ∈ l, c < 256) : nats (strN l) = l := by
  unfold nats strN
  simp only [List.map_map]
  conv => rhs; rw [← List.map_id l]
  refine List.map_congr_left fun c hc => ?_
  have := h c hc
  simp [Nat.mod_eq_of_lt this]
/-- the decimal that such a text means -/
structure Tf (P : Nat) (D : List Nat) (x : Int) (r : Nat) : Prop where
  dig : ∀ c ∈ D, 48 ≤ c ∧ c ≤ 57
  ne : 0 < D.length
  le : D.length ≤ 1100000
  head : D.getD 0 0 ≠ 48
  cut : rfTr D = false
  lo : -326 ≤ x
  hi : x ≤ 310
  near : Dec P (rfM D) (x - (min D.length 19 : Nat)) r
  fin : r < 9218868437227405312
theorem rfM_bd (D : List Nat) (hD : ∀ c ∈ D, 48 ≤ c ∧ c ≤ 57) : rfM D < 18446744073709551616 := by
  unfold rfM
  have h1 := dvn_lt (D.take 19) (fun c hc => hD c (List.mem_of_mem_take hc))
  have h2 : (D.take 19).length ≤ 19 := List.length_take_le _ _
  have h3 : (10 : Nat) ^ (D.take 19).length ≤ 10 ^ 19 := Nat.pow_le_pow_right (by decide) h2
  have h4 : (10 : Nat) ^ 19 < 18446744073709551616 := by decide
  omega
theorem rfM_pos (D : List Nat) (hD : ∀ c ∈ D, 48 ≤ c ∧ c ≤ 57) (h0 : 0 < D.length) (hh : D.getD 0 0 ≠ 48) : 0 < rfM D := by
  cases D with
  | nil => simp at h0
  | cons c L =>
    have hc := hD c (by simp)
    simp at hh
    unfold rfM
    rw [List.take_succ_cons]
    rw [dvn_cons]
    have h1 : 0 < (c - 48) * 10 ^ (L.take 18).length := Nat.mul_pos (by omega) (Nat.pow_pos (by decide))
    omega
theorem size_strN_rfT (D X : List Nat) : (strN (rfT D X)).size = D.length + X.length + 3 := by rw [strN_size, rfT_len]
/-- ParseFloat at such a text -/
theorem parse_tf {P : Nat} (hP : P = 2 ^ 1074) {D : List Nat} {x : Int} {r : Nat} (h : Tf P D x r) (w : World) (ho : OptAt w) (hi : InfoAt w) (h13 : P10At w) (h7 : PowAt w) (hsz : 7 < w.heap.size) :
    Calls Tryz.prog 36 #[.string (tfT D x), .int .i64 64] w fun e w' => e = .returned (.tuple #[.float .f64 r, .nilIface]) ∧ Below w.heap.size w w' := by
  have hw : ∀ c ∈ wtx x, 45 ≤ c ∧ c ≤ 57 := wtx_chars x
  have hn : nats (tfT D x) = rfT D (wtx x) := nats_strN _ (by
    intro c hc
    unfold rfT at hc
    simp only [List.mem_cons, List.mem_append] at hc
    rcases hc with rfl | rfl | hc | rfl | hc
    · omega
    · omega
    · have := h.dig c hc; omega
    · omega
    · have := hw c hc; omega)
  have hszT : (tfT D x).size = D.length + (wtx x).length + 3 := size_strN_rfT D (wtx x)
  have h0 : 0 < (tfT D x).size := by omega
  have hc0 : ((tfT D x)[0]'h0).toNat = 48 := by
    have := nats_get (tfT D x) 0 h0
    rw [← this]
    simp [hn, rfT]
  have hle := h.le
  have hne := h.ne
  refine parse_near _ r w (atof_near _ P (rfM D) r hP (x - (min D.length 19 : Nat)) w h0 hc0 (rfM_pos D h.dig h.ne h.head) (rfM_bd D h.dig) (by have := h.lo; omega) (by have := h.hi; omega) ho hi h13 h7 hsz h.near h.fin ?_)
  by_cases hx : x < 0
  · obtain ⟨E, hE⟩ : ∃ E : Nat, x = -(E : Int) := ⟨(-x).toNat, by omega⟩
    subst hE
    have h1 := rf_neg (tfT D (-(E : Int))) D _ E w (by rw [hn, wtx_neg E (by omega)]) rfl h.ne h.le h.dig h.head (by have := h.lo; omega)
    rw [h.cut] at h1
    refine h1.mono fun e w' hh => ⟨hh.1.trans ?_, hh.2⟩
    rfl
  · obtain ⟨E, hE⟩ : ∃ E : Nat, x = (E : Int) := ⟨x.toNat, by omega⟩
    subst hE
    have h1 := rf_pos (tfT D (E : Int)) D _ E w (by rw [hn, wtx_nat E]) rfl h.ne h.le h.dig h.head (by have := h.hi; omega)
    rw [h.cut] at h1
    exact h1
end Go.Proofs.YtjciflgnlldgbaaGreatDoor.pg
