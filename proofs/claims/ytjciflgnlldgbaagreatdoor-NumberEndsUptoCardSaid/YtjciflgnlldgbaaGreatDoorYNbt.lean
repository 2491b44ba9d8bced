/- number.Read at the text that FloatText gives of a finite float, and at a whole number's text. -/
import Derived.Test.YtjciflgnlldgbaaGreatDoorYRdg
import Derived.Test.YtjciflgnlldgbaaGreatDoorYTfc
import Derived.Test.YtjciflgnlldgbaaGreatDoorGLs
import Derived.Test.YtjciflgnlldgbaaGreatDoorGFlt
namespace Go.Proofs.YtjciflgnlldgbaaGreatDoor.pg
open Go.RowKit mem fl big us uw sh pfx
set_option linter.unusedVariables false

theorem nx_e (s : Int) (c : Nat) (hc : isE c = true) : fm (nx s (c : Int)) = 0 := by
  have h : c = 101 ∨ c = 69 := by
    unfold isE at hc
    simp at hc
    exact hc
  rcases h with rfl | rfl
  · unfold nx fm dig
    simp
    repeat' split
    all_goals first | rfl | simp_all
  · unfold nx fm dig
    simp
    repeat' split
    all_goals first | rfl | simp_all
theorem e_last {st : Int} {T : List Nat} (h : fm (adv st T) ≠ 0) : ∀ k, k < T.length → isE (T.getD k 0) = true → k + 1 < T.length := by
  intro k hk hE
  rcases Nat.lt_or_ge (k + 1) T.length with h1 | h1
  · exact h1
  · exfalso
    have e : T = T.take k ++ [T.getD k 0] := by
      rw [List.getD_eq_getElem?_getD, List.getElem?_eq_getElem hk, Option.getD_some, List.take_append_getElem hk, List.take_of_length_le (by omega)]
    rw [e, adv_app] at h
    exact h (nx_e _ _ hE)
theorem layT_lt (L : List Nat) (p : Int) (hL : ∀ c ∈ L, c < 256) : ∀ c ∈ layT L p, c < 256 := by
  have hw := wtx_chars (p - 1)
  intro c hc
  unfold layT at hc
  have hcases : c ∈ L ∨ c = 48 ∨ c = 46 ∨ c = 101 ∨ c ∈ wtx (p - 1) := by
    split at hc
    · simp only [List.mem_append, List.mem_replicate, List.mem_cons, List.mem_nil_iff, or_false] at hc
      rcases hc with (hc | hc) | hc | hc
      · exact .inl hc
      · exact .inr (.inl hc.2)
      · exact .inr (.inr (.inl hc))
      · exact .inr (.inl hc)
    · split at hc
      · simp only [List.mem_append, List.mem_cons, List.mem_nil_iff, or_false] at hc
        rcases hc with (hc | hc) | hc
        · exact .inl (List.mem_of_mem_take hc)
        · exact .inr (.inr (.inl hc))
        · exact .inl (List.mem_of_mem_drop hc)
      · split at hc
        · simp only [List.mem_append, List.mem_replicate, List.mem_cons, List.mem_nil_iff, or_false] at hc
          rcases hc with ((hc | hc) | hc) | hc
          · exact .inr (.inl hc)
          · exact .inr (.inr (.inl hc))
          · exact .inr (.inl hc.2)
          · exact .inl hc
        · split at hc
          · simp only [List.mem_append, List.mem_cons, List.mem_nil_iff, or_false] at hc
            rcases hc with (((hc | hc) | hc) | hc) | hc
            · exact .inl (List.mem_of_mem_take hc)
            · exact .inr (.inr (.inl hc))
            · exact .inl (List.mem_of_mem_drop hc)
            · exact .inr (.inr (.inr (.inl hc)))
            · exact .inr (.inr (.inr (.inr hc)))
          · simp only [List.mem_append, List.mem_cons, List.mem_nil_iff, or_false] at hc
            rcases hc with (hc | hc) | hc
            · exact .inl hc
            · exact .inr (.inr (.inr (.inl hc)))
            · exact .inr (.inr (.inr (.inr hc)))
  rcases hcases with h | h | h | h | h
  · exact hL c h
  · omega
  · omega
  · omega
  · have := hw c h; omega
/-- a text's form, its bytes told -/
theorem pf_text {s : ByteArray} {T : List Nat} (hT : nats s = T) (hne : T ≠ []) (h : fm (adv 0 T) ≠ 0) : pfx.pf (intsOf s) 0 = ((s.size : Int), (s.size : Int), fm (adv 0 T)) := by
  have hl : s.size = T.length := by rw [← hT, nats_length]
  unfold intsOf
  rw [hT, hl]
  exact pf_all T hne h
/-- Read, behind toFloat: of a text of the form with a point or an exponent -/
theorem read_text {s : ByteArray} {T : List Nat} {neg : Bool} {r : Nat} (hT : nats s = T) (hn : T.length ≤ 1100000) (h : fm (adv 0 T) = 2) (hr : r < 9218868437227405312)
    (hF : ∀ w, NEnv w → Calls Tryz.prog 20 #[.string s] w fun e w' => e = .returned (.float .f64 (r + sgn neg)) ∧ Below w.heap.size w w') (w : World) (hE : NEnv w) :
    Calls Tryz.prog 8 #[.string s] w fun e w' => e = .returned (.tuple #[.agg #[.int .i64 3, .int .i64 0, .float .f64 (r + sgn neg)], .int .i64 0]) ∧ Below w.heap.size w w' := by
  have hne : T ≠ [] := by
    intro e
    subst e
    simp [adv, fm] at h
  have hp := pf_text hT hne (by rw [h]; decide)
  rw [h] at hp
  exact read_frac s s.size r neg rfl (by rw [← nats_length, hT]; exact hn) hp hr hF w hE
/-- .. of a float's own text -/
theorem read_float (s : Bool) (a : Nat) (h1 : a < 9218868437227405312) (S : ByteArray) (w0 : World) (e0 : Ending) (w0' : World) (ht : TtPost s a w0 e0 w0') (he : e0 = .returned (.string S)) (w : World) (hE : NEnv w) :
    Calls Tryz.prog 8 #[.string S] w fun e w' => e = .returned (.tuple #[.agg #[.int .i64 3, .int .i64 0, .float .f64 (a + sgn s)], .int .i64 0]) ∧ Below w.heap.size w w' := by
  obtain ⟨_, h | h | h⟩ := ht
  · omega
  · obtain ⟨rfl, h⟩ := h
    rw [h] at he
    injection he with he
    injection he with he
    have hs : SpOf [48, 46, 48] [] (-1) := ⟨by decide, by decide, by decide⟩
    cases s with
    | false =>
      have hS : nats S = [48, 46, 48] := by rw [← he]; decide
      have hz : S.size = 3 := by rw [← nats_length, hS]; rfl
      refine read_text hS (by simp) (by decide) (by omega) (fun w hE => toFloat_zero (x := -1) (spAt_pos (by omega) (by omega) ?_ (by rw [hS]; exact hs)) w hE) w hE
      rw [← nats_length, hS]
      exact e_last (st := 0) (by decide)
    | true =>
      have hS : nats S = 45 :: [48, 46, 48] := by rw [← he]; decide
      have hz : S.size = 4 := by rw [← nats_length, hS]; rfl
      refine read_text hS (by simp) (by decide) (by omega) (fun w hE => toFloat_zero (x := -1) (spAt_neg hS (by omega) (by omega) ?_ hs) w hE) w hE
      rw [← nats_length, hS]
      exact e_last (st := 0) (by decide)
  · obtain ⟨h0, _, q, y, hC, hq, hbd, h⟩ := h
    rw [h] at he
    injection he with he
    injection he with he
    obtain ⟨c0, L2, hd, e1, e2⟩ := dgs_head q (by omega)
    have hL : ∀ c ∈ L2, 48 ≤ c ∧ c ≤ 57 := fun c hc => dgs_bytes q c (by rw [hd]; simp [hc])
    have hlen := layT_len q y hbd
    have hlt := layT_lt (dgs q) ((dgs q).length + y) (fun c hc => by have := dgs_bytes q c hc; omega)
    obtain ⟨k, hsp, hk⟩ := lay_split c0 L2 ((dgs q).length + y) e1 e2 hL (by have := hbd.2.2.1; omega) (by have := hbd.2.2.2; omega)
    have hf0 := adv_lay 0 (.inl rfl) c0 L2 ((dgs q).length + y) e1 e2 hL
    have hf1 := adv_lay 1 (.inr rfl) c0 L2 ((dgs q).length + y) e1 e2 hL
    rw [← hd] at hsp hf0 hf1
    have htf := tf_of_cand h0 h1 hC hq k hk
    generalize layT (dgs q) ((dgs q).length + y) = T at *
    have hTne : 0 < T.length := by
      cases T with
      | nil => simp [adv, fm] at hf0
      | cons c r => simp
    cases s with
    | false =>
      have hS : nats S = T := by rw [← he]; exact nats_strN _ (by simpa using hlt)
      have hz : S.size = T.length := by rw [← nats_length, hS]
      refine read_text hS (by omega) hf0 h1 (fun w hE => toFloat_any rfl (spAt_pos (by omega) (by omega) ?_ (by rw [hS]; exact hsp)) htf w hE) w hE
      rw [hz, hS]
      exact e_last (st := 0) (by rw [hf0]; decide)
    | true =>
      have hS : nats S = 45 :: T := by
        rw [← he]
        exact nats_strN _ (by
          intro c hc
          simp only [if_true, List.cons_append, List.nil_append, List.mem_cons] at hc
          rcases hc with rfl | hc
          · omega
          · exact hlt c hc)
      have hz : S.size = T.length + 1 := by rw [← nats_length, hS]; rfl
      have hf : fm (adv 0 (45 :: T)) = 2 := by rw [adv_sign]; exact hf1
      refine read_text hS (by simp; omega) hf h1 (fun w hE => toFloat_any rfl (spAt_neg hS (by omega) (by omega) ?_ hsp) htf w hE) w hE
      rw [hz, hS]
      exact e_last (st := 0) (T := 45 :: T) (by rw [hf]; decide)
/-- .. of a whole number's text -/
theorem read_wtx (x : Int) (h1 : -9223372036854775808 ≤ x) (h2 : x ≤ 9223372036854775807) (w : World) :
    Calls Tryz.prog 8 #[.string (strN (wtx x))] w fun e w' => e = .returned (.tuple #[.agg #[.int .i64 2, .int .i64 x, .float .f64 0], .int .i64 0]) ∧ Below w.heap.size w w' := by
  have hc : nats (strN (wtx x)) = wtx x := nats_strN _ (fun c hc => by have := wtx_chars x c hc; omega)
  have hl : (strN (wtx x)).size = (wtx x).length := strN_size _
  have hw := wtx_len x h1 h2
  have hne : wtx x ≠ [] := by
    unfold wtx
    split
    · simp
    · exact dgs_ne _
  have hp := pf_text hc hne (by rw [adv_whole]; decide)
  rw [adv_whole] at hp
  exact read_whole (strN (wtx x)) (strN (wtx x)).size x rfl (by omega) hp (fun w => shelf.strconv_ParseInt_10_at64_ok (strN (wtx x)) (by omega) x (parse_wtx x h1 h2) w) w
end Go.Proofs.YtjciflgnlldgbaaGreatDoor.pg
