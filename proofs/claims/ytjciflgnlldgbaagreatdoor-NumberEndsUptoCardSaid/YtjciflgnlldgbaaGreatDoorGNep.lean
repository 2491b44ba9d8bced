/- PLAIN LEAN: what a number's prefix tells, by the forms of whole texts alone. NumberEnds, walked. NumberEnds at any place. -/
import Derived.Test.YtjciflgnlldgbaaGreatDoorYNr
section
namespace Go.Proofs.YtjciflgnlldgbaaGreatDoor.dcm
open Go.RowKit mem fl big us uw pg sh
set_option linter.unusedVariables false

/-- what 'run' answers over a list read from a state on -/
def Rn (st e f : Int) (i : Nat) (M : List Nat) (x : Int × Int × Int) : Prop := ∃ t : Nat, t ≤ M.length ∧ x.2.1 = ((i + t : Nat) : Int) ∧ (st ≠ 9 → pfx.adv st (M.take t) ≠ 9) ∧ (t < M.length → pfx.adv st (M.take (t + 1)) = 9) ∧
  ((x.1 = e ∧ x.2.2 = f ∧ ∀ k, 1 ≤ k → k ≤ t → pfx.fm (pfx.adv st (M.take k)) = 0) ∨
   ∃ u : Nat, 1 ≤ u ∧ u ≤ t ∧ x.1 = ((i + u : Nat) : Int) ∧ x.2.2 = pfx.fm (pfx.adv st (M.take u)) ∧ pfx.fm (pfx.adv st (M.take u)) ≠ 0 ∧ ∀ k, u < k → k ≤ t → pfx.fm (pfx.adv st (M.take k)) = 0)
theorem run_spec : ∀ (M : List Nat) (st e f : Int) (i : Nat), Rn st e f i M (pfx.run st e f i (M.map fun n : Nat => (n : Int)))
  | [], st, e, f, i => ⟨0, Nat.le_refl _, by simp [pfx.run], fun h => h, fun h => absurd h (by simp), .inl ⟨rfl, rfl, fun k h1 h2 => by omega⟩⟩
  | c :: r, st, e, f, i => by
    rw [List.map_cons]
    show Rn st e f i (c :: r) (if pfx.nx st (c : Int) = 9 then (e, (i : Int), f) else if pfx.fm (pfx.nx st (c : Int)) = 0 then pfx.run (pfx.nx st (c : Int)) e f (i + 1) (r.map fun n : Nat => (n : Int)) else pfx.run (pfx.nx st (c : Int)) ((i : Int) + 1) (pfx.fm (pfx.nx st (c : Int))) (i + 1) (r.map fun n : Nat => (n : Int)))
    have hk1 : ∀ k, 1 ≤ k → pfx.adv st ((c :: r).take k) = pfx.adv (pfx.nx st (c : Int)) (r.take (k - 1)) := fun k hk => by
      obtain ⟨j, rfl⟩ : ∃ j, k = j + 1 := ⟨k - 1, by omega⟩
      rw [List.take_succ_cons, pfx.adv_cons, Nat.add_sub_cancel]
    by_cases h9 : pfx.nx st (c : Int) = 9
    · rw [if_pos h9]
      refine ⟨0, Nat.zero_le _, by simp, fun h => h, fun _ => ?_, .inl ⟨rfl, rfl, fun k h1 h2 => by omega⟩⟩
      rw [hk1 _ (by omega), h9]
      exact pfx.adv9 _
    · rw [if_neg h9]
      by_cases h0 : pfx.fm (pfx.nx st (c : Int)) = 0
      · rw [if_pos h0]
        obtain ⟨t, ht, hs, ha, hb, hc⟩ := run_spec r (pfx.nx st (c : Int)) e f (i + 1)
        refine ⟨t + 1, by simp only [List.length_cons]; omega, by rw [hs]; omega, fun _ => ?_, fun hlt => ?_, ?_⟩
        · rw [hk1 _ (by omega)]; exact ha h9
        · rw [hk1 _ (by omega)]; exact hb (by simp only [List.length_cons] at hlt; omega)
        · rcases hc with ⟨h1, h2, h3⟩ | ⟨u, hu1, hu2, h1, h2, h3, h4⟩
          · refine .inl ⟨h1, h2, fun k hk hkt => ?_⟩
            rw [hk1 k hk]
            rcases Nat.lt_or_ge (k - 1) 1 with hh | hh
            · rw [show k - 1 = 0 by omega]; exact h0
            · exact h3 _ hh (by omega)
          · refine .inr ⟨u + 1, by omega, by omega, by rw [h1]; omega, ?_, ?_, fun k hk hkt => ?_⟩
            · rw [hk1 _ (by omega)]; exact h2
            · rw [hk1 _ (by omega)]; exact h3
            · rw [hk1 _ (by omega)]; exact h4 _ (by omega) (by omega)
      · rw [if_neg h0]
        obtain ⟨t, ht, hs, ha, hb, hc⟩ := run_spec r (pfx.nx st (c : Int)) ((i : Int) + 1) (pfx.fm (pfx.nx st (c : Int))) (i + 1)
        refine ⟨t + 1, by simp only [List.length_cons]; omega, by rw [hs]; omega, fun _ => ?_, fun hlt => ?_, ?_⟩
        · rw [hk1 _ (by omega)]; exact ha h9
        · rw [hk1 _ (by omega)]; exact hb (by simp only [List.length_cons] at hlt; omega)
        · rcases hc with ⟨h1, h2, h3⟩ | ⟨u, hu1, hu2, h1, h2, h3, h4⟩
          · refine .inr ⟨1, by omega, by omega, by rw [h1]; omega, ?_, ?_, fun k hk hkt => ?_⟩
            · rw [hk1 _ (by omega)]; exact h2
            · rw [hk1 _ (by omega)]; exact h0
            · rw [hk1 _ (by omega)]; exact h3 _ (by omega) (by omega)
          · refine .inr ⟨u + 1, by omega, by omega, by rw [h1]; omega, ?_, ?_, fun k hk hkt => ?_⟩
            · rw [hk1 _ (by omega)]; exact h2
            · rw [hk1 _ (by omega)]; exact h3
            · rw [hk1 _ (by omega)]; exact h4 _ (by omega) (by omega)
theorem adv_range (M : List Nat) : ∀ st : Int, 0 ≤ st → st ≤ 9 → 0 ≤ pfx.adv st M ∧ pfx.adv st M ≤ 9 := by
  induction M with
  | nil => intro st h1 h2; exact ⟨h1, h2⟩
  | cons c r ih =>
    intro st h1 h2
    rw [pfx.adv_cons]
    have := pfx.nx_range st (c : Int)
    exact ih _ this.1 this.2
theorem form_app48 (M : List Nat) : form (M ++ [48]) = pfx.fm (pfx.nx (pfx.adv 0 M) 48) := by
  unfold form
  rw [pfx.adv_app]
  rfl
/-- what 'Prefix' tells of the texts that begin at a place -/
theorem pf_spec (L : List Nat) (a : Nat) (ha : a ≤ L.length) : ∃ u t : Nat, u ≤ t ∧ a + t ≤ L.length ∧ pfx.pf (L.map fun n : Nat => (n : Int)) a = (((a + u : Nat) : Int), ((a + t : Nat) : Int), form ((L.drop a).take u)) ∧ (u = 0 → form ((L.drop a).take u) = 0) ∧ (0 < u → form ((L.drop a).take u) ≠ 0) ∧ (∀ k, u < k → k ≤ t → form ((L.drop a).take k) = 0) ∧
    (form ((L.drop a).take t) = 0 → form ((L.drop a).take t ++ [48]) ≠ 0) ∧ (a + t < L.length → form ((L.drop a).take (t + 1)) = 0 ∧ form ((L.drop a).take (t + 1) ++ [48]) = 0) := by
  have hp : pfx.pf (L.map fun n : Nat => (n : Int)) a = pfx.run 0 (a : Int) 0 a ((L.drop a).map fun n : Nat => (n : Int)) := by
    unfold pfx.pf
    rw [if_neg (by rw [List.length_map]; omega), Int.toNat_natCast, ← List.map_drop]
  obtain ⟨t, ht, hs, h9, hlt, hc⟩ := run_spec (L.drop a) 0 (a : Int) 0 a
  rw [← hp] at hs hc
  rw [List.length_drop] at ht hlt
  have h4 : form ((L.drop a).take t) = 0 → form ((L.drop a).take t ++ [48]) ≠ 0 := by
    rw [form_app48]
    unfold form
    have h1 := adv_range ((L.drop a).take t) 0 (by omega) (by omega)
    have h2 := h9 (by omega)
    obtain ⟨s, hs⟩ : ∃ s, pfx.adv 0 ((L.drop a).take t) = s := ⟨_, rfl⟩
    rw [hs] at h1 h2 ⊢
    have h3 : s = 0 ∨ s = 1 ∨ s = 2 ∨ s = 3 ∨ s = 4 ∨ s = 5 ∨ s = 6 ∨ s = 7 ∨ s = 8 := by omega
    rcases h3 with rfl | rfl | rfl | rfl | rfl | rfl | rfl | rfl | rfl <;> decide
  have h5 : a + t < L.length → form ((L.drop a).take (t + 1)) = 0 ∧ form ((L.drop a).take (t + 1) ++ [48]) = 0 := fun h => by
    have h6 := hlt (Nat.lt_sub_of_add_lt (by rw [Nat.add_comm]; exact h))
    rw [form_app48]
    unfold form
    rw [h6]
    exact ⟨by decide, by decide⟩
  rcases hc with ⟨e1, e2, e3⟩ | ⟨u, hu1, hu2, e1, e2, e3, e4⟩
  · refine ⟨0, t, Nat.zero_le _, by omega, ?_, fun _ => rfl, fun h => absurd h (by omega), fun k hk hkt => e3 k hk hkt, h4, h5⟩
    refine Prod.ext (by rw [e1]; simp) (Prod.ext hs (by rw [e2]; rfl))
  · refine ⟨u, t, hu2, by omega, Prod.ext e1 (Prod.ext hs e2), fun h => absurd h (by omega), fun _ => e3, e4, h4, h5⟩
theorem nm_form {P : Nat} {l : List Nat} {k v : Int} {b : Nat} {er : Int} (h : Nm P l k v b er) : (form l = 0 → er = 20) ∧ (form l ≠ 0 → er ≠ 20) ∧ (form l = 1 → k = 2 ∨ k = 3 ∨ er = 7) := by
  obtain ⟨R, _, h⟩ := h
  unfold ans fltV at h
  by_cases h0 : form l = 0
  · rw [if_pos h0] at h
    injection h with h
    simp at h
    exact ⟨fun _ => by omega, fun hh => absurd h0 hh, fun hh => by omega⟩
  · rw [if_neg h0] at h
    by_cases h1 : form l = 1 ∧ fits l
    · rw [if_pos h1] at h
      injection h with h
      simp at h
      exact ⟨fun hh => absurd hh h0, fun _ => by omega, fun _ => by omega⟩
    · rw [if_neg h1] at h
      split at h
      · injection h with h
        simp at h
        exact ⟨fun hh => absurd hh h0, fun _ => by omega, fun _ => by omega⟩
      · injection h with h
        simp at h
        exact ⟨fun hh => absurd hh h0, fun _ => by omega, fun _ => by omega⟩
end Go.Proofs.YtjciflgnlldgbaaGreatDoor.dcm
end
section
namespace Go.Proofs.YtjciflgnlldgbaaGreatDoor.dcm
open Go.RowKit mem fl big us uw pg sh
set_option linter.unusedVariables false
attribute [local go_sem] run_store_float

set_option maxRecDepth 100000 in
set_option maxHeartbeats 400000 in
theorem isNumber_any {P z : Nat} (hz : z = 1074) (hP : P = 2 ^ z) (s : ByteArray) (hn : s.size ≤ 1100000) (d : Bool) (hd : (d = true ↔ form (nats s) ≠ 0)) (w : World) (hE : REnv w) :
    Calls Tryz.prog 14 #[.string s] w fun e w' => e = .returned (.bool d) ∧ Below w.heap.size w w' := by
  have HRd := Lib.hid (read_parts' hz hP s hn w hE)
  have HD := Lib.hid hd
  clear hz hP hn hd hE
  go_enter Tryz.func14, Tryz.ntmps14
  go_wp2_with fail
  refine HRd.out.mono ?_
  rintro e w2 ⟨k, v, b, er, HNm, rfl, hb2⟩
  have hf := nm_form HNm.out
  have hdr : (er != 20) = d := by
    rw [Bool.eq_iff_iff, HD.out, bne_iff_ne]
    exact ⟨fun h h0 => h (hf.1 h0), fun h => hf.2.1 h⟩
  have HB2 := Lib.hid (hb2.alloc hb2.size (.cells #[.int .i64 k, .int .i64 v, .float .f64 b] 27))
  clear HNm hf HD hb2 HRd
  go_wp2_with fail
  go_ret
  exact ⟨by first | rfl | rw [hdr], HB2.out⟩
theorem nats_ext (s : ByteArray) (i j : Nat) : nats (s.extract i j) = ((nats s).drop i).take (j - i) := by
  unfold nats
  rw [ByteArray.data_extract, Array.toList_extract, List.extract_eq_take_drop, List.map_take, List.map_drop]
theorem nats_add0 (s : ByteArray) : nats (s ++ ⟨#[48]⟩) = nats s ++ [48] := by
  unfold nats
  rw [ByteArray.data_append, Array.toList_append, List.map_append]
  rfl

set_option maxRecDepth 100000 in
set_option maxHeartbeats 400000 in
theorem numberEnds_out {P z : Nat} (hz : z = 1074) (hP : P = 2 ^ z) (s : ByteArray) (n : Nat) (hsz : s.size = n) (hn : n ≤ 1048576) (p : Int) (hp1 : -9223372036854775808 ≤ p) (hp2 : p ≤ 9223372036854775807) (hout : p < 0 ∨ (n : Int) < p) (w : World) (hE : REnv w) :
    Calls Tryz.prog 5 #[.string s, .int .i64 p] w fun e w' => e = .returned (.bool true) ∧ Below w.heap.size w w' := by
  have HE := Lib.hid hE
  have HFx := Lib.hid (fixed_any w hE.ne.lt hE.ne.hi hE.ne.ho hE.ne.pow hE.ne.tab)
  have HI1 := Lib.hid (fun W (hW : REnv W) => isNumber_any hz hP ⟨#[49, 50, 46]⟩ (by decide) false (by decide) W hW)
  have HI2 := Lib.hid (fun W (hW : REnv W) => isNumber_any hz hP ⟨#[]⟩ (by decide) false (by decide) W hW)
  have hpf : pfx.pf (intsOf s) p = (0, 0, 0) := by
    unfold pfx.pf
    rw [if_pos (by rw [show (intsOf s).length = n by simp [intsOf, nats_length, hsz]]; exact hout)]
  have HP := Lib.hid (fun (W : World) (c : Nat) => by
    have h := pfx.prefix_any (some ⟨W.heap.size, 0, none⟩) c (intsOf s) p _ _ (bytes_rd W 5 s) (by simp [intsOf, nats_length]; omega) (by
      intro x hx
      simp only [intsOf, nats, List.map_map, List.mem_map, Function.comp] at hx
      obtain ⟨b, _, rfl⟩ := hx
      have := b.toNat_lt
      omega) ⟨hp1, hp2⟩
    rw [show (intsOf s).length = n by simp [intsOf, nats_length, hsz], hpf] at h
    exact h)
  have hcv : ∀ w : World, (convert 9 45 (.string s)).run Tryz.prog w = _ := fun w => Lib.run_convert_string_bytes w 9 45 5 s Tryz.underlying9 Tryz.underlying45 Tryz.underlying5
  rw [hsz] at hcv
  have HB := Lib.hid (fun w => below_bytes w 5 s)
  have hor : decide (p < 0) = true ∨ (decide (p < 0) = false ∧ (n : Int) < p) := by
    rcases hout with h | h
    · exact .inl (decide_eq_true h)
    · by_cases h0 : p < 0
      · exact .inl (decide_eq_true h0)
      · exact .inr ⟨decide_eq_false h0, h⟩
  clear hz hP hpf hE
  go_enter Tryz.func5, Tryz.ntmps5
  go_wp2_with fail
  refine HFx.out.mono ?_
  rintro e w1 ⟨rfl, hb1⟩
  have HB1 := Lib.hid hb1
  clear hb1 HFx
  go_wp2_with fail
  refine (HI1.out w1 (HE.out.below HB1.out)).mono ?_
  rintro e w2 ⟨rfl, hb2⟩
  have HB2 := Lib.hid (HB1.out.trans (hb2.mono HB1.out.size))
  clear hb2
  go_wp2_with fail
  refine (HI2.out w2 (HE.out.below HB2.out)).mono ?_
  rintro e w3 ⟨rfl, hb3⟩
  have HB3 := Lib.hid (HB2.out.trans (hb3.mono HB2.out.size))
  clear hb3
  go_wp2_with fail
  refine (HP.out w3 _).mono ?_
  rintro e w4 ⟨rfl, rfl⟩
  have HB4 := Lib.hid (HB3.out.trans ((HB.out w3).mono HB3.out.size))
  clear hcv HP HB
  go_wp2_with fail
  all_goals
    go_ret
    exact ⟨rfl, HB4.out⟩
set_option maxRecDepth 100000 in
set_option maxHeartbeats 16000000 in
theorem numberEnds_in {P z : Nat} (hz : z = 1074) (hP : P = 2 ^ z) (s : ByteArray) (n : Nat) (hsz : s.size = n) (hn : n ≤ 1048576) (a : Nat) (han : a ≤ n) (w : World) (hE : REnv w) :
    Calls Tryz.prog 5 #[.string s, .int .i64 (a : Int)] w fun e w' => e = .returned (.bool true) ∧ Below w.heap.size w w' := by
  have HE := Lib.hid hE
  have HFx := Lib.hid (fixed_any w hE.ne.lt hE.ne.hi hE.ne.ho hE.ne.pow hE.ne.tab)
  have HI1 := Lib.hid (fun W (hW : REnv W) => isNumber_any hz hP ⟨#[49, 50, 46]⟩ (by decide) false (by decide) W hW)
  have HI2 := Lib.hid (fun W (hW : REnv W) => isNumber_any hz hP ⟨#[]⟩ (by decide) false (by decide) W hW)
  have hxs : ∀ i j, (s.extract i j).size ≤ n := fun i j => by rw [ByteArray.size_extract, ← hsz]; omega
  have HIs := Lib.hid (fun (i j : Nat) (W : World) (hW : REnv W) (d : Bool) (hd : d = true ↔ form (((nats s).drop i).take (j - i)) ≠ 0) => isNumber_any hz hP (s.extract i j) (by have := hxs i j; omega) d (by rw [nats_ext]; exact hd) W hW)
  have HIz := Lib.hid (fun (i j : Nat) (W : World) (hW : REnv W) (d : Bool) (hd : d = true ↔ form (((nats s).drop i).take (j - i) ++ [48]) ≠ 0) => isNumber_any hz hP (s.extract i j ++ ⟨#[48]⟩) (by have := hxs i j; rw [ByteArray.size_append]; show (s.extract i j).size + 1 ≤ _; omega) d (by rw [nats_add0, nats_ext]; exact hd) W hW)
  have HRd := Lib.hid (fun (i j : Nat) (W : World) (hW : REnv W) => read_parts' hz hP (s.extract i j) (by have := hxs i j; omega) W hW)
  have hcz : ∀ (i j : Nat) (W : World), (Op.stringOp .add (s.extract i j) ⟨#[48]⟩).run Tryz.prog W = .ok (.string (s.extract i j ++ ⟨#[48]⟩)) W := fun i j W => run_string_add_sum W _ _ (by have := hxs i j; show (s.extract i j).size + 1 ≤ _; omega)
  have hnl : (nats s).length = n := by rw [nats_length, hsz]
  obtain ⟨u, t, hut, htn, hpf, hu0, hu1, hK, hT0, hT1⟩ := pf_spec (nats s) a (by rw [hnl]; exact han)
  rw [hnl] at htn hT1
  obtain ⟨F, hF⟩ : ∃ F, form (((nats s).drop a).take u) = F := ⟨_, rfl⟩
  obtain ⟨E, hEu⟩ : ∃ E, E = a + u := ⟨_, rfl⟩
  obtain ⟨T, hTt⟩ : ∃ T, T = a + t := ⟨_, rfl⟩
  rw [hF, ← hEu, ← hTt] at hpf
  have hpf : pfx.pf (intsOf s) (a : Int) = ((E : Int), (T : Int), F) := hpf
  have HP := Lib.hid (fun (W : World) (c : Nat) => by
    have h := pfx.prefix_any (some ⟨W.heap.size, 0, none⟩) c (intsOf s) (a : Int) _ _ (bytes_rd W 5 s) (by simp [intsOf, nats_length]; omega) (by
      intro x hx
      simp only [intsOf, nats, List.map_map, List.mem_map, Function.comp] at hx
      obtain ⟨b, _, rfl⟩ := hx
      have := b.toNat_lt
      omega) ⟨by omega, by omega⟩
    rw [show (intsOf s).length = n by simp [intsOf, nats_length, hsz], hpf] at h
    exact h)
  have hcv : ∀ w : World, (convert 9 45 (.string s)).run Tryz.prog w = _ := fun w => Lib.run_convert_string_bytes w 9 45 5 s Tryz.underlying9 Tryz.underlying45 Tryz.underlying5
  rw [hsz] at hcv
  have HB := Lib.hid (fun w => below_bytes w 5 s)
  have haE : a ≤ E := by omega
  have hET : E ≤ T := by omega
  have hTn : T ≤ n := by omega
  have HKs := Lib.hid (fun (k : Nat) (h1 : E < k) (h2 : k ≤ T) => (show (false = true ↔ form (((nats s).drop a).take (k - a)) ≠ 0) from by
    have := hK (k - a) (by omega) (by omega)
    exact ⟨fun h => (by cases h), fun h => absurd this h⟩))
  have heu : E - a = u := by omega
  have htt : T - a = t := by omega
  have ht1 : T + 1 - a = t + 1 := by omega
  have HFm : ∃ d : Bool, Hid (d = true ↔ form (((nats s).drop a).take (E - a)) ≠ 0) ∧ (F != 0) = d ∧ (F == 0) = (!d) ∧ ((d = true ∧ a < E ∧ Hid (F = form (nats (s.extract a E))) ∧ (F = 1 ∨ F = 2)) ∨ (d = false ∧ E = a)) := by
    rw [heu, hF]
    by_cases h0 : u = 0
    · have h1 := hu0 h0
      rw [hF] at h1
      exact ⟨false, Lib.hid ⟨fun h => (by cases h), fun h => absurd h1 h⟩, by rw [h1]; rfl, by rw [h1]; rfl, .inr ⟨rfl, by omega⟩⟩
    · have h1 := hu1 (by omega)
      rw [hF] at h1
      refine ⟨true, Lib.hid ⟨fun _ => h1, fun _ => rfl⟩, bne_iff_ne.2 h1, beq_false_of_ne h1, .inl ⟨rfl, by omega, Lib.hid (by rw [nats_ext, heu, hF]), ?_⟩⟩
      rcases fm_range (pfx.adv 0 (((nats s).drop a).take u)) with hfm | hfm | hfm
      · exact absurd (hF.symm.trans hfm) h1
      · exact .inl (hF.symm.trans hfm)
      · exact .inr (hF.symm.trans hfm)
  have HTm : ∃ d2 d3 : Bool, Hid ((d2 = true ↔ form (((nats s).drop a).take (T - a)) ≠ 0) ∧ (d3 = true ↔ form (((nats s).drop a).take (T - a) ++ [48]) ≠ 0)) ∧ (d2 = true ∨ (d2 = false ∧ d3 = true)) := by
    rw [htt]
    by_cases h0 : form (((nats s).drop a).take t) = 0
    · have h1 := hT0 h0
      exact ⟨false, true, Lib.hid ⟨⟨fun h => (by cases h), fun h => absurd h0 h⟩, ⟨fun _ => h1, fun _ => rfl⟩⟩, .inr ⟨rfl, rfl⟩⟩
    · exact ⟨true, decide (form (((nats s).drop a).take t ++ [48]) ≠ 0), Lib.hid ⟨⟨fun _ => h0, fun _ => rfl⟩, decide_eq_true_iff⟩, .inl rfl⟩
  have HT1 := Lib.hid (fun (h : T < n) => (show ((false = true ↔ form (((nats s).drop a).take (T + 1 - a)) ≠ 0) ∧ (false = true ↔ form (((nats s).drop a).take (T + 1 - a) ++ [48]) ≠ 0)) from by
    rw [ht1]
    obtain ⟨h1, h2⟩ := hT1 (by omega)
    exact ⟨⟨fun h => (by cases h), fun h => absurd h1 h⟩, ⟨fun h => (by cases h), fun h => absurd h2 h⟩⟩))
  clear hz hP hpf hE hxs hut htn hu0 hu1 hK hT0 hT1 hF hEu hTt heu htt ht1 hnl
  have hna : ¬ ((a : Int) < 0) := by omega
  have hna2 : ¬ ((n : Int) < (a : Int)) := by omega
  have hEa : ¬ ((E : Int) < (a : Int)) := by omega
  have hTE : ¬ ((T : Int) < (E : Int)) := by omega
  have hnT : ¬ ((n : Int) < (T : Int)) := by omega
  go_enter Tryz.func5, Tryz.ntmps5
  go_wp2_with fail
  refine HFx.out.mono ?_
  rintro e w1 ⟨rfl, hb1⟩
  have HB1 := Lib.hid hb1
  clear hb1 HFx
  go_wp2_with fail
  refine (HI1.out w1 (HE.out.below HB1.out)).mono ?_
  rintro e w2 ⟨rfl, hb2⟩
  have HB2 := Lib.hid (HB1.out.trans (hb2.mono HB1.out.size))
  clear hb2
  go_wp2_with fail
  refine (HI2.out w2 (HE.out.below HB2.out)).mono ?_
  rintro e w3 ⟨rfl, hb3⟩
  have HB3 := Lib.hid (HB2.out.trans (hb3.mono HB2.out.size))
  clear hb3 HI1 HI2
  go_wp2_with fail
  refine (HP.out w3 _).mono ?_
  rintro e w4 ⟨rfl, rfl⟩
  have HB4 := Lib.hid (HB3.out.trans ((HB.out w3).mono HB3.out.size))
  clear hcv HP HB
  generalize Lib.bytesWorld w3 5 s = w4 at *
  clear HB1 HB2 HB3
  go_wp2_with fail
  have hz1 : decide (E < a) = false := decide_eq_false (by omega)
  have hz2 : decide (T < E) = false := decide_eq_false (by omega)
  have hz3 : decide (n < T) = false := decide_eq_false (by omega)
  have hz4 : decide ((a : Int) < 0) = false := decide_eq_false (by omega)
  try rw [hz1]
  try rw [hz2]
  try rw [hz3]
  try rw [hz4]
  go_loopw [8] (fun v8 wr => ∃ k : Nat, a + 1 ≤ k ∧ k ≤ T + 1 ∧ v8 = .int .i64 (k : Int) ∧ Hid (Below w.heap.size w wr)) (fun v8 _ => T + 1 - (intOf v8).toNat)
  case atStart => exact ⟨a + 1, by omega, by omega, rfl, HB4⟩
  case round =>
    obtain ⟨k, hk1, hk2, rfl, HBk⟩ := hrel
    by_cases hin : k ≤ T ∧ k < E + 24
    · obtain ⟨hin1, hin2⟩ := hin
      by_cases hkE : E < k
      · have HIk := Lib.hid (HIs.out a k wr (HE.out.below HBk.out) false (HKs.out k hkE hin1))
        clear HIs HIz HRd HTm HFm HKs HT1
        go_wp2_with fail
        refine HIk.out.mono ?_
        rintro e w5 ⟨rfl, hb5⟩
        have HB5 := Lib.hid (HBk.out.trans (hb5.mono HBk.out.size))
        clear hb5
        go_wp2_with fail
        exact ⟨⟨_, .int .i64 ((k : Int) + 1), _, _, _, _, _, _, _, _, _, _, _, _, _, _, _, _, _, _, _, _, _, ⟨k + 1, by omega, by omega, by simp, HB5⟩, rfl⟩, by simp [intOf]; omega⟩
      · clear HIs HIz HRd HTm HFm HKs HT1
        go_wp2_with fail
        exact ⟨⟨k + 1, by omega, by omega, by simp, HBk⟩, by simp [intOf]; omega⟩
    · have hks : ¬ k ≤ T ∨ (k ≤ T ∧ ¬ k < E + 24) := by omega
      obtain ⟨d, HD, hF1, hF2, hEs⟩ := HFm
      obtain ⟨d2, d3, HDD, hds⟩ := HTm
      have HJ1 := Lib.hid (fun W (hW : REnv W) => HIs.out a E W hW d HD.out)
      have HJ2 := Lib.hid (fun W (hW : REnv W) => HIs.out a T W hW d2 HDD.out.1)
      have HJ3 := Lib.hid (fun W (hW : REnv W) => HIz.out a T W hW d3 HDD.out.2)
      have HJ4 := Lib.hid (fun (h : T < n) W (hW : REnv W) => HIs.out a (T + 1) W hW false (HT1.out h).1)
      have HJ5 := Lib.hid (fun (h : T < n) W (hW : REnv W) => HIz.out a (T + 1) W hW false (HT1.out h).2)
      have HJ6 := Lib.hid (fun W (hW : REnv W) => HRd.out a E W hW)
      clear HIs HIz HRd HKs HT1 HD HDD hin HB4
      have hTd : ∃ b : Bool, decide (T < n) = b ∧ ((b = true ∧ T < n ∧ (T : Int) < (n : Int)) ∨ (b = false ∧ ¬ T < n ∧ ¬ (T : Int) < (n : Int))) := by
        by_cases h : T < n
        · exact ⟨true, decide_eq_true h, .inl ⟨rfl, h, by omega⟩⟩
        · exact ⟨false, decide_eq_false h, .inr ⟨rfl, h, by omega⟩⟩
      have HTd := Lib.hid hTd
      clear hTd
      rcases hks with hk3 | ⟨hk3, hk4⟩
      · rcases hEs with ⟨rfl, hlt, HFf, hF12⟩ | ⟨rfl, hEq⟩
        · have hq1 : decide (a < E) = true := decide_eq_true hlt
          have hq2 : (a : Int) < (E : Int) := by omega
          go_wp2_with fail
          refine (HJ1.out wr (HE.out.below HBk.out)).mono ?_
          rintro e w5 ⟨rfl, hbb⟩
          have HB5 := Lib.hid (HBk.out.trans (hbb.mono HBk.out.size))
          clear hbb HJ1 HBk
          go_wp2_with fail
          refine (HJ2.out w5 (HE.out.below HB5.out)).mono ?_
          rintro e w6 ⟨rfl, hbb⟩
          have HB6 := Lib.hid (HB5.out.trans (hbb.mono HB5.out.size))
          clear hbb HJ2 HB5
          rcases hds with rfl | ⟨rfl, rfl⟩
          · obtain ⟨b, hTb, hTc⟩ := HTd.out
            clear HTd
            rcases hTc with ⟨rfl, hTn1, hTn2⟩ | ⟨rfl, hTn1, hTn2⟩
            · go_wp2_with fail
              refine (HJ4.out hTn1 w6 (HE.out.below HB6.out)).mono ?_
              rintro e w7 ⟨rfl, hbb⟩
              have HB7 := Lib.hid (HB6.out.trans (hbb.mono HB6.out.size))
              clear hbb HJ4 HB6
              go_wp2_with fail
              refine (HJ5.out hTn1 w7 (HE.out.below HB7.out)).mono ?_
              rintro e w8 ⟨rfl, hbb⟩
              have HB8 := Lib.hid (HB7.out.trans (hbb.mono HB7.out.size))
              clear hbb HJ5 HB7
              go_wp2_with fail
              refine (HJ6.out w8 (HE.out.below HB8.out)).mono ?_
              rintro e w9 ⟨k9, v9, b9, er, HNm, rfl, hb9⟩
              have hb0 := HB8.out.trans (hb9.mono HB8.out.size)
              have hg3 := heap_alloc_new w9 (.cells #[.int .i64 k9, .int .i64 v9, .float .f64 b9] 27)
              have m0 := blk_cell hg3 (i := 0) (by simp)
              simp only [List.getElem_toArray, List.getElem_cons_zero] at m0
              have HB9 := Lib.hid (hb0.alloc hb0.size (.cells #[.int .i64 k9, .int .i64 v9, .float .f64 b9] 27))
              clear hb9 hb0 hg3 HJ6 HB8
              have hq3 : ((E : Int) == (a : Int)) = false := beq_false_of_ne (by omega)
              have hq4 : decide (E = a) = false := decide_eq_false (by omega)
              have hnf := nm_form HNm.out
              have hkk : F = 2 ∨ (F = 1 ∧ (k9 = 2 ∨ (k9 ≠ 2 ∧ k9 = 3) ∨ (k9 ≠ 2 ∧ k9 ≠ 3 ∧ er = 7))) := by
                rcases hF12 with h | h
                · have h2 := hnf.2.2 (HFf.out.symm.trans h)
                  omega
                · exact .inl h
              clear hnf HNm hF12 HFf
              rcases hkk with rfl | ⟨rfl, rfl | ⟨hk2', rfl⟩ | ⟨hk2', hk3', rfl⟩⟩
              · go_wp2_with fail
                go_ret
                exact ⟨rfl, HB9.out⟩
              · go_wp2_with fail
                go_ret
                exact ⟨rfl, HB9.out⟩
              · go_wp2_with fail
                go_ret
                exact ⟨rfl, HB9.out⟩
              · have hc2 : (k9 == 2) = false := beq_false_of_ne hk2'
                have hc3 : (k9 == 3) = false := beq_false_of_ne hk3'
                have hc4 : decide (k9 = 2) = false := decide_eq_false hk2'
                have hc5 : decide (k9 = 3) = false := decide_eq_false hk3'
                go_wp2_with fail
                go_ret
                exact ⟨rfl, HB9.out⟩
            · go_wp2_with fail
              refine (HJ6.out w6 (HE.out.below HB6.out)).mono ?_
              rintro e w9 ⟨k9, v9, b9, er, HNm, rfl, hb9⟩
              have hb0 := HB6.out.trans (hb9.mono HB6.out.size)
              have hg3 := heap_alloc_new w9 (.cells #[.int .i64 k9, .int .i64 v9, .float .f64 b9] 27)
              have m0 := blk_cell hg3 (i := 0) (by simp)
              simp only [List.getElem_toArray, List.getElem_cons_zero] at m0
              have HB9 := Lib.hid (hb0.alloc hb0.size (.cells #[.int .i64 k9, .int .i64 v9, .float .f64 b9] 27))
              clear hb9 hb0 hg3 HJ6 HB6
              have hq3 : ((E : Int) == (a : Int)) = false := beq_false_of_ne (by omega)
              have hq4 : decide (E = a) = false := decide_eq_false (by omega)
              have hnf := nm_form HNm.out
              have hkk : F = 2 ∨ (F = 1 ∧ (k9 = 2 ∨ (k9 ≠ 2 ∧ k9 = 3) ∨ (k9 ≠ 2 ∧ k9 ≠ 3 ∧ er = 7))) := by
                rcases hF12 with h | h
                · have h2 := hnf.2.2 (HFf.out.symm.trans h)
                  omega
                · exact .inl h
              clear hnf HNm hF12 HFf
              rcases hkk with rfl | ⟨rfl, rfl | ⟨hk2', rfl⟩ | ⟨hk2', hk3', rfl⟩⟩
              · go_wp2_with fail
                go_ret
                exact ⟨rfl, HB9.out⟩
              · go_wp2_with fail
                go_ret
                exact ⟨rfl, HB9.out⟩
              · go_wp2_with fail
                go_ret
                exact ⟨rfl, HB9.out⟩
              · have hc2 : (k9 == 2) = false := beq_false_of_ne hk2'
                have hc3 : (k9 == 3) = false := beq_false_of_ne hk3'
                have hc4 : decide (k9 = 2) = false := decide_eq_false hk2'
                have hc5 : decide (k9 = 3) = false := decide_eq_false hk3'
                go_wp2_with fail
                go_ret
                exact ⟨rfl, HB9.out⟩
          · go_wp2_with fail
            refine (HJ3.out w6 (HE.out.below HB6.out)).mono ?_
            rintro e w6b ⟨rfl, hbb⟩
            have HB6b := Lib.hid (HB6.out.trans (hbb.mono HB6.out.size))
            clear hbb HJ3 HB6
            obtain ⟨b, hTb, hTc⟩ := HTd.out
            clear HTd
            rcases hTc with ⟨rfl, hTn1, hTn2⟩ | ⟨rfl, hTn1, hTn2⟩
            · go_wp2_with fail
              refine (HJ4.out hTn1 w6b (HE.out.below HB6b.out)).mono ?_
              rintro e w7 ⟨rfl, hbb⟩
              have HB7 := Lib.hid (HB6b.out.trans (hbb.mono HB6b.out.size))
              clear hbb HJ4 HB6b
              go_wp2_with fail
              refine (HJ5.out hTn1 w7 (HE.out.below HB7.out)).mono ?_
              rintro e w8 ⟨rfl, hbb⟩
              have HB8 := Lib.hid (HB7.out.trans (hbb.mono HB7.out.size))
              clear hbb HJ5 HB7
              go_wp2_with fail
              refine (HJ6.out w8 (HE.out.below HB8.out)).mono ?_
              rintro e w9 ⟨k9, v9, b9, er, HNm, rfl, hb9⟩
              have hb0 := HB8.out.trans (hb9.mono HB8.out.size)
              have hg3 := heap_alloc_new w9 (.cells #[.int .i64 k9, .int .i64 v9, .float .f64 b9] 27)
              have m0 := blk_cell hg3 (i := 0) (by simp)
              simp only [List.getElem_toArray, List.getElem_cons_zero] at m0
              have HB9 := Lib.hid (hb0.alloc hb0.size (.cells #[.int .i64 k9, .int .i64 v9, .float .f64 b9] 27))
              clear hb9 hb0 hg3 HJ6 HB8
              have hq3 : ((E : Int) == (a : Int)) = false := beq_false_of_ne (by omega)
              have hq4 : decide (E = a) = false := decide_eq_false (by omega)
              have hnf := nm_form HNm.out
              have hkk : F = 2 ∨ (F = 1 ∧ (k9 = 2 ∨ (k9 ≠ 2 ∧ k9 = 3) ∨ (k9 ≠ 2 ∧ k9 ≠ 3 ∧ er = 7))) := by
                rcases hF12 with h | h
                · have h2 := hnf.2.2 (HFf.out.symm.trans h)
                  omega
                · exact .inl h
              clear hnf HNm hF12 HFf
              rcases hkk with rfl | ⟨rfl, rfl | ⟨hk2', rfl⟩ | ⟨hk2', hk3', rfl⟩⟩
              · go_wp2_with fail
                go_ret
                exact ⟨rfl, HB9.out⟩
              · go_wp2_with fail
                go_ret
                exact ⟨rfl, HB9.out⟩
              · go_wp2_with fail
                go_ret
                exact ⟨rfl, HB9.out⟩
              · have hc2 : (k9 == 2) = false := beq_false_of_ne hk2'
                have hc3 : (k9 == 3) = false := beq_false_of_ne hk3'
                have hc4 : decide (k9 = 2) = false := decide_eq_false hk2'
                have hc5 : decide (k9 = 3) = false := decide_eq_false hk3'
                go_wp2_with fail
                go_ret
                exact ⟨rfl, HB9.out⟩
            · go_wp2_with fail
              refine (HJ6.out w6b (HE.out.below HB6b.out)).mono ?_
              rintro e w9 ⟨k9, v9, b9, er, HNm, rfl, hb9⟩
              have hb0 := HB6b.out.trans (hb9.mono HB6b.out.size)
              have hg3 := heap_alloc_new w9 (.cells #[.int .i64 k9, .int .i64 v9, .float .f64 b9] 27)
              have m0 := blk_cell hg3 (i := 0) (by simp)
              simp only [List.getElem_toArray, List.getElem_cons_zero] at m0
              have HB9 := Lib.hid (hb0.alloc hb0.size (.cells #[.int .i64 k9, .int .i64 v9, .float .f64 b9] 27))
              clear hb9 hb0 hg3 HJ6 HB6b
              have hq3 : ((E : Int) == (a : Int)) = false := beq_false_of_ne (by omega)
              have hq4 : decide (E = a) = false := decide_eq_false (by omega)
              have hnf := nm_form HNm.out
              have hkk : F = 2 ∨ (F = 1 ∧ (k9 = 2 ∨ (k9 ≠ 2 ∧ k9 = 3) ∨ (k9 ≠ 2 ∧ k9 ≠ 3 ∧ er = 7))) := by
                rcases hF12 with h | h
                · have h2 := hnf.2.2 (HFf.out.symm.trans h)
                  omega
                · exact .inl h
              clear hnf HNm hF12 HFf
              rcases hkk with rfl | ⟨rfl, rfl | ⟨hk2', rfl⟩ | ⟨hk2', hk3', rfl⟩⟩
              · go_wp2_with fail
                go_ret
                exact ⟨rfl, HB9.out⟩
              · go_wp2_with fail
                go_ret
                exact ⟨rfl, HB9.out⟩
              · go_wp2_with fail
                go_ret
                exact ⟨rfl, HB9.out⟩
              · have hc2 : (k9 == 2) = false := beq_false_of_ne hk2'
                have hc3 : (k9 == 3) = false := beq_false_of_ne hk3'
                have hc4 : decide (k9 = 2) = false := decide_eq_false hk2'
                have hc5 : decide (k9 = 3) = false := decide_eq_false hk3'
                go_wp2_with fail
                go_ret
                exact ⟨rfl, HB9.out⟩
        · have HEq := Lib.hid hEq
          have hq1 : decide (a < E) = false := decide_eq_false (by omega)
          have hq2 : ¬ (a : Int) < (E : Int) := by omega
          clear hEq
          go_wp2_with fail
          refine (HJ1.out wr (HE.out.below HBk.out)).mono ?_
          rintro e w5 ⟨rfl, hbb⟩
          have HB5 := Lib.hid (HBk.out.trans (hbb.mono HBk.out.size))
          clear hbb HJ1 HBk
          go_wp2_with fail
          refine (HJ2.out w5 (HE.out.below HB5.out)).mono ?_
          rintro e w6 ⟨rfl, hbb⟩
          have HB6 := Lib.hid (HB5.out.trans (hbb.mono HB5.out.size))
          clear hbb HJ2 HB5
          rcases hds with rfl | ⟨rfl, rfl⟩
          · obtain ⟨b, hTb, hTc⟩ := HTd.out
            clear HTd
            rcases hTc with ⟨rfl, hTn1, hTn2⟩ | ⟨rfl, hTn1, hTn2⟩
            · go_wp2_with fail
              refine (HJ4.out hTn1 w6 (HE.out.below HB6.out)).mono ?_
              rintro e w7 ⟨rfl, hbb⟩
              have HB7 := Lib.hid (HB6.out.trans (hbb.mono HB6.out.size))
              clear hbb HJ4 HB6
              go_wp2_with fail
              refine (HJ5.out hTn1 w7 (HE.out.below HB7.out)).mono ?_
              rintro e w8 ⟨rfl, hbb⟩
              have HB8 := Lib.hid (HB7.out.trans (hbb.mono HB7.out.size))
              clear hbb HJ5 HB7
              go_wp2_with fail
              refine (HJ6.out w8 (HE.out.below HB8.out)).mono ?_
              rintro e w9 ⟨k9, v9, b9, er, HNm, rfl, hb9⟩
              have hb0 := HB8.out.trans (hb9.mono HB8.out.size)
              have hg3 := heap_alloc_new w9 (.cells #[.int .i64 k9, .int .i64 v9, .float .f64 b9] 27)
              have m0 := blk_cell hg3 (i := 0) (by simp)
              simp only [List.getElem_toArray, List.getElem_cons_zero] at m0
              have HB9 := Lib.hid (hb0.alloc hb0.size (.cells #[.int .i64 k9, .int .i64 v9, .float .f64 b9] 27))
              clear hb9 hb0 hg3 HJ6 HB8
              have hq3 : ((E : Int) == (a : Int)) = true := by rw [HEq.out]; exact beq_self_eq_true _
              have hq4 : decide (E = a) = true := decide_eq_true HEq.out
              go_wp2_with fail
              go_ret
              exact ⟨rfl, HB9.out⟩
            · go_wp2_with fail
              refine (HJ6.out w6 (HE.out.below HB6.out)).mono ?_
              rintro e w9 ⟨k9, v9, b9, er, HNm, rfl, hb9⟩
              have hb0 := HB6.out.trans (hb9.mono HB6.out.size)
              have hg3 := heap_alloc_new w9 (.cells #[.int .i64 k9, .int .i64 v9, .float .f64 b9] 27)
              have m0 := blk_cell hg3 (i := 0) (by simp)
              simp only [List.getElem_toArray, List.getElem_cons_zero] at m0
              have HB9 := Lib.hid (hb0.alloc hb0.size (.cells #[.int .i64 k9, .int .i64 v9, .float .f64 b9] 27))
              clear hb9 hb0 hg3 HJ6 HB6
              have hq3 : ((E : Int) == (a : Int)) = true := by rw [HEq.out]; exact beq_self_eq_true _
              have hq4 : decide (E = a) = true := decide_eq_true HEq.out
              go_wp2_with fail
              go_ret
              exact ⟨rfl, HB9.out⟩
          · go_wp2_with fail
            refine (HJ3.out w6 (HE.out.below HB6.out)).mono ?_
            rintro e w6b ⟨rfl, hbb⟩
            have HB6b := Lib.hid (HB6.out.trans (hbb.mono HB6.out.size))
            clear hbb HJ3 HB6
            obtain ⟨b, hTb, hTc⟩ := HTd.out
            clear HTd
            rcases hTc with ⟨rfl, hTn1, hTn2⟩ | ⟨rfl, hTn1, hTn2⟩
            · go_wp2_with fail
              refine (HJ4.out hTn1 w6b (HE.out.below HB6b.out)).mono ?_
              rintro e w7 ⟨rfl, hbb⟩
              have HB7 := Lib.hid (HB6b.out.trans (hbb.mono HB6b.out.size))
              clear hbb HJ4 HB6b
              go_wp2_with fail
              refine (HJ5.out hTn1 w7 (HE.out.below HB7.out)).mono ?_
              rintro e w8 ⟨rfl, hbb⟩
              have HB8 := Lib.hid (HB7.out.trans (hbb.mono HB7.out.size))
              clear hbb HJ5 HB7
              go_wp2_with fail
              refine (HJ6.out w8 (HE.out.below HB8.out)).mono ?_
              rintro e w9 ⟨k9, v9, b9, er, HNm, rfl, hb9⟩
              have hb0 := HB8.out.trans (hb9.mono HB8.out.size)
              have hg3 := heap_alloc_new w9 (.cells #[.int .i64 k9, .int .i64 v9, .float .f64 b9] 27)
              have m0 := blk_cell hg3 (i := 0) (by simp)
              simp only [List.getElem_toArray, List.getElem_cons_zero] at m0
              have HB9 := Lib.hid (hb0.alloc hb0.size (.cells #[.int .i64 k9, .int .i64 v9, .float .f64 b9] 27))
              clear hb9 hb0 hg3 HJ6 HB8
              have hq3 : ((E : Int) == (a : Int)) = true := by rw [HEq.out]; exact beq_self_eq_true _
              have hq4 : decide (E = a) = true := decide_eq_true HEq.out
              go_wp2_with fail
              go_ret
              exact ⟨rfl, HB9.out⟩
            · go_wp2_with fail
              refine (HJ6.out w6b (HE.out.below HB6b.out)).mono ?_
              rintro e w9 ⟨k9, v9, b9, er, HNm, rfl, hb9⟩
              have hb0 := HB6b.out.trans (hb9.mono HB6b.out.size)
              have hg3 := heap_alloc_new w9 (.cells #[.int .i64 k9, .int .i64 v9, .float .f64 b9] 27)
              have m0 := blk_cell hg3 (i := 0) (by simp)
              simp only [List.getElem_toArray, List.getElem_cons_zero] at m0
              have HB9 := Lib.hid (hb0.alloc hb0.size (.cells #[.int .i64 k9, .int .i64 v9, .float .f64 b9] 27))
              clear hb9 hb0 hg3 HJ6 HB6b
              have hq3 : ((E : Int) == (a : Int)) = true := by rw [HEq.out]; exact beq_self_eq_true _
              have hq4 : decide (E = a) = true := decide_eq_true HEq.out
              go_wp2_with fail
              go_ret
              exact ⟨rfl, HB9.out⟩
      · rcases hEs with ⟨rfl, hlt, HFf, hF12⟩ | ⟨rfl, hEq⟩
        · have hq1 : decide (a < E) = true := decide_eq_true hlt
          have hq2 : (a : Int) < (E : Int) := by omega
          go_wp2_with fail
          refine (HJ1.out wr (HE.out.below HBk.out)).mono ?_
          rintro e w5 ⟨rfl, hbb⟩
          have HB5 := Lib.hid (HBk.out.trans (hbb.mono HBk.out.size))
          clear hbb HJ1 HBk
          go_wp2_with fail
          refine (HJ2.out w5 (HE.out.below HB5.out)).mono ?_
          rintro e w6 ⟨rfl, hbb⟩
          have HB6 := Lib.hid (HB5.out.trans (hbb.mono HB5.out.size))
          clear hbb HJ2 HB5
          rcases hds with rfl | ⟨rfl, rfl⟩
          · obtain ⟨b, hTb, hTc⟩ := HTd.out
            clear HTd
            rcases hTc with ⟨rfl, hTn1, hTn2⟩ | ⟨rfl, hTn1, hTn2⟩
            · go_wp2_with fail
              refine (HJ4.out hTn1 w6 (HE.out.below HB6.out)).mono ?_
              rintro e w7 ⟨rfl, hbb⟩
              have HB7 := Lib.hid (HB6.out.trans (hbb.mono HB6.out.size))
              clear hbb HJ4 HB6
              go_wp2_with fail
              refine (HJ5.out hTn1 w7 (HE.out.below HB7.out)).mono ?_
              rintro e w8 ⟨rfl, hbb⟩
              have HB8 := Lib.hid (HB7.out.trans (hbb.mono HB7.out.size))
              clear hbb HJ5 HB7
              go_wp2_with fail
              refine (HJ6.out w8 (HE.out.below HB8.out)).mono ?_
              rintro e w9 ⟨k9, v9, b9, er, HNm, rfl, hb9⟩
              have hb0 := HB8.out.trans (hb9.mono HB8.out.size)
              have hg3 := heap_alloc_new w9 (.cells #[.int .i64 k9, .int .i64 v9, .float .f64 b9] 27)
              have m0 := blk_cell hg3 (i := 0) (by simp)
              simp only [List.getElem_toArray, List.getElem_cons_zero] at m0
              have HB9 := Lib.hid (hb0.alloc hb0.size (.cells #[.int .i64 k9, .int .i64 v9, .float .f64 b9] 27))
              clear hb9 hb0 hg3 HJ6 HB8
              have hq3 : ((E : Int) == (a : Int)) = false := beq_false_of_ne (by omega)
              have hq4 : decide (E = a) = false := decide_eq_false (by omega)
              have hnf := nm_form HNm.out
              have hkk : F = 2 ∨ (F = 1 ∧ (k9 = 2 ∨ (k9 ≠ 2 ∧ k9 = 3) ∨ (k9 ≠ 2 ∧ k9 ≠ 3 ∧ er = 7))) := by
                rcases hF12 with h | h
                · have h2 := hnf.2.2 (HFf.out.symm.trans h)
                  omega
                · exact .inl h
              clear hnf HNm hF12 HFf
              rcases hkk with rfl | ⟨rfl, rfl | ⟨hk2', rfl⟩ | ⟨hk2', hk3', rfl⟩⟩
              · go_wp2_with fail
                go_ret
                exact ⟨rfl, HB9.out⟩
              · go_wp2_with fail
                go_ret
                exact ⟨rfl, HB9.out⟩
              · go_wp2_with fail
                go_ret
                exact ⟨rfl, HB9.out⟩
              · have hc2 : (k9 == 2) = false := beq_false_of_ne hk2'
                have hc3 : (k9 == 3) = false := beq_false_of_ne hk3'
                have hc4 : decide (k9 = 2) = false := decide_eq_false hk2'
                have hc5 : decide (k9 = 3) = false := decide_eq_false hk3'
                go_wp2_with fail
                go_ret
                exact ⟨rfl, HB9.out⟩
            · go_wp2_with fail
              refine (HJ6.out w6 (HE.out.below HB6.out)).mono ?_
              rintro e w9 ⟨k9, v9, b9, er, HNm, rfl, hb9⟩
              have hb0 := HB6.out.trans (hb9.mono HB6.out.size)
              have hg3 := heap_alloc_new w9 (.cells #[.int .i64 k9, .int .i64 v9, .float .f64 b9] 27)
              have m0 := blk_cell hg3 (i := 0) (by simp)
              simp only [List.getElem_toArray, List.getElem_cons_zero] at m0
              have HB9 := Lib.hid (hb0.alloc hb0.size (.cells #[.int .i64 k9, .int .i64 v9, .float .f64 b9] 27))
              clear hb9 hb0 hg3 HJ6 HB6
              have hq3 : ((E : Int) == (a : Int)) = false := beq_false_of_ne (by omega)
              have hq4 : decide (E = a) = false := decide_eq_false (by omega)
              have hnf := nm_form HNm.out
              have hkk : F = 2 ∨ (F = 1 ∧ (k9 = 2 ∨ (k9 ≠ 2 ∧ k9 = 3) ∨ (k9 ≠ 2 ∧ k9 ≠ 3 ∧ er = 7))) := by
                rcases hF12 with h | h
                · have h2 := hnf.2.2 (HFf.out.symm.trans h)
                  omega
                · exact .inl h
              clear hnf HNm hF12 HFf
              rcases hkk with rfl | ⟨rfl, rfl | ⟨hk2', rfl⟩ | ⟨hk2', hk3', rfl⟩⟩
              · go_wp2_with fail
                go_ret
                exact ⟨rfl, HB9.out⟩
              · go_wp2_with fail
                go_ret
                exact ⟨rfl, HB9.out⟩
              · go_wp2_with fail
                go_ret
                exact ⟨rfl, HB9.out⟩
              · have hc2 : (k9 == 2) = false := beq_false_of_ne hk2'
                have hc3 : (k9 == 3) = false := beq_false_of_ne hk3'
                have hc4 : decide (k9 = 2) = false := decide_eq_false hk2'
                have hc5 : decide (k9 = 3) = false := decide_eq_false hk3'
                go_wp2_with fail
                go_ret
                exact ⟨rfl, HB9.out⟩
          · go_wp2_with fail
            refine (HJ3.out w6 (HE.out.below HB6.out)).mono ?_
            rintro e w6b ⟨rfl, hbb⟩
            have HB6b := Lib.hid (HB6.out.trans (hbb.mono HB6.out.size))
            clear hbb HJ3 HB6
            obtain ⟨b, hTb, hTc⟩ := HTd.out
            clear HTd
            rcases hTc with ⟨rfl, hTn1, hTn2⟩ | ⟨rfl, hTn1, hTn2⟩
            · go_wp2_with fail
              refine (HJ4.out hTn1 w6b (HE.out.below HB6b.out)).mono ?_
              rintro e w7 ⟨rfl, hbb⟩
              have HB7 := Lib.hid (HB6b.out.trans (hbb.mono HB6b.out.size))
              clear hbb HJ4 HB6b
              go_wp2_with fail
              refine (HJ5.out hTn1 w7 (HE.out.below HB7.out)).mono ?_
              rintro e w8 ⟨rfl, hbb⟩
              have HB8 := Lib.hid (HB7.out.trans (hbb.mono HB7.out.size))
              clear hbb HJ5 HB7
              go_wp2_with fail
              refine (HJ6.out w8 (HE.out.below HB8.out)).mono ?_
              rintro e w9 ⟨k9, v9, b9, er, HNm, rfl, hb9⟩
              have hb0 := HB8.out.trans (hb9.mono HB8.out.size)
              have hg3 := heap_alloc_new w9 (.cells #[.int .i64 k9, .int .i64 v9, .float .f64 b9] 27)
              have m0 := blk_cell hg3 (i := 0) (by simp)
              simp only [List.getElem_toArray, List.getElem_cons_zero] at m0
              have HB9 := Lib.hid (hb0.alloc hb0.size (.cells #[.int .i64 k9, .int .i64 v9, .float .f64 b9] 27))
              clear hb9 hb0 hg3 HJ6 HB8
              have hq3 : ((E : Int) == (a : Int)) = false := beq_false_of_ne (by omega)
              have hq4 : decide (E = a) = false := decide_eq_false (by omega)
              have hnf := nm_form HNm.out
              have hkk : F = 2 ∨ (F = 1 ∧ (k9 = 2 ∨ (k9 ≠ 2 ∧ k9 = 3) ∨ (k9 ≠ 2 ∧ k9 ≠ 3 ∧ er = 7))) := by
                rcases hF12 with h | h
                · have h2 := hnf.2.2 (HFf.out.symm.trans h)
                  omega
                · exact .inl h
              clear hnf HNm hF12 HFf
              rcases hkk with rfl | ⟨rfl, rfl | ⟨hk2', rfl⟩ | ⟨hk2', hk3', rfl⟩⟩
              · go_wp2_with fail
                go_ret
                exact ⟨rfl, HB9.out⟩
              · go_wp2_with fail
                go_ret
                exact ⟨rfl, HB9.out⟩
              · go_wp2_with fail
                go_ret
                exact ⟨rfl, HB9.out⟩
              · have hc2 : (k9 == 2) = false := beq_false_of_ne hk2'
                have hc3 : (k9 == 3) = false := beq_false_of_ne hk3'
                have hc4 : decide (k9 = 2) = false := decide_eq_false hk2'
                have hc5 : decide (k9 = 3) = false := decide_eq_false hk3'
                go_wp2_with fail
                go_ret
                exact ⟨rfl, HB9.out⟩
            · go_wp2_with fail
              refine (HJ6.out w6b (HE.out.below HB6b.out)).mono ?_
              rintro e w9 ⟨k9, v9, b9, er, HNm, rfl, hb9⟩
              have hb0 := HB6b.out.trans (hb9.mono HB6b.out.size)
              have hg3 := heap_alloc_new w9 (.cells #[.int .i64 k9, .int .i64 v9, .float .f64 b9] 27)
              have m0 := blk_cell hg3 (i := 0) (by simp)
              simp only [List.getElem_toArray, List.getElem_cons_zero] at m0
              have HB9 := Lib.hid (hb0.alloc hb0.size (.cells #[.int .i64 k9, .int .i64 v9, .float .f64 b9] 27))
              clear hb9 hb0 hg3 HJ6 HB6b
              have hq3 : ((E : Int) == (a : Int)) = false := beq_false_of_ne (by omega)
              have hq4 : decide (E = a) = false := decide_eq_false (by omega)
              have hnf := nm_form HNm.out
              have hkk : F = 2 ∨ (F = 1 ∧ (k9 = 2 ∨ (k9 ≠ 2 ∧ k9 = 3) ∨ (k9 ≠ 2 ∧ k9 ≠ 3 ∧ er = 7))) := by
                rcases hF12 with h | h
                · have h2 := hnf.2.2 (HFf.out.symm.trans h)
                  omega
                · exact .inl h
              clear hnf HNm hF12 HFf
              rcases hkk with rfl | ⟨rfl, rfl | ⟨hk2', rfl⟩ | ⟨hk2', hk3', rfl⟩⟩
              · go_wp2_with fail
                go_ret
                exact ⟨rfl, HB9.out⟩
              · go_wp2_with fail
                go_ret
                exact ⟨rfl, HB9.out⟩
              · go_wp2_with fail
                go_ret
                exact ⟨rfl, HB9.out⟩
              · have hc2 : (k9 == 2) = false := beq_false_of_ne hk2'
                have hc3 : (k9 == 3) = false := beq_false_of_ne hk3'
                have hc4 : decide (k9 = 2) = false := decide_eq_false hk2'
                have hc5 : decide (k9 = 3) = false := decide_eq_false hk3'
                go_wp2_with fail
                go_ret
                exact ⟨rfl, HB9.out⟩
        · have HEq := Lib.hid hEq
          have hq1 : decide (a < E) = false := decide_eq_false (by omega)
          have hq2 : ¬ (a : Int) < (E : Int) := by omega
          clear hEq
          go_wp2_with fail
          refine (HJ1.out wr (HE.out.below HBk.out)).mono ?_
          rintro e w5 ⟨rfl, hbb⟩
          have HB5 := Lib.hid (HBk.out.trans (hbb.mono HBk.out.size))
          clear hbb HJ1 HBk
          go_wp2_with fail
          refine (HJ2.out w5 (HE.out.below HB5.out)).mono ?_
          rintro e w6 ⟨rfl, hbb⟩
          have HB6 := Lib.hid (HB5.out.trans (hbb.mono HB5.out.size))
          clear hbb HJ2 HB5
          rcases hds with rfl | ⟨rfl, rfl⟩
          · obtain ⟨b, hTb, hTc⟩ := HTd.out
            clear HTd
            rcases hTc with ⟨rfl, hTn1, hTn2⟩ | ⟨rfl, hTn1, hTn2⟩
            · go_wp2_with fail
              refine (HJ4.out hTn1 w6 (HE.out.below HB6.out)).mono ?_
              rintro e w7 ⟨rfl, hbb⟩
              have HB7 := Lib.hid (HB6.out.trans (hbb.mono HB6.out.size))
              clear hbb HJ4 HB6
              go_wp2_with fail
              refine (HJ5.out hTn1 w7 (HE.out.below HB7.out)).mono ?_
              rintro e w8 ⟨rfl, hbb⟩
              have HB8 := Lib.hid (HB7.out.trans (hbb.mono HB7.out.size))
              clear hbb HJ5 HB7
              go_wp2_with fail
              refine (HJ6.out w8 (HE.out.below HB8.out)).mono ?_
              rintro e w9 ⟨k9, v9, b9, er, HNm, rfl, hb9⟩
              have hb0 := HB8.out.trans (hb9.mono HB8.out.size)
              have hg3 := heap_alloc_new w9 (.cells #[.int .i64 k9, .int .i64 v9, .float .f64 b9] 27)
              have m0 := blk_cell hg3 (i := 0) (by simp)
              simp only [List.getElem_toArray, List.getElem_cons_zero] at m0
              have HB9 := Lib.hid (hb0.alloc hb0.size (.cells #[.int .i64 k9, .int .i64 v9, .float .f64 b9] 27))
              clear hb9 hb0 hg3 HJ6 HB8
              have hq3 : ((E : Int) == (a : Int)) = true := by rw [HEq.out]; exact beq_self_eq_true _
              have hq4 : decide (E = a) = true := decide_eq_true HEq.out
              go_wp2_with fail
              go_ret
              exact ⟨rfl, HB9.out⟩
            · go_wp2_with fail
              refine (HJ6.out w6 (HE.out.below HB6.out)).mono ?_
              rintro e w9 ⟨k9, v9, b9, er, HNm, rfl, hb9⟩
              have hb0 := HB6.out.trans (hb9.mono HB6.out.size)
              have hg3 := heap_alloc_new w9 (.cells #[.int .i64 k9, .int .i64 v9, .float .f64 b9] 27)
              have m0 := blk_cell hg3 (i := 0) (by simp)
              simp only [List.getElem_toArray, List.getElem_cons_zero] at m0
              have HB9 := Lib.hid (hb0.alloc hb0.size (.cells #[.int .i64 k9, .int .i64 v9, .float .f64 b9] 27))
              clear hb9 hb0 hg3 HJ6 HB6
              have hq3 : ((E : Int) == (a : Int)) = true := by rw [HEq.out]; exact beq_self_eq_true _
              have hq4 : decide (E = a) = true := decide_eq_true HEq.out
              go_wp2_with fail
              go_ret
              exact ⟨rfl, HB9.out⟩
          · go_wp2_with fail
            refine (HJ3.out w6 (HE.out.below HB6.out)).mono ?_
            rintro e w6b ⟨rfl, hbb⟩
            have HB6b := Lib.hid (HB6.out.trans (hbb.mono HB6.out.size))
            clear hbb HJ3 HB6
            obtain ⟨b, hTb, hTc⟩ := HTd.out
            clear HTd
            rcases hTc with ⟨rfl, hTn1, hTn2⟩ | ⟨rfl, hTn1, hTn2⟩
            · go_wp2_with fail
              refine (HJ4.out hTn1 w6b (HE.out.below HB6b.out)).mono ?_
              rintro e w7 ⟨rfl, hbb⟩
              have HB7 := Lib.hid (HB6b.out.trans (hbb.mono HB6b.out.size))
              clear hbb HJ4 HB6b
              go_wp2_with fail
              refine (HJ5.out hTn1 w7 (HE.out.below HB7.out)).mono ?_
              rintro e w8 ⟨rfl, hbb⟩
              have HB8 := Lib.hid (HB7.out.trans (hbb.mono HB7.out.size))
              clear hbb HJ5 HB7
              go_wp2_with fail
              refine (HJ6.out w8 (HE.out.below HB8.out)).mono ?_
              rintro e w9 ⟨k9, v9, b9, er, HNm, rfl, hb9⟩
              have hb0 := HB8.out.trans (hb9.mono HB8.out.size)
              have hg3 := heap_alloc_new w9 (.cells #[.int .i64 k9, .int .i64 v9, .float .f64 b9] 27)
              have m0 := blk_cell hg3 (i := 0) (by simp)
              simp only [List.getElem_toArray, List.getElem_cons_zero] at m0
              have HB9 := Lib.hid (hb0.alloc hb0.size (.cells #[.int .i64 k9, .int .i64 v9, .float .f64 b9] 27))
              clear hb9 hb0 hg3 HJ6 HB8
              have hq3 : ((E : Int) == (a : Int)) = true := by rw [HEq.out]; exact beq_self_eq_true _
              have hq4 : decide (E = a) = true := decide_eq_true HEq.out
              go_wp2_with fail
              go_ret
              exact ⟨rfl, HB9.out⟩
            · go_wp2_with fail
              refine (HJ6.out w6b (HE.out.below HB6b.out)).mono ?_
              rintro e w9 ⟨k9, v9, b9, er, HNm, rfl, hb9⟩
              have hb0 := HB6b.out.trans (hb9.mono HB6b.out.size)
              have hg3 := heap_alloc_new w9 (.cells #[.int .i64 k9, .int .i64 v9, .float .f64 b9] 27)
              have m0 := blk_cell hg3 (i := 0) (by simp)
              simp only [List.getElem_toArray, List.getElem_cons_zero] at m0
              have HB9 := Lib.hid (hb0.alloc hb0.size (.cells #[.int .i64 k9, .int .i64 v9, .float .f64 b9] 27))
              clear hb9 hb0 hg3 HJ6 HB6b
              have hq3 : ((E : Int) == (a : Int)) = true := by rw [HEq.out]; exact beq_self_eq_true _
              have hq4 : decide (E = a) = true := decide_eq_true HEq.out
              go_wp2_with fail
              go_ret
              exact ⟨rfl, HB9.out⟩
end Go.Proofs.YtjciflgnlldgbaaGreatDoor.dcm
end
section
namespace Go.Proofs.YtjciflgnlldgbaaGreatDoor.dcm
open Go.RowKit mem fl big us uw pg sh
set_option linter.unusedVariables false
theorem numberEnds_any {P z : Nat} (hz : z = 1074) (hP : P = 2 ^ z) (s : ByteArray) (hn : s.size ≤ 1048576) (p : Int) (hp1 : -9223372036854775808 ≤ p) (hp2 : p ≤ 9223372036854775807) (w : World) (hE : REnv w) :
    Calls Tryz.prog 5 #[.string s, .int .i64 p] w fun e w' => e = .returned (.bool true) ∧ Below w.heap.size w w' := by
  by_cases h : p < 0 ∨ (s.size : Int) < p
  · exact numberEnds_out hz hP s s.size rfl hn p hp1 hp2 h w hE
  · obtain ⟨a, rfl⟩ : ∃ a : Nat, p = (a : Int) := ⟨p.toNat, by omega⟩
    exact numberEnds_in hz hP s s.size rfl hn a (by omega) w hE
end Go.Proofs.YtjciflgnlldgbaaGreatDoor.dcm
end
