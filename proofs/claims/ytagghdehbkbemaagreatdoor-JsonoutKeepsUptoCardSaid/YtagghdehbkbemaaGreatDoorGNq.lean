/- lookNames over any members: the first fault of their names. lookNames over any members. -/
import Derived.Test.YtagghdehbkbemaaGreatDoorYLook
import Derived.Test.YtagghdehbkbemaaGreatDoorGFtx
section
namespace Go.Proofs.YtagghdehbkbemaaGreatDoor.look
open Go.RowKit mem txt app smap val
attribute [local go_sem] run_store_float
set_option linter.unusedVariables false

/-- the panic that carries an error -/
def fault (n : Int) : Ending := .panicked [{ v := .iface 66 (.agg #[.int .i64 n]), recovered := false }]
/-- nothing is answered, or the panic of the fault n; what was there stands -/
def LkPost (w : World) (n : Int) (e : Ending) (w' : World) : Prop := (n = 0 → e = .returned (.tuple #[])) ∧ (n ≠ 0 → e = fault n) ∧ Below w.heap.size w w'
theorem lk_bad {w w' : World} {n : Int} (h : n ≠ 0) (hb : Below w.heap.size w w') : LkPost w n (fault n) w' := ⟨fun e => absurd e h, fun _ => rfl, hb⟩
theorem lk_good {w w' : World} {n : Int} (h : n = 0) (hb : Below w.heap.size w w') : LkPost w n (.returned (.tuple #[])) w' := ⟨fun _ => rfl, fun e => absurd h e, hb⟩

theorem lookText_bad (s : ByteArray) (w : World) (hs : s.size ≤ 9223372036854775807) (hT : Tabs w) (hv : Lib.validD s.data.toList = false) :
    Calls Tryz.prog 36 #[.string s] w fun e w' => e = fault 1 ∧ Below w.heap.size w w' := by
  have cV := clean_any s w hs hT
  rw [hv] at cV
  go_enter Tryz.func36, Tryz.ntmps36
  go_wp2_with (go_at_call 26; refine cV.mono ?_; rintro e w' ⟨rfl, hb⟩)
  go_wp2
  exact ⟨rfl, rfl, hb⟩
theorem lookText_any (s : ByteArray) (w : World) (hs : s.size ≤ 9223372036854775807) (hT : Tabs w) :
    Calls Tryz.prog 36 #[.string s] w (LkPost w (if Lib.validD s.data.toList = true then 0 else 1)) := by
  cases hv : Lib.validD s.data.toList with
  | true => exact (lookText_ok s w hs hT hv).mono fun e w' h => by rw [h.1]; exact lk_good rfl h.2
  | false => exact (lookText_bad s w hs hT hv).mono fun e w' h => by rw [h.1]; exact lk_bad (by decide) h.2
end Go.Proofs.YtagghdehbkbemaaGreatDoor.look
end
section
namespace Go.Proofs.YtagghdehbkbemaaGreatDoor.look
open Go.RowKit mem txt app smap val
attribute [local go_sem] run_store_float
set_option linter.unusedVariables false

open Classical in
theorem nmE_step {fs : List (ByteArray × V)} {i : Nat} {s : ByteArray} {x : V} (h : fs[i]? = some (s, x)) (l : List ByteArray) : nmE l (fs.drop i) = if Lib.validD s.data.toList = true then (if s ∈ l then 5 else nmE (s :: l) (fs.drop (i + 1))) else 1 := by
  obtain ⟨hi, he⟩ := List.getElem?_eq_some_iff.1 h
  rw [List.drop_eq_getElem_cons hi, he]
  simp only [nmE]

set_option maxRecDepth 100000 in
set_option maxHeartbeats 4000000 in
theorem names_any (fs : List (ByteArray × V)) (A : Option Addr) (c n : Nat) (w : World) (S : Nat → Prop) (hn : fs.length = n) (hF : IsFs w S fs A 0) (hS : Bel S w.heap.size) (hT : Tabs w) (hok : okf fs) (hn2 : n ≤ 1048576) :
    Calls Tryz.prog 37 #[.slice A n c] w (LkPost w (nmE [] fs)) := by
  have HF := Lib.hid hF
  have HT := Lib.hid hT
  have HS := Lib.hid hS
  have HO := Lib.hid hok
  have HN := Lib.hid hn
  clear hF hT hS hok hn
  have hmm : ∀ (m : Int) (w : World), (Instr.makeMap 90 (some (.int .i64 m))).run Tryz.prog w = .ok (.map (some w.heap.size)) (w.alloc (.map #[] 0)) := fun _ _ => by simp [Instr.makeMap, run_underlying Tryz.underlying90, asInt, newObj, Sem.run, Result.andThen] <;> rfl
  go_enter Tryz.func37, Tryz.ntmps37
  go_wp2_with fail
  go_loopw [12] (fun v12 wr => ∃ (i : Nat) (l : List ByteArray), i ≤ n ∧ v12 = .int .i64 (i : Int) ∧ MapS wr w.heap.size i l ∧ Hid (nmE [] fs = nmE l (fs.drop i)) ∧ Below w.heap.size w wr) (fun v _ => n - (intOf v).toNat)
  case atStart => exact ⟨0, [], Nat.zero_le _, rfl, MapS.made w, rfl, (Below.refl _ _).alloc (Nat.le_refl _) _⟩
  case round =>
    obtain ⟨i, l, hi, rfl, hmap, hacc, hb⟩ := hrel
    have hszr := hb.size
    have hml := hmap.lt
    have HMP := Lib.hid hmap
    clear hmap
    by_cases hlt : i < n
    · have hil : i < fs.length := by rw [HN.out]; exact hlt
      obtain ⟨p, hx⟩ : ∃ p, fs[i]? = some p := ⟨_, List.getElem?_eq_getElem hil⟩
      obtain ⟨s, x⟩ := p
      obtain ⟨ad, cs, rfl, hadB, hcs, hvx⟩ := HF.out.at_ hx
      rw [Nat.zero_add] at hcs
      have hsz := (okf_get HO.out hx).1
      simp only at hsz hcs hvx
      have HE := Lib.hid (nmE_step hx l)
      obtain ⟨k2, b2, i2, f2, t2, y2, is2, fs2⟩ := x
      simp only [IsV] at hvx
      obtain ⟨A2, c2, A2', c2', rfl, _⟩ := hvx
      have hcs2 := hcs.keep (S := fun b => b < w.heap.size) (by rw [add_block]; exact HS.out _ hadB) (fun p hp => hb.cell hp)
      obtain ⟨d0, d1, d2, d3, d4, d5, d6, d7, d8⟩ := hcs2.nine
      clear hcs hcs2 hx hil
      go_wp2_with fail
      clear d0 d1 d2 d3 d4 d5 d6 d7 d8
      have gE := heap_alloc_new wr (.cells #[.string s, .int .i64 k2, .bool b2, .int .i64 i2, .float .f64 f2, .string t2, .string y2, .slice A2 is2.length c2, .slice A2' fs2.length c2'] 41)
      have hc0 := cell_of_row _ wr.heap.size 0 _ 41 (0, 0) gE
      have hb1 : Below w.heap.size w (wr.alloc (.cells #[.string s, .int .i64 k2, .bool b2, .int .i64 i2, .float .f64 f2, .string t2, .string y2, .slice A2 is2.length c2, .slice A2' fs2.length c2'] 41)) := hb.alloc hszr _
      have HM1 := Lib.hid (HMP.out.heap (Lib.alloc_old wr (.cells #[.string s, .int .i64 k2, .bool b2, .int .i64 i2, .float .f64 f2, .string t2, .string y2, .slice A2 is2.length c2, .slice A2' fs2.length c2'] 41) _ hml))
      have hz1 : wr.heap.size + 1 = (wr.alloc (.cells #[.string s, .int .i64 k2, .bool b2, .int .i64 i2, .float .f64 f2, .string t2, .string y2, .slice A2 is2.length c2, .slice A2' fs2.length c2'] 41)).heap.size := by simp
      generalize (wr.alloc (.cells #[.string s, .int .i64 k2, .bool b2, .int .i64 i2, .float .f64 f2, .string t2, .string y2, .slice A2 is2.length c2, .slice A2' fs2.length c2'] 41)) = W1 at *
      clear gE HMP
      have hc0 : W1.cell? ⟨wr.heap.size, 0, none⟩ = some (.string s) := by simpa using hc0
      cases hva : Lib.validD s.data.toList with
      | false =>
        have HR : Hid (nmE [] fs = 1) := Lib.hid (by rw [hacc.out, HE.out, hva]; rfl)
        refine (lookText_bad s W1 (by omega) (HT.out.below hb1) hva).mono ?_
        rintro e w' ⟨rfl, hb2⟩
        refine ⟨rfl, ?_⟩
        rw [HR.out]
        exact lk_bad (by decide) (hb1.trans (hb2.mono (by omega)))
      | true =>
        refine (lookText_ok s W1 (by omega) (HT.out.below hb1) hva).mono ?_
        rintro e w' ⟨rfl, hb2⟩
        have hc2 := (hb2.cell (p := ⟨wr.heap.size, 0, none⟩) (by show wr.heap.size < _; omega)).trans hc0
        have HM2 := Lib.hid (HM1.out.heap (hb2.block w.heap.size (by omega)))
        have hb3 : Below w.heap.size w w' := hb1.trans (hb2.mono (by omega))
        have hz2 := hb2.size
        clear hc0 HM1 hb1 hb
        rcases Classical.em (s ∈ l) with hin | hin
        · have HR : Hid (nmE [] fs = 5) := Lib.hid (by rw [hacc.out, HE.out, if_pos hva, if_pos hin])
          obtain ⟨q, hlk⟩ := HM2.out.look_in (by unfold maxLen; omega) hin
          clear hin
          go_wp2_with fail
          refine ⟨rfl, ?_⟩
          rw [HR.out]
          exact lk_bad (by decide) hb3
        · have HR : Hid (nmE [] fs = nmE (s :: l) (fs.drop (i + 1))) := Lib.hid (by rw [hacc.out, HE.out, if_pos hva, if_neg hin])
          obtain ⟨q, hlk⟩ := HM2.out.look (by unfold maxLen; omega) hin
          obtain ⟨w3, hput, hm3, hg3⟩ := HM2.out.put (s := s) (by unfold maxLen; omega) (by unfold maxLen; omega) (i := (i : Int)) (WalkArith.wf_i64 (by omega))
          clear hin
          have HF3 := Lib.hid (And.intro hm3 hg3)
          clear hm3 hg3
          go_wp2_with fail
          exact ⟨⟨i + 1, s :: l, by omega, by go_num, HF3.out.1, HR, hb3.grown HF3.out.2 (by omega) (fun kk hkk => by injection hkk with hkk; omega)⟩, by simp [intOf]; omega⟩
    · obtain rfl : i = n := by omega
      have HR : Hid (nmE [] fs = 0) := Lib.hid (by rw [hacc.out, List.drop_eq_nil_of_le (by rw [HN.out]; exact Nat.le_refl _)]; simp only [nmE])
      go_wp2_with fail
      go_end0
      rw [HR.out]
      exact lk_good rfl hb
end Go.Proofs.YtagghdehbkbemaaGreatDoor.look
end
