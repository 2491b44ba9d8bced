/- The table's Idle. -/
import Derived.Test.YtmicjfdibhoamaaKeyTwo
import Derived.Test.YtmicjfdibhoamaaEnts
import Derived.Handy
import Derived.WalkSpells
import Derived.Deep.DeepMust
import Derived.RegionTactic
import Derived.Carry
namespace Go.Proofs.Ytmicjfdibhoamaa.val
open Go.RowKit mem
attribute [local go_sem] run_store_float

def cnt : List C → C → Nat
  | [], _ => 0
  | x :: r, c => (if x = c then 1 else 0) + cnt r c
theorem cnt_le (l : List C) (c : C) : cnt l c ≤ l.length := by
  induction l with
  | nil => simp [cnt]
  | cons x r ih => simp only [cnt, List.length_cons]; split <;> omega
theorem cnt_snoc (l : List C) (x c : C) : cnt (l ++ [x]) c = cnt l c + if x = c then 1 else 0 := by
  induction l with
  | nil => simp [cnt]
  | cons y r ih => simp only [List.cons_append, cnt, ih]; omega
theorem cnt_zero {l : List C} {c : C} : cnt l c = 0 ↔ c ∉ l := by
  induction l with
  | nil => simp [cnt]
  | cons x r ih =>
    simp only [cnt, List.mem_cons, not_or]
    split
    · rename_i h
      simp [h]
    · rename_i h
      rw [Nat.zero_add, ih]
      exact ⟨fun k => ⟨fun e => h e.symm, k⟩, fun k => k.2⟩
/-- is the row of this number idle? -/
def idleAt (es : List (C × O)) (tr : List C) (q : Nat) : Bool := match es[q]? with
  | none => false
  | some e => decide (e.1 ∈ (es.take q).map (·.1)) || !decide (e.1 ∈ tr)
def idl (es : List (C × O)) (tr : List C) : Nat → List Nat
  | 0 => []
  | q + 1 => idl es tr q ++ if idleAt es tr q then [q] else []
theorem idl_le (es : List (C × O)) (tr : List C) : ∀ q, (idl es tr q).length ≤ q
  | 0 => by simp [idl]
  | q + 1 => by
    have := idl_le es tr q
    simp only [idl, List.length_append]
    split <;> simp <;> omega
def iv (n : Nat) : Value := .int .i64 (n : Int)
def IntsPost (w : World) (l : List Nat) (e : Ending) (w' : World) : Prop := ∃ v, e = .returned v ∧ w'.ownsRow w.heap.size 3 1 v l.length (l.map iv) ∧ Below w.heap.size w w'

theorem infoI : (Try.prog.info? 3).map (fun i => (i.zero, i.size, i.bytes)) = some (some (.int .i64 0), 1, 8) := by kernel_rfl
theorem own_base {w : World} {b b' : Nat} {e : TypeId} {size n : Nat} {v : Value} {xs : List Value} (h : w.ownsRow b e size v n xs) (hb : b' ≤ b) : w.ownsRow b' e size v n xs := by
  obtain ⟨h1, h2⟩ := h
  refine ⟨h1, ?_⟩
  rcases h2 with h2 | ⟨g, cap, cur, hv, hg, r⟩
  · exact .inl h2
  · exact .inr ⟨g, cap, cur, hv, by omega, r⟩
/-- what is left of the counts behind so many rows -/
def Left (g : C → Option Int) (es : List (C × O)) (tr : List C) (q : Nat) : Prop := ∀ d, (g d).getD 0 = if d ∈ (es.take q).map (·.1) then 0 else (cnt tr d : Int)
theorem left_idle {g : C → Option Int} {es : List (C × O)} {tr : List C} {q : Nat} {e : C × O} (h : Left g es tr q) (hx : es[q]? = some e) : idleAt es tr q = decide ((g e.1).getD 0 = 0) := by
  unfold idleAt
  rw [hx, h e.1]
  simp only
  by_cases hm : e.1 ∈ (es.take q).map (·.1)
  · rw [if_pos hm, decide_eq_true hm, Bool.true_or]
    exact (decide_eq_true rfl).symm
  · rw [if_neg hm, decide_eq_false hm, Bool.false_or]
    by_cases ht : e.1 ∈ tr
    · have h1 : cnt tr e.1 ≠ 0 := fun h => cnt_zero.1 h ht
      rw [decide_eq_true ht, decide_eq_false (by omega)]
      rfl
    · have h1 := cnt_zero.2 ht
      rw [decide_eq_false ht, decide_eq_true (by omega)]
      rfl
theorem left_stay {g : C → Option Int} {es : List (C × O)} {tr : List C} {q : Nat} {e : C × O} (h : Left g es tr q) (hx : es[q]? = some e) (hz : (g e.1).getD 0 = 0) : Left g es tr (q + 1) := fun d => by
  rw [List.take_add_one, hx, List.map_append, h d]
  simp only [Option.toList_some, List.map_cons, List.map_nil, List.mem_append, List.mem_singleton]
  by_cases hm : d ∈ (es.take q).map (·.1)
  · rw [if_pos hm, if_pos (.inl hm)]
  · rw [if_neg hm]
    by_cases hd : d = e.1
    · rw [if_pos (.inr hd)]
      have := h e.1
      rw [hd] at hm ⊢
      rw [if_neg hm] at this
      rw [← this, hz]
    · rw [if_neg (by rintro (h1 | h1); exact hm h1; exact hd h1)]
theorem left_zero {g : C → Option Int} {es : List (C × O)} {tr : List C} {q : Nat} {e : C × O} (h : Left g es tr q) (hx : es[q]? = some e) : Left (upd g e.1 0) es tr (q + 1) := fun d => by
  rw [List.take_add_one, hx, List.map_append]
  simp only [Option.toList_some, List.map_cons, List.map_nil, List.mem_append, List.mem_singleton]
  unfold upd
  by_cases hd : d = e.1
  · rw [if_pos hd, if_pos (.inr hd)]
    rfl
  · rw [if_neg hd, h d]
    by_cases hm : d ∈ (es.take q).map (·.1)
    · rw [if_pos hm, if_pos (.inl hm)]
    · rw [if_neg hm, if_neg (by rintro (h1 | h1); exact hm h1; exact hd h1)]

set_option maxRecDepth 100000 in
set_option maxHeartbeats 4000000 in
theorem idle_any (es : List (C × O)) (tr : List C) (hes : szE es ≤ 1048576) (htr : tr.length ≤ 1048576) (hok : ∀ e ∈ es, e.1.ok) (hokt : ∀ c ∈ tr, c.ok) (A : Option Addr) (c : Nat) (A' : Option Addr) (c' : Nat) (w : World) (S : Nat → Prop)
    (hE : LAt 13 IsE w S es A) (hT : LAt 4 IsC w S tr A') (hB : Bel S w.heap.size) :
    Calls Try.prog 11 #[.slice A es.length c, .slice A' tr.length c'] w (IntsPost w (idl es tr es.length)) := by
  have hl1 := szE_len es
  have HEs := Lib.hid hE
  have HTr := Lib.hid hT
  have HB := Lib.hid hB
  have HK := Lib.hid hok
  have HKt := Lib.hid hokt
  obtain ⟨ii, hiv, hv0, hv1, hv2⟩ := info_parts infoI
  have hmm := @run_makeMap Try.prog
  clear hE hT hB hok hokt
  go_enter Try.func11, Try.ntmps11
  go_wp2_with fail
  have M0 := Lib.hid (MapIs.made w)
  have b0 : Below w.heap.size w (w.alloc (.map #[] 0)) := (Below.refl _ _).alloc (Nat.le_refl _) _
  generalize (w.alloc (.map #[] 0)) = w0 at *
  go_loopw [14] (fun vi W => ∃ (q n : Nat) (g : C → Option Int), q ≤ tr.length ∧ vi = .int .i64 (q : Int) ∧ n ≤ q ∧ Hid (MapIs W w.heap.size n g) ∧ Hid (∀ d, (g d).getD 0 = (cnt (tr.take q) d : Int)) ∧ Below w.heap.size w W) (fun i _ => tr.length - (intOf i).toNat)
  case atStart => exact ⟨0, 0, _, Nat.zero_le _, rfl, Nat.le_refl _, M0, Lib.hid (fun d => rfl), b0⟩
  case round =>
    clear M0 b0 hmm
    obtain ⟨q, n, g, hq, rfl, hn, HM, HG, hb⟩ := hrel
    have hszr := hb.size
    by_cases hlt : q < tr.length
    · have hx : tr[q]? = some tr[q] := List.getElem?_eq_getElem hlt
      have hts := Lib.hid (List.take_succ_eq_append_getElem hlt)
      have hck := HKt.out _ (List.getElem_mem hlt)
      obtain ⟨ad, cs, rfl, hadB, hcs, rfl⟩ := (HTr.out.below recC HB.out hb) q _ hx
      generalize tr[q] = x at *
      obtain ⟨x1, x2, x3, x4⟩ := x
      obtain ⟨d0, d1, d2, d3⟩ := hcs.four
      simp only at d0 d1 d2 d3 hck
      clear hcs hx
      have gm := HM.out.lt
      have HM2 := Lib.hid (HM.out.heap (w' := (wr.alloc (.cells #[.string x1, .string x2, .string x3, .string x4] 25)).drew) (Below.heap_alloc _ _ _ gm))
      obtain ⟨v, HV⟩ : ∃ v : Int, Hid ((g ⟨x1, x2, x3, x4⟩).getD 0 = v) := ⟨_, rfl⟩
      have hvb : 0 ≤ v ∧ v ≤ 1048576 := by
        have h1 := cnt_le (tr.take q) ⟨x1, x2, x3, x4⟩
        have h2 := HG.out ⟨x1, x2, x3, x4⟩
        rw [HV.out] at h2
        rw [List.length_take] at h1
        omega
      obtain ⟨hvb0, hvb1⟩ := hvb
      have L1 := HM2.out.look1 hck
      rw [HV.out] at L1
      obtain ⟨v0, st, wa, E1, ga, ⟨ge, hMe, hge⟩, hS⟩ := HM2.out.entry hck (by unfold maxLen; omega)
      have L2 := hMe.look1 hck
      rw [hge, HV.out] at L2
      obtain ⟨wb, E2, gb, hMb⟩ := hS wa (v + 1) (WalkArith.wf_i64 (by omega)) rfl
      have HMb := Lib.hid hMb
      have E3 : (Instr.entryStore 68 (.map (some w.heap.size)) (.int .i64 (st : Int)) (.int .i64 (v + 1))).run Try.prog wa = .ok () wb := E2
      clear E2
      have hbw : Below w.heap.size w wb := (((hb.alloc hszr _).drew).grown ga (by simp; omega) (fun k hk => by injection hk; omega)).grown gb (by have := ga.size; simp at this; omega) (fun k hk => by injection hk; omega)
      have HGn : Hid (∀ d, (upd g ⟨x1, x2, x3, x4⟩ (v + 1) d).getD 0 = (cnt (tr.take (q + 1)) d : Int)) := Lib.hid (fun d => by
        rw [hts.out, cnt_snoc]
        unfold upd
        by_cases hd : d = ⟨x1, x2, x3, x4⟩
        · rw [if_pos hd, if_pos hd.symm]
          have h2 := HG.out ⟨x1, x2, x3, x4⟩
          rw [HV.out] at h2
          rw [hd]
          show v + 1 = _
          rw [h2]
          omega
        · rw [if_neg hd, if_neg (fun e => hd e.symm), HG.out d]
          omega)
      clear hS hMe hge ga gb hMb
      go_wp2_with fail
      go_region
      all_goals
        go_wp2_with fail
        go_roundw
        case rel => exact ⟨q + 1, n + 1, _, by omega, by go_num, by omega, HMb, HGn, hbw⟩
        case measure => simp [intOf]; omega
    · obtain rfl : q = tr.length := by omega
      have HL : Hid (Left g es tr 0) := Lib.hid (fun d => by
        have := HG.out d
        rw [List.take_of_length_le (Nat.le_refl _)] at this
        simpa using this)
      clear HG
      go_wp2_with fail
      go_loopw [8, 27] (fun v8 vi W => ∃ (q n : Nat) (g : C → Option Int) (vv : Value), q ≤ es.length ∧ vi = .int .i64 (q : Int) ∧ vv = v8 ∧ n ≤ tr.length + q ∧ Hid (MapIs W w.heap.size n g) ∧ Hid (Left g es tr q) ∧ Hid (W.ownsRow (w.heap.size + 1) 3 1 vv (idl es tr q).length ((idl es tr q).map iv)) ∧ Below w.heap.size w W) (fun _ i _ => es.length - (intOf i).toNat)
      case atStart => exact ⟨0, n, g, _, Nat.zero_le _, rfl, rfl, by omega, HM, HL, Lib.hid (World.ownsRow_nil _ _ _ _), hb⟩
      case round =>
        clear HM HL hb
        obtain ⟨q, n, g, vv, hq, rfl, rfl, hn, HM, HL, HO, hb⟩ := hrel
        have hszr := hb.size
        by_cases hlt : q < es.length
        · have hx : es[q]? = some es[q] := List.getElem?_eq_getElem hlt
          have hck := HK.out _ (List.getElem_mem hlt)
          obtain ⟨ad, cs, rfl, hadB, hcs, ds, rfl, hvx⟩ := (HEs.out.below recE HB.out hb) q _ hx
          generalize es[q] = x at *
          obtain ⟨⟨x1, x2, x3, x4⟩, xf, v⟩ := x
          obtain ⟨k2, b2, i2, f2, t2, y2, is2, fs2⟩ := v
          simp only [IsV] at hvx
          obtain ⟨A2, c2, A2', c2', rfl, _⟩ := hvx
          obtain ⟨d0, d1, d2, d3, d4, d5, d6, d7, d8, d9, d10, d11, d12⟩ := hcs.thirteen
          simp only at d0 d1 d2 d3 d4 hck
          have HX := Lib.hid hx
          clear hcs hx
          have gm := HM.out.lt
          have hln := idl_le es tr q
          have HM2 := Lib.hid (HM.out.heap (w' := wr.alloc (.cells #[.string x1, .string x2, .string x3, .string x4, .bool xf, .int .i64 k2, .bool b2, .int .i64 i2, .float .f64 f2, .string t2, .string y2, .slice A2 is2.length c2, .slice A2' fs2.length c2'] 39)) (Below.heap_alloc _ _ _ gm))
          obtain ⟨v, HV⟩ : ∃ v : Int, Hid ((g ⟨x1, x2, x3, x4⟩).getD 0 = v) := ⟨_, rfl⟩
          have L1 := HM2.out.look1 hck
          rw [HV.out] at L1
          have HI := Lib.hid (left_idle HL.out HX.out)
          by_cases hz : v = 0
          · subst hz
            have HLn := Lib.hid (left_stay HL.out HX.out HV.out)
            have HIn : Hid (idl es tr (q + 1) = idl es tr q ++ [q]) := Lib.hid (by simp only [idl]; rw [HI.out, HV.out]; simp)
            go_wp2_with (at_builtin; go_must (refine wpList_app _ rfl (.tmp 37) (.tmp 39) _ rfl (w.heap.size + 1) 3 ii _ 1 8 Try.underlying28 hiv hv0 hv1 hv2 rfl (by omega) vv (idl es tr q).length ((idl es tr q).map iv) rfl ((HO.out.alloc _).alloc _) (wr.heap.size + 1 + 1) (some ⟨wr.heap.size + 1, 0, none⟩) 1 1 [.int .i64 (q : Int)] rfl rfl (Rd.newAt (wr.alloc (.cells #[.string x1, .string x2, .string x3, .string x4, .bool xf, .int .i64 k2, .bool b2, .int .i64 i2, .float .f64 f2, .string t2, .string y2, .slice A2 is2.length c2, .slice A2' fs2.length c2'] 39)) (wr.heap.size + 1) [.int .i64 (q : Int)] 3 (by simp)) (fun h => by cases h) (by simp; rfl) (by unfold maxLen; omega) (by omega) (by simp; omega) ?_); intro v5 w5 hown5 hgrow5 hat5)
            have h5 := hgrow5.size
            have hOn : Hid (w5.ownsRow (w.heap.size + 1) 3 1 v5 (idl es tr (q + 1)).length ((idl es tr (q + 1)).map iv)) := Lib.hid (by rw [HIn.out, List.length_append, List.map_append]; exact hown5)
            have hMn := Lib.hid (((HM2.out.heap (w' := (wr.alloc (.cells #[.string x1, .string x2, .string x3, .string x4, .bool xf, .int .i64 k2, .bool b2, .int .i64 i2, .float .f64 f2, .string t2, .string y2, .slice A2 is2.length c2, .slice A2' fs2.length c2'] 39)).alloc (.cells #[.int .i64 (q : Int)] 3)) (Below.heap_alloc _ _ _ HM2.out.lt)).kept hgrow5 (fun e => by have := (HO.out.lt _ e.symm).1; omega)).more (Nat.le_succ n))
            have hbn : Below w.heap.size w w5 := ((hb.alloc hszr _).alloc (by simp; omega) _).grown hgrow5 (by simp; omega) (fun k hk => by have := (HO.out.lt k hk).1; omega)
            clear hown5 hgrow5 hat5
            go_wp2_with fail
            go_roundw
            case rel => exact ⟨q + 1, n + 1, g, _, by omega, by go_num, rfl, by omega, hMn, HLn, hOn, hbn⟩
            case measure => simp [intOf]; omega
          · have hzf : ((v : Int) == 0) = false := by simp; exact hz
            have HLn := Lib.hid (left_zero HL.out HX.out)
            have HIn : Hid (idl es tr (q + 1) = idl es tr q) := Lib.hid (by simp only [idl]; rw [HI.out, HV.out, decide_eq_false hz]; simp)
            obtain ⟨w3, U1, hM3, hg3⟩ := HM2.out.put hck (show n < maxLen by unfold maxLen; omega) (i := 0) (by decide)
            have HM3 := Lib.hid hM3
            have HO3 := Lib.hid ((HO.out.alloc (.cells #[.string x1, .string x2, .string x3, .string x4, .bool xf, .int .i64 k2, .bool b2, .int .i64 i2, .float .f64 f2, .string t2, .string y2, .slice A2 is2.length c2, .slice A2' fs2.length c2'] 39)).kept hg3 (.inr (fun e => by have := (HO.out.lt _ e).1; omega)))
            have hbn : Below w.heap.size w w3 := (hb.alloc hszr _).grown hg3 (by simp; omega) (fun k hk => by injection hk; omega)
            have hs3 := hg3.size
            clear hM3 hg3 hz
            go_wp2_with fail
            go_roundw
            case rel => exact ⟨q + 1, n + 1, _, _, by omega, by go_num, rfl, by omega, HM3, HLn, Lib.hid (by rw [HIn.out]; exact HO3.out), hbn⟩
            case measure => simp [intOf]; omega
        · obtain rfl : q = es.length := by omega
          go_wp2_with fail
          go_ret
          exact ⟨_, rfl, own_base HO.out (by omega), hb⟩
end Go.Proofs.Ytmicjfdibhoamaa.val
