/- look over any value: its first fault. look over a list, an object; over any value. -/
import Derived.Test.YtagghdehbkbemaaGreatDoorGNq
section
namespace Go.Proofs.YtagghdehbkbemaaGreatDoor.look
open Go.RowKit mem txt app smap val
attribute [local go_sem] run_store_float
set_option linter.unusedVariables false

/-- the tables that stand in the world -/
structure Env (w : World) : Prop where
  tabs : Tabs w
  num : pg.NumAt w
theorem Env.below {w w' : World} (h : Env w) (hb : Below w.heap.size w w') : Env w' := ⟨h.tabs.below hb, h.num.below hb⟩
theorem blk8 {w : World} {g : Nat} {t : TypeId} {c0 c1 c2 c3 c4 c5 c6 c7 : Value} (h : w.heap[g]? = some (.cells #[c0, c1, c2, c3, c4, c5, c6, c7] t (0, 0))) :
    w.cell? ⟨g, 0, none⟩ = some c0 ∧ w.cell? ⟨g, 1, none⟩ = some c1 ∧ w.cell? ⟨g, 2, none⟩ = some c2 ∧ w.cell? ⟨g, 3, none⟩ = some c3 ∧ w.cell? ⟨g, 4, none⟩ = some c4 ∧ w.cell? ⟨g, 5, none⟩ = some c5 ∧ w.cell? ⟨g, 6, none⟩ = some c6 ∧ w.cell? ⟨g, 7, none⟩ = some c7 :=
  ⟨cell_of_row w g 0 _ t (0, 0) h, cell_of_row w g 1 _ t (0, 0) h, cell_of_row w g 2 _ t (0, 0) h, cell_of_row w g 3 _ t (0, 0) h, cell_of_row w g 4 _ t (0, 0) h, cell_of_row w g 5 _ t (0, 0) h, cell_of_row w g 6 _ t (0, 0) h, cell_of_row w g 7 _ t (0, 0) h⟩
theorem lks_step {l : List V} {i : Nat} {x : V} (h : l[i]? = some x) : lks (l.drop i) = if lk x = 0 then lks (l.drop (i + 1)) else lk x := by
  obtain ⟨hi, he⟩ := List.getElem?_eq_some_iff.1 h
  rw [List.drop_eq_getElem_cons hi, he]
  simp only [lks]
theorem lkf_step {l : List (ByteArray × V)} {i : Nat} {s : ByteArray} {x : V} (h : l[i]? = some (s, x)) : lkf (l.drop i) = if lk x = 0 then lkf (l.drop (i + 1)) else lk x := by
  obtain ⟨hi, he⟩ := List.getElem?_eq_some_iff.1 h
  rw [List.drop_eq_getElem_cons hi, he]
  simp only [lkf]

section
variable (b : Bool) (i : Int) (f : Nat) (t y : ByteArray) (A A' : Option Addr) (n m c c' : Nat) (w : World)
set_option maxRecDepth 100000 in
set_option maxHeartbeats 4000000 in
theorem look_easy (k : Int) (h : k = 0 ∨ k = 1 ∨ k = 2) : Calls Tryz.prog 21 #[.agg #[.int .i64 k, .bool b, .int .i64 i, .float .f64 f, .string t, .string y, .slice A n c, .slice A' m c']] w (LkPost w 0) := by
  rcases h with rfl | rfl | rfl
  all_goals
    go_enter Tryz.func21, Tryz.ntmps21
    go_wp2_with fail
    go_end0
    exact lk_good rfl ((Below.refl _ _).alloc (Nat.le_refl _) _)
set_option maxRecDepth 100000 in
set_option maxHeartbeats 4000000 in
theorem look_other (k : Int) (h : k < 0 ∨ 6 < k) : Calls Tryz.prog 21 #[.agg #[.int .i64 k, .bool b, .int .i64 i, .float .f64 f, .string t, .string y, .slice A n c, .slice A' m c']] w (LkPost w 2) := by
  have q0 : (k == 0) = false := beq_false_of_ne (by omega)
  have q1 : (k == 1) = false := beq_false_of_ne (by omega)
  have q2 : (k == 2) = false := beq_false_of_ne (by omega)
  have q3 : (k == 3) = false := beq_false_of_ne (by omega)
  have q4 : (k == 4) = false := beq_false_of_ne (by omega)
  have q5 : (k == 5) = false := beq_false_of_ne (by omega)
  have q6 : (k == 6) = false := beq_false_of_ne (by omega)
  clear h
  go_enter Tryz.func21, Tryz.ntmps21
  go_wp2_with fail
  exact ⟨rfl, lk_bad (by decide) ((Below.refl _ _).alloc (Nat.le_refl _) _)⟩
theorem data_nil {S : ByteArray} (h : S.size = 0) : S = ⟨#[]⟩ := by
  apply ByteArray.ext
  exact Array.eq_empty_of_size_eq_zero h
set_option maxRecDepth 100000 in
set_option maxHeartbeats 4000000 in
theorem look_string (k : Int) (h : k = 4) (hT : Tabs w) (ht : t.size ≤ 1048576) : Calls Tryz.prog 21 #[.agg #[.int .i64 k, .bool b, .int .i64 i, .float .f64 f, .string t, .string y, .slice A n c, .slice A' m c']] w (LkPost w (if Lib.validD t.data.toList = true then 0 else 1)) := by
  subst h
  have HT := Lib.hid hT
  clear hT
  obtain ⟨r, hr⟩ : ∃ r : Int, (if Lib.validD t.data.toList = true then 0 else 1) = r := ⟨_, rfl⟩
  rw [hr]
  have HR := Lib.hid hr
  clear hr
  go_enter Tryz.func21, Tryz.ntmps21
  go_wp2_with fail
  have hb := (Below.refl w.heap.size w).alloc (Nat.le_refl _) (.cells #[.int .i64 4, .bool b, .int .i64 i, .float .f64 f, .string t, .string y, .slice A n c, .slice A' m c'] 27)
  have gB := heap_alloc_new w (.cells #[.int .i64 4, .bool b, .int .i64 i, .float .f64 f, .string t, .string y, .slice A n c, .slice A' m c'] 27)
  have hz := hb.size
  generalize (w.alloc (.cells #[.int .i64 4, .bool b, .int .i64 i, .float .f64 f, .string t, .string y, .slice A n c, .slice A' m c'] 27)) = W1 at *
  have hlt : w.heap.size < W1.heap.size := (Array.getElem?_eq_some_iff.1 gB).1
  cases hv : Lib.validD t.data.toList with
  | true =>
    have HR0 : Hid (r = 0) := Lib.hid (by rw [← HR.out, hv]; rfl)
    refine (lookText_ok t W1 (by omega) (HT.out.below hb) hv).mono ?_
    rintro e w' ⟨rfl, hb2⟩
    obtain ⟨m0, m1, m2, m3, m4, m5, m6, m7⟩ := blk8 ((hb2.block _ hlt).trans gB)
    clear hv
    go_wp2_with fail
    go_end0
    exact lk_good HR0.out (hb.trans (hb2.mono hz))
  | false =>
    have HR0 : Hid (r = 1) := Lib.hid (by rw [← HR.out, hv]; rfl)
    refine (lookText_bad t W1 (by omega) (HT.out.below hb) hv).mono ?_
    rintro e w' ⟨rfl, hb2⟩
    refine ⟨rfl, ?_⟩
    rw [HR0.out]
    exact lk_bad (by decide) (hb.trans (hb2.mono hz))
set_option maxRecDepth 100000 in
set_option maxHeartbeats 4000000 in
theorem look_float (k : Int) (h : k = 3) (hN : pg.NumAt w) (hf : f < 18446744073709551616) : Calls Tryz.prog 21 #[.agg #[.int .i64 k, .bool b, .int .i64 i, .float .f64 f, .string t, .string y, .slice A n c, .slice A' m c']] w (LkPost w (if 9218868437227405312 ≤ f % 9223372036854775808 then 6 else 0)) := by
  subst h
  have HC := Lib.hid (fun w h => pg.floatText_any f hf w h)
  have HZ := Lib.hid ((pg.ftx_spec f).2.2 hf)
  have HN := Lib.hid hN
  obtain ⟨r, hr⟩ : ∃ r : Int, (if 9218868437227405312 ≤ f % 9223372036854775808 then 6 else 0) = r := ⟨_, rfl⟩
  rw [hr]
  have HR := Lib.hid hr
  clear hN hr
  go_enter Tryz.func21, Tryz.ntmps21
  go_wp2_with fail
  have hb := (Below.refl w.heap.size w).alloc (Nat.le_refl _) (.cells #[.int .i64 3, .bool b, .int .i64 i, .float .f64 f, .string t, .string y, .slice A n c, .slice A' m c'] 27)
  have gB := heap_alloc_new w (.cells #[.int .i64 3, .bool b, .int .i64 i, .float .f64 f, .string t, .string y, .slice A n c, .slice A' m c'] 27)
  have hz := hb.size
  generalize (w.alloc (.cells #[.int .i64 3, .bool b, .int .i64 i, .float .f64 f, .string t, .string y, .slice A n c, .slice A' m c'] 27)) = W1 at *
  have hlt : w.heap.size < W1.heap.size := (Array.getElem?_eq_some_iff.1 gB).1
  refine (HC.out W1 (HN.out.below hb)).mono ?_
  rintro e w' ⟨rfl, hb2⟩
  have hb3 := hb.trans (hb2.mono hz)
  obtain ⟨m0, m1, m2, m3, m4, m5, m6, m7⟩ := blk8 ((hb2.block _ hlt).trans gB)
  obtain ⟨S, hS⟩ : ∃ S, pg.ftx f = S := ⟨_, rfl⟩
  rw [hS] at HZ ⊢
  clear hb hb2 gB HC hS
  by_cases hs : S.size = 0
  · have HR0 : Hid (r = 6) := Lib.hid (by rw [← HR.out, if_pos (HZ.out.1 hs)])
    obtain rfl := data_nil hs
    clear HZ hs
    go_wp2_with fail
    refine ⟨rfl, ?_⟩
    rw [HR0.out]
    exact lk_bad (by decide) hb3
  · have HR0 : Hid (r = 0) := Lib.hid (by rw [← HR.out, if_neg (fun h => hs (HZ.out.2 h))])
    have hne : ¬ S.toList = [] := by
      rw [ByteArray.toList_eq]
      intro h
      apply hs
      rw [Lib.size_eq, h]
      rfl
    have hne2 : S.toList.isEmpty = false := by
      cases hl : S.toList with
      | nil => exact absurd hl hne
      | cons a l => rfl
    clear HZ hs
    go_wp2_with fail
    go_end0
    exact lk_good HR0.out hb3
end
end Go.Proofs.YtagghdehbkbemaaGreatDoor.look
end
section
namespace Go.Proofs.YtagghdehbkbemaaGreatDoor.look
open Go.RowKit mem txt app smap val
attribute [local go_sem] run_store_float
set_option linter.unusedVariables false

section
variable (b : Bool) (i : Int) (f : Nat) (t y : ByteArray) (A A' : Option Addr) (n m c c' : Nat) (w : World) (S : Nat → Prop)
set_option maxRecDepth 100000 in
set_option maxHeartbeats 4000000 in
theorem look_items (is : List V) (hn : is.length = n) (hn2 : n ≤ 1048576) (hI : IsVs w S is A 0) (hS : Bel S w.heap.size) (hE : Env w)
    (hc : ∀ (j : Nat) (x : V), is[j]? = some x → ∀ cs W, IsV W S x cs → Bel S W.heap.size → Env W → Calls Tryz.prog 21 #[.agg cs.toArray] W (LkPost W (lk x))) :
    Calls Tryz.prog 21 #[.agg #[.int .i64 5, .bool b, .int .i64 i, .float .f64 f, .string t, .string y, .slice A n c, .slice A' m c']] w (LkPost w (lks is)) := by
  have HI := Lib.hid hI
  have HS := Lib.hid hS
  have HE := Lib.hid hE
  have HC := Lib.hid hc
  have HN := Lib.hid hn
  clear hI hS hE hc hn
  go_enter Tryz.func21, Tryz.ntmps21
  go_wp2_with fail
  have hb1 := (Below.refl w.heap.size w).alloc (Nat.le_refl _) (.cells #[.int .i64 5, .bool b, .int .i64 i, .float .f64 f, .string t, .string y, .slice A n c, .slice A' m c'] 27)
  have gB := heap_alloc_new w (.cells #[.int .i64 5, .bool b, .int .i64 i, .float .f64 f, .string t, .string y, .slice A n c, .slice A' m c'] 27)
  have hz1 := hb1.size
  generalize (w.alloc (.cells #[.int .i64 5, .bool b, .int .i64 i, .float .f64 f, .string t, .string y, .slice A n c, .slice A' m c'] 27)) = W1 at *
  clear gB
  go_loopw [50] (fun v wr => ∃ q : Nat, q ≤ n ∧ v = .int .i64 (q : Int) ∧ Hid (lks is = lks (is.drop q)) ∧ Below w.heap.size w wr) (fun v _ => n - (intOf v).toNat)
  case atStart => exact ⟨0, Nat.zero_le _, rfl, rfl, hb1⟩
  case round =>
    clear hb1 hz1
    obtain ⟨q, hq, rfl, hacc, hb⟩ := hrel
    have hszr := hb.size
    by_cases hlt : q < n
    · have hil : q < is.length := by rw [HN.out]; exact hlt
      obtain ⟨x, hx⟩ : ∃ p, is[q]? = some p := ⟨_, List.getElem?_eq_getElem hil⟩
      obtain ⟨ad, cs, rfl, hadB, hcs, hvx⟩ := (HI.out.below HS.out hb).at_ hx
      rw [Nat.zero_add] at hcs
      have HK := Lib.hid (HC.out q x hx)
      have HST := Lib.hid (lks_step hx)
      have hvx2 := Lib.hid hvx
      obtain ⟨k2, b2, i2, f2, t2, y2, is2, fs2⟩ := x
      simp only [IsV] at hvx
      obtain ⟨A2, c2, A2', c2', rfl, _⟩ := hvx
      obtain ⟨d0, d1, d2, d3, d4, d5, d6, d7⟩ := hcs.eight
      clear hcs hx hil
      go_wp2_with fail
      clear d0 d1 d2 d3 d4 d5 d6 d7
      have hb4 : Below w.heap.size w (wr.alloc (.cells #[.int .i64 k2, .bool b2, .int .i64 i2, .float .f64 f2, .string t2, .string y2, .slice A2 is2.length c2, .slice A2' fs2.length c2'] 27)) := hb.alloc hszr _
      have hb5 : Below wr.heap.size wr (wr.alloc (.cells #[.int .i64 k2, .bool b2, .int .i64 i2, .float .f64 f2, .string t2, .string y2, .slice A2 is2.length c2, .slice A2' fs2.length c2'] 27)) := (Below.refl _ _).alloc (Nat.le_refl _) _
      have HV := Lib.hid (hvx2.out.below (HS.out.mono hszr) hb5)
      have hz4 := hb4.size
      generalize (wr.alloc (.cells #[.int .i64 k2, .bool b2, .int .i64 i2, .float .f64 f2, .string t2, .string y2, .slice A2 is2.length c2, .slice A2' fs2.length c2'] 27)) = W4 at *
      refine (HK.out _ W4 HV.out (HS.out.mono hz4) (HE.out.below hb4)).mono ?_
      rintro e w5 ⟨he1, he2, hb6⟩
      by_cases h0 : lk (.mk k2 b2 i2 f2 t2 y2 is2 fs2) = 0
      · obtain rfl := he1 h0
        have HR : Hid (lks is = lks (is.drop (q + 1))) := Lib.hid (by rw [hacc.out, HST.out, if_pos h0])
        have hb7 := hb4.trans (hb6.mono hz4)
        clear he1 he2 hb6 hb4 hb5 HV HST HK hvx2 h0
        go_wp2_with fail
        exact ⟨⟨q + 1, by omega, by go_num, HR, hb7⟩, by simp [intOf]; omega⟩
      · obtain rfl := he2 h0
        have HR : Hid (lks is = lk (.mk k2 b2 i2 f2 t2 y2 is2 fs2)) := Lib.hid (by rw [hacc.out, HST.out, if_neg h0])
        refine ⟨rfl, ?_⟩
        rw [HR.out]
        exact lk_bad h0 (hb4.trans (hb6.mono hz4))
    · obtain rfl : q = n := by omega
      have HR : Hid (lks is = 0) := Lib.hid (by rw [hacc.out, List.drop_eq_nil_of_le (by rw [HN.out]; exact Nat.le_refl _)]; simp only [lks])
      go_wp2_with fail
      go_end0
      rw [HR.out]
      exact lk_good rfl hb

set_option maxRecDepth 100000 in
set_option maxHeartbeats 4000000 in
theorem look_members (fs : List (ByteArray × V)) (hn : fs.length = m) (hn2 : m ≤ 1048576) (hI : IsFs w S fs A' 0) (hS : Bel S w.heap.size) (hE : Env w) (hok : okf fs)
    (hc : ∀ (j : Nat) (s : ByteArray) (x : V), fs[j]? = some (s, x) → ∀ cs W, IsV W S x cs → Bel S W.heap.size → Env W → Calls Tryz.prog 21 #[.agg cs.toArray] W (LkPost W (lk x))) :
    Calls Tryz.prog 21 #[.agg #[.int .i64 6, .bool b, .int .i64 i, .float .f64 f, .string t, .string y, .slice A n c, .slice A' m c']] w (LkPost w (if nmE [] fs = 0 then lkf fs else nmE [] fs)) := by
  have HNM := Lib.hid (fun W (hW : Below w.heap.size w W) => names_any fs A' c' m W S hn (hI.below hS hW) (hS.mono hW.size) (hE.below hW).tabs hok hn2)
  have HI := Lib.hid hI
  have HS := Lib.hid hS
  have HE := Lib.hid hE
  have HC := Lib.hid hc
  have HN := Lib.hid hn
  obtain ⟨r, hr⟩ : ∃ r : Int, (if nmE [] fs = 0 then lkf fs else nmE [] fs) = r := ⟨_, rfl⟩
  rw [hr]
  have HRR := Lib.hid hr
  clear hI hS hE hc hn hok hr
  go_enter Tryz.func21, Tryz.ntmps21
  go_wp2_with fail
  have hb1 := (Below.refl w.heap.size w).alloc (Nat.le_refl _) (.cells #[.int .i64 6, .bool b, .int .i64 i, .float .f64 f, .string t, .string y, .slice A n c, .slice A' m c'] 27)
  have gB := heap_alloc_new w (.cells #[.int .i64 6, .bool b, .int .i64 i, .float .f64 f, .string t, .string y, .slice A n c, .slice A' m c'] 27)
  have hz1 := hb1.size
  generalize (w.alloc (.cells #[.int .i64 6, .bool b, .int .i64 i, .float .f64 f, .string t, .string y, .slice A n c, .slice A' m c'] 27)) = W1 at *
  have hlt1 : w.heap.size < W1.heap.size := (Array.getElem?_eq_some_iff.1 gB).1
  refine (HNM.out W1 hb1).mono ?_
  rintro e w2 ⟨he1, he2, hb2⟩
  by_cases hnm : nmE [] fs = 0
  · obtain rfl := he1 hnm
    have HR0 : Hid (r = lkf fs) := Lib.hid (by rw [← HRR.out, if_pos hnm])
    have gB2 := Lib.hid ((hb2.block w.heap.size hlt1).trans gB)
    obtain ⟨m0, m1, m2, m3, m4, m5, m6, m7⟩ := blk8 gB2.out
    have hb3 : Below w.heap.size w w2 := hb1.trans (hb2.mono hz1)
    have hz2 : w.heap.size < w2.heap.size := by have := hb2.size; omega
    clear gB hb1 hb2 HNM hz1 he1 he2 hnm hlt1
    go_wp2_with fail
    clear m0 m1 m2 m3 m4 m5 m6 m7
    go_loopw [36] (fun v wr => ∃ q : Nat, q ≤ m ∧ v = .int .i64 (q : Int) ∧ Hid (lkf fs = lkf (fs.drop q)) ∧ Below w2.heap.size w2 wr) (fun v _ => m - (intOf v).toNat)
    case atStart => exact ⟨0, Nat.zero_le _, rfl, rfl, Below.refl _ _⟩
    case round =>
      obtain ⟨q, hq, rfl, hacc, hbr⟩ := hrel
      have hszr := hbr.size
      have hb : Below w.heap.size w wr := hb3.trans (hbr.mono (by omega))
      have hsz0 := hb.size
      obtain ⟨m0, m1, m2, m3, m4, m5, m6, m7⟩ := blk8 ((hbr.block w.heap.size hz2).trans gB2.out)
      by_cases hlt : q < m
      · have hil : q < fs.length := by rw [HN.out]; exact hlt
        obtain ⟨p, hx⟩ : ∃ p, fs[q]? = some p := ⟨_, List.getElem?_eq_getElem hil⟩
        obtain ⟨s, x⟩ := p
        obtain ⟨ad, cs, rfl, hadB, hcs, hvx⟩ := (HI.out.below HS.out hb).at_ hx
        rw [Nat.zero_add] at hcs
        simp only at hcs hvx
        have HK := Lib.hid (HC.out q s x hx)
        have HST := Lib.hid (lkf_step hx)
        have hvx2 := Lib.hid hvx
        obtain ⟨k2, b2, i2, f2, t2, y2, is2, fs2⟩ := x
        simp only [IsV] at hvx
        obtain ⟨A2, c2, A2', c2', rfl, _⟩ := hvx
        obtain ⟨d0, d1, d2, d3, d4, d5, d6, d7, d8⟩ := hcs.nine
        clear hcs hx hil
        go_wp2_with fail
        clear d0 d1 d2 d3 d4 d5 d6 d7 d8 m0 m1 m2 m3 m4 m5 m6 m7
        have hb4 : Below w2.heap.size w2 (wr.alloc (.cells #[.string s, .int .i64 k2, .bool b2, .int .i64 i2, .float .f64 f2, .string t2, .string y2, .slice A2 is2.length c2, .slice A2' fs2.length c2'] 41)) := hbr.alloc hszr _
        have hb5 : Below wr.heap.size wr (wr.alloc (.cells #[.string s, .int .i64 k2, .bool b2, .int .i64 i2, .float .f64 f2, .string t2, .string y2, .slice A2 is2.length c2, .slice A2' fs2.length c2'] 41)) := (Below.refl _ _).alloc (Nat.le_refl _) _
        have HV := Lib.hid (hvx2.out.below (HS.out.mono hsz0) hb5)
        have hz4 := hb4.size
        generalize (wr.alloc (.cells #[.string s, .int .i64 k2, .bool b2, .int .i64 i2, .float .f64 f2, .string t2, .string y2, .slice A2 is2.length c2, .slice A2' fs2.length c2'] 41)) = W4 at *
        refine (HK.out _ W4 HV.out (HS.out.mono (by omega)) (HE.out.below (hb3.trans (hb4.mono (by omega))))).mono ?_
        rintro e w5 ⟨he1, he2, hb6⟩
        by_cases h0 : lk (.mk k2 b2 i2 f2 t2 y2 is2 fs2) = 0
        · obtain rfl := he1 h0
          have HR : Hid (lkf fs = lkf (fs.drop (q + 1))) := Lib.hid (by rw [hacc.out, HST.out, if_pos h0])
          have hb7 := hb4.trans (hb6.mono hz4)
          clear he1 he2 hb6 hb4 hb5 HV HST HK hvx2 h0
          go_wp2_with fail
          exact ⟨⟨q + 1, by omega, by go_num, HR, hb7⟩, by simp [intOf]; omega⟩
        · obtain rfl := he2 h0
          have HR : Hid (lkf fs = lk (.mk k2 b2 i2 f2 t2 y2 is2 fs2)) := Lib.hid (by rw [hacc.out, HST.out, if_neg h0])
          refine ⟨rfl, ?_⟩
          rw [HR0.out, HR.out]
          exact lk_bad h0 (hb3.trans ((hb4.trans (hb6.mono hz4)).mono (by omega)))
      · obtain rfl : q = m := by omega
        have HR : Hid (lkf fs = 0) := Lib.hid (by rw [hacc.out, List.drop_eq_nil_of_le (by rw [HN.out]; exact Nat.le_refl _)]; simp only [lkf])
        go_wp2_with fail
        go_end0
        rw [HR0.out, HR.out]
        exact lk_good rfl hb
  · obtain rfl := he2 hnm
    have HR0 : Hid (r = nmE [] fs) := Lib.hid (by rw [← HRR.out, if_neg hnm])
    refine ⟨rfl, ?_⟩
    rw [HR0.out]
    exact lk_bad hnm (hb1.trans (hb2.mono hz1))
end

/-- look, whatever the value -/
theorem look_any : ∀ (N : Nat) (v : V), sz v ≤ N → N ≤ 1048576 → ok v → ∀ (cs : List Value) (w : World) (S : Nat → Prop), IsV w S v cs → Bel S w.heap.size → Env w →
    Calls Tryz.prog 21 #[.agg cs.toArray] w (LkPost w (lk v)) := by
  intro N
  induction N with
  | zero => intro v hv; have := sz_pos v; omega
  | succ N ih =>
    intro v hv hN hok cs w S hV hB hE
    obtain ⟨k, b, i, f, t, y, is, fs⟩ := v
    simp only [IsV] at hV
    obtain ⟨A, c, A', c', rfl, hA, hA', his, hfs⟩ := hV
    simp only [sz] at hv
    simp only [ok] at hok
    obtain ⟨⟨hi1, hi2, hf, ht, hy⟩, hos, hof⟩ := hok
    have hl1 := szs_len is
    have hl2 := szf_len fs
    simp only [lk]
    by_cases c0 : k = 0 ∨ k = 1 ∨ k = 2
    · rw [if_pos c0]
      exact look_easy b i f t y A A' _ _ c c' w k c0
    rw [if_neg c0]
    by_cases c3 : k = 3
    · rw [if_pos c3]
      exact look_float b i f t y A A' _ _ c c' w k c3 hE.num hf
    rw [if_neg c3]
    by_cases c4 : k = 4
    · rw [if_pos c4]
      exact look_string b i f t y A A' _ _ c c' w k c4 hE.tabs ht
    rw [if_neg c4]
    by_cases c5 : k = 5
    · rw [if_pos c5]
      subst c5
      exact look_items b i f t y A A' _ _ c c' w S is rfl (by omega) his hB hE (fun j x hx cs W hV hB hE => ih x (by have := szs_get hx; omega) (by omega) (oks_get hos hx) cs W S hV hB hE)
    rw [if_neg c5]
    by_cases c6 : k = 6
    · rw [if_pos c6]
      subst c6
      exact look_members b i f t y A A' _ _ c c' w S fs rfl (by omega) hfs hB hE hof (fun j s x hx cs W hV hB hE => ih x (by have := szf_get hx; simp only at this; omega) (by omega) (okf_get hof hx).2 cs W S hV hB hE)
    rw [if_neg c6]
    exact look_other b i f t y A A' _ _ c c' w k (by omega)
end Go.Proofs.YtagghdehbkbemaaGreatDoor.look
end
