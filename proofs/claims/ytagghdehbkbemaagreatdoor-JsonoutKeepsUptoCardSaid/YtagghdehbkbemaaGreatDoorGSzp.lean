/- PLAIN LEAN: how long a value's text is, part by part. sizeOf, whatever the value without a fault. Size, whatever the value. -/
import Derived.Test.YtagghdehbkbemaaGreatDoorGFtx
import Derived.Test.YtagghdehbkbemaaGreatDoorGDfq
import Derived.Deep.RegionHeld3
section
namespace Go.Proofs.YtagghdehbkbemaaGreatDoor.val
open Go.RowKit mem txt
set_option linter.unusedVariables false

/-- how many bytes more than its own a character's text has -/
def extra (r : Nat) : Nat := if escB r = 0 then 0 else if escB r = 117 then 5 else 1
def ext (l : List UInt8) : Nat := ((runes l).map extra).sum
theorem ext_nil : ext [] = 0 := rfl
theorem ext_step (l : List UInt8) (hne : l ≠ []) : ext l = extra (Lib.decodeL l).1 + ext (l.drop (Lib.decodeL l).2) := by
  unfold ext
  rw [runes_step l hne]
  simp
/-- a character that was read takes as many bytes as its own text -/
theorem enc_width (l : List UInt8) (hne : l ≠ []) (hv : ¬ ((Lib.decodeL l).1 = 65533 ∧ (Lib.decodeL l).2 = 1)) : (Lib.encodeRuneZ (Lib.decodeL l).1).length = (Lib.decodeL l).2 := by
  rw [Lib.decodeL_N] at hv ⊢
  rcases Lib.decodeN_shape l.length (l.getD 0 0).toNat (l.getD 1 0).toNat (l.getD 2 0).toNat (l.getD 3 0).toNat with ⟨c, e⟩ | ⟨c1, c2, c3, cv, e⟩ | ⟨c1, c2, c3, c4, cv, cs, e⟩ | ⟨c1, c2, c3, c4, c5, cv, cw, e⟩ | e
  · rw [e]
    show (Lib.encodeRuneZ ((l.getD 0 0).toNat : Nat)).length = 1
    rw [Lib.encodeRuneZ_one (by omega) (by omega)]
    rfl
  · rw [e]
    show (Lib.encodeRuneZ ((_ : Nat) : Int)).length = 2
    rw [Lib.encodeRuneZ_two (by omega) (by omega)]
    rfl
  · rw [e]
    show (Lib.encodeRuneZ ((_ : Nat) : Int)).length = 3
    rw [Lib.encodeRuneZ_three (by omega)]
    rfl
  · rw [e]
    show (Lib.encodeRuneZ ((_ : Nat) : Int)).length = 4
    rw [Lib.encodeRuneZ_four (by omega) (by omega)]
    rfl
  · rw [e] at hv
    exact absurd ⟨rfl, rfl⟩ hv
theorem low_width (l : List UInt8) (hne : l ≠ []) (h : (Lib.decodeL l).1 < 128) : (Lib.decodeL l).2 = 1 := by
  rw [Lib.decodeL_N] at h ⊢
  rcases Lib.decodeN_shape l.length (l.getD 0 0).toNat (l.getD 1 0).toNat (l.getD 2 0).toNat (l.getD 3 0).toNat with ⟨c, e⟩ | ⟨c1, c2, c3, cv, e⟩ | ⟨c1, c2, c3, c4, cv, cs, e⟩ | ⟨c1, c2, c3, c4, c5, cv, cw, e⟩ | e
  · rw [e]
  · rw [e] at h; simp only at h; omega
  · rw [e] at h; simp only at h; omega
  · rw [e] at h; simp only at h; omega
  · rw [e]
theorem escB_cases (r : Nat) : escB r = 0 ∨ (escB r ≠ 0 ∧ r < 128) := by
  unfold escB
  repeat' split
  all_goals omega
theorem enc_len : ∀ (n : Nat) (l : List UInt8), l.length ≤ n → Lib.validD l = true → (encZ l).length = l.length + ext l
  | 0, l, h, _ => by
    obtain rfl : l = [] := List.eq_nil_of_length_eq_zero (by omega)
    rfl
  | n + 1, l, h, hv => by
    by_cases hne : l = []
    · subst hne; rfl
    · have hw := Lib.decodeL_width l
      have hl : 0 < l.length := List.length_pos_iff.2 hne
      have hle := Lib.decodeL_le l hne
      obtain ⟨h1, h2⟩ := valid_step hne hv
      have ih := enc_len n (l.drop (Lib.decodeL l).2) (by rw [List.length_drop]; omega) h2
      rw [encZ_step l hne, ext_step l hne, List.length_append, ih, List.length_drop]
      have e1 := enc_width l hne h1
      have e2 := low_width l hne
      have e3 := escB_cases (Lib.decodeL l).1
      have : (escZ (Lib.decodeL l).1).length = (Lib.decodeL l).2 + extra (Lib.decodeL l).1 := by
        unfold escZ extra
        by_cases c0 : escB (Lib.decodeL l).1 = 0
        · rw [if_pos c0, if_pos c0, e1]; omega
        · rw [if_neg c0, if_neg c0]
          have hw1 := e2 (by omega)
          by_cases c1 : escB (Lib.decodeL l).1 = 117
          · rw [if_pos c1, if_pos c1, hw1]; rfl
          · rw [if_neg c1, if_neg c1, hw1]; rfl
      rw [this]
      omega
theorem quote_len (s : ByteArray) (hv : Lib.validD s.data.toList = true) : (quoteZ s.data.toList).length = s.size + 2 + ext s.data.toList := by
  have := enc_len _ s.data.toList (Nat.le_refl _) hv
  have h2 := Lib.size_eq s
  simp only [quoteZ, List.length_cons, List.length_append, List.length_nil]
  omega
/-- the parts' lengths, added up -/
noncomputable def sumS : List V → Nat
  | [] => 0
  | v :: r => (tx v).length + sumS r
noncomputable def sumF : List (ByteArray × V) → Nat
  | [] => 0
  | (s, v) :: r => ((quoteZ s.data.toList).length + 1 + (tx v).length) + sumF r
theorem txr_sum (l : List V) : (txr l).length = sumS l + l.length := by
  induction l with
  | nil => simp [txr, sumS]
  | cons v r ih => simp only [txr, sumS, List.length_cons, List.length_append, ih]; omega
theorem txs_sum (l : List V) : (txs l).length = sumS l + (l.length - 1) := by
  cases l with
  | nil => simp [txs, sumS]
  | cons v r => simp only [txs, sumS, List.length_cons, List.length_append, txr_sum]; omega
theorem txg_sum (l : List (ByteArray × V)) : (txg l).length = sumF l + l.length := by
  induction l with
  | nil => simp [txg, sumF]
  | cons p r ih => obtain ⟨s, v⟩ := p; simp only [txg, sumF, List.length_cons, List.length_append, ih]; omega
theorem txf_sum (l : List (ByteArray × V)) : (txf l).length = sumF l + (l.length - 1) := by
  cases l with
  | nil => simp [txf, sumF]
  | cons p r => obtain ⟨s, v⟩ := p; simp only [txf, sumF, List.length_cons, List.length_append, txg_sum]; omega
theorem sumS_step {l : List V} {i : Nat} {x : V} (h : l[i]? = some x) : sumS (l.drop i) = (tx x).length + sumS (l.drop (i + 1)) := by
  obtain ⟨hi, he⟩ := List.getElem?_eq_some_iff.1 h
  rw [List.drop_eq_getElem_cons hi, he]
  simp only [sumS]
theorem sumF_step {l : List (ByteArray × V)} {i : Nat} {s : ByteArray} {x : V} (h : l[i]? = some (s, x)) : sumF (l.drop i) = ((quoteZ s.data.toList).length + 1 + (tx x).length) + sumF (l.drop (i + 1)) := by
  obtain ⟨hi, he⟩ := List.getElem?_eq_some_iff.1 h
  rw [List.drop_eq_getElem_cons hi, he]
  simp only [sumF]
theorem sumS_get {l : List V} {i : Nat} {x : V} (h : l[i]? = some x) : (tx x).length ≤ sumS l := by
  induction l generalizing i with
  | nil => simp at h
  | cons y r ih =>
    simp only [sumS]
    cases i with
    | zero => simp at h; subst h; omega
    | succ i => have := ih (i := i) (by simpa using h); omega
theorem sumF_get {l : List (ByteArray × V)} {i : Nat} {s : ByteArray} {x : V} (h : l[i]? = some (s, x)) : (tx x).length ≤ sumF l := by
  induction l generalizing i with
  | nil => simp at h
  | cons y r ih =>
    obtain ⟨s', y⟩ := y
    simp only [sumF]
    cases i with
    | zero => simp at h; obtain ⟨rfl, rfl⟩ := h; omega
    | succ i => have := ih (i := i) (by simpa using h); omega
/-- of a value without a fault the parts have none -/
theorem lks_get {l : List V} (h : lks l = 0) {j : Nat} {v : V} (hv : l[j]? = some v) : lk v = 0 := by
  induction l generalizing j with
  | nil => simp at hv
  | cons x r ih =>
    simp only [lks] at h
    by_cases hx : lk x = 0
    · rw [if_pos hx] at h
      cases j with
      | zero => simp at hv; subst hv; exact hx
      | succ j => exact ih h (by simpa using hv)
    · rw [if_neg hx] at h; exact absurd h hx
theorem lkf_get {l : List (ByteArray × V)} (h : lkf l = 0) {j : Nat} {p : ByteArray × V} (hv : l[j]? = some p) : lk p.2 = 0 := by
  induction l generalizing j with
  | nil => simp at hv
  | cons x r ih =>
    obtain ⟨s, x⟩ := x
    simp only [lkf] at h
    by_cases hx : lk x = 0
    · rw [if_pos hx] at h
      cases j with
      | zero => simp at hv; subst hv; exact hx
      | succ j => exact ih h (by simpa using hv)
    · rw [if_neg hx] at h; exact absurd h hx
theorem nmE_get {l : List (ByteArray × V)} {seen : List ByteArray} (h : nmE seen l = 0) {j : Nat} {p : ByteArray × V} (hv : l[j]? = some p) : Lib.validD p.1.data.toList = true := by
  induction l generalizing j seen with
  | nil => simp at hv
  | cons x r ih =>
    obtain ⟨s, x⟩ := x
    simp only [nmE] at h
    by_cases hx : Lib.validD s.data.toList = true
    · rw [if_pos hx] at h
      cases j with
      | zero => simp at hv; subst hv; exact hx
      | succ j =>
        split at h
        · omega
        · exact ih h (by simpa using hv)
    · rw [if_neg hx] at h; omega
end Go.Proofs.YtagghdehbkbemaaGreatDoor.val
end
section
namespace Go.Proofs.YtagghdehbkbemaaGreatDoor.look
open Go.RowKit mem txt app smap esc val
attribute [local go_sem] run_store_float
set_option linter.unusedVariables false

set_option maxRecDepth 100000 in
set_option maxHeartbeats 4000000 in
theorem sizeOfText_any (s : ByteArray) (hs : s.size ≤ 4194304) (w : World) :
    Calls Tryz.prog 39 #[.string s] w fun e w' => e = .returned (.int .i64 ((s.size + 2 + ext s.data.toList : Nat) : Int)) ∧ Below w.heap.size w w' := by
  go_enter Tryz.func39, Tryz.ntmps39
  go_wp2
  go_loopw [3] (fun v3 wr => ∃ (pos acc : Nat), v3 = .int .i64 (acc : Int) ∧ wr.heap[w.heap.size]? = some (.stringIter s pos) ∧ Below w.heap.size w wr ∧ pos ≤ s.size ∧ Hid (acc + ext (s.data.toList.drop pos) = s.size + 2 + ext s.data.toList) ∧ acc ≤ s.size + 2 + 5 * pos) (fun _ wr => s.size - wr.iterPos w.heap.size)
  case atStart =>
    exact ⟨0, s.size + 2, by go_num, World.iter_heap w s 0, (Below.refl _ _).alloc (Nat.le_refl _) _, Nat.zero_le _, rfl, by omega⟩
  case round =>
    obtain ⟨pos, acc, rfl, hit, hb, hpos, hacc, hlen⟩ := hrel
    have hszr : w.heap.size < wr.heap.size := (Array.getElem?_eq_some_iff.1 hit).1
    have hszL := Lib.size_eq s
    by_cases hp : pos < s.size
    · have hwd := Lib.decode_width_pos s pos hp
      have hne : s.data.toList.drop pos ≠ [] := by
        intro h0
        have := congrArg List.length h0
        rw [List.length_drop] at this
        simp at this
        omega
      have hr1 : (Utf8.decode s pos).1 ≤ 1114111 := by
        rw [← Lib.decodeL_drop]
        exact Lib.decodeL_rune _
      have hpw : pos + (Utf8.decode s pos).2 ≤ s.size := by
        have h1 := Lib.decodeL_le _ hne
        rw [Lib.decodeL_drop, List.length_drop] at h1
        omega
      have hst : ext (s.data.toList.drop pos) = extra (Utf8.decode s pos).1 + ext (s.data.toList.drop (pos + (Utf8.decode s pos).2)) := by
        rw [ext_step _ hne, Lib.decodeL_drop, List.drop_drop]
      have hnx : ∀ ty, (Instr.next (.pointer (some ⟨w.heap.size, 0, none⟩)) true ty).run Tryz.prog wr = _ := fun ty => Lib.run_next_any_at wr w.heap.size s pos ty hit hp
      have hit2 := Lib.iterAt_heap wr w.heap.size s pos (pos + (Utf8.decode s pos).2) hit
      have hb2 := Lib.below_iterAt hb (k := w.heap.size) (Nat.le_refl _) s (pos + (Utf8.decode s pos).2)
      have hz2 : (wr.iterAt w.heap.size s (pos + (Utf8.decode s pos).2)).heap.size = wr.heap.size := Lib.iterAt_size _ _ _ _
      rw [hst] at hacc
      have HAC := Lib.hid hacc
      have hmz : ∀ W : World, W.heap[w.heap.size]? = some (.stringIter s (pos + (Utf8.decode s pos).2)) → s.size - W.iterPos w.heap.size < s.size - wr.iterPos w.heap.size := fun W hW => by
        simp only [World.iterPos, hW, hit]
        omega
      have HM := Lib.hid hmz
      clear hst hne hacc hmz hit
      obtain ⟨q, hq⟩ : ∃ q, pos + (Utf8.decode s pos).2 = q := ⟨_, rfl⟩
      obtain ⟨r, hr⟩ : ∃ r, (Utf8.decode s pos).1 = r := ⟨_, rfl⟩
      rw [hq] at hpw hnx hit2 hb2 hz2 HM HAC
      rw [hr] at hr1 hnx HAC
      obtain ⟨W, hW⟩ : ∃ W, wr.iterAt w.heap.size s q = W := ⟨_, rfl⟩
      rw [hW] at hnx hit2 hb2 hz2
      clear hW
      have HI2 := Lib.hid hit2
      have hqp : pos + 1 ≤ q := by omega
      clear hq hr hwd hit2 hszL
      go_wp2_with fail
      refine (escape_any r hr1 _).mono ?_
      rintro e w' ⟨rfl, o, rfl⟩
      have HI3 := Lib.hid (iter_alloc HI2.out o)
      have hb3 : Below w.heap.size w (W.alloc o) := hb2.alloc (by omega) o
      generalize W.alloc o = W3 at *
      clear HI2 hb2 hz2 hnx
      obtain ⟨el, hel⟩ : ∃ el, escB r = el := ⟨_, rfl⟩
      have hez : extra r = if el = 0 then 0 else if el = 117 then 5 else 1 := by rw [← hel]; rfl
      rw [hel]
      clear hel
      rw [hez] at HAC
      clear hez
      by_cases e0 : el = 0
      · subst e0
        have hA : acc + ext (s.data.toList.drop q) = s.size + 2 + ext s.data.toList := by have := HAC.out.out; simp at this; omega
        have HA := Lib.hid hA
        clear hA
        go_wp2_with fail
        exact ⟨⟨q, acc, rfl, HI3.out, hb3, hpw, HA.out, by omega⟩, HM.out _ HI3.out⟩
      · by_cases e1 : el = 117
        · subst e1
          have hA : acc + 5 + ext (s.data.toList.drop q) = s.size + 2 + ext s.data.toList := by have := HAC.out.out; simp at this; omega
          have HA := Lib.hid hA
          clear hA
          go_wp2_with fail
          exact ⟨⟨q, acc + 5, by go_num, HI3.out, hb3, hpw, HA.out, by omega⟩, HM.out _ HI3.out⟩
        · have he0 : ((el : Int) == 0) = false := by simp; omega
          have he1 : ((el : Int) == 117) = false := by simp; omega
          have hA : acc + 1 + ext (s.data.toList.drop q) = s.size + 2 + ext s.data.toList := by have := HAC.out.out; rw [if_neg e0, if_neg e1] at this; omega
          have HA := Lib.hid hA
          clear hA
          go_wp2_with fail
          exact ⟨⟨q, acc + 1, by go_num, HI3.out, hb3, hpw, HA.out, by omega⟩, HM.out _ HI3.out⟩
    · have hend : s.data.toList.drop pos = [] := List.drop_eq_nil_of_le (by omega)
      rw [hend, ext_nil] at hacc
      have HAC := Lib.hid hacc
      clear hacc hend hszL
      have hnx : ∀ ty, (Instr.next (.pointer (some ⟨w.heap.size, 0, none⟩)) true ty).run Tryz.prog wr = _ := fun ty => Lib.run_next_end_at wr w.heap.size s pos ty hit hp
      go_wp2_with fail
      go_ret
      exact ⟨by have := HAC.out.out; exact ret_int (by omega), hb⟩

theorem keep9 {W w' : World} {g B : Nat} {s c0 c1 c2 c3 c4 c5 c6 c7 : Value} (hb : Below B W w') (hg : g < B) (h0 : W.cell? ⟨g, 0, none⟩ = some s) (h1 : W.cell? ⟨g, 1, none⟩ = some c0) (h2 : W.cell? ⟨g, 2, none⟩ = some c1) (h3 : W.cell? ⟨g, 3, none⟩ = some c2) (h4 : W.cell? ⟨g, 4, none⟩ = some c3) (h5 : W.cell? ⟨g, 5, none⟩ = some c4) (h6 : W.cell? ⟨g, 6, none⟩ = some c5) (h7 : W.cell? ⟨g, 7, none⟩ = some c6) (h8 : W.cell? ⟨g, 8, none⟩ = some c7) :
    w'.cell? ⟨g, 0, none⟩ = some s ∧ w'.cell? ⟨g, 1, none⟩ = some c0 ∧ w'.cell? ⟨g, 2, none⟩ = some c1 ∧ w'.cell? ⟨g, 3, none⟩ = some c2 ∧ w'.cell? ⟨g, 4, none⟩ = some c3 ∧ w'.cell? ⟨g, 5, none⟩ = some c4 ∧ w'.cell? ⟨g, 6, none⟩ = some c5 ∧ w'.cell? ⟨g, 7, none⟩ = some c6 ∧ w'.cell? ⟨g, 8, none⟩ = some c7 :=
  ⟨(hb.cell hg).trans h0, (hb.cell hg).trans h1, (hb.cell hg).trans h2, (hb.cell hg).trans h3, (hb.cell hg).trans h4, (hb.cell hg).trans h5, (hb.cell hg).trans h6, (hb.cell hg).trans h7, (hb.cell hg).trans h8⟩

/-- a value's size is n -/
def SizePost (w : World) (n : Nat) (e : Ending) (w' : World) : Prop := e = .returned (.int .i64 (n : Int)) ∧ Below w.heap.size w w'
section
variable (b : Bool) (i : Int) (f : Nat) (t y : ByteArray) (A A' : Option Addr) (n m c c' : Nat) (w : World) (S : Nat → Prop)
set_option maxRecDepth 100000 in
set_option maxHeartbeats 4000000 in
theorem size_plain (k : Int) (T : List Int) (h : k < 4 ∨ 6 < k) (hap : ∀ W, Below w.heap.size w W → Calls Tryz.prog 22 #[.slice none 0 0, .agg #[.int .i64 k, .bool b, .int .i64 i, .float .f64 f, .string t, .string y, .slice A n c, .slice A' m c']] W (RowPost W.heap.size 0 [] T W)) :
    Calls Tryz.prog 24 #[.agg #[.int .i64 k, .bool b, .int .i64 i, .float .f64 f, .string t, .string y, .slice A n c, .slice A' m c']] w (SizePost w T.length) := by
  have q4 : (k == 4) = false := beq_false_of_ne (by omega)
  have q5 : (k == 5) = false := beq_false_of_ne (by omega)
  have q6 : (k == 6) = false := beq_false_of_ne (by omega)
  have HAP := Lib.hid hap
  clear hap h
  go_enter Tryz.func24, Tryz.ntmps24
  go_wp2_with fail
  refine (HAP.out _ ((Below.refl _ _).alloc (Nat.le_refl _) _)).mono ?_
  rintro e w' ⟨v', rfl, ho, hb, hk⟩
  rw [Nat.zero_add] at ho
  obtain ⟨A, c, rfl, _⟩ := own_form ho
  clear ho
  go_wp2_with fail
  go_ret
  exact ⟨rfl, ((Below.refl _ _).alloc (Nat.le_refl _) _).trans (hb.mono (by simp))⟩
set_option maxRecDepth 100000 in
set_option maxHeartbeats 4000000 in
theorem size_string (k : Int) (h : k = 4) (ht : t.size ≤ 1048576) (hv : Lib.validD t.data.toList = true) : Calls Tryz.prog 24 #[.agg #[.int .i64 k, .bool b, .int .i64 i, .float .f64 f, .string t, .string y, .slice A n c, .slice A' m c']] w (SizePost w (quoteZ t.data.toList).length) := by
  subst h
  have HST := Lib.hid (fun W => sizeOfText_any t (by omega) W)
  rw [← quote_len t hv] at HST
  obtain ⟨q, hq⟩ : ∃ q, (quoteZ t.data.toList).length = q := ⟨_, rfl⟩
  rw [hq] at HST ⊢
  clear hv hq
  go_enter Tryz.func24, Tryz.ntmps24
  go_wp2_with fail
  refine (HST.out _).mono ?_
  rintro e w' ⟨rfl, hb⟩
  go_wp2_with fail
  go_ret
  exact ⟨rfl, ((Below.refl _ _).alloc (Nat.le_refl _) _).trans (hb.mono (by simp))⟩
set_option maxRecDepth 100000 in
set_option maxHeartbeats 4000000 in
theorem size_items (is : List V) (hn : is.length = n) (hn2 : n ≤ 1048576) (hI : IsVs w S is A 0) (hS : Bel S w.heap.size) (hsum : sumS is ≤ 549755813888)
    (hc : ∀ (j : Nat) (x : V), is[j]? = some x → ∀ cs W, IsV W S x cs → Below w.heap.size w W → Calls Tryz.prog 24 #[.agg cs.toArray] W (SizePost W (tx x).length)) :
    Calls Tryz.prog 24 #[.agg #[.int .i64 5, .bool b, .int .i64 i, .float .f64 f, .string t, .string y, .slice A n c, .slice A' m c']] w (SizePost w ((91 : Int) :: (txs is ++ [93])).length) := by
  have HI := Lib.hid hI
  have HS := Lib.hid hS
  have HC := Lib.hid hc
  have HN := Lib.hid hn
  have htot : ((91 : Int) :: (txs is ++ [93])).length = sumS is + (n - 1) + 2 := by
    have := txs_sum is
    simp only [List.length_cons, List.length_append, List.length_nil]
    omega
  rw [htot]
  clear hI hS hc hn htot
  go_enter Tryz.func24, Tryz.ntmps24
  go_upto_region 1 with (fail)
  have gB := heap_alloc_new w (.cells #[.int .i64 5, .bool b, .int .i64 i, .float .f64 f, .string t, .string y, .slice A n c, .slice A' m c'] 27)
  have hb0 := (Below.refl w.heap.size w).alloc (Nat.le_refl _) (.cells #[.int .i64 5, .bool b, .int .i64 i, .float .f64 f, .string t, .string y, .slice A n c, .slice A' m c'] 27)
  have hz0 : w.heap.size + 1 = (w.alloc (.cells #[.int .i64 5, .bool b, .int .i64 i, .float .f64 f, .string t, .string y, .slice A n c, .slice A' m c'] 27)).heap.size := by simp
  generalize (w.alloc (.cells #[.int .i64 5, .bool b, .int .i64 i, .float .f64 f, .string t, .string y, .slice A n c, .slice A' m c'] 27)) = W0 at *
  obtain ⟨m0, m1, m2, m3, m4, m5, m6, m7⟩ := blk8 gB
  have GB := Lib.hid gB
  clear gB
  go_wp2_with fail
  clear m0 m1 m2 m3 m4 m5 m6 m7
  obtain ⟨T, hT⟩ : ∃ T, sumS is = T := ⟨_, rfl⟩
  rw [hT] at hsum ⊢
  have HT := Lib.hid hT
  clear hT
  go_loopw [3, 20] (fun v3 v wr => ∃ (q z : Nat), q ≤ n ∧ v = .int .i64 (q : Int) ∧ v3 = .int .i64 (z : Int) ∧ Hid (z + sumS (is.drop q) = T) ∧ Below W0.heap.size W0 wr) (fun _ v _ => n - (intOf v).toNat)
  case atStart => exact ⟨0, 0, Nat.zero_le _, rfl, rfl, Lib.hid (by rw [List.drop_zero, HT.out]; omega), Below.refl _ _⟩
  case round =>
    obtain ⟨q, z, hq, rfl, rfl, HAC, hbr⟩ := hrel
    have hszr := hbr.size
    have hbw : Below w.heap.size w wr := hb0.trans (hbr.mono (by omega))
    have hzT : z ≤ T := by have := HAC.out; omega
    by_cases hlt : q < n
    · have hil : q < is.length := by rw [HN.out]; exact hlt
      obtain ⟨x, hx⟩ : ∃ p, is[q]? = some p := ⟨_, List.getElem?_eq_getElem hil⟩
      obtain ⟨ad, cs, rfl, hadB, hcs, hvx⟩ := (HI.out.below HS.out hbw).at_ hx
      rw [Nat.zero_add] at hcs
      have HK := Lib.hid (HC.out q x hx)
      have hst := sumS_step hx
      have hvx2 := Lib.hid hvx
      obtain ⟨L, hL⟩ : ∃ L, (tx x).length = L := ⟨_, rfl⟩
      rw [hL] at HK hst
      have hzT2 : z + L ≤ T := by have := HAC.out; omega
      have HAC2 : Hid ((z + L) + sumS (is.drop (q + 1)) = T) := Lib.hid (by have := HAC.out; omega)
      clear hst HAC hL
      obtain ⟨k2, b2, i2, f2, t2, y2, is2, fs2⟩ := x
      simp only [IsV] at hvx
      obtain ⟨A2, c2, A2', c2', rfl, _⟩ := hvx
      obtain ⟨d0, d1, d2, d3, d4, d5, d6, d7⟩ := hcs.eight
      clear hcs hx hil
      go_wp2_with fail
      clear d0 d1 d2 d3 d4 d5 d6 d7
      have hb4 : Below W0.heap.size W0 (wr.alloc (.cells #[.int .i64 k2, .bool b2, .int .i64 i2, .float .f64 f2, .string t2, .string y2, .slice A2 is2.length c2, .slice A2' fs2.length c2'] 27)) := hbr.alloc hszr _
      have hb5 : Below wr.heap.size wr (wr.alloc (.cells #[.int .i64 k2, .bool b2, .int .i64 i2, .float .f64 f2, .string t2, .string y2, .slice A2 is2.length c2, .slice A2' fs2.length c2'] 27)) := (Below.refl _ _).alloc (Nat.le_refl _) _
      have HV := Lib.hid (hvx2.out.below (HS.out.mono hbw.size) hb5)
      have hz4 := hb4.size
      generalize (wr.alloc (.cells #[.int .i64 k2, .bool b2, .int .i64 i2, .float .f64 f2, .string t2, .string y2, .slice A2 is2.length c2, .slice A2' fs2.length c2'] 27)) = W4 at *
      refine (HK.out _ W4 HV.out (hb0.trans (hb4.mono (by omega)))).mono ?_
      rintro e w5 ⟨rfl, hb6⟩
      have hb7 := hb4.trans (hb6.mono hz4)
      clear hb6 hb4 hb5 HV HK hvx2
      go_wp2_with fail
      exact ⟨⟨q + 1, z + L, by omega, by go_num, by go_num, HAC2, hb7⟩, by simp [intOf]; omega⟩
    · obtain rfl : q = n := by omega
      obtain ⟨m0, m1, m2, m3, m4, m5, m6, m7⟩ := blk8 ((hbr.block w.heap.size (by omega)).trans GB.out)
      have hzE : z = T := by have := HAC.out; rw [List.drop_eq_nil_of_le (by rw [HN.out]; exact Nat.le_refl _)] at this; simp only [sumS] at this; omega
      obtain ⟨mx, hmxx⟩ : ∃ mx, max ((q : Int) - 1) 0 = mx := ⟨_, rfl⟩
      have hmx1 : 0 ≤ mx ∧ mx ≤ 1048576 := by omega
      have hmx2 : Hid ((z : Int) + mx + 2 = ((T + (q - 1) + 2 : Nat) : Int)) := Lib.hid (by omega)
      clear HAC hzE
      go_wp2
      go_ret
      exact ⟨ret_int (by rw [HT.out]; exact hmx2.out), hbw⟩
set_option maxRecDepth 100000 in
set_option maxHeartbeats 4000000 in
theorem size_members (fs : List (ByteArray × V)) (hn : fs.length = m) (hn2 : m ≤ 1048576) (hI : IsFs w S fs A' 0) (hS : Bel S w.heap.size) (hok : okf fs) (hnm : nmE [] fs = 0) (hsum : sumF fs ≤ 549755813888)
    (hc : ∀ (j : Nat) (s : ByteArray) (x : V), fs[j]? = some (s, x) → ∀ cs W, IsV W S x cs → Below w.heap.size w W → Calls Tryz.prog 24 #[.agg cs.toArray] W (SizePost W (tx x).length)) :
    Calls Tryz.prog 24 #[.agg #[.int .i64 6, .bool b, .int .i64 i, .float .f64 f, .string t, .string y, .slice A n c, .slice A' m c']] w (SizePost w ((123 : Int) :: (txf fs ++ [125])).length) := by
  have HI := Lib.hid hI
  have HS := Lib.hid hS
  have HC := Lib.hid hc
  have HN := Lib.hid hn
  have HOK := Lib.hid hok
  have HNM := Lib.hid hnm
  have htot : ((123 : Int) :: (txf fs ++ [125])).length = sumF fs + (m - 1) + 2 := by
    have := txf_sum fs
    simp only [List.length_cons, List.length_append, List.length_nil]
    omega
  rw [htot]
  clear hI hS hc hn htot hok hnm
  go_enter Tryz.func24, Tryz.ntmps24
  go_upto_region 1 with (fail)
  have gB := heap_alloc_new w (.cells #[.int .i64 6, .bool b, .int .i64 i, .float .f64 f, .string t, .string y, .slice A n c, .slice A' m c'] 27)
  have hb0 := (Below.refl w.heap.size w).alloc (Nat.le_refl _) (.cells #[.int .i64 6, .bool b, .int .i64 i, .float .f64 f, .string t, .string y, .slice A n c, .slice A' m c'] 27)
  have hz0 : w.heap.size + 1 = (w.alloc (.cells #[.int .i64 6, .bool b, .int .i64 i, .float .f64 f, .string t, .string y, .slice A n c, .slice A' m c'] 27)).heap.size := by simp
  generalize (w.alloc (.cells #[.int .i64 6, .bool b, .int .i64 i, .float .f64 f, .string t, .string y, .slice A n c, .slice A' m c'] 27)) = W0 at *
  obtain ⟨m0, m1, m2, m3, m4, m5, m6, m7⟩ := blk8 gB
  have GB := Lib.hid gB
  clear gB
  go_wp2_with fail
  clear m0 m1 m2 m3 m4 m5 m6 m7
  obtain ⟨T, hT⟩ : ∃ T, sumF fs = T := ⟨_, rfl⟩
  rw [hT] at hsum
  have HT := Lib.hid hT
  clear hT
  go_loopw [3, 42] (fun v3 v wr => ∃ (q z : Nat), q ≤ m ∧ v = .int .i64 (q : Int) ∧ v3 = .int .i64 (z : Int) ∧ Hid (z + sumF (fs.drop q) = T) ∧ Below W0.heap.size W0 wr) (fun _ v _ => m - (intOf v).toNat)
  case atStart => exact ⟨0, 0, Nat.zero_le _, rfl, rfl, Lib.hid (by rw [List.drop_zero, HT.out]; omega), Below.refl _ _⟩
  case round =>
    obtain ⟨q, z, hq, rfl, rfl, HAC, hbr⟩ := hrel
    have hszr := hbr.size
    have hbw : Below w.heap.size w wr := hb0.trans (hbr.mono (by omega))
    have hzT : z ≤ T := by have := HAC.out; omega
    by_cases hlt : q < m
    · have hil : q < fs.length := by rw [HN.out]; exact hlt
      obtain ⟨p, hx⟩ : ∃ p, fs[q]? = some p := ⟨_, List.getElem?_eq_getElem hil⟩
      obtain ⟨s, x⟩ := p
      obtain ⟨ad, cs, rfl, hadB, hcs, hvx⟩ := (HI.out.below HS.out hbw).at_ hx
      rw [Nat.zero_add] at hcs
      simp only at hcs hvx
      have hva := nmE_get HNM.out hx
      have hss := (okf_get HOK.out hx).1
      simp only at hva hss
      have HK0 := Lib.hid (HC.out q s x hx)
      have hst := sumF_step hx
      have hvx2 := Lib.hid hvx
      have HST := Lib.hid (fun W => sizeOfText_any s (by omega) W)
      rw [← quote_len s hva] at HST
      obtain ⟨L, hL⟩ : ∃ L, (tx x).length = L := ⟨_, rfl⟩
      obtain ⟨st, hst2⟩ : ∃ st, (quoteZ s.data.toList).length = st := ⟨_, rfl⟩
      rw [hL] at HK0 hst
      rw [hst2] at HST hst
      have hzT2 : z + (st + 1 + L) ≤ T := by have := HAC.out; omega
      have HAC2 : Hid ((z + (st + 1 + L)) + sumF (fs.drop (q + 1)) = T) := Lib.hid (by have := HAC.out; omega)
      clear hst HAC hL hst2 hva
      obtain ⟨k2, b2, i2, f2, t2, y2, is2, fs2⟩ := x
      simp only [IsV] at hvx
      obtain ⟨A2, c2, A2', c2', rfl, _⟩ := hvx
      obtain ⟨d0, d1, d2, d3, d4, d5, d6, d7, d8⟩ := hcs.nine
      clear hcs hx hil
      go_upto_region 16 with (fail)
      clear d0 d1 d2 d3 d4 d5 d6 d7 d8
      have gM := heap_alloc_new wr (.cells #[.string s, .int .i64 k2, .bool b2, .int .i64 i2, .float .f64 f2, .string t2, .string y2, .slice A2 is2.length c2, .slice A2' fs2.length c2'] 41)
      have hbM : Below W0.heap.size W0 (wr.alloc (.cells #[.string s, .int .i64 k2, .bool b2, .int .i64 i2, .float .f64 f2, .string t2, .string y2, .slice A2 is2.length c2, .slice A2' fs2.length c2'] 41)) := hbr.alloc hszr _
      have hb5 : Below wr.heap.size wr (wr.alloc (.cells #[.string s, .int .i64 k2, .bool b2, .int .i64 i2, .float .f64 f2, .string t2, .string y2, .slice A2 is2.length c2, .slice A2' fs2.length c2'] 41)) := (Below.refl _ _).alloc (Nat.le_refl _) _
      have HV := Lib.hid (hvx2.out.below (HS.out.mono hbw.size) hb5)
      have hzM : wr.heap.size + 1 = (wr.alloc (.cells #[.string s, .int .i64 k2, .bool b2, .int .i64 i2, .float .f64 f2, .string t2, .string y2, .slice A2 is2.length c2, .slice A2' fs2.length c2'] 41)).heap.size := by simp
      generalize (wr.alloc (.cells #[.string s, .int .i64 k2, .bool b2, .int .i64 i2, .float .f64 f2, .string t2, .string y2, .slice A2 is2.length c2, .slice A2' fs2.length c2'] 41)) = W1 at *
      have HK : Hid (∀ W, Below W1.heap.size W1 W → Calls Tryz.prog 24 #[.agg #[.int .i64 k2, .bool b2, .int .i64 i2, .float .f64 f2, .string t2, .string y2, .slice A2 is2.length c2, .slice A2' fs2.length c2']] W (SizePost W L)) := Lib.hid fun W hW => HK0.out _ W (HV.out.below (HS.out.mono (by have := hbw.size; omega)) hW) (hb0.trans ((hbM.trans (hW.mono (by have := hbM.size; omega))).mono (by omega)))
      clear HK0 HV hvx2 hb5
      obtain ⟨d0, d1, d2, d3, d4, d5, d6, d7, d8⟩ := blk9 gM
      clear gM
      have hgl : wr.heap.size < W1.heap.size := by omega
      have hbx : Below W1.heap.size W1 W1.drew := (Below.refl _ _).drew
      go_region_held3 (fun w' => w'.cell? ⟨wr.heap.size, 0, none⟩ = some (.string s) ∧ w'.cell? ⟨wr.heap.size, 1, none⟩ = some (.int .i64 k2) ∧ w'.cell? ⟨wr.heap.size, 2, none⟩ = some (.bool b2) ∧ w'.cell? ⟨wr.heap.size, 3, none⟩ = some (.int .i64 i2) ∧ w'.cell? ⟨wr.heap.size, 4, none⟩ = some (.float .f64 f2) ∧ w'.cell? ⟨wr.heap.size, 5, none⟩ = some (.string t2) ∧ w'.cell? ⟨wr.heap.size, 6, none⟩ = some (.string y2) ∧ w'.cell? ⟨wr.heap.size, 7, none⟩ = some (.slice A2 is2.length c2) ∧ w'.cell? ⟨wr.heap.size, 8, none⟩ = some (.slice A2' fs2.length c2'))
        (first | (refine keep9 ?_ hgl d0 d1 d2 d3 d4 d5 d6 d7 d8; (with_reducible first | exact hbz | exact hby | exact hbx)))
        (first
          | (go_at_call 39; go_must (refine (HST.out _).mono ?_; rintro e wa ⟨rfl, hba⟩; first | (have hbz : Below W1.heap.size W1 wa := hby.trans (hba.mono hby.size)) | (have hby : Below W1.heap.size W1 wa := hbx.trans (hba.mono hbx.size))))
          | (go_at_call 24; go_must (refine (HK.out _ (by with_reducible first | exact hby | exact hbx)).mono ?_; rintro e wb ⟨rfl, hbb⟩; first | (have hbz : Below W1.heap.size W1 wb := hby.trans (hbb.mono hby.size)) | (have hby : Below W1.heap.size W1 wb := hbx.trans (hbb.mono hbx.size)))))
      all_goals
        have hb9 : Below W0.heap.size W0 _ := hbM.trans (hbz.mono (by have := hbM.size; omega))
        clear d0 d1 d2 d3 d4 d5 d6 d7 d8 hbx hby hbz
        rw [IntWalk.i64_in ((st : Int) + 1) (by omega), IntWalk.i64_in ((st : Int) + 1 + (L : Int)) (by omega), IntWalk.i64_in ((z : Int) + ((st : Int) + 1 + (L : Int))) (by omega)]
        go_wp2_with fail
        exact ⟨⟨q + 1, z + (st + 1 + L), by omega, by go_num, by go_num, HAC2, hb9⟩, by simp [intOf]; omega⟩
    · obtain rfl : q = m := by omega
      obtain ⟨m0, m1, m2, m3, m4, m5, m6, m7⟩ := blk8 ((hbr.block w.heap.size (by omega)).trans GB.out)
      have hzE : z = T := by have := HAC.out; rw [List.drop_eq_nil_of_le (by rw [HN.out]; exact Nat.le_refl _)] at this; simp only [sumF] at this; omega
      obtain ⟨mx, hmxx⟩ : ∃ mx, max ((q : Int) - 1) 0 = mx := ⟨_, rfl⟩
      have hmx1 : 0 ≤ mx ∧ mx ≤ 1048576 := by omega
      have hmx2 : Hid ((z : Int) + mx + 2 = ((T + (q - 1) + 2 : Nat) : Int)) := Lib.hid (by omega)
      clear HAC hzE
      go_wp2
      go_ret
      exact ⟨ret_int (by rw [HT.out]; exact hmx2.out), hbw⟩
end
/-- sizeOf, whatever the value without a fault -/
theorem sizeOf_any : ∀ (N : Nat) (x : V), sz x ≤ N → N ≤ 1048576 → ok x → lk x = 0 → (tx x).length ≤ 549755813888 → ∀ (cs : List Value) (w : World) (S : Nat → Prop), IsV w S x cs → Bel S w.heap.size → Env w →
    Calls Tryz.prog 24 #[.agg cs.toArray] w (SizePost w (tx x).length) := by
  intro N
  induction N with
  | zero => intro v hv; have := sz_pos v; omega
  | succ N ih =>
    intro x hv hN hok hlk htl cs w S hV hS hE
    have hz := hE.num.lt
    have HA := fun W (hW : Below w.heap.size w W) => appendValue_any (sz x) x (Nat.le_refl _) (by omega) hok cs W.heap.size (.slice none 0 0) 0 [] W S (hV.below hS hW) (hS.mono hW.size) (by have := hW.size; omega) (hE.below hW) (World.ownsRow_nil _ _ _ _) (Nat.le_refl _) (by omega)
    obtain ⟨k, b, i, f, t, y, is, fs⟩ := x
    simp only [IsV] at hV
    obtain ⟨A, c, A', c', rfl, hA, hA', his, hfs⟩ := hV
    simp only [sz] at hv
    simp only [ok] at hok
    obtain ⟨⟨hi1, hi2, hf, ht, hy⟩, hos, hof⟩ := hok
    have hl1 := szs_len is
    have hl2 := szf_len fs
    by_cases c4 : k = 4
    · subst c4
      have hvd : Lib.validD t.data.toList = true := by
        simp only [lk] at hlk
        rw [if_neg (by omega), if_neg (by omega), if_pos trivial] at hlk
        cases h : Lib.validD t.data.toList with
        | true => rfl
        | false => rw [h] at hlk; simp at hlk
      have e : tx (.mk 4 b i f t y is fs) = quoteZ t.data.toList := by simp [tx]
      rw [e]
      exact size_string b i f t y A A' _ _ c c' w 4 rfl ht hvd
    by_cases c5 : k = 5
    · subst c5
      have e : tx (.mk 5 b i f t y is fs) = 91 :: (txs is ++ [93]) := by simp [tx]
      have e2 : lks is = 0 := by
        simp only [lk] at hlk
        rwa [if_neg (by omega), if_neg (by omega), if_neg (by omega), if_pos trivial] at hlk
      rw [e] at htl ⊢
      have hsum := txs_sum is
      simp only [List.length_cons, List.length_append, List.length_nil] at htl
      exact size_items b i f t y A A' _ _ c c' w S is rfl (by omega) his hS (by omega) (fun j x hx cs W hV hW => ih x (by have := szs_get hx; omega) (by omega) (oks_get hos hx) (lks_get e2 hx) (by have := sumS_get hx; omega) cs W S hV (hS.mono hW.size) (hE.below hW))
    by_cases c6 : k = 6
    · subst c6
      have e : tx (.mk 6 b i f t y is fs) = 123 :: (txf fs ++ [125]) := by simp [tx]
      have e2 : nmE [] fs = 0 ∧ lkf fs = 0 := by
        simp only [lk] at hlk
        rw [if_neg (by omega), if_neg (by omega), if_neg (by omega), if_neg (by omega), if_pos trivial] at hlk
        split at hlk
        · exact ⟨by assumption, hlk⟩
        · exact absurd hlk (by assumption)
      rw [e] at htl ⊢
      have hsum := txf_sum fs
      simp only [List.length_cons, List.length_append, List.length_nil] at htl
      exact size_members b i f t y A A' _ _ c c' w S fs rfl (by omega) hfs hS hof e2.1 (by omega) (fun j s x hx cs W hV hW => ih x (by have := szf_get hx; simp only at this; omega) (by omega) (okf_get hof hx).2 (lkf_get e2.2 hx) (by have := sumF_get hx; omega) cs W S hV (hS.mono hW.size) (hE.below hW))
    exact size_plain b i f t y A A' _ _ c c' w k _ (by omega) HA
end Go.Proofs.YtagghdehbkbemaaGreatDoor.look
end
section
namespace Go.Proofs.YtagghdehbkbemaaGreatDoor.look
open Go.RowKit mem txt app smap val
attribute [local go_sem] run_store_float
set_option linter.unusedVariables false

theorem idleS (p q : Addr) (w : World) : CallsD Tryz.prog 23 #[.pointer (some p), .pointer (some q)] .returning w fun e u' w' => e = .returned (.tuple #[]) ∧ u' = .returning ∧ w' = w := by
  refine callsD_of_wpS Tryz.func23 rfl fun c₀ cs hu => ?_
  apply wpS_seq
  apply wpS_region
  simp [wpOpsS, go_sem, recoverD, hu, Tryz.ntmps23, Exit.thenS]
  apply wpS_seq
  apply wpS_region
  simp [wpOpsS, go_sem, Exit.thenS]
  refine wpS_cond (t := false) (by simp [Act.eval, Array.replicate]) ?_
  simp only [Bool.false_eq_true, if_false]
  refine wpS_of_wp (wp_skip ?_)
  cases c₀
  simp_all [bodyPostS, results, Tryz.results23]
theorem catchS (n : Int) (x : Value) (y : Int) (B p q : Nat) (w : World) (hpq : p ≠ q) (hBp : B ≤ p) (hBq : B ≤ q) (hp : w.heap[p]? = some (.cells #[x] 3 (0, 0))) (hq : w.heap[q]? = some (.cells #[.int .i64 y] 32 (0, 0))) :
    CallsD Tryz.prog 23 #[.pointer (some ⟨p, 0, none⟩), .pointer (some ⟨q, 0, none⟩)] (.panicking [{ v := fv n, recovered := false }]) w (CatchPost n B p q (.int .i64 0) 3 w) := by
  have hpl : p < w.heap.size := (Array.getElem?_eq_some_iff.1 hp).1
  have hql : q < w.heap.size := (Array.getElem?_eq_some_iff.1 hq).1
  have p0 := blk_cell hp (i := 0) (by simp)
  have p1 := blk_frozen hp 0
  have q1 := blk_frozen hq 0
  have gq : (w.setCell ⟨p, 0, none⟩ (.int .i64 0)).heap[q]? = some (.cells #[.int .i64 y] 32 (0, 0)) := (Below.heap_setCell _ _ _ _ (by show q ≠ p; omega)).trans hq
  have gp : (w.setCell ⟨p, 0, none⟩ (.int .i64 0)).heap[p]? = some (.cells #[.int .i64 0] 3 (0, 0)) := by
    have := blk_set hp 0 (.int .i64 0)
    simpa using this
  have q0 := blk_cell gq (i := 0) (by simp)
  simp only [List.getElem_toArray, List.getElem_cons_zero] at p0 q0
  have h1 : ((w.setCell ⟨p, 0, none⟩ (.int .i64 0)).setCell ⟨q, 0, none⟩ (.int .i64 n)).heap[p]? = some (.cells #[.int .i64 0] 3 (0, 0)) := (Below.heap_setCell _ _ _ _ (by show p ≠ q; omega)).trans gp
  have h2 : ((w.setCell ⟨p, 0, none⟩ (.int .i64 0)).setCell ⟨q, 0, none⟩ (.int .i64 n)).heap[q]? = some (.cells #[.int .i64 n] 32 (0, 0)) := by
    have := blk_set gq 0 (.int .i64 n)
    simpa using this
  have h3 : Below B w ((w.setCell ⟨p, 0, none⟩ (.int .i64 0)).setCell ⟨q, 0, none⟩ (.int .i64 n)) := ((Below.refl _ _).setCell (by show B ≤ p; omega) _).setCell (by show B ≤ q; omega) _
  have hsz : ((w.setCell ⟨p, 0, none⟩ (.int .i64 0)).setCell ⟨q, 0, none⟩ (.int .i64 n)).heap.size = w.heap.size := by simp [World.setCell]
  have HF := Lib.hid (And.intro h1 (And.intro h2 (And.intro h3 hsz)))
  clear h1 h2 h3 hsz gp gq hp hq
  refine callsD_of_wpS Tryz.func23 rfl fun c₀ cs hu => ?_
  apply wpS_seq
  apply wpS_region
  simp [wpOpsS, go_sem, recoverD, hu, Tryz.ntmps23, Exit.thenS, fv]
  apply wpS_seq
  apply wpS_region
  simp [wpOpsS, go_sem, Exit.thenS]
  refine wpS_cond (t := true) (by simp [Act.eval, Array.replicate]) ?_
  simp only [if_true]
  refine wpS_of_wp ?_
  go_wp2_with fail
  refine (reason_any n w).mono ?_
  rintro e w' ⟨rfl, rfl⟩
  go_wp2_with fail
  refine ⟨rfl, _, rfl, .tuple #[], by simp [results, Tryz.results23], rfl, rfl, ?_, ?_, ?_⟩
  · exact (Lib.alloc_old _ _ _ (by rw [HF.out.2.2.2]; exact hpl)).trans HF.out.1
  · exact (Lib.alloc_old _ _ _ (by rw [HF.out.2.2.2]; exact hql)).trans HF.out.2.1
  · exact HF.out.2.2.1.alloc (by rw [HF.out.2.2.2]; omega) _
/-- Size's answer -/
def SzPost (r : Int) (n0 : Nat) (w : World) (e : Ending) (w' : World) : Prop :=
  (r = 0 → e = .returned (.tuple #[.int .i64 (n0 : Int), .int .i64 0])) ∧ (r ≠ 0 → e = .returned (.tuple #[.int .i64 0, .int .i64 r])) ∧ Below w.heap.size w w'

set_option maxRecDepth 100000 in
set_option maxHeartbeats 4000000 in
theorem size_cells (k : Int) (b : Bool) (i : Int) (f : Nat) (t y : ByteArray) (A A' : Option Addr) (n m c c' : Nat) (w : World) (r : Int) (n0 : Nat)
    (hlk : ∀ W, Below w.heap.size w W → Calls Tryz.prog 21 #[.agg #[.int .i64 k, .bool b, .int .i64 i, .float .f64 f, .string t, .string y, .slice A n c, .slice A' m c']] W (LkPost W r))
    (hap : r = 0 → ∀ W, Below w.heap.size w W → Calls Tryz.prog 24 #[.agg #[.int .i64 k, .bool b, .int .i64 i, .float .f64 f, .string t, .string y, .slice A n c, .slice A' m c']] W (SizePost W n0)) :
    Calls Tryz.prog 9 #[.agg #[.int .i64 k, .bool b, .int .i64 i, .float .f64 f, .string t, .string y, .slice A n c, .slice A' m c']] w (SzPost r n0 w) := by
  have HLK := Lib.hid hlk
  have HAP := Lib.hid hap
  clear hlk hap
  have hmf : ∀ (fn : Fn) (first cap : Array Value) (w : World), (Instr.makeFunc fn first cap).run Tryz.prog w = .ok (.func fn first cap) w := fun _ _ _ _ => rfl
  go_enter_defers Tryz.func9, Tryz.ntmps9
  go_wp2_with fail
  obtain ⟨g0, g1, g2⟩ := heap3 w (.cells #[.int .i64 k, .bool b, .int .i64 i, .float .f64 f, .string t, .string y, .slice A n c, .slice A' m c'] 27) (.cells #[.int .i64 0] 3) (.cells #[.int .i64 0] 32)
  have hb3 : Below w.heap.size w (((w.alloc (.cells #[.int .i64 k, .bool b, .int .i64 i, .float .f64 f, .string t, .string y, .slice A n c, .slice A' m c'] 27)).alloc (.cells #[.int .i64 0] 3)).alloc (.cells #[.int .i64 0] 32)) := (((Below.refl _ _).alloc (Nat.le_refl _) _).alloc (by simp) _).alloc (by simp; omega) _
  have hz3 : w.heap.size + 1 + 1 + 1 = (((w.alloc (.cells #[.int .i64 k, .bool b, .int .i64 i, .float .f64 f, .string t, .string y, .slice A n c, .slice A' m c'] 27)).alloc (.cells #[.int .i64 0] 3)).alloc (.cells #[.int .i64 0] 32)).heap.size := by simp
  generalize (((w.alloc (.cells #[.int .i64 k, .bool b, .int .i64 i, .float .f64 f, .string t, .string y, .slice A n c, .slice A' m c'] 27)).alloc (.cells #[.int .i64 0] 3)).alloc (.cells #[.int .i64 0] 32)) = W3 at *
  refine (HLK.out W3 hb3).mono ?_
  rintro e w4 ⟨he1, he2, hb4⟩
  have G0 := Lib.hid ((hb4.block w.heap.size (by omega)).trans g0)
  have G1 := Lib.hid ((hb4.block (w.heap.size + 1) (by omega)).trans g1)
  have G2 := Lib.hid ((hb4.block (w.heap.size + 1 + 1) (by omega)).trans g2)
  have hb5 : Below w.heap.size w w4 := hb3.trans (hb4.mono (by omega))
  have hz4 : w.heap.size + 1 + 1 + 1 ≤ w4.heap.size := by have := hb4.size; omega
  clear hb3 hb4 hz3 g0 g1 g2
  by_cases hr : r = 0
  · obtain rfl := he1 hr
    clear he1 he2
    have HR := Lib.hid hr
    clear hr
    obtain ⟨m0, m1, m2, m3, m4, m5, m6, m7⟩ := blk8 G0.out
    go_wp2_with fail
    clear m0 m1 m2 m3 m4 m5 m6 m7
    refine (HAP.out HR.out w4 hb5).mono ?_
    rintro e w6 ⟨rfl, hb6⟩
    have hG1 := (hb6.block (w.heap.size + 1) (by omega)).trans G1.out
    have hG2 := (hb6.block (w.heap.size + 1 + 1) (by omega)).trans G2.out
    obtain ⟨n1, n2⟩ := one_cell hG1
    obtain ⟨n3, n4⟩ := one_cell hG2
    have hb7 : Below w.heap.size w w6 := hb5.trans (hb6.mono (by omega))
    clear hG1 hG2 hb6 hb5
    go_wp2
    refine leaves_cons (f := 23) (args := #[.pointer (some ⟨w.heap.size + 1, 0, none⟩), .pointer (some ⟨w.heap.size + 1 + 1, 0, none⟩)]) (by simp) (by simp [go_sem]) ?_
    refine (idleS _ _ _).mono ?_
    rintro e u' w'' ⟨rfl, rfl, rfl⟩
    have f1 : ((w6.setCell ⟨w.heap.size + 1, 0, none⟩ (.int .i64 (n0 : Int))).setCell ⟨w.heap.size + 1 + 1, 0, none⟩ (.int .i64 0)).cell? ⟨w.heap.size + 1, 0, none⟩ = some (.int .i64 (n0 : Int)) := by
      exact (World.cell?_setCell_other _ _ _ _ (by simp)).trans (World.cell?_setCell_same _ _ _ n1)
    have f2 : ((w6.setCell ⟨w.heap.size + 1, 0, none⟩ (.int .i64 (n0 : Int))).setCell ⟨w.heap.size + 1 + 1, 0, none⟩ (.int .i64 0)).cell? ⟨w.heap.size + 1 + 1, 0, none⟩ = some (.int .i64 0) := by
      exact World.cell?_setCell_same _ _ _ ((World.cell?_setCell_other _ _ _ _ (by simp)).trans n3)
    have hB : Below w.heap.size w ((w6.setCell ⟨w.heap.size + 1, 0, none⟩ (.int .i64 (n0 : Int))).setCell ⟨w.heap.size + 1 + 1, 0, none⟩ (.int .i64 0)) :=
      (hb7.setCell (by show _ ≤ w.heap.size + 1; omega) _).setCell (by show _ ≤ w.heap.size + 1 + 1; omega) _
    have HF := Lib.hid hB
    clear hB n1 n2 n3 n4 hb7
    generalize ((w6.setCell ⟨w.heap.size + 1, 0, none⟩ (.int .i64 (n0 : Int))).setCell ⟨w.heap.size + 1 + 1, 0, none⟩ (.int .i64 0)) = WF at *
    simp [Leaves, settle, results, Tryz.results9, go_sem, f1, f2]
    exact ⟨fun _ => rfl, fun h => absurd HR.out h, HF.out⟩
  · obtain rfl := he2 hr
    clear he1 he2
    have HR := Lib.hid hr
    clear hr
    unfold fault
    go_wp2
    refine leaves_cons (f := 23) (args := #[.pointer (some ⟨w.heap.size + 1, 0, none⟩), .pointer (some ⟨w.heap.size + 1 + 1, 0, none⟩)]) (by simp) (by simp [go_sem]) ?_
    refine (catchS r _ 0 w.heap.size (w.heap.size + 1) (w.heap.size + 1 + 1) _ (by omega) (by omega) (by omega) G1.out G2.out).mono ?_
    rintro e u' w'' ⟨rfl, rfl, k1, k2, hb8⟩
    obtain ⟨f1, _⟩ := one_cell k1
    obtain ⟨f2, _⟩ := one_cell k2
    simp [Leaves, settle, results, Tryz.results9, go_sem, f1, f2]
    exact ⟨fun h => absurd h HR.out, fun _ => rfl, hb5.trans hb8⟩
/-- Size, whatever the value -/
theorem size_any (x : V) (cs : List Value) (w : World) (S : Nat → Prop) (hx : wt x ≤ 16777216) (hs : sz x ≤ 1048576) (hok : ok x) (hV : IsV w S x cs) (hS : Bel S w.heap.size) (hE : Env w) :
    Calls Tryz.prog 9 #[.agg cs.toArray] w (SzPost (lk x) (tx x).length w) := by
  have hlen := tx_len x hok
  have hsz := sz_wt x
  have H1 := fun W (hW : Below w.heap.size w W) => look_any (sz x) x (Nat.le_refl _) (by omega) hok cs W S (hV.below hS hW) (hS.mono hW.size) (hE.below hW)
  have H2 := fun (h0 : lk x = 0) W (hW : Below w.heap.size w W) => sizeOf_any (sz x) x (Nat.le_refl _) (by omega) hok h0 (by omega) cs W S (hV.below hS hW) (hS.mono hW.size) (hE.below hW)
  obtain ⟨k, b, i, f, t, y, is, fs⟩ := x
  simp only [IsV] at hV
  obtain ⟨A, c, A', c', rfl, _⟩ := hV
  exact size_cells k b i f t y A A' _ _ c c' w _ _ H1 H2
end Go.Proofs.YtagghdehbkbemaaGreatDoor.look
end
