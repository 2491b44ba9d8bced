/- A string appended to a row of bytes that the call owns: where the row lies afterwards. The reference's put: words on a row of bytes that grows; a value without children. The reference's items and members. -/
import Derived.Test.YtagghdehbkbemaaGreatDoorGMem
import Derived.Lib.AppendStr
import Derived.Test.YtagghdehbkbemaaGreatDoorYRefT
import Derived.Test.YtagghdehbkbemaaGreatDoorYRsz
import Derived.Test.YtagghdehbkbemaaGreatDoorGRt
import Derived.Test.YtagghdehbkbemaaGreatDoorGSzp
section
set_option linter.unusedVariables false
namespace Go.Proofs.YtagghdehbkbemaaGreatDoor.mem
open Go.RowKit
section
variable {P : Program} (w : World)
theorem run_str2 (base : Nat) (t u ty e : TypeId) (i : TypeInfo) (ht : P.underlying t = some (.slice e)) (hu : P.underlying u = some .string) (hi : P.info? e = some i) (hz : i.zero = some (.int .u8 0)) (hsize : i.size = 1) (hby : i.bytes = 1)
    (v : Value) (n : Nat) (xs : List Value) (hown : w.ownsRow base e 1 v n xs) (s : ByteArray) (h63 : n + s.size ≤ maxLen) (hbytes : n + s.size ≤ 140737488355328) (hbase : base ≤ w.heap.size) :
    ∃ v' w', (Builtin.append_ #[t, u] ty #[v, .string s]).run P w = .ok v' w' ∧ w'.ownsRow base e 1 v' (n + s.size) (xs ++ Lib.strCells s) ∧ w.grownBy w' v.ownBlock ∧ (v'.ownBlock = v.ownBlock ∨ v'.ownBlock = some w.heap.size) := by
  obtain ⟨v', w', hr, h2, h3, h4⟩ := Lib.run_append_own_string (P := P) w base t u ty e i ht hu hi hz hsize hby v n xs hown s h63 hbytes hbase
  refine ⟨v', w', hr, h2, h3, ?_⟩
  rcases hown.2 with ⟨rfl, hx⟩ | ⟨g, cap, cur, rfl, hbg, hg, hnc, hcm, hcs, htake⟩
  · have hn : n = 0 := by have := hown.1; rw [hx] at this; simp at this; omega
    by_cases hm : s.size = 0
    · exact .inl (by rw [h4.2 ⟨rfl, hm⟩])
    · have hr2 := run_append_nil_string (P := P) w t u ty e i (.int .u8 0) ht hu hi hz s (by omega) (by unfold maxLen at h63; omega) (by rw [hby]; omega)
      subst hn
      rw [hr] at hr2
      injection hr2 with e1 e2
      subst e1
      exact .inr rfl
  · by_cases hroom : n + s.size ≤ cap
    · have hcs' : cur.size = cap := by simpa using hcs
      have hr2 := Lib.run_append_room_string (P := P) w t u ty e i ht hu hi hsize g n cap cur hg s hroom (by omega)
      rw [hr] at hr2
      injection hr2 with e1 e2
      subst e1
      exact .inl rfl
    · have holds : ∀ j u, xs[j]? = some u → w.cell? ((⟨g, 0, none⟩ : Addr).add j) = some u := hown.cells (g := g) rfl
      have hxl : xs.length = n := by simpa using hown.1
      have hr2 := Lib.run_append_grow_string (P := P) w t u ty e i (.int .u8 0) ht hu hi hz ⟨g, 0, none⟩ n cap xs (by rw [hsize]; omega) holds s (by omega) (by unfold maxLen at h63; omega) (by rw [hby]; exact growslice_fits (by omega) (by omega))
      rw [hr] at hr2
      injection hr2 with e1 e2
      subst e1
      exact .inr rfl
theorem wpList_str2 {ops : Array Oper} {rest : List Oper} {o : Oper} {a : Act} {Q : Exit → Act → World → Prop} (hgd : o.guard = none) (sl x : Operand) (t u : TypeId)
    (ho : o.op = .call { callee := .builtin .append, args := #[sl, x], argTypes := #[t, u] })
    (base : Nat) (e : TypeId) (i : TypeInfo) (ht : P.underlying t = some (.slice e)) (hu : P.underlying u = some .string) (hi : P.info? e = some i) (hz : i.zero = some (.int .u8 0)) (hsize : i.size = 1) (hby : i.bytes = 1)
    (v : Value) (n : Nat) (xs : List Value) (hs : a.eval sl = v) (hown : w.ownsRow base e 1 v n xs) (s : ByteArray) (hx : a.eval x = .string s) (h63 : n + s.size ≤ maxLen) (hbytes : n + s.size ≤ 140737488355328) (hbase : base ≤ w.heap.size)
    (h : ∀ v' w', w'.ownsRow base e 1 v' (n + s.size) (xs ++ Lib.strCells s) → w.grownBy w' v.ownBlock → (v'.ownBlock = v.ownBlock ∨ v'.ownBlock = some w.heap.size) → wpList P ops Q rest (a.put o.dst v') w') : wpList P ops Q (o :: rest) a w := by
  refine wpList_plain hgd fun K hK => ?_
  obtain ⟨v', w', hr, h2, h3, h4⟩ := run_str2 (P := P) w base t u o.type e i ht hu hi hz hsize hby v n xs hown s h63 hbytes hbase
  unfold Oper.wp execOp
  simp only [ho, resolve, invoke, builtin, Sem.run_bind, Sem.run_pure, Result.andThen_ok, List.map_toArray, List.map_cons, List.map_nil, hs, hx, hr]
  exact hK _ _ (h v' w' h2 h3 h4)
end
end Go.Proofs.YtagghdehbkbemaaGreatDoor.mem
end
section
namespace Go.Proofs.YtagghdehbkbemaaGreatDoor.look
open Go.RowKit mem txt app smap val
attribute [local go_sem] run_store_float
set_option linter.unusedVariables false

/-- the row's block afterwards: the same, or a new one -/
def Nxt (w : World) (v v' : Value) : Prop := v'.ownBlock = v.ownBlock ∨ ∃ k, v'.ownBlock = some k ∧ w.heap.size ≤ k
/-- a row of bytes is written on; all else stands -/
def RowP (B n : Nat) (v : Value) (xs : List Value) (out : List Int) (w : World) (e : Ending) (w' : World) : Prop :=
  ∃ v', e = .returned v' ∧ w'.ownsRow B 5 1 v' (n + out.length) (xs ++ zs out) ∧ w.grownBy w' v.ownBlock ∧ Nxt w v v'
theorem Nxt.refl (w : World) (v : Value) : Nxt w v v := .inl rfl
theorem grown_trans {w w1 w2 : World} {v v1 : Value} (h : w.grownBy w1 v.ownBlock) (hn : Nxt w v v1) (h2 : w1.grownBy w2 v1.ownBlock) : w.grownBy w2 v.ownBlock :=
  ⟨h2.os.trans h.os, h2.tape.trans h.tape, h2.output.trans h.output, Nat.le_trans h.size h2.size, fun k hk hne => by
    have h1 := h.block k hk hne
    refine (h2.block k (Nat.lt_of_lt_of_le hk h.size) ?_).trans h1
    rcases hn with e | ⟨j, e, hj⟩
    · rw [e]; exact hne
    · rw [e]
      intro h3
      injection h3 with h3
      omega⟩
theorem Nxt.trans {w w1 : World} {v v1 v2 : Value} (h : Nxt w v v1) (hw : w.heap.size ≤ w1.heap.size) (h2 : Nxt w1 v1 v2) : Nxt w v v2 := by
  rcases h2 with e | ⟨j, e, hj⟩
  · rcases h with e1 | ⟨i, e1, hi⟩
    · exact .inl (e.trans e1)
    · exact .inr ⟨i, e.trans e1, hi⟩
  · exact .inr ⟨j, e, by omega⟩
theorem grown_alloc (w : World) (o : Obj) (row : Option Nat) : w.grownBy (w.alloc o) row := ⟨rfl, rfl, rfl, by simp, fun k hk _ => Lib.alloc_old w o k hk⟩
theorem grown_below {w w' : World} (h : Below w.heap.size w w') (row : Option Nat) : w.grownBy w' row := ⟨h.os, h.tape, h.output, h.size, fun k hk _ => h.block k hk⟩
theorem below_grown {B : Nat} {e : TypeId} {size n : Nat} {w w' : World} {v : Value} {xs : List Value} (h : w.grownBy w' v.ownBlock) (ho : w.ownsRow B e size v n xs) (hB : B ≤ w.heap.size) : Below B w w' :=
  ⟨h.os, h.tape, h.output, h.size, fun k hk => h.block k (by omega) (by intro e1; have := (ho.lt k e1.symm).1; omega)⟩
/-- a block of other cells is not the row's -/
theorem row_ne {w : World} {B n : Nat} {v : Value} {xs : List Value} {k : Nat} {o : Obj} (ho : w.ownsRow B 5 1 v n xs) (hk : w.heap[k]? = some o) (hne : ∀ c, o ≠ .cells c 5 (0, 0)) : some k ≠ v.ownBlock := by
  intro e
  obtain ⟨cur, hc⟩ := own_cells ho k e.symm
  rw [hk] at hc
  injection hc with hc
  exact hne _ hc
theorem grown_keeps {w w' : World} {B n : Nat} {v : Value} {xs : List Value} {k : Nat} {o : Obj} (h : w.grownBy w' v.ownBlock) (ho : w.ownsRow B 5 1 v n xs) (hk : w.heap[k]? = some o) (hne : ∀ c, o ≠ .cells c 5 (0, 0)) : w'.heap[k]? = some o :=
  (h.block k (Array.getElem?_eq_some_iff.1 hk).1 (row_ne ho hk hne)).trans hk
theorem box_ne {cs : Array Value} {t : TypeId} (ht : t ≠ 5) : ∀ c, Obj.cells cs t (0, 0) ≠ .cells c 5 (0, 0) := fun c e => by injection e with _ e2; exact ht e2
theorem nxt_of {w : World} {v v' : Value} {o : Obj} (h : v'.ownBlock = v.ownBlock ∨ v'.ownBlock = some (w.alloc o).heap.size) : Nxt w v v' := by
  rcases h with h | h
  · exact .inl h
  · exact .inr ⟨_, h, by simp⟩
theorem nxt_of0 {w : World} {v v' : Value} (h : v'.ownBlock = v.ownBlock ∨ v'.ownBlock = some w.heap.size) : Nxt w v v' := by
  rcases h with h | h
  · exact .inl h
  · exact .inr ⟨_, h, Nat.le_refl _⟩
/-- a string appended -/
theorem rowP_str {B n : Nat} {v v' : Value} {xs : List Value} {w w1 w' : World} {s : ByteArray} (hb : Below w.heap.size w w1) (ho : w'.ownsRow B 5 1 v' (n + s.size) (xs ++ Lib.strCells s)) (hg : w1.grownBy w' v.ownBlock) (hn : v'.ownBlock = v.ownBlock ∨ v'.ownBlock = some w1.heap.size) : RowP B n v xs (bz s) w (.returned v') w' := by
  refine ⟨v', rfl, by rw [bz_length, ← strCells_zs]; exact ho, grown_trans (grown_below hb _) (.inl rfl) hg, ?_⟩
  rcases hn with h | h
  · exact .inl h
  · exact .inr ⟨_, h, hb.size⟩
theorem refWhole_any (i : Int) (w : World) (h1 : -9223372036854775808 ≤ i) (h2 : i ≤ 9223372036854775807) : Calls Tryz.prog 30 #[.int .i64 i] w fun e w' => e = .returned (.string (big.strN (big.wtx i))) ∧ Below w.heap.size w w' := (big.wholeText_any i w h1 h2).mono fun e w' h => h
set_option maxRecDepth 100000 in
theorem refFloat_any (f : Nat) (hf : f < 18446744073709551616) (w : World) : Calls Tryz.prog 31 #[.float .f64 f] w fun e w' => e = .returned (.string (pg.ftx f)) ∧ Below w.heap.size w w' := by
  have H := Lib.hid (fun w => pg.textBits_any f hf w)
  go_enter Tryz.func31, Tryz.ntmps31
  go_wp2_with fail
  rw [pg.run_f64bits]
  go_wp2_with fail
  refine (H.out _).mono ?_
  rintro e w' ⟨rfl, hb⟩
  go_wp2_with fail
  go_ret
  exact ⟨rfl, hb⟩
set_option maxRecDepth 100000 in
theorem bz_strOf (l : List Int) (h : ∀ x ∈ l, 0 ≤ x ∧ x < 256) : bz (strOf l) = l := by
  unfold bz strOf
  simp only [List.map_map]
  conv => rhs; rw [← List.map_id l]
  refine List.map_congr_left fun x hx => ?_
  obtain ⟨h1, h2⟩ := h x hx
  simp only [Function.comp, id]
  rw [UInt8.toNat_ofNat']
  omega
theorem bz_text (s : ByteArray) : bz (textOf s) = quoteZ s.data.toList := bz_strOf _ (quoteZ_byte _)
section
variable (b : Bool) (i : Int) (f : Nat) (t y : ByteArray) (A A' : Option Addr) (n m c c' : Nat) (B : Nat) (v : Value) (l : Nat) (xs : List Value) (w : World)
set_option maxRecDepth 100000 in
set_option maxHeartbeats 4000000 in
theorem put_null (k : Int) (h : k < 1 ∨ 6 < k) (hown : w.ownsRow B 5 1 v l xs) (hB : B ≤ w.heap.size) (hl : l ≤ 1099511627776) : Calls Tryz.prog 18 #[v, .agg #[.int .i64 k, .bool b, .int .i64 i, .float .f64 f, .string t, .string y, .slice A n c, .slice A' m c']] w (RowP B l v xs [110, 117, 108, 108] w) := by
  obtain ⟨iv, hiv, hv0, hv1, hv2⟩ := info_parts infoB
  have HO := Lib.hid hown
  have q1 : (k == 1) = false := beq_false_of_ne (by omega)
  have q2 : (k == 2) = false := beq_false_of_ne (by omega)
  have q3 : (k == 3) = false := beq_false_of_ne (by omega)
  have q4 : (k == 4) = false := beq_false_of_ne (by omega)
  have q5 : (k == 5) = false := beq_false_of_ne (by omega)
  have q6 : (k == 6) = false := beq_false_of_ne (by omega)
  clear hown h
  go_enter Tryz.func18, Tryz.ntmps18
  go_wp2_with (at_builtin; go_must (refine wpList_str2 _ rfl _ _ _ _ rfl B 5 iv Tryz.underlying31 Tryz.underlying9 hiv hv0 hv1 hv2 v l xs rfl (HO.out.alloc _) ⟨#[110, 117, 108, 108]⟩ rfl (show l + 4 ≤ maxLen by unfold maxLen; omega) (show l + 4 ≤ 140737488355328 by omega) (by simp; omega) ?_; intro v' w5 hown' hgrow' hat'))
  go_ret
  exact rowP_str (s := ⟨#[110, 117, 108, 108]⟩) ((Below.refl _ _).alloc (Nat.le_refl _) _) hown' hgrow' hat'
set_option maxRecDepth 100000 in
set_option maxHeartbeats 4000000 in
theorem put_bool (k : Int) (h : k = 1) (hown : w.ownsRow B 5 1 v l xs) (hB : B ≤ w.heap.size) (hl : l ≤ 1099511627776) : Calls Tryz.prog 18 #[v, .agg #[.int .i64 k, .bool b, .int .i64 i, .float .f64 f, .string t, .string y, .slice A n c, .slice A' m c']] w (RowP B l v xs (tfz b) w) := by
  obtain ⟨iv, hiv, hv0, hv1, hv2⟩ := info_parts infoB
  have HO := Lib.hid hown
  subst h
  clear hown
  cases b with
  | true =>
    go_enter Tryz.func18, Tryz.ntmps18
    go_wp2_with (at_builtin; go_must (refine wpList_str2 _ rfl _ _ _ _ rfl B 5 iv Tryz.underlying31 Tryz.underlying9 hiv hv0 hv1 hv2 v l xs rfl (HO.out.alloc _) ⟨#[116, 114, 117, 101]⟩ rfl (show l + 4 ≤ maxLen by unfold maxLen; omega) (show l + 4 ≤ 140737488355328 by omega) (by simp; omega) ?_; intro v' w5 hown' hgrow' hat'))
    go_ret
    exact rowP_str (s := ⟨#[116, 114, 117, 101]⟩) ((Below.refl _ _).alloc (Nat.le_refl _) _) hown' hgrow' hat'
  | false =>
    go_enter Tryz.func18, Tryz.ntmps18
    go_wp2_with (at_builtin; go_must (refine wpList_str2 _ rfl _ _ _ _ rfl B 5 iv Tryz.underlying31 Tryz.underlying9 hiv hv0 hv1 hv2 v l xs rfl (HO.out.alloc _) ⟨#[102, 97, 108, 115, 101]⟩ rfl (show l + 5 ≤ maxLen by unfold maxLen; omega) (show l + 5 ≤ 140737488355328 by omega) (by simp; omega) ?_; intro v' w5 hown' hgrow' hat'))
    go_ret
    exact rowP_str (s := ⟨#[102, 97, 108, 115, 101]⟩) ((Below.refl _ _).alloc (Nat.le_refl _) _) hown' hgrow' hat'
set_option maxRecDepth 100000 in
set_option maxHeartbeats 4000000 in
theorem put_int (k : Int) (h : k = 2) (hi1 : -9223372036854775808 ≤ i) (hi2 : i ≤ 9223372036854775807) (hown : w.ownsRow B 5 1 v l xs) (hB : B ≤ w.heap.size) (hl : l ≤ 1099511627776) : Calls Tryz.prog 18 #[v, .agg #[.int .i64 k, .bool b, .int .i64 i, .float .f64 f, .string t, .string y, .slice A n c, .slice A' m c']] w (RowP B l v xs (wz i) w) := by
  obtain ⟨iv, hiv, hv0, hv1, hv2⟩ := info_parts infoB
  have HO := Lib.hid hown
  have HC := Lib.hid (fun W => refWhole_any i W hi1 hi2)
  have hlen := wz_len i hi1 hi2
  subst h
  clear hown
  go_enter Tryz.func18, Tryz.ntmps18
  go_wp2_with fail
  have hb1 := (Below.refl w.heap.size w).alloc (Nat.le_refl _) (.cells #[.int .i64 2, .bool b, .int .i64 i, .float .f64 f, .string t, .string y, .slice A n c, .slice A' m c'] 27)
  have HO1 := Lib.hid (HO.out.alloc (.cells #[.int .i64 2, .bool b, .int .i64 i, .float .f64 f, .string t, .string y, .slice A n c, .slice A' m c'] 27))
  generalize (w.alloc (.cells #[.int .i64 2, .bool b, .int .i64 i, .float .f64 f, .string t, .string y, .slice A n c, .slice A' m c'] 27)) = W1 at *
  refine (HC.out W1).mono ?_
  rintro e w2 ⟨rfl, hb2⟩
  have HO2 := Lib.hid (own_below HO1.out hb2)
  have hb3 : Below w.heap.size w w2 := hb1.trans (hb2.mono hb1.size)
  have hz3 : B ≤ w2.heap.size := Nat.le_trans hB hb3.size
  have hsz : (big.strN (big.wtx i)).size ≤ 30 := by rw [← bz_length]; exact hlen
  have HW : Hid (bz (big.strN (big.wtx i)) = wz i) := Lib.hid rfl
  generalize big.strN (big.wtx i) = T at *
  clear hb1 hb2 HO1 HC HO hlen
  go_wp2_with (at_builtin; go_must (refine wpList_str2 _ rfl _ _ _ _ rfl B 5 iv Tryz.underlying31 Tryz.underlying9 hiv hv0 hv1 hv2 v l xs rfl HO2.out T rfl (show l + T.size ≤ maxLen by unfold maxLen; omega) (show l + T.size ≤ 140737488355328 by omega) hz3 ?_; intro v' w5 hown' hgrow' hat'))
  go_ret
  rw [← HW.out]
  exact rowP_str hb3 hown' hgrow' hat'
set_option maxRecDepth 100000 in
set_option maxHeartbeats 4000000 in
theorem put_float (k : Int) (h : k = 3) (hf : f < 18446744073709551616) (hown : w.ownsRow B 5 1 v l xs) (hB : B ≤ w.heap.size) (hl : l ≤ 1099511627776) : Calls Tryz.prog 18 #[v, .agg #[.int .i64 k, .bool b, .int .i64 i, .float .f64 f, .string t, .string y, .slice A n c, .slice A' m c']] w (RowP B l v xs (fz f) w) := by
  obtain ⟨iv, hiv, hv0, hv1, hv2⟩ := info_parts infoB
  have HO := Lib.hid hown
  have HC := Lib.hid (fun W => refFloat_any f hf W)
  have hlen := fz_len f
  subst h
  clear hown
  go_enter Tryz.func18, Tryz.ntmps18
  go_wp2_with fail
  have hb1 := (Below.refl w.heap.size w).alloc (Nat.le_refl _) (.cells #[.int .i64 3, .bool b, .int .i64 i, .float .f64 f, .string t, .string y, .slice A n c, .slice A' m c'] 27)
  have HO1 := Lib.hid (HO.out.alloc (.cells #[.int .i64 3, .bool b, .int .i64 i, .float .f64 f, .string t, .string y, .slice A n c, .slice A' m c'] 27))
  generalize (w.alloc (.cells #[.int .i64 3, .bool b, .int .i64 i, .float .f64 f, .string t, .string y, .slice A n c, .slice A' m c'] 27)) = W1 at *
  refine (HC.out W1).mono ?_
  rintro e w2 ⟨rfl, hb2⟩
  have HO2 := Lib.hid (own_below HO1.out hb2)
  have hb3 : Below w.heap.size w w2 := hb1.trans (hb2.mono hb1.size)
  have hz3 : B ≤ w2.heap.size := Nat.le_trans hB hb3.size
  have hsz : (pg.ftx f).size ≤ 1001 := by rw [← bz_length]; exact hlen
  have HW : Hid (bz (pg.ftx f) = fz f) := Lib.hid rfl
  generalize pg.ftx f = T at *
  clear hb1 hb2 HO1 HC HO hlen
  go_wp2_with (at_builtin; go_must (refine wpList_str2 _ rfl _ _ _ _ rfl B 5 iv Tryz.underlying31 Tryz.underlying9 hiv hv0 hv1 hv2 v l xs rfl HO2.out T rfl (show l + T.size ≤ maxLen by unfold maxLen; omega) (show l + T.size ≤ 140737488355328 by omega) hz3 ?_; intro v' w5 hown' hgrow' hat'))
  go_ret
  rw [← HW.out]
  exact rowP_str hb3 hown' hgrow' hat'
theorem refText_ok (s : ByteArray) (hs : s.size ≤ 1048576) (hv : Lib.validD s.data.toList = true) (w : World) : Calls Tryz.prog 32 #[.string s] w fun e w' => e = .returned (.tuple #[.string (textOf s), .int .i64 0]) ∧ Below w.heap.size w w' := by
  have h := refText_any s hs w
  rw [if_pos hv, if_pos hv] at h
  exact h
set_option maxRecDepth 100000 in
set_option maxHeartbeats 4000000 in
theorem put_string (k : Int) (h : k = 4) (ht : t.size ≤ 1048576) (hv : Lib.validD t.data.toList = true) (hown : w.ownsRow B 5 1 v l xs) (hB : B ≤ w.heap.size) (hl : l ≤ 1099511627776) : Calls Tryz.prog 18 #[v, .agg #[.int .i64 k, .bool b, .int .i64 i, .float .f64 f, .string t, .string y, .slice A n c, .slice A' m c']] w (RowP B l v xs (quoteZ t.data.toList) w) := by
  obtain ⟨iv, hiv, hv0, hv1, hv2⟩ := info_parts infoB
  have HO := Lib.hid hown
  have HC := Lib.hid (fun W => refText_ok t ht hv W)
  have hlen := quoteZ_len t
  subst h
  clear hown hv
  go_enter Tryz.func18, Tryz.ntmps18
  go_wp2_with fail
  have hb1 := (Below.refl w.heap.size w).alloc (Nat.le_refl _) (.cells #[.int .i64 4, .bool b, .int .i64 i, .float .f64 f, .string t, .string y, .slice A n c, .slice A' m c'] 27)
  have HO1 := Lib.hid (HO.out.alloc (.cells #[.int .i64 4, .bool b, .int .i64 i, .float .f64 f, .string t, .string y, .slice A n c, .slice A' m c'] 27))
  generalize (w.alloc (.cells #[.int .i64 4, .bool b, .int .i64 i, .float .f64 f, .string t, .string y, .slice A n c, .slice A' m c'] 27)) = W1 at *
  refine (HC.out W1).mono ?_
  rintro e w2 ⟨rfl, hb2⟩
  have HO2 := Lib.hid (own_below HO1.out hb2)
  have hb3 : Below w.heap.size w w2 := hb1.trans (hb2.mono hb1.size)
  have hz3 : B ≤ w2.heap.size := Nat.le_trans hB hb3.size
  have hsz : (textOf t).size ≤ 6 * t.size + 2 := by rw [← bz_length, bz_text]; exact hlen
  have HW := Lib.hid (bz_text t)
  generalize textOf t = T at *
  clear hb1 hb2 HO1 HC HO hlen
  go_wp2_with (at_builtin; go_must (refine wpList_str2 _ rfl _ _ _ _ rfl B 5 iv Tryz.underlying31 Tryz.underlying9 hiv hv0 hv1 hv2 v l xs rfl HO2.out T rfl (show l + T.size ≤ maxLen by unfold maxLen; omega) (show l + T.size ≤ 140737488355328 by omega) hz3 ?_; intro v' w5 hown' hgrow' hat'))
  go_ret
  rw [← HW.out]
  exact rowP_str hb3 hown' hgrow' hat'
end
end Go.Proofs.YtagghdehbkbemaaGreatDoor.look
end
section
namespace Go.Proofs.YtagghdehbkbemaaGreatDoor.look
open Go.RowKit mem txt app smap val
attribute [local go_sem] run_store_float
set_option linter.unusedVariables false

theorem rowP_more {B l : Nat} {v v1 : Value} {xs : List Value} {out more : List Int} {w w1 : World} {e : Ending} {w' : World} (hg : w.grownBy w1 v.ownBlock) (hn : Nxt w v v1) (h : RowP B (l + out.length) v1 (xs ++ zs out) more w1 e w') : RowP B l v xs (out ++ more) w e w' := by
  obtain ⟨v', rfl, ho, hg2, hn2⟩ := h
  exact ⟨v', rfl, row_next ho, grown_trans hg hn hg2, hn.trans hg.size hn2⟩
section
variable (A : Option Addr) (n c : Nat) (B : Nat) (v : Value) (l : Nat) (xs : List Value) (w : World) (S : Nat → Prop)
set_option maxRecDepth 100000 in
set_option maxHeartbeats 4000000 in
theorem items_any (M : Nat) (hM : M ≤ 1099511627776) (is : List V) (hn : is.length = n) (hn2 : n ≤ 1048576) (hI : IsVs w S is A 0) (hS : Bel S B) (hown : w.ownsRow B 5 1 v l xs) (hB : B ≤ w.heap.size) (hl : l + (txs is).length ≤ M)
    (hc : ∀ (j : Nat) (x : V), is[j]? = some x → ∀ cs v l xs W, IsV W S x cs → Below B w W → W.ownsRow B 5 1 v l xs → B ≤ W.heap.size → l + (tx x).length ≤ M → Calls Tryz.prog 18 #[v, .agg cs.toArray] W (RowP B l v xs (tx x) W)) :
    Calls Tryz.prog 33 #[v, .slice A n c] w (RowP B l v xs (txs is) w) := by
  obtain ⟨iv, hiv, hv0, hv1, hv2⟩ := info_parts infoB
  have HO := Lib.hid hown
  have HI := Lib.hid hI
  have HS := Lib.hid hS
  have HC := Lib.hid hc
  have HN := Lib.hid hn
  clear hown hI hS hc hn
  go_enter Tryz.func33, Tryz.ntmps33
  go_wp2_with fail
  go_loopw [0, 5] (fun v0 v5 wr => ∃ (q : Nat) (vv : Value) (done : List Int), q ≤ n ∧ v5 = .int .i64 (q : Int) ∧ vv = v0 ∧ Hid (wr.ownsRow B 5 1 vv (l + done.length) (xs ++ zs done)) ∧ Hid (done ++ tailS q (is.drop q) = txs is) ∧ Hid (w.grownBy wr v.ownBlock ∧ Nxt w v vv)) (fun _ v _ => n - (intOf v).toNat)
  case atStart => exact ⟨0, _, [], Nat.zero_le _, rfl, rfl, Lib.hid (by simpa [zs] using HO.out), Lib.hid (by simp [tailS]), Lib.hid ⟨grown_refl _ _, Nxt.refl _ _⟩⟩
  case round =>
    obtain ⟨q, vv, done, hq, rfl, rfl, HOr, HAC, HG⟩ := hrel
    have hbr := below_grown HG.out.1 HO.out hB
    have hzr : B ≤ wr.heap.size := by have := hbr.size; omega
    have hdl := pre_len HAC.out
    by_cases hlt : q < n
    · have hil : q < is.length := by rw [HN.out]; exact hlt
      obtain ⟨x, hx⟩ : ∃ p, is[q]? = some p := ⟨_, List.getElem?_eq_getElem hil⟩
      obtain ⟨ad, cs, rfl, hadB, hcs, hvx⟩ := (HI.out.below HS.out hbr).at_ hx
      rw [Nat.zero_add] at hcs
      have HK := Lib.hid (HC.out q x hx)
      have hdr : is.drop q = x :: is.drop (q + 1) := by
        obtain ⟨h1, h2⟩ := List.getElem?_eq_some_iff.1 hx
        rw [List.drop_eq_getElem_cons h1, h2]
      have HST0 : Hid (q = 0 → tailS q (is.drop q) = tx x ++ tailS (q + 1) (is.drop (q + 1))) := Lib.hid fun h => by subst h; rw [hdr, tailS_first]
      have HST1 : Hid (0 < q → tailS q (is.drop q) = 44 :: (tx x ++ tailS (q + 1) (is.drop (q + 1)))) := Lib.hid fun h => by rw [hdr, tailS_more h]
      have hvx2 := Lib.hid hvx
      have hadr : ad.block < wr.heap.size := Nat.lt_of_lt_of_le (HS.out _ hadB) hzr
      have hadr2 : ad.block < B := HS.out _ hadB
      obtain ⟨T, hT⟩ : ∃ T, tx x = T := ⟨_, rfl⟩
      rw [hT] at HK HST0 HST1
      clear hT
      obtain ⟨k2, b2, i2, f2, t2, y2, is2, fs2⟩ := x
      simp only [IsV] at hvx
      obtain ⟨A2, c2, A2', c2', rfl, _⟩ := hvx
      have HCS := Lib.hid hcs
      obtain ⟨d0, d1, d2, d3, d4, d5, d6, d7⟩ := hcs.eight
      clear hcs hx hil hdr
      obtain ⟨R, hR⟩ : ∃ R, tailS (q + 1) (is.drop (q + 1)) = R := ⟨_, rfl⟩
      rw [hR] at HST0 HST1
      have HR := Lib.hid hR
      clear hR
      obtain ⟨R0, hR0⟩ : ∃ R0, tailS q (is.drop q) = R0 := ⟨_, rfl⟩
      rw [hR0] at HST0 HST1 HAC hdl
      clear hR0
      rcases Nat.eq_zero_or_pos q with h0 | h0
      rotate_left
      · have hgt : decide ((q : Int) > 0) = true := decide_eq_true (by omega)
        have HE := Lib.hid (HST1.out h0)
        have hdl2 : R0.length = T.length + R.length + 1 := by rw [HE.out]; simp
        clear d0 d1 d2 d3 d4 d5 d6 d7
        go_wp2_with (at_builtin; go_must (refine wpList_app _ rfl _ _ _ rfl B 5 iv (.int .u8 0) 1 1 Tryz.underlying31 hiv hv0 hv1 hv2 rfl (by omega) vv (l + done.length) (xs ++ zs done) rfl (HOr.out.alloc _) (wr.heap.size + 1) (some ⟨wr.heap.size, 0, none⟩) 1 1 [.int .u8 44] rfl rfl (Rd.new wr [.int .u8 44] 5) (by simp) (by intro u hu; simp at hu; subst hu; rfl) (by unfold maxLen; omega) (by omega) (by simp; omega) ?_; intro v2 w2 hown2 hgrow2 hat2; have HG2 := Lib.hid (grown_trans (grown_alloc wr _ _) (.inl rfl) hgrow2); have HN2 := Lib.hid (nxt_of hat2); have HO2 := Lib.hid (row_next (out := done) (more := [44]) hown2); have hb21 := below_grown HG2.out HOr.out hzr; have hz2 := hb21.size; obtain ⟨d0, d1, d2, d3, d4, d5, d6, d7⟩ := (HCS.out.keep (S := fun b => b < B) (by rw [add_block]; exact hadr2) (fun p hp => hb21.cell hp)).eight; clear hown2 hgrow2 hat2))
        have HV2 := Lib.hid (hvx2.out.below HS.out hb21)
        clear d0 d1 d2 d3 d4 d5 d6 d7 hvx2 HCS
        refine (HK.out _ v2 (l + (done ++ [44]).length) (xs ++ zs (done ++ [44])) w2 HV2.out (hbr.trans hb21) HO2.out (by omega) (by simp; omega)).mono ?_
        rintro e w6 ⟨v6, rfl, ho6, hg6, hn6⟩
        have HO6 := Lib.hid (row_next (out := done ++ [44]) (more := T) ho6)
        have hnn : Nxt w v v2 := HG.out.2.trans HG.out.1.size HN2.out
        have HGG : Hid (w.grownBy w6 v.ownBlock ∧ Nxt w v v6) := Lib.hid ⟨grown_trans (grown_trans HG.out.1 HG.out.2 HG2.out) hnn hg6, hnn.trans (by have := hbr.size; omega) hn6⟩
        have HAC2 : Hid ((done ++ [44] ++ T) ++ tailS (q + 1) (is.drop (q + 1)) = txs is) := Lib.hid (by rw [HR.out, ← HAC.out, HE.out]; simp)
        clear ho6 hg6 hn6 HO2 HE HAC HST0 HST1 HR HK hdl hdl2 hnn hb21
        go_wp2_with fail
        exact ⟨⟨q + 1, _, done ++ [44] ++ T, by omega, by go_num, rfl, HO6, HAC2, HGG⟩, by simp [intOf]; omega⟩
      · have hgt : decide ((q : Int) > 0) = false := decide_eq_false (by omega)
        have HE := Lib.hid (HST0.out h0)
        have hdl2 : R0.length = T.length + R.length := by rw [HE.out]; simp
        skip
        go_upto_region 6 with (fail)
        clear hgt h0
        go_wp2_with fail
        clear d0 d1 d2 d3 d4 d5 d6 d7
        refine (HK.out _ vv (l + done.length) (xs ++ zs done) wr hvx2.out hbr HOr.out hzr (by omega)).mono ?_
        rintro e w6 ⟨v6, rfl, ho6, hg6, hn6⟩
        have HO6 := Lib.hid (row_next (out := done) (more := T) ho6)
        have HGG : Hid (w.grownBy w6 v.ownBlock ∧ Nxt w v v6) := Lib.hid ⟨grown_trans HG.out.1 HG.out.2 hg6, HG.out.2.trans HG.out.1.size hn6⟩
        have HAC2 : Hid ((done ++ T) ++ tailS (q + 1) (is.drop (q + 1)) = txs is) := Lib.hid (by rw [HR.out, ← HAC.out, HE.out]; simp)
        clear ho6 hg6 hn6 HE HAC HST0 HST1 HR HK hdl hdl2 hvx2 HCS
        go_wp2_with fail
        exact ⟨⟨q + 1, _, done ++ T, by omega, by go_num, rfl, HO6, HAC2, HGG⟩, by simp [intOf]; omega⟩
    · obtain rfl : q = n := by omega
      have HE : Hid (done = txs is) := Lib.hid (by rw [← HAC.out, List.drop_eq_nil_of_le (by rw [HN.out]; exact Nat.le_refl _), tailS_nil, List.append_nil])
      clear HAC hdl
      go_wp2_with fail
      go_ret
      exact ⟨_, rfl, by rw [← HE.out]; exact HOr.out, HG.out.1, HG.out.2⟩
set_option maxRecDepth 100000 in
set_option maxHeartbeats 4000000 in
theorem members_any (M : Nat) (hM : M ≤ 1099511627776) (fs : List (ByteArray × V)) (hn : fs.length = n) (hn2 : n ≤ 1048576) (hI : IsFs w S fs A 0) (hS : Bel S B) (hok : okf fs) (hnm : nmE [] fs = 0) (hown : w.ownsRow B 5 1 v l xs) (hB : B ≤ w.heap.size) (hl : l + (txf fs).length ≤ M)
    (hc : ∀ (j : Nat) (s : ByteArray) (x : V), fs[j]? = some (s, x) → ∀ cs v l xs W, IsV W S x cs → Below B w W → W.ownsRow B 5 1 v l xs → B ≤ W.heap.size → l + (tx x).length ≤ M → Calls Tryz.prog 18 #[v, .agg cs.toArray] W (RowP B l v xs (tx x) W)) :
    Calls Tryz.prog 34 #[v, .slice A n c] w (RowP B l v xs (txf fs) w) := by
  obtain ⟨iv, hiv, hv0, hv1, hv2⟩ := info_parts infoB
  have HO := Lib.hid hown
  have HI := Lib.hid hI
  have HS := Lib.hid hS
  have HC := Lib.hid hc
  have HN := Lib.hid hn
  have HOK := Lib.hid hok
  have HNM := Lib.hid hnm
  clear hown hI hS hc hn hok hnm
  go_enter Tryz.func34, Tryz.ntmps34
  go_wp2_with fail
  go_loopw [0, 5] (fun v0 v5 wr => ∃ (q : Nat) (vv : Value) (done : List Int), q ≤ n ∧ v5 = .int .i64 (q : Int) ∧ vv = v0 ∧ Hid (wr.ownsRow B 5 1 vv (l + done.length) (xs ++ zs done)) ∧ Hid (done ++ tailF q (fs.drop q) = txf fs) ∧ Hid (w.grownBy wr v.ownBlock ∧ Nxt w v vv)) (fun _ v _ => n - (intOf v).toNat)
  case atStart => exact ⟨0, _, [], Nat.zero_le _, rfl, rfl, Lib.hid (by simpa [zs] using HO.out), Lib.hid (by simp [tailF]), Lib.hid ⟨grown_refl _ _, Nxt.refl _ _⟩⟩
  case round =>
    obtain ⟨q, vv, done, hq, rfl, rfl, HOr, HAC, HG⟩ := hrel
    have hbr := below_grown HG.out.1 HO.out hB
    have hzr : B ≤ wr.heap.size := by have := hbr.size; omega
    have hdl := pre_len HAC.out
    by_cases hlt : q < n
    · have hil : q < fs.length := by rw [HN.out]; exact hlt
      obtain ⟨p, hx⟩ : ∃ p, fs[q]? = some p := ⟨_, List.getElem?_eq_getElem hil⟩
      obtain ⟨s, x⟩ := p
      obtain ⟨ad, cs, rfl, hadB, hcs, hvx⟩ := (HI.out.below HS.out hbr).at_ hx
      rw [Nat.zero_add] at hcs
      simp only at hcs hvx
      have hsz := (okf_get HOK.out hx).1
      have hva := nmE_get HNM.out hx
      simp only at hsz hva
      have HK := Lib.hid (HC.out q s x hx)
      have hdr : fs.drop q = (s, x) :: fs.drop (q + 1) := by
        obtain ⟨h1, h2⟩ := List.getElem?_eq_some_iff.1 hx
        rw [List.drop_eq_getElem_cons h1, h2]
      have HST0 : Hid (q = 0 → tailF q (fs.drop q) = quoteZ s.data.toList ++ (58 :: (tx x ++ tailF (q + 1) (fs.drop (q + 1))))) := Lib.hid fun h => by subst h; rw [hdr, tailF_first]
      have HST1 : Hid (0 < q → tailF q (fs.drop q) = 44 :: (quoteZ s.data.toList ++ (58 :: (tx x ++ tailF (q + 1) (fs.drop (q + 1)))))) := Lib.hid fun h => by rw [hdr, tailF_more h]
      have hvx2 := Lib.hid hvx
      have hadr : ad.block < wr.heap.size := Nat.lt_of_lt_of_le (HS.out _ hadB) hzr
      have hadr2 : ad.block < B := HS.out _ hadB
      have HTX := Lib.hid (fun W => refText_ok s hsz hva W)
      obtain ⟨T, hT⟩ : ∃ T, tx x = T := ⟨_, rfl⟩
      rw [hT] at HK HST0 HST1
      obtain ⟨Q, hQ⟩ : ∃ Q, textOf s = Q := ⟨_, rfl⟩
      rw [hQ] at HTX
      have hQ2 : quoteZ s.data.toList = bz Q := by rw [← hQ, bz_text]
      rw [hQ2] at HST0 HST1
      have HSC := Lib.hid (strCells_zs Q)
      clear hT hQ hQ2 hva
      obtain ⟨k2, b2, i2, f2, t2, y2, is2, fs2⟩ := x
      simp only [IsV] at hvx
      obtain ⟨A2, c2, A2', c2', rfl, _⟩ := hvx
      have HCS := Lib.hid hcs
      have HCK : Hid (∀ W, Below B wr W → W.cell? (ad.add (q * 9)) = some (.string s) ∧ W.cell? ⟨(ad.add (q * 9)).block, (ad.add (q * 9)).off + 1, none⟩ = some (.int .i64 k2) ∧ W.cell? ⟨(ad.add (q * 9)).block, (ad.add (q * 9)).off + 2, none⟩ = some (.bool b2) ∧ W.cell? ⟨(ad.add (q * 9)).block, (ad.add (q * 9)).off + 3, none⟩ = some (.int .i64 i2) ∧ W.cell? ⟨(ad.add (q * 9)).block, (ad.add (q * 9)).off + 4, none⟩ = some (.float .f64 f2) ∧ W.cell? ⟨(ad.add (q * 9)).block, (ad.add (q * 9)).off + 5, none⟩ = some (.string t2) ∧ W.cell? ⟨(ad.add (q * 9)).block, (ad.add (q * 9)).off + 6, none⟩ = some (.string y2) ∧ W.cell? ⟨(ad.add (q * 9)).block, (ad.add (q * 9)).off + 7, none⟩ = some (.slice A2 is2.length c2) ∧ W.cell? ⟨(ad.add (q * 9)).block, (ad.add (q * 9)).off + 8, none⟩ = some (.slice A2' fs2.length c2')) := Lib.hid fun W hW => (hcs.keep (S := fun b => b < B) (by rw [add_block]; exact hadr2) (fun p hp => hW.cell hp)).nine
      clear hcs hx hil hdr HCS
      obtain ⟨R, hR⟩ : ∃ R, tailF (q + 1) (fs.drop (q + 1)) = R := ⟨_, rfl⟩
      rw [hR] at HST0 HST1
      have HR := Lib.hid hR
      clear hR
      obtain ⟨R0, hR0⟩ : ∃ R0, tailF q (fs.drop q) = R0 := ⟨_, rfl⟩
      rw [hR0] at HST0 HST1 HAC hdl
      clear hR0
      have hQl : (bz Q).length = Q.size := bz_length Q
      have hmain : ∀ (sep : List Int) (v2 : Value) (w2 : World), (if q = 0 then sep = [] else sep = [44]) → w2.ownsRow B 5 1 v2 (l + (done ++ sep).length) (xs ++ zs (done ++ sep)) → wr.grownBy w2 vv.ownBlock → Nxt wr vv v2 → Hid (R0 = sep ++ (bz Q ++ (58 :: (T ++ R))) ∧ sep.length ≤ 1 ∧ B ≤ w2.heap.size ∧ Below B wr w2) := fun sep v2 w2 hsep ho hg hnx => Lib.hid (by
        have hbb := below_grown hg HOr.out hzr
        refine ⟨?_, ?_, Nat.le_trans hzr hbb.size, hbb⟩
        · by_cases h0 : q = 0
          · rw [if_pos h0] at hsep; rw [hsep]; exact HST0.out h0
          · rw [if_neg h0] at hsep; rw [hsep]; exact HST1.out (by omega)
        · by_cases h0 : q = 0
          · rw [if_pos h0] at hsep; rw [hsep]; simp
          · rw [if_neg h0] at hsep; rw [hsep]; simp)
      have HMN := Lib.hid hmain
      clear hmain HST0 HST1
      have hstart : Hid (wr.ownsRow B 5 1 vv (l + (done ++ []).length) (xs ++ zs (done ++ []))) := by rw [List.append_nil]; exact HOr
      rcases Nat.eq_zero_or_pos q with h0 | h0
      rotate_left
      · have hgt : decide ((q : Int) > 0) = true := decide_eq_true (by omega)
        go_wp2_with (at_builtin; go_must (refine wpList_app _ rfl (.tmp 16) (.tmp 17) _ rfl B 5 iv (.int .u8 0) 1 1 Tryz.underlying31 hiv hv0 hv1 hv2 rfl (by omega) vv (l + done.length) (xs ++ zs done) rfl (HOr.out.alloc _) (wr.heap.size + 1) (some ⟨wr.heap.size, 0, none⟩) 1 1 [.int .u8 44] rfl rfl (Rd.new wr [.int .u8 44] 5) (by simp) (by intro u hu; simp at hu; subst hu; rfl) (by unfold maxLen; omega) (by omega) (by simp; omega) ?_; intro v2 w2 hown2 hgrow2 hat2; have HG2 := Lib.hid (grown_trans (grown_alloc wr _ _) (.inl rfl) hgrow2); have HN2 := Lib.hid (nxt_of hat2); have HO2 := Lib.hid (row_next (out := done) (more := [44]) hown2); have HMM := HMN.out [44] v2 w2 (by rw [if_neg (by omega)]) HO2.out HG2.out HN2.out; obtain ⟨d0, d1, d2, d3, d4, d5, d6, d7, d8⟩ := HCK.out w2 HMM.out.2.2.2; have hz2 := HMM.out.2.2.1; have hle2 := HMM.out.2.1; have hdl2 := congrArg List.length HMM.out.1; have hzz2 := HG2.out.size; clear hown2 hgrow2 hat2))
        simp only [List.length_append, List.length_cons, List.length_nil] at hdl2
        clear d0 d1 d2 d3 d4 d5 d6 d7 d8
        refine (HTX.out w2).mono ?_
        rintro e w3 ⟨rfl, hb3⟩
        have HO3 : Hid (w3.ownsRow B 5 1 v2 (l + (done ++ [44]).length) (xs ++ zs (done ++ [44]))) := Lib.hid (own_below HO2.out hb3)
        have HG3 : Hid (wr.grownBy w3 vv.ownBlock ∧ Nxt wr vv v2) := Lib.hid ⟨grown_trans HG2.out HN2.out (grown_below hb3 _), HN2.out⟩
        have hz3 : B ≤ w3.heap.size := by have := hb3.size; omega
        have hl3 : (done ++ [44]).length ≤ done.length + 1 := by simp
        clear hb3
        go_wp2_with (at_builtin; go_must (first
          | (refine wpList_str2 _ rfl (.tmp 28) (.tmp 29) _ _ rfl B 5 iv Tryz.underlying31 Tryz.underlying9 hiv hv0 hv1 hv2 v2 (l + (done ++ [44]).length) (xs ++ zs (done ++ [44])) rfl HO3.out Q rfl (by unfold maxLen; omega) (by omega) hz3 ?_; intro v4 w4 hown4 hgrow4 hat4; have HO4 : Hid (w4.ownsRow B 5 1 v4 (l + (done ++ [44] ++ bz Q).length) (xs ++ zs (done ++ [44] ++ bz Q))) := Lib.hid (row_next (out := done ++ [44]) (more := bz Q) (by rw [hQl, ← HSC.out]; exact hown4)); have HG4 : Hid (wr.grownBy w4 vv.ownBlock ∧ Nxt wr vv v4) := Lib.hid ⟨grown_trans HG3.out.1 HG3.out.2 hgrow4, HG3.out.2.trans HG3.out.1.size (nxt_of0 hat4)⟩; have hz4 : B ≤ w4.heap.size := Nat.le_trans hz3 hgrow4.size; have hl4 : (done ++ [44] ++ bz Q).length ≤ done.length + 1 + Q.size := (by rw [List.length_append, hQl]; omega); clear hown4 hgrow4 hat4)
          | (refine wpList_app _ rfl (.tmp 31) (.tmp 32) _ rfl B 5 iv (.int .u8 0) 1 1 Tryz.underlying31 hiv hv0 hv1 hv2 rfl (by omega) v4 (l + (done ++ [44] ++ bz Q).length) (xs ++ zs (done ++ [44] ++ bz Q)) rfl (HO4.out.alloc _) (w4.heap.size + 1) (some ⟨w4.heap.size, 0, none⟩) 1 1 [.int .u8 58] rfl rfl (Rd.new w4 [.int .u8 58] 5) (by simp) (by intro u hu; simp at hu; subst hu; rfl) (by unfold maxLen; omega) (by omega) (by simp; omega) ?_; intro v5 w5 hown5 hgrow5 hat5; have HO5 := Lib.hid (row_next (out := done ++ [44] ++ bz Q) (more := [58]) hown5); have hg5 := grown_trans (grown_alloc w4 _ _) (.inl rfl) hgrow5; have HG5 : Hid (wr.grownBy w5 vv.ownBlock ∧ Nxt wr vv v5) := Lib.hid ⟨grown_trans HG4.out.1 HG4.out.2 hg5, HG4.out.2.trans HG4.out.1.size (nxt_of hat5)⟩; have hb5 := below_grown HG5.out.1 HOr.out hzr; have hz5 : B ≤ w5.heap.size := Nat.le_trans hzr hb5.size; obtain ⟨d0, d1, d2, d3, d4, d5, d6, d7, d8⟩ := HCK.out w5 hb5; clear hown5 hgrow5 hat5 hg5)))
        have HV5 := Lib.hid (hvx2.out.below HS.out hb5)
        clear d0 d1 d2 d3 d4 d5 d6 d7 d8
        refine (HK.out _ v5 (l + (done ++ [44] ++ bz Q ++ [58]).length) (xs ++ zs (done ++ [44] ++ bz Q ++ [58])) w5 HV5.out (hbr.trans hb5) HO5.out hz5 (by simp only [List.length_append, List.length_cons, List.length_nil, hQl]; omega)).mono ?_
        rintro e w6 ⟨v6, rfl, ho6, hg6, hn6⟩
        have HO6 := Lib.hid (row_next (out := done ++ [44] ++ bz Q ++ [58]) (more := T) ho6)
        have hnn : Nxt w v v5 := HG.out.2.trans HG.out.1.size HG5.out.2
        have HGG : Hid (w.grownBy w6 v.ownBlock ∧ Nxt w v v6) := Lib.hid ⟨grown_trans (grown_trans HG.out.1 HG.out.2 HG5.out.1) hnn hg6, hnn.trans (by have := hbr.size; have := hb5.size; omega) hn6⟩
        have HAC2 : Hid ((done ++ [44] ++ bz Q ++ [58] ++ T) ++ tailF (q + 1) (fs.drop (q + 1)) = txf fs) := Lib.hid (by rw [HR.out, ← HAC.out, HMM.out.1]; simp)
        clear ho6 hg6 hn6 HO5 HAC HR HK hdl hdl2 hnn hb5 HMN HMM
        go_wp2_with fail
        exact ⟨⟨q + 1, _, done ++ [44] ++ bz Q ++ [58] ++ T, by omega, by go_num, rfl, HO6, HAC2, HGG⟩, by simp [intOf]; omega⟩
      · have hgt : decide ((q : Int) > 0) = false := decide_eq_false (by omega)
        have HMM := HMN.out [] vv wr (by rw [if_pos h0]) hstart.out (grown_refl _ _) (Nxt.refl _ _)
        obtain ⟨d0, d1, d2, d3, d4, d5, d6, d7, d8⟩ := HCK.out wr HMM.out.2.2.2
        have hdl2 := congrArg List.length HMM.out.1
        simp only [List.length_append, List.length_cons, List.length_nil] at hdl2
        skip
        go_upto_region 6 with (fail)
        clear hgt h0
        go_wp2_with fail
        clear d0 d1 d2 d3 d4 d5 d6 d7 d8
        refine (HTX.out wr).mono ?_
        rintro e w3 ⟨rfl, hb3⟩
        have HO3 : Hid (w3.ownsRow B 5 1 vv (l + (done ++ ([] : List Int)).length) (xs ++ zs (done ++ ([] : List Int)))) := Lib.hid (own_below hstart.out hb3)
        have HG3 : Hid (wr.grownBy w3 vv.ownBlock ∧ Nxt wr vv vv) := Lib.hid ⟨grown_trans (grown_refl wr vv.ownBlock) (Nxt.refl wr vv) (grown_below hb3 _), (Nxt.refl wr vv)⟩
        have hz3 : B ≤ w3.heap.size := by have := hb3.size; omega
        have hl3 : (done ++ ([] : List Int)).length ≤ done.length + 1 := by simp
        clear hb3
        go_wp2_with (at_builtin; go_must (first
          | (refine wpList_str2 _ rfl (.tmp 28) (.tmp 29) _ _ rfl B 5 iv Tryz.underlying31 Tryz.underlying9 hiv hv0 hv1 hv2 vv (l + (done ++ ([] : List Int)).length) (xs ++ zs (done ++ ([] : List Int))) rfl HO3.out Q rfl (by unfold maxLen; omega) (by omega) hz3 ?_; intro v4 w4 hown4 hgrow4 hat4; have HO4 : Hid (w4.ownsRow B 5 1 v4 (l + (done ++ ([] : List Int) ++ bz Q).length) (xs ++ zs (done ++ ([] : List Int) ++ bz Q))) := Lib.hid (row_next (out := done ++ ([] : List Int)) (more := bz Q) (by rw [hQl, ← HSC.out]; exact hown4)); have HG4 : Hid (wr.grownBy w4 vv.ownBlock ∧ Nxt wr vv v4) := Lib.hid ⟨grown_trans HG3.out.1 HG3.out.2 hgrow4, HG3.out.2.trans HG3.out.1.size (nxt_of0 hat4)⟩; have hz4 : B ≤ w4.heap.size := Nat.le_trans hz3 hgrow4.size; have hl4 : (done ++ ([] : List Int) ++ bz Q).length ≤ done.length + 1 + Q.size := (by rw [List.length_append, hQl]; omega); clear hown4 hgrow4 hat4)
          | (refine wpList_app _ rfl (.tmp 31) (.tmp 32) _ rfl B 5 iv (.int .u8 0) 1 1 Tryz.underlying31 hiv hv0 hv1 hv2 rfl (by omega) v4 (l + (done ++ ([] : List Int) ++ bz Q).length) (xs ++ zs (done ++ ([] : List Int) ++ bz Q)) rfl (HO4.out.alloc _) (w4.heap.size + 1) (some ⟨w4.heap.size, 0, none⟩) 1 1 [.int .u8 58] rfl rfl (Rd.new w4 [.int .u8 58] 5) (by simp) (by intro u hu; simp at hu; subst hu; rfl) (by unfold maxLen; omega) (by omega) (by simp; omega) ?_; intro v5 w5 hown5 hgrow5 hat5; have HO5 := Lib.hid (row_next (out := done ++ ([] : List Int) ++ bz Q) (more := [58]) hown5); have hg5 := grown_trans (grown_alloc w4 _ _) (.inl rfl) hgrow5; have HG5 : Hid (wr.grownBy w5 vv.ownBlock ∧ Nxt wr vv v5) := Lib.hid ⟨grown_trans HG4.out.1 HG4.out.2 hg5, HG4.out.2.trans HG4.out.1.size (nxt_of hat5)⟩; have hb5 := below_grown HG5.out.1 HOr.out hzr; have hz5 : B ≤ w5.heap.size := Nat.le_trans hzr hb5.size; obtain ⟨d0, d1, d2, d3, d4, d5, d6, d7, d8⟩ := HCK.out w5 hb5; clear hown5 hgrow5 hat5 hg5)))
        have HV5 := Lib.hid (hvx2.out.below HS.out hb5)
        clear d0 d1 d2 d3 d4 d5 d6 d7 d8
        refine (HK.out _ v5 (l + (done ++ ([] : List Int) ++ bz Q ++ [58]).length) (xs ++ zs (done ++ ([] : List Int) ++ bz Q ++ [58])) w5 HV5.out (hbr.trans hb5) HO5.out hz5 (by simp only [List.length_append, List.length_cons, List.length_nil, hQl]; omega)).mono ?_
        rintro e w6 ⟨v6, rfl, ho6, hg6, hn6⟩
        have HO6 := Lib.hid (row_next (out := done ++ ([] : List Int) ++ bz Q ++ [58]) (more := T) ho6)
        have hnn : Nxt w v v5 := HG.out.2.trans HG.out.1.size HG5.out.2
        have HGG : Hid (w.grownBy w6 v.ownBlock ∧ Nxt w v v6) := Lib.hid ⟨grown_trans (grown_trans HG.out.1 HG.out.2 HG5.out.1) hnn hg6, hnn.trans (by have := hbr.size; have := hb5.size; omega) hn6⟩
        have HAC2 : Hid ((done ++ ([] : List Int) ++ bz Q ++ [58] ++ T) ++ tailF (q + 1) (fs.drop (q + 1)) = txf fs) := Lib.hid (by rw [HR.out, ← HAC.out, HMM.out.1]; simp)
        clear ho6 hg6 hn6 HO5 HAC HR HK hdl hdl2 hnn hb5 HMN HMM
        go_wp2_with fail
        exact ⟨⟨q + 1, _, done ++ ([] : List Int) ++ bz Q ++ [58] ++ T, by omega, by go_num, rfl, HO6, HAC2, HGG⟩, by simp [intOf]; omega⟩
    · obtain rfl : q = n := by omega
      have HE : Hid (done = txf fs) := Lib.hid (by rw [← HAC.out, List.drop_eq_nil_of_le (by rw [HN.out]; exact Nat.le_refl _), tailF_nil, List.append_nil])
      clear HAC hdl
      go_wp2_with fail
      go_ret
      exact ⟨_, rfl, by rw [← HE.out]; exact HOr.out, HG.out.1, HG.out.2⟩
end
end Go.Proofs.YtagghdehbkbemaaGreatDoor.look
end
