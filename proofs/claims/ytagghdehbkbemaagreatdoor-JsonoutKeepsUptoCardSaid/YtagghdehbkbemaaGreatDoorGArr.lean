/- Words on arrays that a call lays: a composite literal of an array, its variable, its store, as closed facts. escape: which letter stands behind the backslash; a block more (its table). appendText: what it writes behind a row of bytes that the call owns. A map from strings to ints that the call made: which keys it has. -/
import Derived.Test.YtagghdehbkbemaaGreatDoorGMem
import Derived.Laws.Tables
import Derived.Test.YtagghdehbkbemaaGreatDoorGVal
import Derived.Test.YtagghdehbkbemaaGreatDoorProg
import Derived.KernelRfl
import Derived.Deep.Cut
import Derived.Test.YtagghdehbkbemaaGreatDoorShelf
import Derived.Lib.OthersKept
import Derived.Lib.RuneCount
import Derived.OpenShut
import Derived.Deep.DeepMust
import Derived.WalkSpells
import Derived.Deep.RegionLaw
import Derived.Deep.RegionWith
import Derived.Maps.Own
import Derived.Maps.OwnOps
import Derived.Maps.OwnSet
import Derived.Maps.Views
import Derived.DeepKeys4
import Derived.StringKeys
section
set_option linter.unusedVariables false
namespace Go.Proofs.YtagghdehbkbemaaGreatDoor.arr
open Go.RowKit
section
variable {P : Program}
theorem run_alloc_new (w : World) (t : TypeId) (old : Value) (z : Value) (hz : (P.info? t).bind (·.zero) = some z) : (Instr.alloc t true old).run P w = .ok (.pointer (some ⟨w.heap.size, 0, none⟩)) (w.alloc (.cells z.cells t)) := by
  cases hi : P.info? t with
  | none => simp [hi] at hz
  | some i =>
    simp only [hi, Option.bind_some] at hz
    simp [Instr.alloc, zeroValue, typeInfo, hi, hz, newVar, newRow, newObj, Sem.run, Result.andThen]
    try rfl
theorem wpList_allocNew {ops : Array Oper} {rest : List Oper} {o : Oper} {a : Act} {w : World} {Q : Exit → Act → World → Prop} (hg : o.guard = none) (t : TypeId) (ho : o.op = .alloc t) (d : Tmp) (hd : o.dst = some d)
    (z : Value) (hz : (P.info? t).bind (·.zero) = some z)
    (h : wpList P ops Q rest (a.put o.dst (.pointer (some ⟨w.heap.size, 0, none⟩))) (w.alloc (.cells z.cells t))) : wpList P ops Q (o :: rest) a w :=
  wpList_plain hg fun _ hK => by
    unfold Oper.wp execOp
    simp only [ho, Sem.run_bind, run_alloc_new w t _ z hz, Result.andThen_ok]
    exact hK _ _ h
theorem wpList_allocTo {ops : Array Oper} {rest : List Oper} {o : Oper} {a : Act} {w : World} {Q : Exit → Act → World → Prop} (hg : o.guard = none) (t : TypeId) (ho : o.op = .alloc t) (d : Tmp) (hd : o.dst = some d)
    (zc : Array Value) (hz : ((P.info? t).bind (·.zero)).map (·.cells) = some zc)
    (h : wpList P ops Q rest (a.put (some d) (.pointer (some ⟨w.heap.size, 0, none⟩))) (w.alloc (.cells zc t))) : wpList P ops Q (o :: rest) a w := by
  cases hi : (P.info? t).bind (·.zero) with
  | none => simp [hi] at hz
  | some z =>
    simp only [hi, Option.map_some, Option.some.injEq] at hz
    subst hz
    exact wpList_allocNew hg t ho d hd z hi (hd ▸ h)
theorem wpList_buildTo {ops : Array Oper} {rest : List Oper} {o : Oper} {a : Act} {w : World} {Q : Exit → Act → World → Prop} (hg : o.guard = none) (t : TypeId) (parts : Array (Nat × Operand)) (ho : o.op = .build t parts) (d : Tmp) (hd : o.dst = some d)
    (cells : Array Value) (hf : P.built t (parts.map fun (i, x) => (i, a.eval x)).toList = some cells)
    (h : wpList P ops Q rest (a.put (some d) (.agg cells)) w) : wpList P ops Q (o :: rest) a w :=
  wpList_plain hg fun _ hK => by
    unfold Oper.wp execOp
    simp only [ho, Sem.run_bind, run_build w t _ cells hf, Result.andThen_ok]
    have := hK _ _ h
    rw [← hd] at this
    exact this
theorem setRow_new (w : World) (a b : Array Value) (t : TypeId) : (w.alloc (.cells a t)).setRow w.heap.size b = w.alloc (.cells b t) := by
  unfold World.setRow World.alloc
  congr 1
  apply Array.ext
  · simp
  · intro i h1 h2
    simp only [Array.getElem_modify, Array.getElem_push]
    simp at h1
    split <;> split <;> first | rfl | omega | (exfalso; omega) | simp_all
/-- the whole of a variable just laid is written -/
theorem wpList_storeNew {ops : Array Oper} {rest : List Oper} {o : Oper} {a : Act} {w : World} {Q : Exit → Act → World → Prop} (hg : o.guard = none) (ty : TypeId) (x y : Operand) (ho : o.op = .store ty x y) (hd : o.dst = none)
    (cells old : Array Value) (hx : a.eval x = .pointer (some ⟨w.heap.size, 0, none⟩)) (hy : a.eval y = .agg cells)
    (hi : (P.info? ty).map (·.size) = some cells.size) (hold : old.size = cells.size) (h1 : cells.all (·.oneCell') = true)
    (h : wpList P ops Q rest a (w.alloc (.cells cells ty))) : wpList P ops Q (o :: rest) a (w.alloc (.cells old ty)) :=
  wpList_store_row hg ty x y ho w.heap.size cells hx hy ty old (heap_alloc_new w _) hi hold h1 (by rw [hd, setRow_new]; exact h)
end
end Go.Proofs.YtagghdehbkbemaaGreatDoor.arr
end
section
namespace Go.Proofs.YtagghdehbkbemaaGreatDoor.esc
open Go.RowKit mem txt arr
set_option linter.unusedVariables false

def tabL : List Value := [.int .u8 0, .int .u8 0, .int .u8 0, .int .u8 0, .int .u8 0, .int .u8 0, .int .u8 0, .int .u8 0, .int .u8 98, .int .u8 116, .int .u8 110, .int .u8 0, .int .u8 102, .int .u8 114, .int .u8 0, .int .u8 0, .int .u8 0, .int .u8 0, .int .u8 0, .int .u8 0, .int .u8 0, .int .u8 0, .int .u8 0, .int .u8 0, .int .u8 0, .int .u8 0, .int .u8 0, .int .u8 0, .int .u8 0, .int .u8 0, .int .u8 0, .int .u8 0]
def tabN (r : Nat) : Nat := if r = 8 then 98 else if r = 9 then 116 else if r = 10 then 110 else if r = 12 then 102 else if r = 13 then 114 else 0
theorem tabL_at : ∀ (r : Nat), r < 32 → tabL[r]? = some (.int .u8 (tabN r : Nat))
  | 0, _ => rfl
  | 1, _ => rfl
  | 2, _ => rfl
  | 3, _ => rfl
  | 4, _ => rfl
  | 5, _ => rfl
  | 6, _ => rfl
  | 7, _ => rfl
  | 8, _ => rfl
  | 9, _ => rfl
  | 10, _ => rfl
  | 11, _ => rfl
  | 12, _ => rfl
  | 13, _ => rfl
  | 14, _ => rfl
  | 15, _ => rfl
  | 16, _ => rfl
  | 17, _ => rfl
  | 18, _ => rfl
  | 19, _ => rfl
  | 20, _ => rfl
  | 21, _ => rfl
  | 22, _ => rfl
  | 23, _ => rfl
  | 24, _ => rfl
  | 25, _ => rfl
  | 26, _ => rfl
  | 27, _ => rfl
  | 28, _ => rfl
  | 29, _ => rfl
  | 30, _ => rfl
  | 31, _ => rfl
  | n + 32, h => by omega
theorem escB_tab {r : Nat} (h : r < 32) : escB r = if tabN r = 0 then 117 else tabN r := by
  unfold escB tabN
  repeat' split
  all_goals omega

def tabA : Array Value := tabL.toArray
def zeroA : Array Value := (List.replicate 32 (Value.int .u8 0)).toArray


set_option maxRecDepth 100000 in
theorem escape_lo (r : Nat) (h : r < 32) (w : World) : Calls Tryz.prog 41 #[.int .i32 r] w fun e w' => e = .returned (.int .u8 (escB r)) ∧ ∃ o, w' = w.alloc o := by
  have b1 : ((r : Int) == 34) = false := by simp; omega
  have b2 : ((r : Int) == 92) = false := by simp; omega
  have d3 : decide ((r : Int) ≥ 32) = false := decide_eq_false (by omega)
  rw [escB_tab h]
  obtain ⟨t, ht⟩ : ∃ t, tabN r = t := ⟨_, rfl⟩
  rw [ht]
  go_enter Tryz.func41, Tryz.ntmps41
  go_upto_region 2 with (first | (refine wpList_buildTo rfl 98 _ rfl 4 rfl tabA (by kernel_rfl) ?_) | (refine wpList_allocTo rfl 98 rfl 3 rfl zeroA (by kernel_rfl) ?_) | (refine wpList_storeNew rfl 98 (.tmp 3) (.tmp 4) rfl rfl tabA zeroA rfl rfl (by kernel_rfl) rfl (by kernel_rfl) ?_))
  have hc : (w.alloc (.cells tabA 98)).cell? ⟨w.heap.size, r, none⟩ = some (.int .u8 (t : Nat)) := by
    rw [← ht, cell_of_row (w.alloc (.cells tabA 98)) w.heap.size r tabA 98 (0, 0) (heap_alloc_new w _)]
    simpa [tabA] using tabL_at r h
  obtain ⟨W, hW⟩ : ∃ W, w.alloc (.cells tabA 98) = W := ⟨_, rfl⟩
  rw [hW] at hc ⊢
  generalize tabA = TA at *
  have HW := Lib.hid hW
  clear hW
  by_cases h0 : t = 0
  · subst h0
    go_wp2
    go_ret
    exact ⟨rfl, _, HW.out.symm⟩
  · have b4 : ((t : Int) == 0) = false := by simp; omega
    have b5 : ((t : Int) != 0) = true := by simp; omega
    go_wp2
    go_ret
    exact ⟨rfl, _, HW.out.symm⟩

set_option maxRecDepth 100000 in
theorem escape_hi (r : Nat) (h : 32 ≤ r) (hr : r ≤ 1114111) (w : World) : Calls Tryz.prog 41 #[.int .i32 r] w fun e w' => e = .returned (.int .u8 (escB r)) ∧ ∃ o, w' = w.alloc o := by
  have d3 : decide ((r : Int) ≥ 32) = true := decide_eq_true (by omega)
  by_cases h1 : r = 34
  · subst h1
    go_enter Tryz.func41, Tryz.ntmps41
    go_upto_region 2 with (first | (refine wpList_buildTo rfl 98 _ rfl 4 rfl tabA (by kernel_rfl) ?_) | (refine wpList_allocTo rfl 98 rfl 3 rfl zeroA (by kernel_rfl) ?_) | (refine wpList_storeNew rfl 98 (.tmp 3) (.tmp 4) rfl rfl tabA zeroA rfl rfl (by kernel_rfl) rfl (by kernel_rfl) ?_))
    generalize tabA = TA at *
    go_wp2
    go_ret
    exact ⟨rfl, _, rfl⟩
  · by_cases h2 : r = 92
    · subst h2
      go_enter Tryz.func41, Tryz.ntmps41
      go_upto_region 2 with (first | (refine wpList_buildTo rfl 98 _ rfl 4 rfl tabA (by kernel_rfl) ?_) | (refine wpList_allocTo rfl 98 rfl 3 rfl zeroA (by kernel_rfl) ?_) | (refine wpList_storeNew rfl 98 (.tmp 3) (.tmp 4) rfl rfl tabA zeroA rfl rfl (by kernel_rfl) rfl (by kernel_rfl) ?_))
      generalize tabA = TA at *
      go_wp2
      go_ret
      exact ⟨rfl, _, rfl⟩
    · have b1 : ((r : Int) == 34) = false := by simp; omega
      have b2 : ((r : Int) == 92) = false := by simp; omega
      rw [show escB r = 0 by unfold escB; rw [if_neg (by omega), if_pos h]]
      go_enter Tryz.func41, Tryz.ntmps41
      go_upto_region 2 with (first | (refine wpList_buildTo rfl 98 _ rfl 4 rfl tabA (by kernel_rfl) ?_) | (refine wpList_allocTo rfl 98 rfl 3 rfl zeroA (by kernel_rfl) ?_) | (refine wpList_storeNew rfl 98 (.tmp 3) (.tmp 4) rfl rfl tabA zeroA rfl rfl (by kernel_rfl) rfl (by kernel_rfl) ?_))
      generalize tabA = TA at *
      go_wp2
      go_ret
      exact ⟨rfl, _, rfl⟩

/-- escape, of every character -/
theorem escape_any (r : Nat) (hr : r ≤ 1114111) (w : World) : Calls Tryz.prog 41 #[.int .i32 r] w fun e w' => e = .returned (.int .u8 (escB r)) ∧ ∃ o, w' = w.alloc o := by
  by_cases h : r < 32
  · exact escape_lo r h w
  · exact escape_hi r (by omega) hr w
end Go.Proofs.YtagghdehbkbemaaGreatDoor.esc
end
section
namespace Go.Proofs.YtagghdehbkbemaaGreatDoor.app
open Go.RowKit mem txt esc
set_option linter.unusedVariables false

/-- bytes as cells -/
def zs (l : List Int) : List Value := l.map fun x => Value.int .u8 x
theorem zs_length (l : List Int) : (zs l).length = l.length := by simp [zs]
theorem zs_append (l r : List Int) : zs (l ++ r) = zs l ++ zs r := by simp [zs]
theorem zs_one (l : List Int) : ∀ u ∈ zs l, u.oneCell' = true := by
  intro u hu
  simp only [zs, List.mem_map] at hu
  obtain ⟨x, _, rfl⟩ := hu
  rfl

theorem infoB : (Tryz.prog.info? 5).map (fun i => (i.zero, i.size, i.bytes)) = some (some (.int .u8 0), 1, 1) := by kernel_rfl

/-- a row of the call's own stays one where its block is left alone -/
theorem own_kept {w w' : World} {base : Nat} {e : TypeId} {size n : Nat} {v : Value} {xs : List Value} (h : w.ownsRow base e size v n xs) (hk : ∀ g, v.ownBlock = some g → w'.heap[g]? = w.heap[g]?) : w'.ownsRow base e size v n xs := by
  refine ⟨h.1, ?_⟩
  rcases h.2 with h0 | ⟨g, cap, cur, hv, hb, hg, hr⟩
  · exact .inl h0
  · exact .inr ⟨g, cap, cur, hv, hb, (hk g (by rw [hv]; rfl)).trans hg, hr⟩
theorem own_cells {w : World} {base : Nat} {e : TypeId} {size n : Nat} {v : Value} {xs : List Value} (h : w.ownsRow base e size v n xs) : ∀ g, v.ownBlock = some g → ∃ cur, w.heap[g]? = some (.cells cur e (0, 0)) := by
  intro g hg
  rcases h.2 with ⟨rfl, _⟩ | ⟨g', cap, cur, rfl, _, hgg, _⟩
  · simp [Value.ownBlock] at hg
  · simp [Value.ownBlock] at hg
    subst hg
    exact ⟨cur, hgg⟩
theorem own_iterAt {w : World} {base : Nat} {e : TypeId} {size n : Nat} {v : Value} {xs : List Value} (h : w.ownsRow base e size v n xs) {k : Nat} {s : ByteArray} {pos : Nat} (hk : w.heap[k]? = some (.stringIter s pos)) (pos' : Nat) : (w.iterAt k s pos').ownsRow base e size v n xs :=
  own_kept h fun g hg => Lib.iterAt_other w k g s pos' fun e1 => by
    obtain ⟨cur, hc⟩ := own_cells h g hg
    rw [e1, hk] at hc
    cases hc
/-- an iterator stays behind an append -/
theorem iter_grown {w w' : World} {base : Nat} {e : TypeId} {size n : Nat} {v : Value} {xs : List Value} (h : w.ownsRow base e size v n xs) {k : Nat} {s : ByteArray} {pos : Nat} (hk : w.heap[k]? = some (.stringIter s pos)) (hg : w.grownBy w' v.ownBlock) : w'.heap[k]? = some (.stringIter s pos) := by
  have hlt : k < w.heap.size := (Array.getElem?_eq_some_iff.1 hk).1
  rw [hg.block k hlt ?_]
  · exact hk
  · intro h2
    obtain ⟨cur, hc⟩ := own_cells h k h2.symm
    rw [hk] at hc
    cases hc
theorem iter_alloc {w : World} {k : Nat} {s : ByteArray} {pos : Nat} (hk : w.heap[k]? = some (.stringIter s pos)) (o : Obj) : (w.alloc o).heap[k]? = some (.stringIter s pos) :=
  (Lib.alloc_old w o k (Array.getElem?_eq_some_iff.1 hk).1).trans hk

theorem and15 : ∀ r : Fin 32, bits .and .i32 (r.val : Int) 15 = ((r.val % 16 : Nat) : Int) := by decide
theorem digits_at : ∀ (x : Nat) (h : x < 16), ((⟨#[48, 49, 50, 51, 52, 53, 54, 55, 56, 57, 97, 98, 99, 100, 101, 102]⟩ : ByteArray)[x]'h).toNat = hexd x
  | 0, _ => rfl
  | 1, _ => rfl
  | 2, _ => rfl
  | 3, _ => rfl
  | 4, _ => rfl
  | 5, _ => rfl
  | 6, _ => rfl
  | 7, _ => rfl
  | 8, _ => rfl
  | 9, _ => rfl
  | 10, _ => rfl
  | 11, _ => rfl
  | 12, _ => rfl
  | 13, _ => rfl
  | 14, _ => rfl
  | 15, _ => rfl
  | n + 16, h => by omega

theorem kept_iterAt {a w : World} (h : Lib.OthersKept 5 none a w) {k : Nat} (hk : a.heap.size ≤ k) (s : ByteArray) (pos : Nat) : Lib.OthersKept 5 none a (w.iterAt k s pos) :=
  fun j o hj hb ho => by
    have hlt : j < a.heap.size := (Array.getElem?_eq_some_iff.1 hj).1
    rw [Lib.iterAt_other _ _ _ _ _ (by omega)]
    exact h j o hj hb ho
theorem kept_app {a w w' : World} {base n : Nat} {v : Value} {xs : List Value} {o : Obj} (h : Lib.OthersKept 5 none a w) (hown : w.ownsRow base 5 1 v n xs) (hg : (w.alloc o).grownBy w' v.ownBlock) : Lib.OthersKept 5 none a w' :=
  (h.alloc o).grown hg fun g hgv => by
    obtain ⟨cur, hc⟩ := own_cells (hown.alloc o) g hgv
    exact ⟨cur, _, hc⟩

/-- a row of bytes is written on; all below B, and all that is no row of bytes, stands -/
def RowPost (B n : Nat) (xs : List Value) (out : List Int) (w : World) (e : Ending) (w' : World) : Prop :=
  ∃ v', e = .returned v' ∧ w'.ownsRow B 5 1 v' (n + out.length) (xs ++ zs out) ∧ Below B w w' ∧ Lib.OthersKept 5 none w w'

set_option maxRecDepth 100000 in
set_option maxHeartbeats 4000000 in
theorem appendText_any (s : ByteArray) (hs : s.size ≤ 4194304) (B : Nat) (v : Value) (n : Nat) (xs : List Value) (w : World) (hown : w.ownsRow B 5 1 v n xs) (hB : B ≤ w.heap.size) (hn : n ≤ 1099511627776) :
    Calls Tryz.prog 27 #[v, .string s] w (RowPost B n xs (quoteZ s.data.toList) w) := by
  obtain ⟨iv, hiv, hv0, hv1, hv2⟩ := info_parts infoB
  have HO := Lib.hid hown
  clear hown
  go_enter Tryz.func27, Tryz.ntmps27
  go_wp2_with (at_builtin; go_must (refine wpList_app _ rfl (.tmp 8) (.tmp 9) _ rfl B 5 iv (.int .u8 0) 1 1 Tryz.underlying31 hiv hv0 hv1 hv2 rfl (by omega) v n xs rfl (HO.out.alloc _) (w.heap.size + 1) (some ⟨w.heap.size, 0, none⟩) 1 1 [.int .u8 34] rfl rfl (Rd.new w [.int .u8 34] 5) (by simp) (by intro u hu; simp at hu; subst hu; rfl) (by unfold maxLen; omega) (by omega) (by simp; omega) ?_; intro v1 w1 hown1 hgrow1 hat1; have HO1 := Lib.hid hown1; have HG1 := Lib.hid hgrow1; clear hown1 hgrow1 hat1 ))
  have hb1 : Below B w w1 := below_app1 (Below.refl _ _) HO.out (Nat.le_refl _) hB HG1.out
  have hz1 : B ≤ w1.heap.size := by have := hb1.size; omega
  have hw1 : w.heap.size ≤ w1.heap.size := by have := HG1.out.size; simp at this; omega
  have hk1 : Lib.OthersKept 5 none w w1 := kept_app (Lib.OthersKept.refl _ _ _) HO.out HG1.out
  clear HG1 HO
  go_loopw [0] (fun v0 wr => ∃ (pos : Nat) (done : List Int) (vv : Value), vv = v0 ∧ wr.ownsRow B 5 1 vv (n + done.length) (xs ++ zs done) ∧ wr.heap[w1.heap.size]? = some (.stringIter s pos) ∧ Below B w wr ∧ Lib.OthersKept 5 none w wr ∧ pos ≤ s.size ∧ Hid (done ++ encZ (s.data.toList.drop pos) = 34 :: encZ s.data.toList) ∧ done.length ≤ 1 + 6 * pos) (fun _ wr => s.size - wr.iterPos w1.heap.size)
  case atStart =>
    exact ⟨0, [34], _, rfl, HO1.out.alloc _, World.iter_heap w1 s 0, hb1.alloc hz1 _, hk1.alloc _, Nat.zero_le _, rfl, by simp⟩
  case round =>
    obtain ⟨pos, done, vv, rfl, hown, hit, hb, hk, hpos, hacc, hlen⟩ := hrel
    have hszr : w1.heap.size < wr.heap.size := (Array.getElem?_eq_some_iff.1 hit).1
    have hszL := Lib.size_eq s
    have HOr := Lib.hid hown
    clear hown
    by_cases hp : pos < s.size
    · have hwd := Lib.decode_width_pos s pos hp
      have hle := decode_le s pos
      have hne : s.data.toList.drop pos ≠ [] := by
        intro h0
        have := congrArg List.length h0
        rw [List.length_drop] at this
        simp at this
        omega
      have hr1 : (Utf8.decode s pos).1 ≤ 1114111 := by
        rw [← Lib.decodeL_drop]
        exact Lib.decodeL_rune _
      have hpw : pos + (Utf8.decode s pos).2 ≤ s.size := by
        have h1 := Lib.decodeL_le _ hne
        rw [Lib.decodeL_drop, List.length_drop] at h1
        omega
      have hst : encZ (s.data.toList.drop pos) = escZ (Utf8.decode s pos).1 ++ encZ (s.data.toList.drop (pos + (Utf8.decode s pos).2)) := by
        rw [encZ_step _ hne, Lib.decodeL_drop, List.drop_drop]
      have hnx : ∀ ty, (Instr.next (.pointer (some ⟨w1.heap.size, 0, none⟩)) true ty).run Tryz.prog wr = _ := fun ty => Lib.run_next_any_at wr w1.heap.size s pos ty hit hp
      have hO2 := own_iterAt HOr.out hit (pos + (Utf8.decode s pos).2)
      have hit2 := Lib.iterAt_heap wr w1.heap.size s pos (pos + (Utf8.decode s pos).2) hit
      have hb2 := Lib.below_iterAt hb (k := w1.heap.size) hz1 s (pos + (Utf8.decode s pos).2)
      have hk2 := kept_iterAt hk (k := w1.heap.size) hw1 s (pos + (Utf8.decode s pos).2)
      have hz2 : (wr.iterAt w1.heap.size s (pos + (Utf8.decode s pos).2)).heap.size = wr.heap.size := Lib.iterAt_size _ _ _ _
      rw [hst] at hacc
      have HST := Lib.hid hst
      have HAC := Lib.hid hacc
      have hmz : ∀ W : World, W.heap[w1.heap.size]? = some (.stringIter s (pos + (Utf8.decode s pos).2)) → s.size - W.iterPos w1.heap.size < s.size - wr.iterPos w1.heap.size := fun W hW => by
        simp only [World.iterPos, hW, hit]
        omega
      have HM := Lib.hid hmz
      clear hst hne hacc hmz hit hle HOr
      obtain ⟨q, hq⟩ : ∃ q, pos + (Utf8.decode s pos).2 = q := ⟨_, rfl⟩
      obtain ⟨r, hr⟩ : ∃ r, (Utf8.decode s pos).1 = r := ⟨_, rfl⟩
      rw [hq] at hpw hnx hO2 hit2 hb2 hk2 hz2 HM HAC
      rw [hr] at hr1 hnx HAC
      obtain ⟨W, hW⟩ : ∃ W, wr.iterAt w1.heap.size s q = W := ⟨_, rfl⟩
      rw [hW] at hnx hO2 hit2 hb2 hk2 hz2
      clear hW HST
      have HO2 := Lib.hid hO2
      have HI2 := Lib.hid hit2
      clear hO2 hit2
      have hqp : pos + 1 ≤ q := by omega
      clear hq hr hwd
      go_wp2_with fail
      refine (escape_any r hr1 _).mono ?_
      rintro e w' ⟨rfl, o, rfl⟩
      have HO3 := Lib.hid (HO2.out.alloc o)
      have HI3 := Lib.hid (iter_alloc HI2.out o)
      have hb3 : Below B w (W.alloc o) := hb2.alloc (by omega) o
      have hk3 : Lib.OthersKept 5 none w (W.alloc o) := hk2.alloc o
      have hz3 : wr.heap.size + 1 = (W.alloc o).heap.size := by simp; omega
      generalize W.alloc o = W3 at *
      clear HO2 HI2 hb2 hk2 hz2 hnx
      obtain ⟨el, hel⟩ : ∃ el, escB r = el := ⟨_, rfl⟩
      have hez : escZ r = if el = 0 then Lib.encodeRuneZ r else if el = 117 then [92, 117, 48, 48, hexd (r / 16), hexd (r % 16)] else [92, (el : Int)] := by rw [← hel]; rfl
      have hlow : el = 117 → r < 32 := fun h => escB_low (by rw [hel]; exact h)
      have hel6 := escZ_length r
      rw [hel]
      clear hel
      have HZ := Lib.hid hez
      clear hez
      by_cases e0 : el = 0
      · subst e0
        rw [show escZ r = Lib.encodeRuneZ r from HZ.out] at hel6 HAC
        go_wp2_with fail
        refine (shelf.utf8_AppendRune_plain B vv (n + done.length) (xs ++ zs done) r (by omega) (by omega) _ HO3.out (by omega) (by omega)).mono ?_
        rintro e w' ⟨v', rfl, hown', o', hgrow'⟩
        have hit5 := iter_grown (HO3.out.alloc o') (iter_alloc HI3.out o') hgrow'
        have hb5 : Below B w w' := below_app1 hb3 HO3.out (Nat.le_refl _) (by omega) hgrow'
        have hk5 : Lib.OthersKept 5 none w w' := kept_app hk3 HO3.out hgrow'
        have hOn : w'.ownsRow B 5 1 v' (n + (done ++ Lib.encodeRuneZ r).length) (xs ++ zs (done ++ Lib.encodeRuneZ r)) := by
          have h1 := hown'
          rw [zs_append, ← List.append_assoc, show n + (done ++ Lib.encodeRuneZ r).length = n + done.length + (Lib.runeCells r).length by simp [Lib.runeCells]; omega]
          exact h1
        clear hown' hgrow' hb3 hz3
        have HF := Lib.hid (And.intro hit5 (And.intro hb5 (And.intro hk5 hOn)))
        clear hit5 hb5 hk5 hk3 hOn
        go_wp2_with fail
        exact ⟨⟨q, done ++ Lib.encodeRuneZ r, _, rfl, HF.out.2.2.2, HF.out.1, HF.out.2.1, HF.out.2.2.1, hpw, by rw [List.append_assoc]; exact HAC.out, by rw [List.length_append]; omega⟩, HM.out _ HF.out.1⟩
      · by_cases e1 : el = 117
        · subst e1
          have hr32 := hlow rfl
          rw [show escZ r = [92, 117, 48, 48, hexd (r / 16), hexd (r % 16)] from HZ.out] at hel6 HAC
          obtain ⟨x, hx⟩ : ∃ x, r / 16 = x := ⟨_, rfl⟩
          obtain ⟨y, hy⟩ : ∃ y, r % 16 = y := ⟨_, rfl⟩
          have hx1 : (r : Int) / 16 = (x : Int) := by omega
          have hy1 : bits .and .i32 (r : Int) 15 = (y : Int) := by rw [and15 ⟨r, hr32⟩, hy]
          have hx2 : x < 16 := by omega
          have hy2 : y < 16 := by omega
          obtain ⟨X, hX⟩ : ∃ X, ((⟨#[48, 49, 50, 51, 52, 53, 54, 55, 56, 57, 97, 98, 99, 100, 101, 102]⟩ : ByteArray)[x]'hx2).toNat = X := ⟨_, rfl⟩
          obtain ⟨Y, hY⟩ : ∃ Y, ((⟨#[48, 49, 50, 51, 52, 53, 54, 55, 56, 57, 97, 98, 99, 100, 101, 102]⟩ : ByteArray)[y]'hy2).toNat = Y := ⟨_, rfl⟩
          have hX2 : hexd x = (X : Int) := by rw [← hX]; exact (digits_at x hx2).symm
          have hY2 : hexd y = (Y : Int) := by rw [← hY]; exact (digits_at y hy2).symm
          rw [hx, hy, hX2, hY2] at hel6 HAC
          have hx3 : (x : Int) < 16 := by omega
          have hy3 : (y : Int) < 16 := by omega
          clear HZ hx hy hX2 hY2
          go_wp2_with fail
          go_region_law (first
            | (refine step_app _ rfl (.tmp 30) (.tmp 37) _ rfl B 5 iv (.int .u8 0) 1 1 Tryz.underlying31 hiv hv0 hv1 hv2 rfl (by omega) vv (n + done.length) (xs ++ zs done) rfl (HO3.out.alloc _) (W3.heap.size + 1) (some ⟨W3.heap.size, 0, none⟩) 6 6 [.int .u8 92, .int .u8 117, .int .u8 48, .int .u8 48, .int .u8 X, .int .u8 Y] rfl rfl (Rd.new W3 [.int .u8 92, .int .u8 117, .int .u8 48, .int .u8 48, .int .u8 X, .int .u8 Y] 5) (by simp) (by intro u hu; simp at hu; rcases hu with rfl | rfl | rfl | rfl | rfl | rfl <;> rfl) (by unfold maxLen; omega) (by omega) (by simp; omega) ?_; intro v' w5 hown' hgrow' hat'; have HO' := Lib.hid hown'; have HG' := Lib.hid hgrow'; clear hown' hgrow' hat'))
          all_goals
            have hit5 := iter_grown (show World.ownsRow (World.drew (W3.alloc _)) B 5 1 vv (n + done.length) (xs ++ zs done) from HO3.out.alloc _) (show (World.drew (W3.alloc _)).heap[w1.heap.size]? = some (.stringIter s q) from iter_alloc HI3.out _) HG'.out
            have hb5 : Below B w w5 := ((hb3.alloc (by omega) _).drew).grown HG'.out (by simp; omega) (fun kk hkk => (HO3.out.lt kk hkk).1)
            have hk5 : Lib.OthersKept 5 none w w5 := ((hk3.alloc _).drew).grown HG'.out (fun g hgv => by obtain ⟨cur, hc⟩ := own_cells (HO3.out.alloc _) g hgv; exact ⟨cur, _, hc⟩)
            have hOn : w5.ownsRow B 5 1 v' (n + (done ++ [92, 117, 48, 48, (X : Int), (Y : Int)]).length) (xs ++ zs (done ++ [92, 117, 48, 48, (X : Int), (Y : Int)])) := by
              have h1 := HO'.out
              rw [zs_append, ← List.append_assoc]
              rw [show n + (done ++ [92, 117, 48, 48, (X : Int), (Y : Int)]).length = n + done.length + 6 by simp; omega]
              exact h1
            clear HO' HG' hb3 hx1 hy1 hX hY
            have HF := Lib.hid (And.intro hit5 (And.intro hb5 (And.intro hk5 hOn)))
            clear hit5 hb5 hk5 hk3 hOn
            go_wp2_with fail
            refine ⟨?_, HM.out _ HF.out.1⟩
            refine ⟨v', _, _, _, _, _, _, _, _, _, _, _, _, _, _, _, _, _, _, _, _, _, _, _, _, _, _, _, _, ⟨q, done ++ [92, 117, 48, 48, (X : Int), (Y : Int)], _, rfl, HF.out.2.2.2, HF.out.1, HF.out.2.1, HF.out.2.2.1, hpw, by rw [List.append_assoc]; exact HAC.out, by rw [List.length_append]; simp; omega⟩, rfl⟩
        · have he0 : ((el : Int) == 0) = false := by simp; omega
          have he1 : ((el : Int) == 117) = false := by simp; omega
          rw [show escZ r = [92, (el : Int)] by rw [HZ.out, if_neg e0, if_neg e1]] at hel6 HAC
          go_wp2_with (at_builtin; go_must (refine wpList_app _ rfl (.tmp 19) (.tmp 21) _ rfl B 5 iv (.int .u8 0) 1 1 Tryz.underlying31 hiv hv0 hv1 hv2 rfl (by omega) vv (n + done.length) (xs ++ zs done) rfl (HO3.out.alloc _) (W3.heap.size + 1) (some ⟨W3.heap.size, 0, none⟩) 2 2 [.int .u8 92, .int .u8 el] rfl rfl (Rd.new W3 [.int .u8 92, .int .u8 el] 5) (by simp) (by intro u hu; simp at hu; rcases hu with rfl | rfl <;> rfl) (by unfold maxLen; omega) (by omega) (by simp; omega) ?_; intro v' w5 hown' hgrow' hat'; have HO' := Lib.hid hown'; have HG' := Lib.hid hgrow'; clear hown' hgrow' hat'))
          have hit5 := iter_grown (HO3.out.alloc _) (iter_alloc HI3.out _) HG'.out
          have hb5 : Below B w w5 := below_app1 hb3 HO3.out (Nat.le_refl _) (by omega) HG'.out
          have hk5 : Lib.OthersKept 5 none w w5 := kept_app hk3 HO3.out HG'.out
          have hOn : w5.ownsRow B 5 1 v' (n + (done ++ [92, (el : Int)]).length) (xs ++ zs (done ++ [92, (el : Int)])) := by
            have h1 := HO'.out
            rw [zs_append, ← List.append_assoc]
            rw [show n + (done ++ [92, (el : Int)]).length = n + done.length + 2 by simp; omega]
            exact h1
          exact ⟨⟨q, done ++ [92, (el : Int)], _, rfl, hOn, hit5, hb5, hk5, hpw, by rw [List.append_assoc]; exact HAC.out, by rw [List.length_append]; simp; omega⟩, HM.out _ hit5⟩
    · have hend : s.data.toList.drop pos = [] := List.drop_eq_nil_of_le (by omega)
      rw [hend, encZ_nil, List.append_nil] at hacc
      have HAC := Lib.hid hacc
      clear hacc hend
      have hnx : ∀ ty, (Instr.next (.pointer (some ⟨w1.heap.size, 0, none⟩)) true ty).run Tryz.prog wr = _ := fun ty => Lib.run_next_end_at wr w1.heap.size s pos ty hit hp
      go_wp2_with (at_builtin; go_must (refine wpList_app _ rfl (.tmp 39) (.tmp 40) _ rfl B 5 iv (.int .u8 0) 1 1 Tryz.underlying31 hiv hv0 hv1 hv2 rfl (by omega) vv (n + done.length) (xs ++ zs done) rfl (HOr.out.alloc _) (wr.heap.size + 1) (some ⟨wr.heap.size, 0, none⟩) 1 1 [.int .u8 34] rfl rfl (Rd.new wr [.int .u8 34] 5) (by simp) (by intro u hu; simp at hu; subst hu; rfl) (by unfold maxLen; omega) (by omega) (by simp; omega) ?_; intro v' w5 hown' hgrow' hat'; have HO' := Lib.hid hown'; have HG' := Lib.hid hgrow'; clear hown' hgrow' hat'))
      go_ret
      refine ⟨v', rfl, ?_, below_app1 hb HOr.out (Nat.le_refl _) (by omega) HG'.out, kept_app hk HOr.out HG'.out⟩
      have hq2 : quoteZ s.data.toList = done ++ [34] := by
        rw [HAC.out]
        rfl
      have h1 := HO'.out
      rw [hq2, zs_append, ← List.append_assoc]
      rw [show n + (done ++ [(34 : Int)]).length = n + done.length + 1 by simp; omega]
      exact h1
end Go.Proofs.YtagghdehbkbemaaGreatDoor.app
end
section
set_option linter.unusedVariables false
namespace Go.Proofs.YtagghdehbkbemaaGreatDoor.smap
open Go.RowKit mem

theorem keyedS : Maps.Keyed Tryz.prog 9 := Maps.string_keyed Tryz.underlying9
theorem key_some (s : ByteArray) (h : s.size ≤ maxLen) : ∃ l, keyOf Tryz.prog 9 (.string s) = some l := ⟨_, WideMaps.keyOf_string_mk Tryz.underlying9 h⟩
theorem zeroInt (w : World) : (zeroValue 3).run Tryz.prog w = .ok (.int .i64 0) w := by kernel_rfl

/-- block m is a map of at most n entries that has just the keys of l -/
def MapS (w : World) (m n : Nat) (l : List ByteArray) : Prop := ∃ D : DataW Unit, w.ownsMap Tryz.prog 9 (plainElem Tryz.prog 3) m n D ∧
  ∀ (s : ByteArray) (k : Lit), keyOf Tryz.prog 9 (.string s) = some k → (Maps.has D k = true ↔ s ∈ l)

theorem MapS.made (w : World) : MapS (w.alloc (.map #[] 0)) w.heap.size 0 [] := ⟨.map [], World.ownsMap_made _ _ _ _, fun _ _ _ => by constructor <;> intro h <;> simp_all [Maps.has]⟩
theorem MapS.lt {w : World} {m n : Nat} {l : List ByteArray} (h : MapS w m n l) : m < w.heap.size := by
  obtain ⟨D, h, _⟩ := h
  exact h.lt
theorem MapS.heap {w w' : World} {m n : Nat} {l : List ByteArray} (h : MapS w m n l) (he : w'.heap[m]? = w.heap[m]?) : MapS w' m n l := by
  obtain ⟨D, ⟨es, clock, hb, F, hs, hD⟩, h2⟩ := h
  exact ⟨D, ⟨es, clock, he.trans hb, F, hs, hD⟩, h2⟩
theorem MapS.look {w : World} {m n : Nat} {l : List ByteArray} (h : MapS w m n l) {s : ByteArray} (hc : s.size ≤ maxLen) (hn : s ∉ l) :
    ∃ x, (Instr.lookup 90 (.map (some m)) (.string s) true).run Tryz.prog w = .ok (.tuple #[.int .i64 x, .bool false]) w := by
  obtain ⟨D, h, h2⟩ := h
  obtain ⟨k, hl⟩ := key_some s hc
  have e1 := h2 s k hl
  obtain ⟨v, ps, hrun, hv⟩ := h.look_ok keyedS Tryz.underlying90 (zeroInt w) (plainElem_int Tryz.underlying3 (by decide)) hl
  obtain ⟨q, rfl, _⟩ := plainElem_int_inv Tryz.underlying3 hv
  have : Maps.has D k = false := by
    cases hh : Maps.has D k with
    | false => rfl
    | true => exact absurd (e1.1 hh) hn
  rw [this] at hrun
  exact ⟨q, hrun⟩
theorem MapS.put {w : World} {m n : Nat} {l : List ByteArray} (h : MapS w m n l) {s : ByteArray} (hc : s.size ≤ maxLen) (hn : n < maxLen) {i : Int} (hi : (Lit.int .i64 i).wf = true) :
    ∃ w', (Instr.mapUpdate 90 (.map (some m)) (.string s) (.int .i64 i)).run Tryz.prog w = .ok () w' ∧ MapS w' m (n + 1) (s :: l) ∧ w.grownBy w' (some m) := by
  obtain ⟨D, h, h2⟩ := h
  obtain ⟨k, hl⟩ := key_some s hc
  obtain ⟨w', hrun, ho, hg⟩ := h.update keyedS Tryz.underlying90 hn hl (plainElem_int Tryz.underlying3 hi)
  refine ⟨w', hrun, ⟨_, ho, fun d q hk => ?_⟩, hg⟩
  have hm := h.isMap
  have hkl := keyedS.key hl
  by_cases hd : d = s
  · subst hd
    obtain rfl : k = q := by rw [hl] at hk; injection hk
    rw [Maps.has_put_same hm hkl]
    simp
  · have hne : q ≠ k := fun e => hd (by
      have := keyedS.inj (l := q) hk (by rw [e]; exact hl)
      injection this)
    rw [Maps.has_put_other hne]
    simpa [hd] using h2 d q hk
theorem MapS.look_in {w : World} {m n : Nat} {l : List ByteArray} (h : MapS w m n l) {s : ByteArray} (hc : s.size ≤ maxLen) (hn : s ∈ l) :
    ∃ x, (Instr.lookup 90 (.map (some m)) (.string s) true).run Tryz.prog w = .ok (.tuple #[.int .i64 x, .bool true]) w := by
  obtain ⟨D, h, h2⟩ := h
  obtain ⟨k, hl⟩ := key_some s hc
  have e1 := h2 s k hl
  obtain ⟨v, ps, hrun, hv⟩ := h.look_ok keyedS Tryz.underlying90 (zeroInt w) (plainElem_int Tryz.underlying3 (by decide)) hl
  obtain ⟨q, rfl, _⟩ := plainElem_int_inv Tryz.underlying3 hv
  rw [e1.2 hn] at hrun
  exact ⟨q, hrun⟩
end Go.Proofs.YtagghdehbkbemaaGreatDoor.smap
end
