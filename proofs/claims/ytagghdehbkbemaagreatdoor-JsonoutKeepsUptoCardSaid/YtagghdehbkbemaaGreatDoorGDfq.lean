/- What Write and Size defer. Write, whatever the value. -/
import Derived.Test.YtagghdehbkbemaaGreatDoorGAvq
import Derived.Recover
import Derived.Defers
import Derived.Laws.Pointers
section
namespace Go.Proofs.YtagghdehbkbemaaGreatDoor.look
open Go.RowKit mem txt app smap val
set_option linter.unusedVariables false

def fv (n : Int) : Value := .iface 66 (.agg #[.int .i64 n])
theorem reason_any (n : Int) (w : World) : Calls Tryz.prog 20 #[fv n] w fun e w' => e = .returned (.int .i64 n) ∧ w' = w.alloc (.cells #[.int .i64 n] 66) := by
  unfold fv
  have hta : ∀ w : World, (Instr.typeAssert (.iface 66 (.agg #[.int .i64 n])) 20 66 true).run Tryz.prog w = .ok (.tuple #[.agg #[.int .i64 n], .bool true]) w := fun w => by kernel_rfl
  go_enter Tryz.func20, Tryz.ntmps20
  go_wp2_with fail
  go_ret
  exact ⟨rfl, rfl⟩
theorem idleW (p q : Addr) (w : World) : CallsD Tryz.prog 19 #[.pointer (some p), .pointer (some q)] .returning w fun e u' w' => e = .returned (.tuple #[]) ∧ u' = .returning ∧ w' = w := by
  refine callsD_of_wpS Tryz.func19 rfl fun c₀ cs hu => ?_
  apply wpS_seq
  apply wpS_region
  simp [wpOpsS, go_sem, recoverD, hu, Tryz.ntmps19, Exit.thenS]
  apply wpS_seq
  apply wpS_region
  simp [wpOpsS, go_sem, Exit.thenS]
  refine wpS_cond (t := false) (by simp [Act.eval, Array.replicate]) ?_
  simp only [Bool.false_eq_true, if_false]
  refine wpS_of_wp (wp_skip ?_)
  cases c₀
  simp_all [bodyPostS, results, Tryz.results19]
def CatchPost (n : Int) (B p q : Nat) (z : Value) (T : TypeId) (w : World) (e : Ending) (u : FrameMode) (w' : World) : Prop :=
  e = .returned (.tuple #[]) ∧ u = .panicking [{ v := fv n, recovered := true }] ∧ w'.heap[p]? = some (.cells #[z] T (0, 0)) ∧ w'.heap[q]? = some (.cells #[.int .i64 n] 32 (0, 0)) ∧ Below B w w'
theorem catchW (n : Int) (x : Value) (y : Int) (B p q : Nat) (w : World) (hpq : p ≠ q) (hBp : B ≤ p) (hBq : B ≤ q) (hp : w.heap[p]? = some (.cells #[x] 31 (0, 0))) (hq : w.heap[q]? = some (.cells #[.int .i64 y] 32 (0, 0))) :
    CallsD Tryz.prog 19 #[.pointer (some ⟨p, 0, none⟩), .pointer (some ⟨q, 0, none⟩)] (.panicking [{ v := fv n, recovered := false }]) w (CatchPost n B p q (.slice none 0 0) 31 w) := by
  have hpl : p < w.heap.size := (Array.getElem?_eq_some_iff.1 hp).1
  have hql : q < w.heap.size := (Array.getElem?_eq_some_iff.1 hq).1
  have p0 := blk_cell hp (i := 0) (by simp)
  have p1 := blk_frozen hp 0
  have q1 := blk_frozen hq 0
  have gq : (w.setCell ⟨p, 0, none⟩ (.slice none 0 0)).heap[q]? = some (.cells #[.int .i64 y] 32 (0, 0)) := (Below.heap_setCell _ _ _ _ (by show q ≠ p; omega)).trans hq
  have gp : (w.setCell ⟨p, 0, none⟩ (.slice none 0 0)).heap[p]? = some (.cells #[.slice none 0 0] 31 (0, 0)) := by
    have := blk_set hp 0 (.slice none 0 0)
    simpa using this
  have q0 := blk_cell gq (i := 0) (by simp)
  simp only [List.getElem_toArray, List.getElem_cons_zero] at p0 q0
  have h1 : ((w.setCell ⟨p, 0, none⟩ (.slice none 0 0)).setCell ⟨q, 0, none⟩ (.int .i64 n)).heap[p]? = some (.cells #[.slice none 0 0] 31 (0, 0)) := (Below.heap_setCell _ _ _ _ (by show p ≠ q; omega)).trans gp
  have h2 : ((w.setCell ⟨p, 0, none⟩ (.slice none 0 0)).setCell ⟨q, 0, none⟩ (.int .i64 n)).heap[q]? = some (.cells #[.int .i64 n] 32 (0, 0)) := by
    have := blk_set gq 0 (.int .i64 n)
    simpa using this
  have h3 : Below B w ((w.setCell ⟨p, 0, none⟩ (.slice none 0 0)).setCell ⟨q, 0, none⟩ (.int .i64 n)) := ((Below.refl _ _).setCell (by show B ≤ p; omega) _).setCell (by show B ≤ q; omega) _
  have hsz : ((w.setCell ⟨p, 0, none⟩ (.slice none 0 0)).setCell ⟨q, 0, none⟩ (.int .i64 n)).heap.size = w.heap.size := by simp [World.setCell]
  have HF := Lib.hid (And.intro h1 (And.intro h2 (And.intro h3 hsz)))
  clear h1 h2 h3 hsz gp gq hp hq
  refine callsD_of_wpS Tryz.func19 rfl fun c₀ cs hu => ?_
  apply wpS_seq
  apply wpS_region
  simp [wpOpsS, go_sem, recoverD, hu, Tryz.ntmps19, Exit.thenS, fv]
  apply wpS_seq
  apply wpS_region
  simp [wpOpsS, go_sem, Exit.thenS]
  refine wpS_cond (t := true) (by simp [Act.eval, Array.replicate]) ?_
  simp only [if_true]
  refine wpS_of_wp ?_
  go_wp2_with fail
  refine (reason_any n w).mono ?_
  rintro e w' ⟨rfl, rfl⟩
  go_wp2_with fail
  refine ⟨rfl, _, rfl, .tuple #[], by simp [results, Tryz.results19], rfl, rfl, ?_, ?_, ?_⟩
  · exact (Lib.alloc_old _ _ _ (by rw [HF.out.2.2.2]; exact hpl)).trans HF.out.1
  · exact (Lib.alloc_old _ _ _ (by rw [HF.out.2.2.2]; exact hql)).trans HF.out.2.1
  · exact HF.out.2.2.1.alloc (by rw [HF.out.2.2.2]; omega) _
end Go.Proofs.YtagghdehbkbemaaGreatDoor.look
end
section
namespace Go.Proofs.YtagghdehbkbemaaGreatDoor.look
open Go.RowKit mem txt app smap val
attribute [local go_sem] run_store_float
set_option linter.unusedVariables false

theorem heap3 (w : World) (o1 o2 o3 : Obj) : (((w.alloc o1).alloc o2).alloc o3).heap[w.heap.size]? = some o1 ∧ (((w.alloc o1).alloc o2).alloc o3).heap[w.heap.size + 1]? = some o2 ∧ (((w.alloc o1).alloc o2).alloc o3).heap[w.heap.size + 1 + 1]? = some o3 := by
  refine ⟨?_, ?_, ?_⟩
  · rw [Lib.alloc_old _ _ _ (by simp; omega), Lib.alloc_old _ _ _ (by simp), heap_alloc_new]
  · rw [Lib.alloc_old _ _ _ (by simp), heap_alloc_at _ _ _ (by simp)]
  · exact heap_alloc_at _ _ _ (by simp)
theorem one_cell {w : World} {g : Nat} {v : Value} {t : TypeId} (h : w.heap[g]? = some (.cells #[v] t (0, 0))) : w.cell? ⟨g, 0, none⟩ = some v ∧ w.frozen? ⟨g, 0, none⟩ = false :=
  ⟨cell_of_row w g 0 _ t (0, 0) h, by simp [World.frozen?, h]⟩

/-- Write's answer: the text in new memory, or the first fault -/
def WrPost (r : Int) (T : List Int) (w : World) (e : Ending) (w' : World) : Prop :=
  (r = 0 → ∃ v' B, e = .returned (.tuple #[v', .int .i64 0]) ∧ w'.ownsRow B 5 1 v' T.length (zs T) ∧ w.heap.size ≤ B) ∧
  (r ≠ 0 → e = .returned (.tuple #[.slice none 0 0, .int .i64 r])) ∧ Below w.heap.size w w'

set_option maxRecDepth 100000 in
set_option maxHeartbeats 4000000 in
theorem write_cells (k : Int) (b : Bool) (i : Int) (f : Nat) (t y : ByteArray) (A A' : Option Addr) (n m c c' : Nat) (w : World) (r : Int) (T : List Int) (hT : T.length ≤ 1099511627776)
    (hlk : ∀ W, Below w.heap.size w W → Calls Tryz.prog 21 #[.agg #[.int .i64 k, .bool b, .int .i64 i, .float .f64 f, .string t, .string y, .slice A n c, .slice A' m c']] W (LkPost W r))
    (hap : ∀ W, Below w.heap.size w W → Calls Tryz.prog 22 #[.slice none 0 0, .agg #[.int .i64 k, .bool b, .int .i64 i, .float .f64 f, .string t, .string y, .slice A n c, .slice A' m c']] W (RowPost W.heap.size 0 [] T W)) :
    Calls Tryz.prog 8 #[.agg #[.int .i64 k, .bool b, .int .i64 i, .float .f64 f, .string t, .string y, .slice A n c, .slice A' m c']] w (WrPost r T w) := by
  have HLK := Lib.hid hlk
  have HAP := Lib.hid hap
  clear hlk hap
  have hmf : ∀ (fn : Fn) (first cap : Array Value) (w : World), (Instr.makeFunc fn first cap).run Tryz.prog w = .ok (.func fn first cap) w := fun _ _ _ _ => rfl
  go_enter_defers Tryz.func8, Tryz.ntmps8
  go_wp2_with fail
  obtain ⟨g0, g1, g2⟩ := heap3 w (.cells #[.int .i64 k, .bool b, .int .i64 i, .float .f64 f, .string t, .string y, .slice A n c, .slice A' m c'] 27) (.cells #[.slice none 0 0] 31) (.cells #[.int .i64 0] 32)
  have hb3 : Below w.heap.size w (((w.alloc (.cells #[.int .i64 k, .bool b, .int .i64 i, .float .f64 f, .string t, .string y, .slice A n c, .slice A' m c'] 27)).alloc (.cells #[.slice none 0 0] 31)).alloc (.cells #[.int .i64 0] 32)) := (((Below.refl _ _).alloc (Nat.le_refl _) _).alloc (by simp) _).alloc (by simp; omega) _
  have hz3 : w.heap.size + 1 + 1 + 1 = (((w.alloc (.cells #[.int .i64 k, .bool b, .int .i64 i, .float .f64 f, .string t, .string y, .slice A n c, .slice A' m c'] 27)).alloc (.cells #[.slice none 0 0] 31)).alloc (.cells #[.int .i64 0] 32)).heap.size := by simp
  generalize (((w.alloc (.cells #[.int .i64 k, .bool b, .int .i64 i, .float .f64 f, .string t, .string y, .slice A n c, .slice A' m c'] 27)).alloc (.cells #[.slice none 0 0] 31)).alloc (.cells #[.int .i64 0] 32)) = W3 at *
  refine (HLK.out W3 hb3).mono ?_
  rintro e w4 ⟨he1, he2, hb4⟩
  have G0 := Lib.hid ((hb4.block w.heap.size (by omega)).trans g0)
  have G1 := Lib.hid ((hb4.block (w.heap.size + 1) (by omega)).trans g1)
  have G2 := Lib.hid ((hb4.block (w.heap.size + 1 + 1) (by omega)).trans g2)
  have hb5 : Below w.heap.size w w4 := hb3.trans (hb4.mono (by omega))
  have hz4 : w.heap.size + 1 + 1 + 1 ≤ w4.heap.size := by have := hb4.size; omega
  clear hb3 hb4 hz3 g0 g1 g2
  by_cases hr : r = 0
  · obtain rfl := he1 hr
    clear he1 he2
    have HR := Lib.hid hr
    clear hr
    obtain ⟨m0, m1, m2, m3, m4, m5, m6, m7⟩ := blk8 G0.out
    go_wp2_with fail
    clear m0 m1 m2 m3 m4 m5 m6 m7
    refine (HAP.out w4 hb5).mono ?_
    rintro e w6 ⟨v', rfl, ho6, hb6, _⟩
    rw [Nat.zero_add] at ho6
    obtain ⟨A6, c6, rfl, _⟩ := own_form ho6
    have hG1 := (hb6.block (w.heap.size + 1) (by omega)).trans G1.out
    have hG2 := (hb6.block (w.heap.size + 1 + 1) (by omega)).trans G2.out
    obtain ⟨n1, n2⟩ := one_cell hG1
    obtain ⟨n3, n4⟩ := one_cell hG2
    have hb7 : Below w.heap.size w w6 := hb5.trans (hb6.mono (by omega))
    have HO6 := Lib.hid ho6
    clear hG1 hG2 ho6 hb6 hb5
    go_wp2
    refine leaves_cons (f := 19) (args := #[.pointer (some ⟨w.heap.size + 1, 0, none⟩), .pointer (some ⟨w.heap.size + 1 + 1, 0, none⟩)]) (by simp) (by simp [go_sem]) ?_
    refine (idleW _ _ _).mono ?_
    rintro e u' w'' ⟨rfl, rfl, rfl⟩
    have f1 : ((w6.setCell ⟨w.heap.size + 1, 0, none⟩ (.slice A6 T.length c6)).setCell ⟨w.heap.size + 1 + 1, 0, none⟩ (.int .i64 0)).cell? ⟨w.heap.size + 1, 0, none⟩ = some (.slice A6 T.length c6) := by
      exact (World.cell?_setCell_other _ _ _ _ (by simp)).trans (World.cell?_setCell_same _ _ _ n1)
    have f2 : ((w6.setCell ⟨w.heap.size + 1, 0, none⟩ (.slice A6 T.length c6)).setCell ⟨w.heap.size + 1 + 1, 0, none⟩ (.int .i64 0)).cell? ⟨w.heap.size + 1 + 1, 0, none⟩ = some (.int .i64 0) := by
      exact World.cell?_setCell_same _ _ _ ((World.cell?_setCell_other _ _ _ _ (by simp)).trans n3)
    have hO : ((w6.setCell ⟨w.heap.size + 1, 0, none⟩ (.slice A6 T.length c6)).setCell ⟨w.heap.size + 1 + 1, 0, none⟩ (.int .i64 0)).ownsRow w4.heap.size 5 1 (.slice A6 T.length c6) T.length (zs T) := by
      have h0 := HO6.out
      rw [List.nil_append] at h0
      refine own_kept h0 fun g hg => ?_
      have hl := (h0.lt g hg).1
      rw [Below.heap_setCell _ _ _ _ (by show g ≠ w.heap.size + 1 + 1; omega), Below.heap_setCell _ _ _ _ (by show g ≠ w.heap.size + 1; omega)]
    have hB : Below w.heap.size w ((w6.setCell ⟨w.heap.size + 1, 0, none⟩ (.slice A6 T.length c6)).setCell ⟨w.heap.size + 1 + 1, 0, none⟩ (.int .i64 0)) :=
      (hb7.setCell (by show _ ≤ w.heap.size + 1; omega) _).setCell (by show _ ≤ w.heap.size + 1 + 1; omega) _
    have HF := Lib.hid (And.intro hO hB)
    clear hO hB n1 n2 n3 n4 hb7 HO6
    generalize ((w6.setCell ⟨w.heap.size + 1, 0, none⟩ (.slice A6 T.length c6)).setCell ⟨w.heap.size + 1 + 1, 0, none⟩ (.int .i64 0)) = WF at *
    simp [Leaves, settle, results, Tryz.results8, go_sem, f1, f2]
    exact ⟨fun _ => ⟨_, _, rfl, HF.out.1, by omega⟩, fun h => absurd HR.out h, HF.out.2⟩
  · obtain rfl := he2 hr
    clear he1 he2
    have HR := Lib.hid hr
    clear hr
    unfold fault
    go_wp2
    refine leaves_cons (f := 19) (args := #[.pointer (some ⟨w.heap.size + 1, 0, none⟩), .pointer (some ⟨w.heap.size + 1 + 1, 0, none⟩)]) (by simp) (by simp [go_sem]) ?_
    refine (catchW r _ 0 w.heap.size (w.heap.size + 1) (w.heap.size + 1 + 1) _ (by omega) (by omega) (by omega) G1.out G2.out).mono ?_
    rintro e u' w'' ⟨rfl, rfl, k1, k2, hb8⟩
    obtain ⟨f1, _⟩ := one_cell k1
    obtain ⟨f2, _⟩ := one_cell k2
    simp [Leaves, settle, results, Tryz.results8, go_sem, f1, f2]
    exact ⟨fun h => absurd h HR.out, fun _ => rfl, hb5.trans hb8⟩
/-- Write, whatever the value -/
theorem write_any (x : V) (cs : List Value) (w : World) (S : Nat → Prop) (hx : wt x ≤ 16777216) (hs : sz x ≤ 1048576) (hok : ok x) (hV : IsV w S x cs) (hS : Bel S w.heap.size) (hE : Env w) :
    Calls Tryz.prog 8 #[.agg cs.toArray] w (WrPost (lk x) (tx x) w) := by
  have hlen := tx_len x hok
  have hsz := sz_wt x
  have hz := hE.num.lt
  have H1 := fun W (hW : Below w.heap.size w W) => look_any (sz x) x (Nat.le_refl _) (by omega) hok cs W S (hV.below hS hW) (hS.mono hW.size) (hE.below hW)
  have H2 := fun W (hW : Below w.heap.size w W) => appendValue_any (sz x) x (Nat.le_refl _) (by omega) hok cs W.heap.size (.slice none 0 0) 0 [] W S (hV.below hS hW) (hS.mono hW.size) (by have := hW.size; omega) (hE.below hW) (World.ownsRow_nil _ _ _ _) (Nat.le_refl _) (by omega)
  obtain ⟨k, b, i, f, t, y, is, fs⟩ := x
  simp only [IsV] at hV
  obtain ⟨A, c, A', c', rfl, _⟩ := hV
  exact write_cells k b i f t y A A' _ _ c c' w _ _ (by omega) H1 H2
end Go.Proofs.YtagghdehbkbemaaGreatDoor.look
end
