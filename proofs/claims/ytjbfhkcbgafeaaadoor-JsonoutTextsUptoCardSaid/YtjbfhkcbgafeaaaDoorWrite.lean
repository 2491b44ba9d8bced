/- Write and Size of such an object. -/
import Derived.Test.YtjbfhkcbgafeaaaDoorDefer
namespace Go.Proofs.YtjbfhkcbgafeaaaDoor.look
open Go.RowKit mem txt app smap
attribute [local go_sem] run_store_float
set_option linter.unusedVariables false


theorem heap3 (w : World) (o1 o2 o3 : Obj) : (((w.alloc o1).alloc o2).alloc o3).heap[w.heap.size]? = some o1 ∧ (((w.alloc o1).alloc o2).alloc o3).heap[w.heap.size + 1]? = some o2 ∧ (((w.alloc o1).alloc o2).alloc o3).heap[w.heap.size + 1 + 1]? = some o3 := by
  refine ⟨?_, ?_, ?_⟩
  · rw [Lib.alloc_old _ _ _ (by simp; omega), Lib.alloc_old _ _ _ (by simp), heap_alloc_new]
  · rw [Lib.alloc_old _ _ _ (by simp), heap_alloc_at _ _ _ (by simp)]
  · exact heap_alloc_at _ _ _ (by simp)
theorem one_cell {w : World} {g : Nat} {v : Value} {t : TypeId} (h : w.heap[g]? = some (.cells #[v] t (0, 0))) : w.cell? ⟨g, 0, none⟩ = some v ∧ w.frozen? ⟨g, 0, none⟩ = false :=
  ⟨cell_of_row w g 0 _ t (0, 0) h, by simp [World.frozen?, h]⟩

set_option maxRecDepth 100000 in
set_option maxHeartbeats 4000000 in
theorem write_obj (A : Option Addr) (c N : Nat) (hN : N ≤ 1000) (nm : Nat → ByteArray) (kd : Nat → Int) (lf : Nat → List Int) (w : World) (hM : Mems w A N nm kd) (hA : ∀ ad, A = some ad → ad.block < w.heap.size) (hT : Tabs w)
    (hs : ∀ i, i < N → (nm i).size ≤ 4194304) (hv : ∀ i, i < N → Lib.validD (nm i).data.toList = true) (hd : ∀ i j, i < j → j < N → nm i ≠ nm j) (hlen : (objZ nm lf N).length ≤ 549755813888)
    (hll : ∀ i, i < N → ∀ W, Tabs W → Calls Tryd.prog 22 #[.agg #[.int .i64 (kd i), .bool false, .int .i64 0, .float .f64 0, .string ⟨#[]⟩, .string ⟨#[]⟩, .slice none 0 0, .slice none 0 0]] W (UnitPost W))
    (hla : ∀ i, i < N → ∀ (B : Nat) (v : Value) (n : Nat) (xs : List Value) (W : World), W.ownsRow B 5 1 v n xs → B ≤ W.heap.size → n ≤ 549755813888 →
      Calls Tryd.prog 23 #[v, .agg #[.int .i64 (kd i), .bool false, .int .i64 0, .float .f64 0, .string ⟨#[]⟩, .string ⟨#[]⟩, .slice none 0 0, .slice none 0 0]] W (RowPost B n xs (lf i) W)) :
    Calls Tryd.prog 11 #[.agg #[.int .i64 6, .bool false, .int .i64 0, .float .f64 0, .string ⟨#[]⟩, .string ⟨#[]⟩, .slice none 0 0, .slice A N c]] w fun e w' =>
      ∃ v' B, e = .returned (.tuple #[v', .int .i64 0]) ∧ w'.ownsRow B 5 1 v' (objZ nm lf N).length (zs (objZ nm lf N)) ∧ Below w.heap.size w w' := by
  have HLK := Lib.hid (fun W (hW : Below w.heap.size w W) => look_obj A c N hN nm kd W (hM.below hW) (hT.below hW) (fun i hi => Nat.le_trans (hs i hi) (by unfold maxLen; omega)) hv hd hll)
  have HAP := Lib.hid (fun W (hW : Below w.heap.size w W) => appV_obj 549755813888 (by omega) A c N hN nm kd lf W.heap.size (.slice none 0 0) 0 [] W (World.ownsRow_nil _ _ _ _) (Nat.le_refl _) (by omega) (hM.below hW) (fun ad e => Nat.lt_of_lt_of_le (hA ad e) hW.size) hs (fun i hi => hla i hi W.heap.size))
  clear hM hT hs hv hd hll hla hA
  have hmf : ∀ (fn : Fn) (first cap : Array Value) (w : World), (Instr.makeFunc fn first cap).run Tryd.prog w = .ok (.func fn first cap) w := fun _ _ _ _ => rfl
  go_enter_defers Tryd.func11, Tryd.ntmps11
  go_wp2_with fail
  obtain ⟨g0, g1, g2⟩ := heap3 w (.cells #[.int .i64 6, .bool false, .int .i64 0, .float .f64 0, .string ⟨#[]⟩, .string ⟨#[]⟩, .slice none 0 0, .slice A N c] 40) (.cells #[.slice none 0 0] 30) (.cells #[.int .i64 0] 24)
  have hb3 : Below w.heap.size w (((w.alloc (.cells #[.int .i64 6, .bool false, .int .i64 0, .float .f64 0, .string ⟨#[]⟩, .string ⟨#[]⟩, .slice none 0 0, .slice A N c] 40)).alloc (.cells #[.slice none 0 0] 30)).alloc (.cells #[.int .i64 0] 24)) := (((Below.refl _ _).alloc (Nat.le_refl _) _).alloc (by simp) _).alloc (by simp; omega) _
  have hz3 : w.heap.size + 1 + 1 + 1 = (((w.alloc (.cells #[.int .i64 6, .bool false, .int .i64 0, .float .f64 0, .string ⟨#[]⟩, .string ⟨#[]⟩, .slice none 0 0, .slice A N c] 40)).alloc (.cells #[.slice none 0 0] 30)).alloc (.cells #[.int .i64 0] 24)).heap.size := by simp
  generalize (((w.alloc (.cells #[.int .i64 6, .bool false, .int .i64 0, .float .f64 0, .string ⟨#[]⟩, .string ⟨#[]⟩, .slice none 0 0, .slice A N c] 40)).alloc (.cells #[.slice none 0 0] 30)).alloc (.cells #[.int .i64 0] 24)) = W3 at *
  refine (HLK.out W3 hb3).mono ?_
  rintro e w4 ⟨rfl, hb4⟩
  have G0 := Lib.hid ((hb4.block w.heap.size (by omega)).trans g0)
  have G1 := Lib.hid ((hb4.block (w.heap.size + 1) (by omega)).trans g1)
  have G2 := Lib.hid ((hb4.block (w.heap.size + 1 + 1) (by omega)).trans g2)
  have hb5 : Below w.heap.size w w4 := hb3.trans (hb4.mono (by omega))
  have hz4 : w.heap.size + 1 + 1 + 1 ≤ w4.heap.size := by have := hb4.size; omega
  clear hb3 hb4 hz3 g0 g1 g2
  obtain ⟨m0, m1, m2, m3, m4, m5, m6, m7⟩ := blk8 G0.out
  go_wp2_with fail
  clear m0 m1 m2 m3 m4 m5 m6 m7
  refine (HAP.out w4 hb5).mono ?_
  rintro e w6 ⟨v', rfl, ho6, hb6, _⟩
  obtain ⟨A6, c6, rfl, _⟩ := own_form ho6
  have hG1 := (hb6.block (w.heap.size + 1) (by omega)).trans G1.out
  have hG2 := (hb6.block (w.heap.size + 1 + 1) (by omega)).trans G2.out
  obtain ⟨n1, n2⟩ := one_cell hG1
  obtain ⟨n3, n4⟩ := one_cell hG2
  have hb7 : Below w.heap.size w w6 := hb5.trans (hb6.mono (by omega))
  have HO6 := Lib.hid ho6
  clear hG1 hG2 ho6 hb6 hb5
  go_wp2
  refine leaves_cons (f := 20) (args := #[.pointer (some ⟨w.heap.size + 1, 0, none⟩), .pointer (some ⟨w.heap.size + 1 + 1, 0, none⟩)]) (by simp) (by simp [go_sem]) ?_
  refine (idleW _ _ _).mono ?_
  rintro e u' w'' ⟨rfl, rfl, rfl⟩
  have f1 : ((w6.setCell ⟨w.heap.size + 1, 0, none⟩ (.slice A6 (objZ nm lf N).length c6)).setCell ⟨w.heap.size + 1 + 1, 0, none⟩ (.int .i64 0)).cell? ⟨w.heap.size + 1, 0, none⟩ = some (.slice A6 (objZ nm lf N).length c6) := by
    exact (World.cell?_setCell_other _ _ _ _ (by simp)).trans (World.cell?_setCell_same _ _ _ n1)
  have f2 : ((w6.setCell ⟨w.heap.size + 1, 0, none⟩ (.slice A6 (objZ nm lf N).length c6)).setCell ⟨w.heap.size + 1 + 1, 0, none⟩ (.int .i64 0)).cell? ⟨w.heap.size + 1 + 1, 0, none⟩ = some (.int .i64 0) := by
    exact World.cell?_setCell_same _ _ _ ((World.cell?_setCell_other _ _ _ _ (by simp)).trans n3)
  have hO : ((w6.setCell ⟨w.heap.size + 1, 0, none⟩ (.slice A6 (objZ nm lf N).length c6)).setCell ⟨w.heap.size + 1 + 1, 0, none⟩ (.int .i64 0)).ownsRow w4.heap.size 5 1 (.slice A6 (objZ nm lf N).length c6) (objZ nm lf N).length (zs (objZ nm lf N)) := by
    have h0 := HO6.out
    rw [Nat.zero_add, List.nil_append] at h0
    refine own_kept h0 fun g hg => ?_
    have hl := (h0.lt g hg).1
    rw [Below.heap_setCell _ _ _ _ (by show g ≠ w.heap.size + 1 + 1; omega), Below.heap_setCell _ _ _ _ (by show g ≠ w.heap.size + 1; omega)]
  have hB : Below w.heap.size w ((w6.setCell ⟨w.heap.size + 1, 0, none⟩ (.slice A6 (objZ nm lf N).length c6)).setCell ⟨w.heap.size + 1 + 1, 0, none⟩ (.int .i64 0)) :=
    (hb7.setCell (by show _ ≤ w.heap.size + 1; omega) _).setCell (by show _ ≤ w.heap.size + 1 + 1; omega) _
  have HF := Lib.hid (And.intro hO hB)
  clear hO hB n1 n2 n3 n4 hb7 HO6
  generalize ((w6.setCell ⟨w.heap.size + 1, 0, none⟩ (.slice A6 (objZ nm lf N).length c6)).setCell ⟨w.heap.size + 1 + 1, 0, none⟩ (.int .i64 0)) = WF at *
  simp [Leaves, settle, results, Tryd.results11, go_sem, f1, f2]
  exact ⟨⟨_, HF.out.1⟩, HF.out.2⟩

set_option maxRecDepth 100000 in
set_option maxHeartbeats 4000000 in
theorem size_obj (A : Option Addr) (c N : Nat) (hN : N ≤ 1000) (nm : Nat → ByteArray) (kd : Nat → Int) (sf : Nat → Nat) (m : Nat) (hm : (m : Int) = (sumZ nm sf N : Int) + max ((N : Int) - 1) 0 + 2) (hmx : sumZ nm sf N ≤ 1099511627776) (w : World) (hM : Mems w A N nm kd) (hT : Tabs w)
    (hs : ∀ i, i < N → (nm i).size ≤ 4194304) (hv : ∀ i, i < N → Lib.validD (nm i).data.toList = true) (hd : ∀ i j, i < j → j < N → nm i ≠ nm j)
    (hll : ∀ i, i < N → ∀ W, Tabs W → Calls Tryd.prog 22 #[.agg #[.int .i64 (kd i), .bool false, .int .i64 0, .float .f64 0, .string ⟨#[]⟩, .string ⟨#[]⟩, .slice none 0 0, .slice none 0 0]] W (UnitPost W))
    (hla : ∀ i, i < N → ∀ (W : World), Calls Tryd.prog 25 #[.agg #[.int .i64 (kd i), .bool false, .int .i64 0, .float .f64 0, .string ⟨#[]⟩, .string ⟨#[]⟩, .slice none 0 0, .slice none 0 0]] W (SizePost W (sf i))) :
    Calls Tryd.prog 13 #[.agg #[.int .i64 6, .bool false, .int .i64 0, .float .f64 0, .string ⟨#[]⟩, .string ⟨#[]⟩, .slice none 0 0, .slice A N c]] w fun e w' =>
      e = .returned (.tuple #[.int .i64 (m : Int), .int .i64 0]) ∧ Below w.heap.size w w' := by
  have HLK := Lib.hid (fun W (hW : Below w.heap.size w W) => look_obj A c N hN nm kd W (hM.below hW) (hT.below hW) (fun i hi => Nat.le_trans (hs i hi) (by unfold maxLen; omega)) hv hd hll)
  have HAP := Lib.hid (fun W (hW : Below w.heap.size w W) => sizeOf_obj A c N hN nm kd sf m hm hmx W (hM.below hW) hs hla)
  clear hM hT hs hv hd hll hla hm
  have hmf : ∀ (fn : Fn) (first cap : Array Value) (w : World), (Instr.makeFunc fn first cap).run Tryd.prog w = .ok (.func fn first cap) w := fun _ _ _ _ => rfl
  go_enter_defers Tryd.func13, Tryd.ntmps13
  go_wp2_with fail
  obtain ⟨g0, g1, g2⟩ := heap3 w (.cells #[.int .i64 6, .bool false, .int .i64 0, .float .f64 0, .string ⟨#[]⟩, .string ⟨#[]⟩, .slice none 0 0, .slice A N c] 40) (.cells #[.int .i64 0] 3) (.cells #[.int .i64 0] 24)
  have hb3 : Below w.heap.size w (((w.alloc (.cells #[.int .i64 6, .bool false, .int .i64 0, .float .f64 0, .string ⟨#[]⟩, .string ⟨#[]⟩, .slice none 0 0, .slice A N c] 40)).alloc (.cells #[.int .i64 0] 3)).alloc (.cells #[.int .i64 0] 24)) := (((Below.refl _ _).alloc (Nat.le_refl _) _).alloc (by simp) _).alloc (by simp; omega) _
  have hz3 : w.heap.size + 1 + 1 + 1 = (((w.alloc (.cells #[.int .i64 6, .bool false, .int .i64 0, .float .f64 0, .string ⟨#[]⟩, .string ⟨#[]⟩, .slice none 0 0, .slice A N c] 40)).alloc (.cells #[.int .i64 0] 3)).alloc (.cells #[.int .i64 0] 24)).heap.size := by simp
  generalize (((w.alloc (.cells #[.int .i64 6, .bool false, .int .i64 0, .float .f64 0, .string ⟨#[]⟩, .string ⟨#[]⟩, .slice none 0 0, .slice A N c] 40)).alloc (.cells #[.int .i64 0] 3)).alloc (.cells #[.int .i64 0] 24)) = W3 at *
  refine (HLK.out W3 hb3).mono ?_
  rintro e w4 ⟨rfl, hb4⟩
  have G0 := Lib.hid ((hb4.block w.heap.size (by omega)).trans g0)
  have G1 := Lib.hid ((hb4.block (w.heap.size + 1) (by omega)).trans g1)
  have G2 := Lib.hid ((hb4.block (w.heap.size + 1 + 1) (by omega)).trans g2)
  have hb5 : Below w.heap.size w w4 := hb3.trans (hb4.mono (by omega))
  have hz4 : w.heap.size + 1 + 1 + 1 ≤ w4.heap.size := by have := hb4.size; omega
  clear hb3 hb4 hz3 g0 g1 g2
  obtain ⟨m0, m1, m2, m3, m4, m5, m6, m7⟩ := blk8 G0.out
  go_wp2_with fail
  clear m0 m1 m2 m3 m4 m5 m6 m7
  refine (HAP.out w4 hb5).mono ?_
  rintro e w6 ⟨rfl, hb6⟩
  have hG1 := (hb6.block (w.heap.size + 1) (by omega)).trans G1.out
  have hG2 := (hb6.block (w.heap.size + 1 + 1) (by omega)).trans G2.out
  obtain ⟨n1, n2⟩ := one_cell hG1
  obtain ⟨n3, n4⟩ := one_cell hG2
  have hb7 : Below w.heap.size w w6 := hb5.trans (hb6.mono (by omega))
  clear hG1 hG2 hb6 hb5
  go_wp2
  refine leaves_cons (f := 24) (args := #[.pointer (some ⟨w.heap.size + 1, 0, none⟩), .pointer (some ⟨w.heap.size + 1 + 1, 0, none⟩)]) (by simp) (by simp [go_sem]) ?_
  refine (idleS _ _ _).mono ?_
  rintro e u' w'' ⟨rfl, rfl, rfl⟩
  have f1 : ((w6.setCell ⟨w.heap.size + 1, 0, none⟩ (.int .i64 (m : Int))).setCell ⟨w.heap.size + 1 + 1, 0, none⟩ (.int .i64 0)).cell? ⟨w.heap.size + 1, 0, none⟩ = some (.int .i64 (m : Int)) := by
    exact (World.cell?_setCell_other _ _ _ _ (by simp)).trans (World.cell?_setCell_same _ _ _ n1)
  have f2 : ((w6.setCell ⟨w.heap.size + 1, 0, none⟩ (.int .i64 (m : Int))).setCell ⟨w.heap.size + 1 + 1, 0, none⟩ (.int .i64 0)).cell? ⟨w.heap.size + 1 + 1, 0, none⟩ = some (.int .i64 0) := by
    exact World.cell?_setCell_same _ _ _ ((World.cell?_setCell_other _ _ _ _ (by simp)).trans n3)
  have hB : Below w.heap.size w ((w6.setCell ⟨w.heap.size + 1, 0, none⟩ (.int .i64 (m : Int))).setCell ⟨w.heap.size + 1 + 1, 0, none⟩ (.int .i64 0)) :=
    (hb7.setCell (by show _ ≤ w.heap.size + 1; omega) _).setCell (by show _ ≤ w.heap.size + 1 + 1; omega) _
  have HF := Lib.hid hB
  clear hB n1 n2 n3 n4 hb7
  generalize ((w6.setCell ⟨w.heap.size + 1, 0, none⟩ (.int .i64 (m : Int))).setCell ⟨w.heap.size + 1 + 1, 0, none⟩ (.int .i64 0)) = WF at *
  simp [Leaves, settle, results, Tryd.results13, go_sem, f1, f2]
  exact HF.out
end Go.Proofs.YtjbfhkcbgafeaaaDoor.look
