/- Outcomes: fresh, sameOut. -/
import Derived.Test.YtmicjfdibhoamaaCopy2
import Derived.Test.YtmicjfdibhoamaaSame
import Derived.Test.YtmicjfdibhoamaaOut
namespace Go.Proofs.Ytmicjfdibhoamaa.val
open Go.RowKit mem
attribute [local go_sem] run_store_float

def FreshPost (w : World) (o : O) (e : Ending) (w' : World) : Prop := ∃ cs, e = .returned (.agg cs.toArray) ∧ IsO w' (New w.heap.size w') o cs ∧ Below w.heap.size w w'

theorem infoO : (Try.prog.info? 37).map (fun i => (i.zero, i.size, i.bytes)) = some (some (.agg #[.bool false, .int .i64 0, .bool false, .int .i64 0, .float .f64 0, .string ⟨#[]⟩, .string ⟨#[]⟩, .slice none 0 0, .slice none 0 0]), 9, 120) := by kernel_rfl

theorem blk9f {w : World} {g : Nat} {t : TypeId} {cs : Array Value} (h : w.heap[g]? = some (.cells cs t (0, 0))) :
    w.frozen? ⟨g, 0, none⟩ = false ∧ w.frozen? ⟨g, 1, none⟩ = false ∧ w.frozen? ⟨g, 2, none⟩ = false ∧ w.frozen? ⟨g, 3, none⟩ = false ∧ w.frozen? ⟨g, 4, none⟩ = false ∧ w.frozen? ⟨g, 5, none⟩ = false ∧ w.frozen? ⟨g, 6, none⟩ = false ∧ w.frozen? ⟨g, 7, none⟩ = false ∧ w.frozen? ⟨g, 8, none⟩ = false :=
  ⟨blk_frozen h 0, blk_frozen h 1, blk_frozen h 2, blk_frozen h 3, blk_frozen h 4, blk_frozen h 5, blk_frozen h 6, blk_frozen h 7, blk_frozen h 8⟩

theorem fresh_end {w wc wz : World} {g : Nat} {v : V} {b : Bool} {ds : List Value} (hG : wc.grownBy wz (some g)) {hi : Nat} (hhi : g < hi) (hg : w.heap.size ≤ g) (hV : IsV wc (New hi wc) v ds) (hb : Below w.heap.size w wc) (hs : w.heap.size ≤ wc.heap.size) :
    IsO wz (New w.heap.size wz) ⟨b, v⟩ (.bool b :: ds) ∧ Below w.heap.size w wz := by
  have hsz := hG.size
  refine ⟨⟨ds, rfl, hV.keep (fun p hp => ?_) (fun b hb => ⟨by have := hb.1; omega, by have := hb.2; omega⟩)⟩, hb.grown hG hs (fun k hk => by injection hk; omega)⟩
  have h1 := hp.1
  exact World.cell?_of_block (hG.block p.block hp.2 (by intro e; injection e; omega))

set_option maxRecDepth 100000 in
set_option maxHeartbeats 1000000 in
theorem fresh_any (o : O) (ho : sz o.v ≤ 1048576) (cs : List Value) (w : World) (S : Nat → Prop) (hO : IsO w S o cs) (hB : Bel S w.heap.size) :
    Calls Try.prog 32 #[.agg cs.toArray] w (FreshPost w o.nrm) := by
  obtain ⟨fl, v⟩ := o
  obtain ⟨ds, rfl, hv⟩ := hO
  have HV := Lib.hid hv
  have HB := Lib.hid hB
  obtain ⟨k2, b2, i2, f2, t2, y2, is2, fs2⟩ := v
  simp only [IsV] at hv
  obtain ⟨A2, c2, A2', c2', rfl, _⟩ := hv
  have HC := Lib.hid (fun (W : World) (hW : Below w.heap.size w W) (hWB : w.heap.size ≤ W.heap.size) => treeCopy_any 1048576 _ ho (by omega) _ W S (HV.out.below HB.out hW) (HB.out.mono hWB))
  clear hB HV
  cases fl with
  | true =>
    go_enter Try.func32, Try.ntmps32
    go_wp2_with fail
    refine bodyPost_ret (v := .agg #[.bool true, .int .i64 0, .bool false, .int .i64 0, .float .f64 0, .string ⟨#[]⟩, .string ⟨#[]⟩, .slice none 0 0, .slice none 0 0]) (by simp [results, Try.results32, go_sem]) rfl ⟨_, rfl, ⟨_, rfl, ?_⟩, ((Below.refl _ _).alloc (Nat.le_refl _) _).alloc (by simp) _⟩
    simp only [O.nrm, if_pos, V0, IsV]
    exact ⟨none, 0, none, 0, rfl, fun _ => rfl, fun _ => rfl, by simp only [IsVs], by simp only [IsFs]⟩
  | false =>
    go_enter Try.func32, Try.ntmps32
    go_wp2_with fail
    refine (HC.out _ (((Below.refl _ _).alloc (Nat.le_refl _) _).alloc (by simp) _) (by simp; omega)).mono ?_
    rintro e wc ⟨cs, rfl, hv, hb⟩
    have HV := Lib.hid hv
    simp only [IsV] at hv
    obtain ⟨A3, c3, A3', c3', rfl, _⟩ := hv
    have hbw : Below w.heap.size w wc := (((Below.refl _ _).alloc (Nat.le_refl _) _).alloc (by simp) _).trans (hb.mono (by simp; omega))
    have hszc := hb.size
    simp only [World.size_alloc] at hszc
    have R := blk_below (g := w.heap.size + 1) (by have := heap_alloc_new (w.alloc (.cells #[.bool false, .int .i64 k2, .bool b2, .int .i64 i2, .float .f64 f2, .string t2, .string y2, .slice A2 is2.length c2, .slice A2' fs2.length c2'] 37)) (.cells #[.bool false, .int .i64 0, .bool false, .int .i64 0, .float .f64 0, .string { data := #[] }, .string { data := #[] }, .slice none 0 0, .slice none 0 0] 37); simpa using this) hb (by simp)
    obtain ⟨j0, j1, j2, j3, j4, j5, j6, j7, j8⟩ := blk9 R
    obtain ⟨f0, f1, f2', f3, f4, f5, f6, f7, f8⟩ := blk9f R
    clear HC R
    go_wp2_with fail
    have hE := fresh_end (w := w) (b := false) (grown_set (grown_set (grown_set (grown_set (grown_set (grown_set (grown_set (grown_set (grown_set (grown_refl wc (some (w.heap.size + 1))) 0 (.bool false)) 1 (.int .i64 k2)) 2 (.bool b2)) 3 (.int .i64 i2)) 4 (.float .f64 f2)) 5 (.string t2)) 6 (.string y2)) 7 (.slice A3 is2.length c3)) 8 (.slice A3' fs2.length c3'))
      (hi := w.heap.size + 2) (by omega) (by omega) (by simpa using HV.out) hbw (by omega)
    refine bodyPost_ret (v := .agg #[.bool false, .int .i64 k2, .bool b2, .int .i64 i2, .float .f64 f2, .string t2, .string y2, .slice A3 is2.length c3, .slice A3' fs2.length c3']) (by simp [results, Try.results32, go_sem, j0, j1, j2, j3, j4, j5, j6, j7, j8]) rfl ⟨_, rfl, ?_, hE.2⟩
    simp only [O.nrm]
    exact hE.1

def TruePost (w : World) (e : Ending) (w' : World) : Prop := e = .returned (.bool true) ∧ Below w.heap.size w w'

set_option maxRecDepth 100000 in
set_option maxHeartbeats 1000000 in
theorem sameOut_refl (o : O) (ho : sz o.v ≤ 1048576) (cs ds : List Value) (w : World) (S S' : Nat → Prop) (hO : IsO w S o cs) (hO' : IsO w S' o ds) (hB : Bel S w.heap.size) (hB' : Bel S' w.heap.size) :
    Calls Try.prog 18 #[.agg cs.toArray, .agg ds.toArray] w (TruePost w) := by
  obtain ⟨fl, v⟩ := o
  obtain ⟨ds1, rfl, hv⟩ := hO
  obtain ⟨ds2, rfl, hv2⟩ := hO'
  have HV := Lib.hid hv
  have HV2 := Lib.hid hv2
  have HB := Lib.hid hB
  have HB' := Lib.hid hB'
  obtain ⟨k2, b2, i2, f2, t2, y2, is2, fs2⟩ := v
  simp only [IsV] at hv hv2
  obtain ⟨A2, c2, A2', c2', rfl, _⟩ := hv
  obtain ⟨C2, e2, C2', e2', rfl, _⟩ := hv2
  have HC := Lib.hid (fun (W : World) (hW : Below w.heap.size w W) (hWB : w.heap.size ≤ W.heap.size) => same_refl 1048576 _ ho (by omega) _ _ W S S' (HV.out.below HB.out hW) (HV2.out.below HB'.out hW) (HB.out.mono hWB) (HB'.out.mono hWB))
  clear hB hB' HV HV2
  go_enter Try.func18, Try.ntmps18
  go_wp2_with (go_at_call 33; refine (HC.out _ (((Below.refl _ _).alloc (Nat.le_refl _) _).alloc (by simp) _) (by simp; omega)).mono ?_; rintro e wc ⟨rfl, hb⟩)
  go_ret
  exact ⟨rfl, (((Below.refl _ _).alloc (Nat.le_refl _) _).alloc (by simp) _).trans (hb.mono (by simp; omega))⟩
end Go.Proofs.Ytmicjfdibhoamaa.val
