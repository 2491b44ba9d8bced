/- All at tables of no rows; Find and Len at a nil table. -/
import Derived.RangeFuncNested
import Derived.RangeFuncBound
import Derived.RangeFuncCalls
import Derived.RangeFuncLeaves
import Derived.OwnWalkIn
import Derived.TacticsInMore
import Derived.LoopNIn
import Derived.LoopIn
import Derived.Shelf.Abstract
import Derived.Test.YtmicjfdibhoamaaOutAt
namespace Go.Proofs.Ytmicjfdibhoamaa.val
open Go.RowKit mem
attribute [local go_sem] run_store_float

section
variable {F : Fence} {n : Nat} {P : Program} {w : World}
/-- A RANGE OVER AN ITERATOR THAT CALLS yield NEVER and leaves what lay before it as it lay: the body is not asked. -/
theorem range_none {g : Operand} {ps : Array Tmp} {assign body : Code} {Q : Exit → Act → World → Prop} {a : Act} (hro : F.round = none) (h1 : 1 ≤ n) {gf : Nat} {lb : Array Value} (hg : a.eval g = .func (.func gf) #[] lb) (hFg : F.fn gf)
    (eg : ∀ args w, (callFunc gf args).run P w = .ok (.enter gf args) w)
    (hseq : ∀ (l : Nat) (W : World), Below w.heap.size w W → CallsIn F (n - 1) P gf (#[.func (.yield l) #[] #[]] ++ lb) W fun e W' => (∃ v, e = .returned v) ∧ Below W.heap.size W W')
    (hdone : ∀ (D : Nat) (W : World), w.heap.size ≤ D → Below w.heap.size w W → W.heap[D]? = some (.deferred (some [])) → Q .normal { a with defers := { target := .collected D, args := #[] } :: a.defers } W) :
    (Code.rangeFunc g ps assign body).wpIn F n P Q a w := by
  refine wpIn_rangeFunc fun fn hfn => ?_
  rw [hro]
  obtain ⟨R, hR⟩ : ∃ R : Loop, R = { state := .ready, pending := none, fn, tmps := a.tmps, params := ps, assign, body, defers := w.heap.size } := ⟨_, rfl⟩
  have hK : ((w.alloc (.deferred (some []))).alloc (.loop R)).heap[w.heap.size]? = some (.deferred (some [])) := (Below.heap_alloc _ _ _ (by simp)).trans (World.alloc_heap_new w _)
  have hL : ((w.alloc (.deferred (some []))).alloc (.loop R)).heap[w.heap.size + 1]? = some (.loop R) := by simpa using World.alloc_heap_new (w.alloc (.deferred (some []))) (.loop R)
  have hb : Below w.heap.size w ((w.alloc (.deferred (some []))).alloc (.loop R)) := ((Below.refl _ w).alloc (Nat.le_refl _) _).alloc (by simp) _
  have hs : w.heap.size + 2 ≤ ((w.alloc (.deferred (some []))).alloc (.loop R)).heap.size := by simp
  have hE : (Instr.enterLoop fn a.tmps ps assign body none).run P w = .ok (w.heap.size + 1, [{ target := .collected w.heap.size, args := #[] }]) ((w.alloc (.deferred (some []))).alloc (.loop R)) := by rw [hR]; exact run_enterLoop_outer _ _ _ _ _
  generalize ((w.alloc (.deferred (some []))).alloc (.loop R)) = W1 at *
  refine ⟨w.heap.size + 1, _, W1, { target := .fn (.func gf) lb, args := #[.func (.yield (w.heap.size + 1)) #[] #[]] }, W1, gf, #[.func (.yield (w.heap.size + 1)) #[] #[]] ++ lb, W1, hE, ?_, ?_, ?_, fun _ => h1, ?_⟩
  · simp only [resolve, hg]
    simp [go_sem]
  · intro f' hf'
    simp [Target.leads] at hf'
    subst hf'
    exact hFg
  · simp [invoke, go_sem, eg]
  · refine (hseq _ W1 hb).mono ?_
    rintro e W2 ⟨⟨v, rfl⟩, hb2⟩
    have hL2 := blk_below hL hb2 (by omega)
    have hK2 := blk_below hK hb2 (by omega)
    have hend := run_endLoop (P := P) hL2 (by rw [hR]; simp)
    have hp : R.pending = none := by rw [hR]
    rw [hp] at hend
    exact ⟨none, _, hend, hdone w.heap.size _ (Nat.le_refl _) ((hb.trans (hb2.mono (by omega))).trans (belowK_b (w := w) (Nat.le_refl _) W2 (w.heap.size + 1) _ _ (by omega) hL2 rfl rfl)) ((World.putObj_heap_other (by omega)).trans hK2)⟩
end
/-- an iterator that yields nothing -/
def EmptySeq (f : Nat) (b : Nat) (w : World) : Prop := ∀ (l : Nat) (W : World), Below w.heap.size w W → Calls Try.prog f #[.func (.yield l) #[] #[], .pointer (some ⟨b, 0, none⟩)] W fun e W' => (∃ v, e = .returned v) ∧ Below W.heap.size W W'

set_option maxRecDepth 100000 in
set_option maxHeartbeats 4000000 in
theorem ordAll_empty (w : World) (b g lo : Nat) (hb : w.cell? ⟨b, 0, none⟩ = some (.pointer (some ⟨g + 1, 0, none⟩))) (hbl : b < w.heap.size) (hO : OrdAt w g lo []) : EmptySeq 45 b w := by
  intro l W hW
  have hO2 := hO.below hW
  replace hb := (hW.cell (p := ⟨b, 0, none⟩) hbl).trans hb
  clear hO
  obtain ⟨K, U, css, h1, h2, h3, h4, h5, h6, h7, h8⟩ := hO2
  obtain ⟨A, c, rfl, hA, _⟩ := own_form h5
  obtain ⟨A', c', rfl, hA', _⟩ := own_form h6
  obtain ⟨ic, hic, hc0, hc1, hc2⟩ := info_parts infoC
  obtain ⟨io, hio, ho0, ho1, ho2⟩ := info_parts infoO
  have c0 := cell_of_row W (g + 1) 1 _ _ (0, 0) h3
  have H3 := Lib.hid h3
  clear h3 h4 h5 h6 h7 h8 h1 h2
  show Calls Try.prog 45 #[.func (.yield l) #[] #[], .pointer (some ⟨b, 0, none⟩)] W _
  go_enter Try.func45, Try.ntmps45
  go_wp2_with (at_builtin; first
    | (refine wpList_app _ rfl (.const (.slice none 0 0)) (.tmp 12) 23 rfl W.heap.size 25 ic _ 4 64 Try.underlying23 hic hc0 hc1 hc2 rfl (by omega) (.slice none 0 0) 0 [] rfl (World.ownsRow_nil _ _ _ _) W.heap.size A 0 c [] rfl rfl Rd.nil hA (by simp) (by unfold maxLen; omega) (by omega) (Nat.le_refl _) ?_; intro v1 w1 hown1 hgrow1 _; obtain ⟨A1, c1, rfl, _⟩ := own_form hown1; have hj1 := (Below.refl W.heap.size W).grown hgrow1 (Nat.le_refl _) (fun k hk => by cases hk); have k1 := (World.cell?_of_block (hgrow1.block _ (World.block_lt_of_cell? W _ hb) (by simp [Value.ownBlock]))).trans hb; have cc1 := cell_of_row w1 (g + 1) 2 _ _ (0, 0) (blk_grown H3.out hgrow1 (by simp [Value.ownBlock])))
    | (refine wpList_app _ rfl (.const (.slice none 0 0)) (.tmp 17) 53 rfl W.heap.size 37 io _ 9 120 Try.underlying53 hio ho0 ho1 ho2 rfl (by omega) (.slice none 0 0) 0 [] rfl (World.ownsRow_nil _ _ _ _) W.heap.size A' 0 c' [] rfl rfl Rd.nil hA' (by simp) (by unfold maxLen; omega) (by omega) hgrow1.size ?_; intro v2 w2 hown2 hgrow2 _; obtain ⟨A2, c2, rfl, _⟩ := own_form hown2; have hj2 := hj1.grown hgrow2 hj1.size (fun k hk => by cases hk)))
  go_loopw [21] (fun vi wr => vi = .int .i64 0 ∧ wr = w2) (fun _ _ => 0)
  case atStart => exact ⟨rfl, rfl⟩
  case round =>
    obtain ⟨rfl, rfl⟩ := hrel
    go_wp2_with fail
    go_end0
    exact ⟨⟨_, rfl⟩, hj2⟩

set_option maxRecDepth 100000 in
theorem ordAll_any (w : World) (p : Option Addr) : Calls Try.prog 38 #[.pointer p] w (fun e w' => e = .returned (.func (.func 45) #[] #[.pointer (some ⟨w.heap.size, 0, none⟩)]) ∧ w' = w.alloc (.cells #[.pointer p] 73)) := by
  go_enter Try.func38, Try.ntmps38
  go_wp2_with fail
  go_ret
  exact ⟨rfl, rfl⟩
set_option maxRecDepth 100000 in
theorem tabAll_any (w : World) (p : Option Addr) : Calls Try.prog 22 #[.pointer p] w (fun e w' => e = .returned (.func (.func 37) #[] #[.pointer (some ⟨w.heap.size, 0, none⟩)]) ∧ w' = w.alloc (.cells #[.pointer p] 44)) := by
  go_enter Try.func22, Try.ntmps22
  go_wp2_with fail
  go_ret
  exact ⟨rfl, rfl⟩

set_option maxRecDepth 100000 in
set_option maxHeartbeats 4000000 in
theorem tabAll_nil (w : World) (b : Nat) (hb : w.cell? ⟨b, 0, none⟩ = some (.pointer none)) (hbl : b < w.heap.size) : EmptySeq 37 b w := by
  intro l W hW
  replace hb := (hW.cell (p := ⟨b, 0, none⟩) hbl).trans hb
  have hbW : b < W.heap.size := Nat.lt_of_lt_of_le hbl hW.size
  have hj := (Below.refl W.heap.size W).alloc (Nat.le_refl _) (.cells #[.func (.yield l) #[] #[]] 77)
  show Calls Try.prog 37 #[.func (.yield l) #[] #[], .pointer (some ⟨b, 0, none⟩)] W _
  go_enter Try.func37, Try.ntmps37
  go_wp2_with fail
  refine bodyPost_ret (results_none rfl _ _ _) rfl ⟨⟨_, rfl⟩, hj⟩

set_option maxRecDepth 100000 in
set_option maxHeartbeats 4000000 in
theorem tabAll_empty (w : World) (b g : Nat) (hb : w.cell? ⟨b, 0, none⟩ = some (.pointer (some ⟨g + 2, 0, none⟩))) (hbl : b < w.heap.size) (hT : TabAt w g []) : EmptySeq 37 b w := by
  intro l W hW
  refine (callsIn_wide (n := 4)).1 ?_
  have hT2 := hT.below hW
  replace hb := (hW.cell (p := ⟨b, 0, none⟩) hbl).trans hb
  have hbW : b < W.heap.size := Nat.lt_of_lt_of_le hbl hW.size
  have t0 := cell_of_row W (g + 2) 0 _ _ (0, 0) hT2.2
  have gl := blk_lt hT2.2
  have HT := Lib.hid hT2
  clear hT hT2
  have hj := (Below.refl W.heap.size W).alloc (Nat.le_refl _) (.cells #[.func (.yield l) #[] #[]] 77)
  show CallsIn Fence.wide 4 Try.prog 37 #[.func (.yield l) #[] #[], .pointer (some ⟨b, 0, none⟩)] W _
  refine callsIn_of_wp_marks Try.func37 rfl trivial ?_ rfl
  simp only [Try.ntmps37, List.size_toArray, List.length_cons, List.length_nil, Nat.reduceAdd, Nat.reduceSub, Array.replicate_succ, Array.replicate_zero, List.push_toArray, List.append_toArray, List.nil_append, List.cons_append]
  gi_wp2_with fail
  refine ⟨trivial, (callsIn_wide.2 (ordAll_any _ _)).mono ?_⟩
  rintro e w' ⟨rfl, rfl⟩
  have hj2 := hj.alloc (by simp) (.cells #[.pointer (some ⟨g + 1, 0, none⟩)] 73)
  have hc2 := cell_of_row _ (W.heap.size + 1) 0 _ _ (0, 0) (show ((W.alloc (.cells #[.func (.yield l) #[] #[]] 77)).alloc (.cells #[.pointer (some ⟨g + 1, 0, none⟩)] 73)).heap[W.heap.size + 1]? = some (.cells #[.pointer (some ⟨g + 1, 0, none⟩)] 73) by simpa using heap_alloc_new (W.alloc (.cells #[.func (.yield l) #[] #[]] 77)) (.cells #[.pointer (some ⟨g + 1, 0, none⟩)] 73))
  have HT2 := HT.out.1.below hj2
  gi_wp2_with fail
  refine range_none rfl (by omega) (gf := 45) (lb := #[.pointer (some ⟨W.heap.size + 1, 0, none⟩)]) rfl trivial (enters_of Try.func45 (by kernel_rfl) rfl) (fun l' W' hW' => callsIn_wide.2 (ordAll_empty _ (W.heap.size + 1) g (g + 3) hc2 (by simp) HT2 l' W' hW')) ?_
  intro D W3 hD hb3 hK3
  simp only [World.size_alloc] at hD hb3
  gi_wp2_with fail
  refine ⟨by simp, .inl ⟨_, _, rfl, run_takeDeferred hK3, ?_⟩⟩
  exact ⟨_, results_none rfl _ _ _, ⟨_, rfl⟩, (hj2.trans (hb3.mono (by omega))).trans (belowK_b (w := W) (Nat.le_refl _) W3 D _ _ (by omega) hK3 rfl rfl)⟩

/-- what the iterator of a table without rows does -/
theorem tabAll_none (w : World) (b : Nat) (p : Option Addr) (hb : w.cell? ⟨b, 0, none⟩ = some (.pointer p)) (hbl : b < w.heap.size) (hp : p = none ∨ ∃ g, p = some ⟨g + 2, 0, none⟩ ∧ TabAt w g []) : EmptySeq 37 b w := by
  rcases hp with rfl | ⟨g, rfl, hT⟩
  · exact tabAll_nil w b hb hbl
  · exact tabAll_empty w b g hb hbl hT

set_option maxRecDepth 100000 in
theorem findNil_any (w : World) (c : C) : Calls Try.prog 17 #[.pointer none, .agg #[.string c.p, .string c.q, .string c.f, .string c.a]] w (RetPost w (.tuple #[.agg #[.bool false, .int .i64 0, .bool false, .int .i64 0, .float .f64 0, .string ⟨#[]⟩, .string ⟨#[]⟩, .slice none 0 0, .slice none 0 0], .bool false])) := by
  go_enter Try.func17, Try.ntmps17
  go_wp2_with fail
  exact bodyPost_ret (v := .tuple #[.agg #[.bool false, .int .i64 0, .bool false, .int .i64 0, .float .f64 0, .string ⟨#[]⟩, .string ⟨#[]⟩, .slice none 0 0, .slice none 0 0], .bool false]) (by simp [results, Try.results17, go_sem]) rfl ⟨rfl, ((Below.refl _ _).alloc (Nat.le_refl _) _).alloc (by simp) _⟩
set_option maxRecDepth 100000 in
theorem lenNil_any (w : World) : Calls Try.prog 19 #[.pointer none] w (LenPost w 0) := by
  go_enter Try.func19, Try.ntmps19
  go_wp2_with fail
  go_ret
  exact ⟨rfl, rfl⟩

theorem run_equalIn_func_nil (d : Nat) (f : Fn) (x y : Array Value) (w : World) : (Op.equalIn (d + 1) 59 (.func f x y) .nilFunc).run Try.prog w = Result.ok false w := by
  simp [Op.equalIn, run_underlying Try.underlying59]
theorem run_eql_func_nil (f : Fn) (x y : Array Value) (w : World) : (binOp .eql 59 (.func f x y) .nilFunc).run Try.prog w = Result.ok (.bool false) w := by
  simp only [binOp]
  simp [Op.equal, Op.maxDepth, run_equalIn_func_nil 9999 f x y w]
end Go.Proofs.Ytmicjfdibhoamaa.val
