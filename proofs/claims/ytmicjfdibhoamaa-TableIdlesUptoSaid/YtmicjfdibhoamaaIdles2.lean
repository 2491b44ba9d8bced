/- The first question of TableIdles alone: Idle at three rows. -/
import Derived.Test.YtmicjfdibhoamaaRefIdle
import Derived.Test.YtmicjfdibhoamaaReg
import Derived.Deep.RegionHeld3
namespace Go.Proofs.Ytmicjfdibhoamaa.val
open Go.RowKit mem
attribute [local go_sem] run_store_float

set_option maxRecDepth 100000 in
theorem call_exact (w : World) (c : C) : Calls Try.prog 9 #[.string c.p, .string c.q, .string c.f, .string c.a] w (fun e w' => e = .returned (.agg #[.string c.p, .string c.q, .string c.f, .string c.a]) ∧ w' = w.alloc (.cells #[.string c.p, .string c.q, .string c.f, .string c.a] 25)) := by
  go_enter Try.func9, Try.ntmps9
  go_wp2_with fail
  exact bodyPost_ret (v := .agg #[.string c.p, .string c.q, .string c.f, .string c.a]) (by simp [results, Try.results9, go_sem]) rfl ⟨rfl, by simp [World.setCell_alloc_new]⟩

set_option maxRecDepth 100000 in
set_option maxHeartbeats 4000000 in
theorem sameInts_refl (l : List Nat) (hl : l.length ≤ 1048576) (A A' : Option Addr) (c c' B B' : Nat) (w : World) (h : Rd w B A (l.map iv)) (h' : Rd w B' A' (l.map iv)) (hB : B ≤ w.heap.size) (hB' : B' ≤ w.heap.size) :
    Calls Try.prog 10 #[.slice A l.length c, .slice A' l.length c'] w (TruePost w) := by
  have H := Lib.hid h
  have H' := Lib.hid h'
  clear h h'
  go_enter Try.func10, Try.ntmps10
  go_wp2_with fail
  go_loopw [13] (fun vi W => ∃ q : Nat, q ≤ l.length ∧ vi = .int .i64 (q : Int) ∧ Below w.heap.size w W) (fun i _ => l.length - (intOf i).toNat)
  case atStart => exact ⟨0, Nat.zero_le _, rfl, Below.refl _ _⟩
  case round =>
    obtain ⟨q, hq, rfl, hb⟩ := hrel
    by_cases hlt : q < l.length
    · obtain ⟨ad, rfl, _, c0⟩ := ((H.out.more hB).below hb).at_ (k := q) (by simpa using hlt)
      obtain ⟨ae, rfl, _, c1⟩ := ((H'.out.more hB').below hb).at_ (k := q) (by simpa using hlt)
      simp only [List.getElem_map, iv] at c0 c1
      generalize l[q] = x at *
      have hq0 : (0 : Int) ≤ (q : Int) := by omega
      have hqn : (q : Int) < (l.length : Int) := by omega
      have hbn : ∀ n, Below w.heap.size w (wr.drewN n) := fun n => below_drewN hb n
      go_wp2_with fail
      go_quiet (fail)
      have hbq := hbn nq
      clear hbn c0 c1
      generalize wr.drewN nq = w4 at *
      go_wp2_with fail
      go_roundw
      case rel => exact ⟨q + 1, by omega, by go_num, hbq⟩
      case measure => simp [intOf]; omega
    · obtain rfl : q = l.length := by omega
      go_wp2_with fail
      go_ret
      exact ⟨rfl, hb⟩

theorem heap_at (w : World) (o : Obj) (k : Nat) : (w.alloc o).heap[k]? = if k = w.heap.size then some o else w.heap[k]? := by
  show (w.heap.push o)[k]? = _
  rw [Array.getElem?_push]
theorem heap_drew (w : World) (k : Nat) : w.drew.heap[k]? = w.heap[k]? := rfl
theorem size_drew' (w : World) : w.drew.heap.size = w.heap.size := rfl

theorem idle_first (W : World) (g1 g2 : Nat) (h1 : W.heap[g1]? = some (.cells #[.string kW.p, .string kW.q, .string kW.f, .string kW.a, .bool false, .int .i64 0, .bool false, .int .i64 0, .float .f64 0, .string ⟨#[]⟩, .string ⟨#[]⟩, .slice none 0 0, .slice none 0 0, .string ⟨#[47, 98]⟩, .string ⟨#[]⟩, .string ⟨#[]⟩, .string ⟨#[]⟩, .bool false, .int .i64 0, .bool false, .int .i64 0, .float .f64 0, .string ⟨#[]⟩, .string ⟨#[]⟩, .slice none 0 0, .slice none 0 0, .string kW.p, .string kW.q, .string kW.f, .string kW.a, .bool false, .int .i64 0, .bool false, .int .i64 0, .float .f64 0, .string ⟨#[]⟩, .string ⟨#[]⟩, .slice none 0 0, .slice none 0 0] 39)) (h2 : W.heap[g2]? = some (.cells #[.string kW.p, .string kW.q, .string kW.f, .string kW.a] 25)) :
    Calls Try.prog 11 #[.slice (some ⟨g1, 0, none⟩) 3 3, .slice (some ⟨g2, 0, none⟩) 1 1] W (fun e w' => ∃ A c, e = .returned (.slice A 2 c) ∧ Rd w' w'.heap.size A [.int .i64 1, .int .i64 2] ∧ Below W.heap.size W w') := by
  have hE : LAt 13 IsE W (fun b => (fun _ => False) b ∨ b < g1 + 1) [(kW, O0), ((⟨⟨#[47, 98]⟩, ⟨#[]⟩, ⟨#[]⟩, ⟨#[]⟩⟩ : C), O0), (kW, O0)] (some ⟨g1, 0, none⟩) := LAt.of_rd recE (by omega) (css := [[.string kW.p, .string kW.q, .string kW.f, .string kW.a, .bool false, .int .i64 0, .bool false, .int .i64 0, .float .f64 0, .string ⟨#[]⟩, .string ⟨#[]⟩, .slice none 0 0, .slice none 0 0], [.string ⟨#[47, 98]⟩, .string ⟨#[]⟩, .string ⟨#[]⟩, .string ⟨#[]⟩, .bool false, .int .i64 0, .bool false, .int .i64 0, .float .f64 0, .string ⟨#[]⟩, .string ⟨#[]⟩, .slice none 0 0, .slice none 0 0], [.string kW.p, .string kW.q, .string kW.f, .string kW.a, .bool false, .int .i64 0, .bool false, .int .i64 0, .float .f64 0, .string ⟨#[]⟩, .string ⟨#[]⟩, .slice none 0 0, .slice none 0 0]])
    (Rd.lst h1) ⟨rfl, fun j y ds e1 e2 => by
      match j with
      | 0 => cases e1; cases e2; exact ⟨_, rfl, isV_V0 _ _⟩
      | 1 => cases e1; cases e2; exact ⟨_, rfl, isV_V0 _ _⟩
      | 2 => cases e1; cases e2; exact ⟨_, rfl, isV_V0 _ _⟩
      | j + 3 => simp at e1⟩
  have hT : LAt 4 IsC W (fun b => (fun _ => False) b ∨ b < g2 + 1) [kW] (some ⟨g2, 0, none⟩) := LAt.of_rd recC (by omega) (css := [kW.cs]) (Rd.lst h2) ⟨rfl, fun j y ds e1 e2 => by
      match j with
      | 0 => cases e1; cases e2; rfl
      | j + 1 => simp at e1⟩
  have l1 := blk_lt h1
  have l2 := blk_lt h2
  have := idle_any [(kW, O0), ((⟨⟨#[47, 98]⟩, ⟨#[]⟩, ⟨#[]⟩, ⟨#[]⟩⟩ : C), O0), (kW, O0)] [kW] (by simp [szE, sz, O0, V0, szs, szf]) (by simp) (fun e he => by simp at he; rcases he with rfl | rfl | rfl <;> (first | exact kW_ok | (refine ⟨?_, ?_, ?_, ?_⟩ <;> simp [maxLen, ByteArray.size]))) (fun c hc => by simp at hc; subst hc; exact kW_ok) (some ⟨g1, 0, none⟩) 3 (some ⟨g2, 0, none⟩) 1 W (fun b => b < g1 + 1 ∨ b < g2 + 1)
    (lat_more recE hE (fun b hb => by rcases hb with hb | hb; exact hb.elim; exact .inl hb)) (lat_more recC hT (fun b hb => by rcases hb with hb | hb; exact hb.elim; exact .inr hb)) (fun b hb => by rcases hb with hb | hb <;> omega)
  have e : idl [(kW, O0), ((⟨⟨#[47, 98]⟩, ⟨#[]⟩, ⟨#[]⟩, ⟨#[]⟩⟩ : C), O0), (kW, O0)] [kW] 3 = [1, 2] := by decide
  rw [show [(kW, O0), ((⟨⟨#[47, 98]⟩, ⟨#[]⟩, ⟨#[]⟩, ⟨#[]⟩⟩ : C), O0), (kW, O0)].length = 3 from rfl, e] at this
  refine this.mono ?_
  rintro e w' ⟨v, rfl, ho, hb⟩
  obtain ⟨A, c, rfl, _⟩ := own_form ho
  exact ⟨A, c, rfl, Rd.of_own ho, hb⟩
theorem rd12 {w : World} {g : Nat} (h : w.heap[g]? = some (.cells #[.int .i64 1, .int .i64 2] 3)) : Rd w (g + 1) (some ⟨g, 0, none⟩) [.int .i64 1, .int .i64 2] := Rd.lst h
theorem same12 (A A' : Option Addr) (c c' B B' : Nat) (w : World) (h : Rd w B A [.int .i64 1, .int .i64 2]) (h' : Rd w B' A' [.int .i64 1, .int .i64 2]) (hB : B ≤ w.heap.size) (hB' : B' ≤ w.heap.size) :
    Calls Try.prog 10 #[.slice A 2 c, .slice A' 2 c'] w (TruePost w) := sameInts_refl [1, 2] (by simp) A A' c c' B B' w h h' hB hB'


theorem keep4 {B b5 : Nat} {w1 W : World} {u0 u1 u2 u3 : Value} (hb : Below B w1 W) (h : b5 < B) (m0 : w1.cell? ⟨b5, 0, none⟩ = some u0) (m1 : w1.cell? ⟨b5, 1, none⟩ = some u1) (m2 : w1.cell? ⟨b5, 2, none⟩ = some u2) (m3 : w1.cell? ⟨b5, 3, none⟩ = some u3) :
    W.cell? ⟨b5, 0, none⟩ = some u0 ∧ W.cell? ⟨b5, 1, none⟩ = some u1 ∧ W.cell? ⟨b5, 2, none⟩ = some u2 ∧ W.cell? ⟨b5, 3, none⟩ = some u3 :=
  ⟨(hb.cell (p := ⟨b5, 0, none⟩) h).trans m0, (hb.cell (p := ⟨b5, 1, none⟩) h).trans m1, (hb.cell (p := ⟨b5, 2, none⟩) h).trans m2, (hb.cell (p := ⟨b5, 3, none⟩) h).trans m3⟩

noncomputable def regI2 : Code := (Try.f3.body.bind (regOf 2)).getD .skip

set_option maxRecDepth 100000 in
set_option maxHeartbeats 40000000 in
theorem idles2 (K K2 : Act → World → Prop) (R : Ending → World → Prop) (s0 s1 s2 s3 s4 s6 s7 s8 s9 s10 s11 s12 s13 s14 s15 s16 s17 s18 s19 s20 s21 s22 s23 s24 s25 s26 s27 s28 s29 s30 s31 s32 s33 s34 s35 s36 s37 s38 s39 s40 s41 s42 s43 s44 s45 s46 s47 s48 s49 s50 s51 s52 s53 s54 s55 s56 s57 s58 s59 : Value) (b5 : Nat) (w1 : World) (hg : w1.heap[b5]? = some (.cells #[.string kW.p, .string kW.q, .string kW.f, .string kW.a] 25))
    (hK : ∀ (v11 v12 v13 v14 v15 v16 v17 v18 v19 v20 v21 v22 : Value) (wx : World), Below w1.heap.size w1 wx → K { tmps := #[s0, s1, s2, s3, s4, .pointer (some ⟨b5, 0, none⟩), s6, s7, s8, s9, s10, v11, v12, v13, v14, v15, v16, v17, v18, v19, v20, v21, v22, .bool false, s24, s25, s26, s27, s28, s29, s30, s31, s32, s33, s34, s35, s36, s37, s38, s39, s40, s41, s42, s43, s44, s45, s46, s47, s48, s49, s50, s51, s52, s53, s54, s55, s56, s57, s58, s59], defers := [] } wx) :
    Code.wp Try.prog regI2 (Exit.then K (Exit.then K2 (bodyPost Try.prog Try.f3 R))) { tmps := #[s0, s1, s2, s3, s4, .pointer (some ⟨b5, 0, none⟩), s6, s7, s8, s9, s10, s11, s12, s13, s14, s15, s16, s17, s18, s19, s20, s21, s22, s23, s24, s25, s26, s27, s28, s29, s30, s31, s32, s33, s34, s35, s36, s37, s38, s39, s40, s41, s42, s43, s44, s45, s46, s47, s48, s49, s50, s51, s52, s53, s54, s55, s56, s57, s58, s59], defers := [] } w1 := by
  obtain ⟨m0, m1, m2, m3⟩ := blk4 hg
  have gl1 := blk_lt hg
  have HKK := Lib.hid hK
  clear hK hg
  have gl2 : b5 < w1.heap.size + 1 := by omega
  have gl3 : b5 < w1.heap.size + 1 + 1 := by omega
  have gl4 : b5 < w1.heap.size + 2 := by omega
  have gl5 : b5 < w1.heap.size + 1 + 1 + 1 := by omega
  have gl6 : b5 < w1.heap.size + 3 := by omega
  have tokA : True := trivial
  conv => arg 2; whnf
  go_region_held3 (fun w' => w'.cell? ⟨b5, 0, none⟩ = some (.string kW.p) ∧ w'.cell? ⟨b5, 1, none⟩ = some (.string kW.q) ∧ w'.cell? ⟨b5, 2, none⟩ = some (.string kW.f) ∧ w'.cell? ⟨b5, 3, none⟩ = some (.string kW.a))
    (first | (refine keep4 ?_ gl1 m0 m1 m2 m3; ((repeat (with_reducible first | refine Below.alloc ?_ (by first | omega | (simp only [World.size_alloc, size_drew'] <;> omega)) _ | refine Below.drew ?_)); (with_reducible first | exact hbz | exact hbx | exact Below.refl _ _))))
    (first
      | (have _tok := tokA; go_at_call 9; go_must (refine (call_exact _ (⟨⟨#[47, 98]⟩, ⟨#[]⟩, ⟨#[]⟩, ⟨#[]⟩⟩ : C)).mono ?_; rintro e w' ⟨rfl, rfl⟩; clear tokA _tok))
      | (go_at_call 11; go_must (refine (idle_first _ _ _ (by ((simp only [heap_at, heap_drew, World.size_alloc, size_drew'] <;> (repeat (first | rw [if_pos trivial] | rw [if_pos (by omega)] | rw [if_neg (by omega)]))) <;> done)) (by ((simp only [heap_at, heap_drew, World.size_alloc, size_drew'] <;> (repeat (first | rw [if_pos trivial] | rw [if_pos (by omega)] | rw [if_neg (by omega)]))) <;> done))).mono ?_; rintro e w3 ⟨A3, c3, rfl, ho3, hb3⟩; have hbx : Below w1.heap.size w1 w3 := (by simp only [World.size_alloc, size_drew'] at hb3; refine Below.trans ?_ (hb3.mono (by omega)); (repeat (with_reducible first | refine Below.alloc ?_ (by first | omega | (simp only [World.size_alloc, size_drew'] <;> omega)) _ | refine Below.drew ?_)); with_reducible exact Below.refl _ _); have hsx := hbx.size))
      | (go_at_call 10; go_must (first
          | ((with_reducible refine (same12 _ _ _ _ w3.heap.size _ (w3.alloc (.cells #[.int .i64 1, .int .i64 2] 3)) (ho3.below ((Below.refl _ _).alloc (Nat.le_refl _) _)) (rd12 (heap_alloc_new w3 (.cells #[.int .i64 1, .int .i64 2] 3))) (by simp) (by simp)).mono ?_); rintro e w4 ⟨rfl, hb4⟩; have hbz : Below w1.heap.size w1 w4 := (by simp only [World.size_alloc] at hb4; exact (hbx.alloc hbx.size _).trans (hb4.mono (by have := hbx.size; omega))))
          | ((with_reducible refine (same12 _ _ _ _ w3.heap.size _ w3 ho3 (rd12 (blk_below ?uq hb3 ?ur)) (Nat.le_refl _) ?us).mono ?_); (case uq => ((simp only [heap_at, heap_drew, World.size_alloc, size_drew'] <;> (repeat (first | rw [if_pos trivial] | rw [if_pos (by omega)] | rw [if_neg (by omega)]))) <;> done)); (case ur => (simp only [World.size_alloc, size_drew'] <;> omega)); (case us => (have h3s := hbx.size; simp only [World.size_alloc, size_drew'] at hb3; have h4s := hb3.size; simp only [World.size_alloc, size_drew'] at h4s; omega)); rintro e w4 ⟨rfl, hb4⟩; have hbz : Below w1.heap.size w1 w4 := hbx.trans (hb4.mono hbx.size)))))
  all_goals
    exact HKK.out _ _ _ _ _ _ _ _ _ _ _ _ _ hbz
end Go.Proofs.Ytmicjfdibhoamaa.val
