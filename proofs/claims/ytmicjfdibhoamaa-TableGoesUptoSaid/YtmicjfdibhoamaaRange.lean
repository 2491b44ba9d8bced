/- A range over an iterator that reads memory of its own between two rounds, and may itself range over another: the caller's side. -/
import Derived.RangeFuncNested
import Derived.RangeFuncBound
import Derived.RangeFuncCalls
import Derived.RangeFuncLeaves
import Derived.Shelf.Abstract
import Derived.Test.YtmicjfdibhoamaaNil
namespace Go.Proofs.Ytmicjfdibhoamaa.val
open Go.RowKit mem

/-- what a round leaves of the memory below n and of what lay from B on -/
def Keep (n B : Nat) (W W' : World) : Prop := Below n W W' ∧ ∀ k, B ≤ k → k < W.heap.size → W'.heap[k]? = W.heap[k]?
theorem Keep.refl (n B : Nat) (W : World) : Keep n B W W := ⟨Below.refl _ _, fun _ _ _ => rfl⟩
theorem Keep.trans {n B : Nat} {W W' W'' : World} (h : Keep n B W W') (k : Keep n B W' W'') : Keep n B W W'' := ⟨h.1.trans k.1, fun j h1 h2 => (k.2 j h1 (Nat.lt_of_lt_of_le h2 h.1.size)).trans (h.2 j h1 h2)⟩
theorem Keep.of_below {n B : Nat} {W W' : World} (h : Below W.heap.size W W') (hn : n ≤ W.heap.size) : Keep n B W W' := ⟨h.mono hn, fun j _ h2 => h.block j h2⟩
theorem Keep.from {n B B' : Nat} {W W' : World} (h : Keep n B W W') (hB : B ≤ B') : Keep n B' W W' := ⟨h.1, fun j h1 h2 => h.2 j (by omega) h2⟩

section
variable {P : Program}
/-- THE CONTRACT OF AN ITERATOR: N rounds; what it hands to round q of them ('encs'); it turns nothing but blocks laid since its call began. -/
def SeqB (P : Program) (f : Nat) (lb : Array Value) (N : Nat) (encs : Nat → Nat → World → Array Value → Prop) (n : Nat) (Pre : World → Prop) : Prop :=
  ∀ (l : Nat) (W0 : World) (J : Nat → World → Prop) (Jx : World → Prop), Pre W0 → n ≤ W0.heap.size →
    (∀ q W W', J q W → Below W0.heap.size W W' → J q W') → (∀ W W', Jx W → Below W0.heap.size W W' → Jx W') →
    (∀ (m q : Nat) (W1 : World) (args : Array Value), q < N → J q W1 → encs W0.heap.size q W1 args → W0.heap.size ≤ W1.heap.size → Below n W0 W1 → YieldAt Fence.wide m P l args W1 fun e W' =>
      Keep n W0.heap.size W1 W' ∧ ((e = .returned (.bool true) ∧ J (q + 1) W') ∨ (e = .returned (.bool false) ∧ Jx W'))) →
    J 0 W0 → ∀ m, CallsIn Fence.wide m P f (#[.func (.yield l) #[] #[]] ++ lb) W0 fun e W' => (∃ v, e = .returned v) ∧ (J N W' ∨ Jx W')

/-- how the body of a round may be left -/
def postB (n B : Nat) (I : Nat → World → Prop) (Ix : Code → World → Prop) (q : Nat) (W : World) : Exit → Act → World → Prop
  | .normal, _, W' => Keep n B W W' ∧ I q W'
  | .ret, _, W' => Keep n B W W' ∧ Ix .ret W'
  | .exit id, _, W' => Keep n B W W' ∧ Ix (.exit id) W'
  | .goto t, _, W' => Keep n B W W' ∧ Ix (.goto t) W'
  | _, _, _ => False

/-- THE RANGE, outside every round. -/
theorem range_B {g : Operand} {ps : Array Tmp} {assign body : Code} {Q : Exit → Act → World → Prop} {a : Act} {w : World} {n m : Nat} {gf : Nat} {lb : Array Value} (hg : a.eval g = .func (.func gf) #[] lb) (eg : Enters P gf)
    {N : Nat} {encs : Nat → Nat → World → Array Value → Prop} {Pre : World → Prop} (hseq : SeqB P gf lb N encs n Pre) (hn0 : n ≤ w.heap.size) (hpre : ∀ W1, Below w.heap.size w W1 → Pre W1) (hps : ∀ B q W args, encs B q W args → args.size = ps.size)
    (I : Nat → World → Prop) (Ix : Code → World → Prop) (hI : ∀ q W W', I q W → Below w.heap.size W W' → I q W') (hIx : ∀ c W W', Ix c W → Below w.heap.size W W' → Ix c W') (h0 : I 0 w)
    (hround : ∀ (l k q B : Nat) (W : World) (args : Array Value), w.heap.size ≤ l → l < B → B ≤ W.heap.size → q < N → I q W → encs B q W args → Below n w W →
      assign.wpIn (Fence.wide.inRound l) k P (Exit.then (fun a' W' => Keep n w.heap.size W W' ∧ I q W' ∧ ∀ W2, W2.heap.size = W'.heap.size → (∀ j, j ≠ l → W2.heap[j]? = W'.heap[j]?) → Below w.heap.size W' W2 → (∃ r, W2.heap[l]? = some (.loop r)) → I q W2 →
        body.wpIn (Fence.wide.inRound l) k P (postB n w.heap.size I Ix (q + 1) W2) a' W2) (fun _ _ _ => False)) { tmps := (ps.zip args).foldl (fun t (p, v) => t.setIfInBounds p v) a.tmps, defers := [] } W)
    (hdone : ∀ (D : Nat) (W : World), w.heap.size ≤ D → I N W → W.heap[D]? = some (.deferred (some [])) → Q .normal { a with defers := { target := .collected D, args := #[] } :: a.defers } W)
    (hstop : ∀ (D : Nat) (c : Code) (W : World), w.heap.size ≤ D → Ix c W → W.heap[D]? = some (.deferred (some [])) → c.wpIn Fence.wide m P Q { a with defers := { target := .collected D, args := #[] } :: a.defers } W) :
    (Code.rangeFunc g ps assign body).wpIn Fence.wide m P Q a w := by
  refine wpIn_rangeFunc fun fn hfn => ?_
  obtain ⟨rec, hrec⟩ : ∃ rec : LoopState → Option Code → Loop, rec = fun st pe => { state := st, pending := pe, fn, tmps := a.tmps, params := ps, assign, body, defers := w.heap.size } := ⟨_, rfl⟩
  have hK1 : ((w.alloc (.deferred (some []))).alloc (.loop (rec .ready none))).heap[w.heap.size]? = some (.deferred (some [])) := (Below.heap_alloc _ _ _ (by simp)).trans (World.alloc_heap_new w _)
  have hL1 : ((w.alloc (.deferred (some []))).alloc (.loop (rec .ready none))).heap[w.heap.size + 1]? = some (.loop (rec .ready none)) := by simpa using World.alloc_heap_new (w.alloc (.deferred (some []))) (.loop (rec .ready none))
  have hb1 : Below w.heap.size w ((w.alloc (.deferred (some []))).alloc (.loop (rec .ready none))) := ((Below.refl _ w).alloc (Nat.le_refl _) _).alloc (by simp) _
  have hs1 : w.heap.size + 2 ≤ ((w.alloc (.deferred (some []))).alloc (.loop (rec .ready none))).heap.size := by simp
  have hE : (Instr.enterLoop fn a.tmps ps assign body none).run P w = .ok (w.heap.size + 1, [{ target := .collected w.heap.size, args := #[] }]) ((w.alloc (.deferred (some []))).alloc (.loop (rec .ready none))) := by rw [hrec]; exact run_enterLoop_outer _ _ _ _ _
  generalize ((w.alloc (.deferred (some []))).alloc (.loop (rec .ready none))) = W1 at *
  refine ⟨w.heap.size + 1, _, W1, { target := .fn (.func gf) lb, args := #[.func (.yield (w.heap.size + 1)) #[] #[]] }, W1, gf, #[.func (.yield (w.heap.size + 1)) #[] #[]] ++ lb, W1, hE, ?_, ?_, ?_, (fun h => by cases h), ?_⟩
  · simp only [resolve, hg]
    simp [go_sem]
  · intro f' _
    trivial
  · have eg' : ∀ (args : Array Value) (w : World), (callFunc gf args).run P w = .ok (.enter gf args) w := eg
    simp [invoke, go_sem, eg']
  · refine (hseq (w.heap.size + 1) W1
      (fun q W => I q W ∧ W.heap[w.heap.size + 1]? = some (.loop (rec .ready none)) ∧ W.heap[w.heap.size]? = some (.deferred (some [])))
      (fun W => ∃ c, Ix c W ∧ W.heap[w.heap.size + 1]? = some (.loop (rec .done (some c))) ∧ W.heap[w.heap.size]? = some (.deferred (some [])))
      (hpre W1 hb1) (by omega)
      (fun q W W' h hb => ⟨hI q W W' h.1 (hb.mono (by omega)), blk_below h.2.1 hb (by omega), blk_below h.2.2 hb (by omega)⟩)
      (fun W W' h hb => by
        obtain ⟨c, h1, h2, h3⟩ := h
        exact ⟨c, hIx c W W' h1 (hb.mono (by omega)), blk_below h2 hb (by omega), blk_below h3 hb (by omega)⟩)
      ?_ ⟨hI 0 w W1 h0 hb1, hL1, hK1⟩ _).mono ?_
    · rintro k q W args hq ⟨hi, hl, hk⟩ henc hsz hbw'
      have hbw : Below n w W := (hb1.mono hn0).trans hbw'
      have hlt : w.heap.size + 1 < W.heap.size := (Array.getElem?_eq_some_iff.1 hl).1
      have hy := run_yield (P := P) (args := args) hl (by rw [hrec]; exact hps _ q W args henc)
      rw [hrec] at hy
      refine ⟨fn, _, assign, body, hy, roundIn_of_wpIn hfn (wpIn_mono (hround (w.heap.size + 1) k q W1.heap.size W args (by omega) (by omega) hsz hq hi henc hbw) ?_)⟩
      clear hy
      rintro e a' Wa hp
      cases e with
      | normal =>
        obtain ⟨hka, hia, hbody⟩ := hp
        have hla := (hka.2 (w.heap.size + 1) (by omega) hlt).trans hl
        have hkda := (hka.2 w.heap.size (Nat.le_refl _) (by omega)).trans hk
        have hsa := hka.1.size
        refine ⟨_, run_beginRound hla (by rw [hrec]), ?_⟩
        have hl2 : (Wa.putObj (w.heap.size + 1) (.loop { rec .ready none with state := .busy })).heap[w.heap.size + 1]? = some (.loop { rec .ready none with state := .busy }) := World.putObj_heap_same (by omega)
        have hb2 : Below w.heap.size Wa (Wa.putObj (w.heap.size + 1) (.loop { rec .ready none with state := .busy })) := belowK_b (w := w) (Nat.le_refl _) Wa (w.heap.size + 1) _ _ (by omega) hla rfl rfl
        have ho2 : ∀ j, j ≠ w.heap.size + 1 → (Wa.putObj (w.heap.size + 1) (.loop { rec .ready none with state := .busy })).heap[j]? = Wa.heap[j]? := fun j hj => World.putObj_heap_other (by omega)
        have hz2 : (Wa.putObj (w.heap.size + 1) (.loop { rec .ready none with state := .busy })).heap.size = Wa.heap.size := by simp [World.putObj]
        generalize (Wa.putObj (w.heap.size + 1) (.loop { rec .ready none with state := .busy })) = W2 at *
        refine wpIn_mono (hbody W2 hz2 ho2 hb2 ⟨_, hl2⟩ (hI _ _ _ hia hb2)) ?_
        have hkd2 := (ho2 w.heap.size (by omega)).trans hkda
        have hkW : Keep n W1.heap.size W W2 := (hka.from (by omega)).trans ⟨hb2.mono hn0, fun j h1 _ => ho2 j (by omega)⟩
        have fin : ∀ (jump : Option Code) (W3 : World), Keep n w.heap.size W2 W3 →
            ∃ W4, (Instr.endRound (w.heap.size + 1) jump).run P W3 = .ok (.bool jump.isNone) W4 ∧ W4.heap[w.heap.size + 1]? = some (.loop (rec (if jump.isNone then .ready else .done) jump)) ∧ W4.heap[w.heap.size]? = some (.deferred (some [])) ∧ Below w.heap.size W3 W4 ∧ Keep n W1.heap.size W W4 := fun jump W3 hk3 => by
          have hs3 := hk3.1.size
          have hl3 := (hk3.2 (w.heap.size + 1) (by omega) (by omega)).trans hl2
          have hkd3 := (hk3.2 w.heap.size (Nat.le_refl _) (by omega)).trans hkd2
          have hrun := run_endRound (P := P) jump hl3
          rw [hrec] at hrun ⊢
          have hb3 : Below w.heap.size W3 (W3.putObj (w.heap.size + 1) (.loop { state := if jump.isNone then .ready else .done, pending := jump, fn, tmps := a.tmps, params := ps, assign, body, defers := w.heap.size })) := belowK_b (w := w) (Nat.le_refl _) W3 (w.heap.size + 1) _ _ (by omega) hl3 rfl rfl
          exact ⟨_, hrun, World.putObj_heap_same (by omega), (World.putObj_heap_other (by omega)).trans hkd3, hb3, (hkW.trans (hk3.from (by omega))).trans ⟨hb3.mono hn0, fun j h1 _ => World.putObj_heap_other (by omega)⟩⟩
        rintro e a3 W3 hp3
        cases e with
        | normal =>
          obtain ⟨hk3, hi3⟩ := hp3
          obtain ⟨W4, hr, hl4, hk4, hb4, hK4⟩ := fin none W3 hk3
          exact ⟨_, _, hr, hK4, .inl ⟨rfl, hI _ _ _ hi3 hb4, hl4, hk4⟩⟩
        | ret =>
          obtain ⟨hk3, hi3⟩ := hp3
          obtain ⟨W4, hr, hl4, hk4, hb4, hK4⟩ := fin (some .ret) W3 hk3
          exact ⟨_, _, hr, hK4, .inr ⟨rfl, .ret, hIx _ _ _ hi3 hb4, hl4, hk4⟩⟩
        | exit id =>
          obtain ⟨hk3, hi3⟩ := hp3
          obtain ⟨W4, hr, hl4, hk4, hb4, hK4⟩ := fin (some (.exit id)) W3 hk3
          exact ⟨_, _, hr, hK4, .inr ⟨rfl, .exit id, hIx _ _ _ hi3 hb4, hl4, hk4⟩⟩
        | goto t =>
          obtain ⟨hk3, hi3⟩ := hp3
          obtain ⟨W4, hr, hl4, hk4, hb4, hK4⟩ := fin (some (.goto t)) W3 hk3
          exact ⟨_, _, hr, hK4, .inr ⟨rfl, .goto t, hIx _ _ _ hi3 hb4, hl4, hk4⟩⟩
        | panic ch => exact hp3.elim
        | outgrown => exact hp3.elim
      | _ => exact hp.elim
    · rintro e W2 ⟨⟨v, rfl⟩, (⟨hi, hl, hk⟩ | ⟨c, hi, hl, hk⟩)⟩
      · have hend := run_endLoop (P := P) hl (by rw [hrec]; simp)
        have hp : (rec .ready none).pending = none := by rw [hrec]
        rw [hp] at hend
        have hlt := (Array.getElem?_eq_some_iff.1 hl).1
        exact ⟨none, _, hend, hdone w.heap.size _ (Nat.le_refl _) (hI _ _ _ hi (belowK_b (w := w) (Nat.le_refl _) W2 (w.heap.size + 1) _ _ (by omega) hl rfl rfl)) ((World.putObj_heap_other (by omega)).trans hk)⟩
      · have hend := run_endLoop (P := P) hl (by rw [hrec]; simp)
        have hp : (rec .done (some c)).pending = some c := by rw [hrec]
        rw [hp] at hend
        exact ⟨some c, _, hend, hstop w.heap.size c _ (Nat.le_refl _) (hIx _ _ _ hi (belowK_b (w := w) (Nat.le_refl _) W2 (w.heap.size + 1) _ _ (by omega) hl rfl rfl)) ((World.putObj_heap_other (by omega)).trans hk)⟩
/-- THE RANGE, within a round of loop l₀. -/
theorem range_N {g : Operand} {ps : Array Tmp} {assign body : Code} {Q : Exit → Act → World → Prop} {a : Act} {w : World} {n m : Nat} {l₀ : Nat} {r₀ : Loop} (hl₀ : w.heap[l₀]? = some (.loop r₀)) {gf : Nat} {lb : Array Value} (hg : a.eval g = .func (.func gf) #[] lb) (eg : Enters P gf)
    {N : Nat} {encs : Nat → Nat → World → Array Value → Prop} {Pre : World → Prop} (hseq : SeqB P gf lb N encs n Pre) (hn0 : n ≤ w.heap.size) (hpre : ∀ W1, Below w.heap.size w W1 → Pre W1) (hps : ∀ B q W args, encs B q W args → args.size = ps.size)
    (I : Nat → World → Prop) (Ix : Code → World → Prop) (hI : ∀ q W W', I q W → Below w.heap.size W W' → I q W') (hIx : ∀ c W W', Ix c W → Below w.heap.size W W' → Ix c W') (h0 : I 0 w)
    (hround : ∀ (l k q B : Nat) (W : World) (args : Array Value), w.heap.size ≤ l → l < B → B ≤ W.heap.size → q < N → I q W → encs B q W args → Below n w W →
      assign.wpIn (Fence.wide.inRound l) k P (Exit.then (fun a' W' => Keep n w.heap.size W W' ∧ I q W' ∧ ∀ W2, W2.heap.size = W'.heap.size → (∀ j, j ≠ l → W2.heap[j]? = W'.heap[j]?) → Below w.heap.size W' W2 → (∃ r, W2.heap[l]? = some (.loop r)) → I q W2 →
        body.wpIn (Fence.wide.inRound l) k P (postB n w.heap.size I Ix (q + 1) W2) a' W2) (fun _ _ _ => False)) { tmps := (ps.zip args).foldl (fun t (p, v) => t.setIfInBounds p v) a.tmps, defers := [] } W)
    (hdone : ∀ (W : World), I N W → Q .normal a W)
    (hstop : ∀ (c : Code) (W : World), Ix c W → c.wpIn (Fence.wide.inRound l₀) m P Q a W) :
    (Code.rangeFunc g ps assign body).wpIn (Fence.wide.inRound l₀) m P Q a w := by
  refine wpIn_rangeFunc fun fn hfn => ?_
  obtain ⟨rec, hrec⟩ : ∃ rec : LoopState → Option Code → Loop, rec = fun st pe => { state := st, pending := pe, fn, tmps := a.tmps, params := ps, assign, body, defers := r₀.defers } := ⟨_, rfl⟩
  have hL1 : (w.alloc (.loop (rec .ready none))).heap[w.heap.size]? = some (.loop (rec .ready none)) := World.alloc_heap_new w _
  have hb1 : Below w.heap.size w (w.alloc (.loop (rec .ready none))) := (Below.refl _ w).alloc (Nat.le_refl _) _
  have hs1 : w.heap.size + 1 ≤ (w.alloc (.loop (rec .ready none))).heap.size := by simp
  have hE : (Instr.enterLoop fn a.tmps ps assign body (some l₀)).run P w = .ok (w.heap.size, []) (w.alloc (.loop (rec .ready none))) := by rw [hrec]; exact run_enterLoop_inner hl₀ _ _ _ _ _
  generalize (w.alloc (.loop (rec .ready none))) = W1 at *
  refine ⟨w.heap.size, _, W1, { target := .fn (.func gf) lb, args := #[.func (.yield (w.heap.size)) #[] #[]] }, W1, gf, #[.func (.yield (w.heap.size)) #[] #[]] ++ lb, W1, hE, ?_, ?_, ?_, (fun h => by cases h), ?_⟩
  · simp only [resolve, hg]
    simp [go_sem]
  · intro f' _
    trivial
  · have eg' : ∀ (args : Array Value) (w : World), (callFunc gf args).run P w = .ok (.enter gf args) w := eg
    simp [invoke, go_sem, eg']
  · refine (hseq (w.heap.size) W1
      (fun q W => I q W ∧ W.heap[w.heap.size]? = some (.loop (rec .ready none)))
      (fun W => ∃ c, Ix c W ∧ W.heap[w.heap.size]? = some (.loop (rec .done (some c))))
      (hpre W1 hb1) (by omega)
      (fun q W W' h hb => ⟨hI q W W' h.1 (hb.mono (by omega)), blk_below h.2 hb (by omega)⟩)
      (fun W W' h hb => by
        obtain ⟨c, h1, h2⟩ := h
        exact ⟨c, hIx c W W' h1 (hb.mono (by omega)), blk_below h2 hb (by omega)⟩)
      ?_ ⟨hI 0 w W1 h0 hb1, hL1⟩ _).mono ?_
    · rintro k q W args hq ⟨hi, hl⟩ henc hsz hbw'
      have hbw : Below n w W := (hb1.mono hn0).trans hbw'
      have hlt : w.heap.size < W.heap.size := (Array.getElem?_eq_some_iff.1 hl).1
      have hy := run_yield (P := P) (args := args) hl (by rw [hrec]; exact hps _ q W args henc)
      rw [hrec] at hy
      refine ⟨fn, _, assign, body, hy, roundIn_of_wpIn hfn (wpIn_mono (hround w.heap.size k q W1.heap.size W args (by omega) (by omega) hsz hq hi henc hbw) ?_)⟩
      clear hy
      rintro e a' Wa hp
      cases e with
      | normal =>
        obtain ⟨hka, hia, hbody⟩ := hp
        have hla := (hka.2 (w.heap.size) (by omega) hlt).trans hl
        have hsa := hka.1.size
        refine ⟨_, run_beginRound hla (by rw [hrec]), ?_⟩
        have hl2 : (Wa.putObj (w.heap.size) (.loop { rec .ready none with state := .busy })).heap[w.heap.size]? = some (.loop { rec .ready none with state := .busy }) := World.putObj_heap_same (by omega)
        have hb2 : Below w.heap.size Wa (Wa.putObj (w.heap.size) (.loop { rec .ready none with state := .busy })) := belowK_b (w := w) (Nat.le_refl _) Wa (w.heap.size) _ _ (by omega) hla rfl rfl
        have ho2 : ∀ j, j ≠ w.heap.size → (Wa.putObj (w.heap.size) (.loop { rec .ready none with state := .busy })).heap[j]? = Wa.heap[j]? := fun j hj => World.putObj_heap_other (by omega)
        have hz2 : (Wa.putObj (w.heap.size) (.loop { rec .ready none with state := .busy })).heap.size = Wa.heap.size := by simp [World.putObj]
        generalize (Wa.putObj (w.heap.size) (.loop { rec .ready none with state := .busy })) = W2 at *
        refine wpIn_mono (hbody W2 hz2 ho2 hb2 ⟨_, hl2⟩ (hI _ _ _ hia hb2)) ?_
        have hkW : Keep n W1.heap.size W W2 := (hka.from (by omega)).trans ⟨hb2.mono hn0, fun j h1 _ => ho2 j (by omega)⟩
        have fin : ∀ (jump : Option Code) (W3 : World), Keep n w.heap.size W2 W3 →
            ∃ W4, (Instr.endRound (w.heap.size) jump).run P W3 = .ok (.bool jump.isNone) W4 ∧ W4.heap[w.heap.size]? = some (.loop (rec (if jump.isNone then .ready else .done) jump)) ∧ Below w.heap.size W3 W4 ∧ Keep n W1.heap.size W W4 := fun jump W3 hk3 => by
          have hs3 := hk3.1.size
          have hl3 := (hk3.2 (w.heap.size) (by omega) (by omega)).trans hl2
          have hrun := run_endRound (P := P) jump hl3
          rw [hrec] at hrun ⊢
          have hb3 : Below w.heap.size W3 (W3.putObj (w.heap.size) (.loop { state := if jump.isNone then .ready else .done, pending := jump, fn, tmps := a.tmps, params := ps, assign, body, defers := r₀.defers })) := belowK_b (w := w) (Nat.le_refl _) W3 (w.heap.size) _ _ (by omega) hl3 rfl rfl
          exact ⟨_, hrun, World.putObj_heap_same (by omega), hb3, (hkW.trans (hk3.from (by omega))).trans ⟨hb3.mono hn0, fun j h1 _ => World.putObj_heap_other (by omega)⟩⟩
        rintro e a3 W3 hp3
        cases e with
        | normal =>
          obtain ⟨hk3, hi3⟩ := hp3
          obtain ⟨W4, hr, hl4, hb4, hK4⟩ := fin none W3 hk3
          exact ⟨_, _, hr, hK4, .inl ⟨rfl, hI _ _ _ hi3 hb4, hl4⟩⟩
        | ret =>
          obtain ⟨hk3, hi3⟩ := hp3
          obtain ⟨W4, hr, hl4, hb4, hK4⟩ := fin (some .ret) W3 hk3
          exact ⟨_, _, hr, hK4, .inr ⟨rfl, .ret, hIx _ _ _ hi3 hb4, hl4⟩⟩
        | exit id =>
          obtain ⟨hk3, hi3⟩ := hp3
          obtain ⟨W4, hr, hl4, hb4, hK4⟩ := fin (some (.exit id)) W3 hk3
          exact ⟨_, _, hr, hK4, .inr ⟨rfl, .exit id, hIx _ _ _ hi3 hb4, hl4⟩⟩
        | goto t =>
          obtain ⟨hk3, hi3⟩ := hp3
          obtain ⟨W4, hr, hl4, hb4, hK4⟩ := fin (some (.goto t)) W3 hk3
          exact ⟨_, _, hr, hK4, .inr ⟨rfl, .goto t, hIx _ _ _ hi3 hb4, hl4⟩⟩
        | panic ch => exact hp3.elim
        | outgrown => exact hp3.elim
      | _ => exact hp.elim
    · rintro e W2 ⟨⟨v, rfl⟩, (⟨hi, hl⟩ | ⟨c, hi, hl⟩)⟩
      · have hend := run_endLoop (P := P) hl (by rw [hrec]; simp)
        have hp : (rec .ready none).pending = none := by rw [hrec]
        rw [hp] at hend
        have hlt := (Array.getElem?_eq_some_iff.1 hl).1
        exact ⟨none, _, hend, hdone _ (hI _ _ _ hi (belowK_b (w := w) (Nat.le_refl _) W2 (w.heap.size) _ _ (by omega) hl rfl rfl))⟩
      · have hend := run_endLoop (P := P) hl (by rw [hrec]; simp)
        have hp : (rec .done (some c)).pending = some c := by rw [hrec]
        rw [hp] at hend
        exact ⟨some c, _, hend, hstop c _ (hIx _ _ _ hi (belowK_b (w := w) (Nat.le_refl _) W2 (w.heap.size) _ _ (by omega) hl rfl rfl))⟩
end
end Go.Proofs.Ytmicjfdibhoamaa.val
