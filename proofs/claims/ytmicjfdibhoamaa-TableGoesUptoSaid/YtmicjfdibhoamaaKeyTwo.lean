/- A map from calls to ints: 'm[k]++' in its two halves. -/
import Derived.Test.YtmicjfdibhoamaaOrd
import Derived.WideKeyEntry
namespace Go.Proofs.Ytmicjfdibhoamaa.val
open Go.RowKit mem Go.ChangeMaps

theorem lawC : WideMaps.KeyLaw Try.prog 25 := deep_law_laid laidOut (m := 2) (by omega) rowC (by kernel_rfl) wideC
theorem grown_setBlock {w : World} {m : Nat} {es es' : Array MapEntry} {clock clock' : Nat} (hb : w.heap[m]? = some (.map es clock)) : w.grownBy (setBlock w m (.map es' clock')) (some m) :=
  ⟨rfl, rfl, rfl, by simp [setBlock], fun i _ hi => heap_setBlock_other hb _ (fun e => hi (by rw [e]))⟩
theorem MapIs.more {w : World} {m n n' : Nat} {g : C → Option Int} (h : MapIs w m n g) (hn : n ≤ n') : MapIs w m n' g := by
  obtain ⟨D, ⟨es, clock, hb, F, hs, hD⟩, h2⟩ := h
  exact ⟨D, ⟨es, clock, hb, F, by omega, hD⟩, h2⟩

theorem MapIs.entry {w : World} {m n : Nat} {g : C → Option Int} (h : MapIs w m n g) {c : C} (hc : c.ok) (hn : n < maxLen) :
    ∃ (v0 : Value) (st : Nat) (w1 : World), (Instr.mapEntry 68 (.map (some m)) (.agg #[.string c.p, .string c.q, .string c.f, .string c.a])).run Try.prog w = .ok (.tuple #[v0, goInt st]) w1 ∧ w.grownBy w1 (some m) ∧
      (∃ g1, MapIs w1 m (n + 1) g1 ∧ ∀ d, (g1 d).getD 0 = (g d).getD 0) ∧
      ∀ (w2 : World) (i : Int), (Lit.int .i64 i).wf = true → w2.heap[m]? = w1.heap[m]? → ∃ w3, (Instr.entryStore 68 (.map (some m)) (goInt st) (.int .i64 i)).run Try.prog w2 = .ok () w3 ∧ w2.grownBy w3 (some m) ∧ MapIs w3 m (n + 1) (upd g c i) := by
  obtain ⟨l, hl⟩ := key_some c hc
  have h0 := h
  obtain ⟨D, ⟨es, clock, hb, F, hs, hD⟩, h2⟩ := h
  obtain ⟨v0, st, es1, clock1, hE, _, hS⟩ := WideElems.entry_then_store lawC Try.underlying68 zeroInt hb F hl
  refine ⟨v0, st, _, hE, grown_setBlock hb, ?_, fun w2 i hi hw2 => ?_⟩
  · rcases lawC.find w hl es.toList F.keys with ⟨f1, f2⟩ | ⟨j, e0, f1, f2, f3⟩
    · obtain ⟨wz, hz1, hz2, hz3⟩ := h0.put hc hn (i := 0) (by decide)
      have e1 : (Instr.mapEntry 68 (.map (some m)) c.v).run Try.prog w = .ok (.tuple #[.int .i64 0, goInt clock]) (setBlock w m (.map (es.push ⟨c.v, .int .i64 0, clock⟩) (clock + 1))) := by
        simp [Instr.mapEntry, run_underlying Try.underlying68, MapKept.run_getObj_map hb, lawC.check w false hl, f1, MapKept.run_setObj_map _ hb, Result.andThen, setBlock]
      have e2 : (Instr.mapUpdate 68 (.map (some m)) c.v (.int .i64 0)).run Try.prog w = .ok () (setBlock w m (.map (es.push ⟨c.v, .int .i64 0, clock⟩) (clock + 1))) := by
        simp [Instr.mapUpdate, run_underlying Try.underlying68, MapKept.run_getObj_map hb, lawC.check w false hl, f1, MapKept.run_setObj_map _ hb, Result.andThen, setBlock]
      have e3 : (Instr.lookup 68 (.map (some m)) c.v false).run Try.prog w = .ok (.int .i64 0) w := by
        simp [Instr.lookup, run_underlying Try.underlying68, MapKept.run_getObj_map hb, lawC.check w es.isEmpty hl, f1, Result.andThen]
      have e4 := (h0.look1 hc).symm.trans e3
      have e5 : (g c).getD 0 = 0 := by
        injection e4 with e4 _
        injection e4
      have e6 := hE.symm.trans e1
      have e7 := hz1.symm.trans e2
      injection e6 with _ e6
      injection e7 with _ e7
      rw [e6, ← e7]
      refine ⟨_, hz2, fun d => ?_⟩
      unfold upd
      split
      · rename_i hd
        rw [hd, e5]
        rfl
      · rfl
    · have hj : es[j]? = some e0 := by simpa using f2
      have hsame : es.modify j (fun e => { e with key := c.v }) = es := by
        apply Array.ext'
        rw [Array.toList_modify, modify_eq_set _ _ _ _ f2]
        have : ({ e0 with key := c.v } : MapEntry) = e0 := by rw [← f3]
        rw [this]
        exact WideElems.set_self _ _ _ f2
      have e1 : (Instr.mapEntry 68 (.map (some m)) c.v).run Try.prog w = .ok (.tuple #[e0.val, goInt e0.born]) (setBlock w m (.map es clock)) := by
        simp [Instr.mapEntry, run_underlying Try.underlying68, MapKept.run_getObj_map hb, lawC.check w false hl, f1, hj, f3, lawC.stays w hl, hsame, MapKept.run_setObj_map _ hb, Result.andThen, setBlock]
      have e6 := hE.symm.trans e1
      injection e6 with _ e6
      rw [e6]
      exact ⟨g, (h0.heap ((heap_setBlock_same hb _).trans hb.symm)).more (Nat.le_succ _), fun d => rfl⟩
  · obtain ⟨es', clock', r1, r2⟩ := hS w2 (.int .i64 i) (hw2.trans (heap_setBlock_same hb _))
    obtain ⟨wz, hz1, hz2, _⟩ := h0.put hc hn hi
    have e7 := hz1.symm.trans r2
    injection e7 with _ e7
    subst e7
    have hb2 : w2.heap[m]? = some (.map es1 clock1) := hw2.trans (heap_setBlock_same hb _)
    exact ⟨_, r1, grown_setBlock hb2, hz2.heap ((heap_setBlock_same hb2 _).trans (heap_setBlock_same hb _).symm)⟩
end Go.Proofs.Ytmicjfdibhoamaa.val
