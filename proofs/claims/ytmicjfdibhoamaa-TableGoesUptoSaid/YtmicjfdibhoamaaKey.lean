/- A map from calls to ints: what it reads as, and its three laws. -/
import Derived.Test.YtmicjfdibhoamaaProg
import Derived.Test.YtmicjfdibhoamaaOut
import Derived.Maps.Own
import Derived.Maps.OwnOps
import Derived.Maps.OwnSet
import Derived.Maps.Views
import Derived.DeepKeys4
import Derived.KernelRfl
namespace Go.Proofs.Ytmicjfdibhoamaa.val
open Go.RowKit mem

theorem laidOut : laidOutB Try.prog = true := by kernel_rfl
theorem rowC : (25 : TypeId) < Try.prog.types.size := of_decide_eq_true (by kernel_rfl)
theorem wideC : (match Try.prog.underlying 25 with | some (.array _ _) | some (.struct _) => true | _ => false) = true := by kernel_rfl
theorem keyedC : Maps.Keyed Try.prog 25 := Maps.Keyed.of_law (deep_law_laid laidOut (m := 2) (by omega) rowC (by kernel_rfl) wideC)
theorem keyTypeC : Try.prog.keyType 25 = true := by kernel_rfl
theorem underC : (Try.prog.underlying 25).map (fun d => match d with | .struct fs => fs.toList.map (fun f => (f.type, f.offset, f.name != "_")) | _ => []) = some [(9, 0, true), (9, 1, true), (9, 2, true), (9, 3, true)] := by kernel_rfl
theorem cellsC : Try.prog.cellsOf 25 = 4 := by kernel_rfl
theorem cellsS : Try.prog.cellsOf 9 = 1 := by kernel_rfl
theorem underS : Try.prog.underlying 9 = some .string := by kernel_rfl

set_option maxRecDepth 100000 in
theorem key_some (c : C) (h : c.ok) : ∃ l, keyOf Try.prog 25 c.v = some l := by
  obtain ⟨p, q, f, a⟩ := c
  obtain ⟨h1, h2, h3, h4⟩ := h
  simp only at h1 h2 h3 h4
  obtain ⟨n, hn⟩ : ∃ n, Try.prog.types.size + 1 = n + 1 + 1 := ⟨Try.prog.types.size - 1, by have h : 25 < Try.prog.types.size := rowC; omega⟩
  have hk : ∀ m, Try.prog.keyLits (m + 1 + 1) 25 [.string p, .string q, .string f, .string a] = some [.string p.data.toList, .string q.data.toList, .string f.data.toList, .string a.data.toList] := by
    intro m
    have e1 : ∀ s : ByteArray, s.size ≤ maxLen → Try.prog.keyLits (m + 1) 9 [.string s] = some [.string s.data.toList] := fun s hs => by
      unfold Program.keyLits
      rw [Try.underlying9]
      simp only [if_pos hs]
    unfold Program.keyLits
    simp only [Try.underlying25, cellsC]
    simp [cellsS, e1 _ h1, e1 _ h2, e1 _ h3, e1 _ h4]
  unfold keyOf
  simp only [Try.underlying25, keyTypeC, Bool.true_and]
  rw [if_pos (by simp [Value.formed, Try.underlying25, cellsC, C.v]), hn]
  simp only [C.v, Value.cells]
  rw [hk]
  exact ⟨_, rfl⟩
theorem zeroInt (w : World) : (zeroValue 3).run Try.prog w = .ok (.int .i64 0) w := by kernel_rfl

/-- block m is a map that answers as g does (at most n entries) -/
def MapIs (w : World) (m n : Nat) (g : C → Option Int) : Prop := ∃ D : DataW Unit, w.ownsMap Try.prog 25 (plainElem Try.prog 3) m n D ∧
  ∀ (c : C) (l : Lit), keyOf Try.prog 25 c.v = some l → Maps.has D l = (g c).isSome ∧ D.atKey l (.lit (.int .i64 0)) = .lit (.int .i64 ((g c).getD 0))

theorem MapIs.made (w : World) : MapIs (w.alloc (.map #[] 0)) w.heap.size 0 (fun _ => none) := ⟨.map [], World.ownsMap_made _ _ _ _, fun _ _ _ => ⟨rfl, rfl⟩⟩
theorem MapIs.lt {w : World} {m n : Nat} {g : C → Option Int} (h : MapIs w m n g) : m < w.heap.size := by
  obtain ⟨D, h, _⟩ := h
  exact h.lt
theorem MapIs.kept {w w' : World} {m n : Nat} {g : C → Option Int} {row : Option Nat} (h : MapIs w m n g) (hg : w.grownBy w' row) (hne : some m ≠ row) : MapIs w' m n g := by
  obtain ⟨D, h, h2⟩ := h
  exact ⟨D, h.kept hg hne, h2⟩
theorem MapIs.heap {w w' : World} {m n : Nat} {g : C → Option Int} (h : MapIs w m n g) (he : w'.heap[m]? = w.heap[m]?) : MapIs w' m n g := by
  obtain ⟨D, ⟨es, clock, hb, F, hs, hD⟩, h2⟩ := h
  exact ⟨D, ⟨es, clock, he.trans hb, F, hs, hD⟩, h2⟩
theorem MapIs.look {w : World} {m n : Nat} {g : C → Option Int} (h : MapIs w m n g) {c : C} (hc : c.ok) :
    (Instr.lookup 68 (.map (some m)) (.agg #[.string c.p, .string c.q, .string c.f, .string c.a]) true).run Try.prog w = .ok (.tuple #[.int .i64 ((g c).getD 0), .bool (g c).isSome]) w := by
  obtain ⟨D, h, h2⟩ := h
  obtain ⟨l, hl⟩ := key_some c hc
  obtain ⟨e1, e2⟩ := h2 c l hl
  obtain ⟨v, ps, hrun, hv⟩ := h.look_ok keyedC Try.underlying68 (zeroInt w) (plainElem_int Try.underlying3 (by decide)) hl
  rw [e2] at hv
  obtain ⟨k, rfl, hz, _⟩ := plainElem_int_inv Try.underlying3 hv
  simp at hz
  rw [hz.1, ← e1]
  exact hrun
theorem MapIs.look1 {w : World} {m n : Nat} {g : C → Option Int} (h : MapIs w m n g) {c : C} (hc : c.ok) :
    (Instr.lookup 68 (.map (some m)) (.agg #[.string c.p, .string c.q, .string c.f, .string c.a]) false).run Try.prog w = .ok (.int .i64 ((g c).getD 0)) w := by
  obtain ⟨D, h, h2⟩ := h
  obtain ⟨l, hl⟩ := key_some c hc
  obtain ⟨k, hrun, hat, _⟩ := h.lookup_int keyedC Try.underlying68 Try.underlying3 (zeroInt w) hl
  rw [(h2 c l hl).2] at hat
  simp at hat
  rw [hat]
  exact hrun
def upd (g : C → Option Int) (c : C) (i : Int) : C → Option Int := fun d => if d = c then some i else g d
theorem C.v_inj {c d : C} (h : c.v = d.v) : c = d := by
  obtain ⟨p, q, f, a⟩ := c
  obtain ⟨p', q', f', a'⟩ := d
  simp [C.v] at h
  obtain ⟨rfl, rfl, rfl, rfl⟩ := h
  rfl
theorem MapIs.put {w : World} {m n : Nat} {g : C → Option Int} (h : MapIs w m n g) {c : C} (hc : c.ok) (hn : n < maxLen) {i : Int} (hi : (Lit.int .i64 i).wf = true) :
    ∃ w', (Instr.mapUpdate 68 (.map (some m)) (.agg #[.string c.p, .string c.q, .string c.f, .string c.a]) (.int .i64 i)).run Try.prog w = .ok () w' ∧ MapIs w' m (n + 1) (upd g c i) ∧ w.grownBy w' (some m) := by
  obtain ⟨D, h, h2⟩ := h
  obtain ⟨l, hl⟩ := key_some c hc
  obtain ⟨w', hrun, ho, hg⟩ := h.update keyedC Try.underlying68 hn hl (plainElem_int Try.underlying3 hi)
  refine ⟨w', hrun, ⟨_, ho, fun d k hk => ?_⟩, hg⟩
  have hm := h.isMap
  have hkl := keyedC.key hl
  by_cases hd : d = c
  · subst hd
    obtain rfl : l = k := by rw [hl] at hk; injection hk
    rw [Maps.has_put_same hm hkl, Maps.atKey_put_same hm hkl]
    simp [upd]
  · have hne : k ≠ l := fun e => hd (C.v_inj (keyedC.inj (l := k) hk (by rw [e]; exact hl)))
    rw [Maps.has_put_other hne, Maps.atKey_put_other hne]
    simpa [upd, hd] using h2 d k hk
end Go.Proofs.Ytmicjfdibhoamaa.val
