/- A map from strings to ints that the call made: which keys it has. -/
import Derived.Test.YtjbfhkcbgafeaaaDoorProg
import Derived.Test.YtjbfhkcbgafeaaaDoorMem
import Derived.Maps.Own
import Derived.Maps.OwnOps
import Derived.Maps.OwnSet
import Derived.Maps.Views
import Derived.DeepKeys4
import Derived.StringKeys
import Derived.KernelRfl
namespace Go.Proofs.YtjbfhkcbgafeaaaDoor.smap
open Go.RowKit mem

theorem keyedS : Maps.Keyed Tryd.prog 9 := Maps.string_keyed Tryd.underlying9
theorem key_some (s : ByteArray) (h : s.size ≤ maxLen) : ∃ l, keyOf Tryd.prog 9 (.string s) = some l := ⟨_, WideMaps.keyOf_string_mk Tryd.underlying9 h⟩
theorem zeroInt (w : World) : (zeroValue 3).run Tryd.prog w = .ok (.int .i64 0) w := by kernel_rfl

/-- block m is a map of at most n entries that has just the keys of l -/
def MapS (w : World) (m n : Nat) (l : List ByteArray) : Prop := ∃ D : DataW Unit, w.ownsMap Tryd.prog 9 (plainElem Tryd.prog 3) m n D ∧
  ∀ (s : ByteArray) (k : Lit), keyOf Tryd.prog 9 (.string s) = some k → (Maps.has D k = true ↔ s ∈ l)

theorem MapS.made (w : World) : MapS (w.alloc (.map #[] 0)) w.heap.size 0 [] := ⟨.map [], World.ownsMap_made _ _ _ _, fun _ _ _ => by constructor <;> intro h <;> simp_all [Maps.has]⟩
theorem MapS.lt {w : World} {m n : Nat} {l : List ByteArray} (h : MapS w m n l) : m < w.heap.size := by
  obtain ⟨D, h, _⟩ := h
  exact h.lt
theorem MapS.heap {w w' : World} {m n : Nat} {l : List ByteArray} (h : MapS w m n l) (he : w'.heap[m]? = w.heap[m]?) : MapS w' m n l := by
  obtain ⟨D, ⟨es, clock, hb, F, hs, hD⟩, h2⟩ := h
  exact ⟨D, ⟨es, clock, he.trans hb, F, hs, hD⟩, h2⟩
theorem MapS.look {w : World} {m n : Nat} {l : List ByteArray} (h : MapS w m n l) {s : ByteArray} (hc : s.size ≤ maxLen) (hn : s ∉ l) :
    ∃ x, (Instr.lookup 88 (.map (some m)) (.string s) true).run Tryd.prog w = .ok (.tuple #[.int .i64 x, .bool false]) w := by
  obtain ⟨D, h, h2⟩ := h
  obtain ⟨k, hl⟩ := key_some s hc
  have e1 := h2 s k hl
  obtain ⟨v, ps, hrun, hv⟩ := h.look_ok keyedS Tryd.underlying88 (zeroInt w) (plainElem_int Tryd.underlying3 (by decide)) hl
  obtain ⟨q, rfl, _⟩ := plainElem_int_inv Tryd.underlying3 hv
  have : Maps.has D k = false := by
    cases hh : Maps.has D k with
    | false => rfl
    | true => exact absurd (e1.1 hh) hn
  rw [this] at hrun
  exact ⟨q, hrun⟩
theorem MapS.put {w : World} {m n : Nat} {l : List ByteArray} (h : MapS w m n l) {s : ByteArray} (hc : s.size ≤ maxLen) (hn : n < maxLen) {i : Int} (hi : (Lit.int .i64 i).wf = true) :
    ∃ w', (Instr.mapUpdate 88 (.map (some m)) (.string s) (.int .i64 i)).run Tryd.prog w = .ok () w' ∧ MapS w' m (n + 1) (s :: l) ∧ w.grownBy w' (some m) := by
  obtain ⟨D, h, h2⟩ := h
  obtain ⟨k, hl⟩ := key_some s hc
  obtain ⟨w', hrun, ho, hg⟩ := h.update keyedS Tryd.underlying88 hn hl (plainElem_int Tryd.underlying3 hi)
  refine ⟨w', hrun, ⟨_, ho, fun d q hk => ?_⟩, hg⟩
  have hm := h.isMap
  have hkl := keyedS.key hl
  by_cases hd : d = s
  · subst hd
    obtain rfl : k = q := by rw [hl] at hk; injection hk
    rw [Maps.has_put_same hm hkl]
    simp
  · have hne : q ≠ k := fun e => hd (by
      have := keyedS.inj (l := q) hk (by rw [e]; exact hl)
      injection this)
    rw [Maps.has_put_other hne]
    simpa [hd] using h2 d q hk
end Go.Proofs.YtjbfhkcbgafeaaaDoor.smap
