/- From the form's readings of arguments to facts on cells. -/
import Derived.Test.YtmicjfdibhoamaaBulk
import Derived.Test.YtmicjfdibhoamaaMem
import Derived.ProofKit
import Derived.Deep.Slices
import Derived.Deep.Fields
namespace Go.Proofs.Ytmicjfdibhoamaa.read
open Go.ChangeShapes Go.WideShapes Go.Deep Go.RowKit mem

section
variable {H : Type} {enc : TypeId × Value → H} {P : Program} {w : World} {base : Nat} {sp : Nat → Bool} {held : Bool}

/-- a slice of integers, nil or not -/
theorem ints {t e : TypeId} {k : IntKind} {fuel : Nat} {v : Value} {x : DataW H × List MemPlace} (ht : P.underlying t = some (.slice e)) (he : P.underlying e = some (.int k)) (hc : P.cellsOf e = 1)
    (h : DataW.trod enc P w base sp held fuel t [v] = some x) :
    ∃ (A : Option Addr) (c : Nat) (xs : List Int), v = .slice A xs.length c ∧ Rd w w.heap.size A (xs.map (.int k)) ∧ (A = none → xs.length = 0) ∧ (∀ n ∈ xs, (Lit.int k n).wf = true) ∧ xs.length < Rows.uptoBulk x.1 := by
  rcases open_ints ht he hc h with ⟨hcs, rfl⟩ | ⟨a, len, cap, zs, hcs, _, hl, hm, hz, rfl, hcell, hwz⟩
  · obtain rfl : v = .slice none 0 0 := by simpa using hcs
    exact ⟨none, 0, [], rfl, Rd.nil, fun _ => rfl, by simp, by simp [Rows.uptoBulk]⟩
  · obtain rfl : v = .slice (some a) len cap := by simpa using hcs
    have hlz : len ≤ zs.length := by rw [hz]; split <;> omega
    have hlen : (zs.take len).length = len := by rw [List.length_take]; omega
    refine ⟨some a, cap, zs.take len, by rw [hlen], ?_, (by intro h; cases h), fun n hn => hwz n (List.mem_of_mem_take hn), ?_⟩
    · intro j u hu
      rw [List.getElem?_map, List.getElem?_take] at hu
      by_cases hj : j < len
      · rw [if_pos hj] at hu
        have hjz : j < zs.length := by omega
        have h1 := hcell j hjz
        have h2 : zs[j]? = some zs[j] := List.getElem?_eq_getElem hjz
        rw [h2] at hu
        simp only [Option.map_some, Option.some.injEq] at hu
        subst hu
        have h3 : zs.getD j 0 = zs[j] := by simp [hjz]
        rw [h3] at h1
        have hb := World.block_lt_of_cell? w _ h1
        rw [add_block] at hb
        exact ⟨a, rfl, hb, h1⟩
      · rw [if_neg hj] at hu
        simp at hu
    · have h1 := bulks.slice_le (H := H) (lits k (zs.take len)) (lits k (zs.drop len))
      have h2 : (lits (H := H) k (zs.take len)).length = len := by simp [lits]; omega
      rw [hlen]
      show len < Rows.uptoBulk (DataW.slice _ _)
      omega

/-- a field of one cell -/
theorem field {t : TypeId} {fs : Array Field} {fuel : Nat} {cs : List Value} {x : DataW H × List MemPlace} (ht : P.underlying t = some (.struct fs)) (h : DataW.trod enc P w base sp held fuel t cs = some x)
    (i : Nat) (f : Field) (hf : fs[i]? = some f) (hone : P.cellsOf f.type = 1) (hlt : f.offset < cs.length) :
    ∃ (v : Value) (y : DataW H × List MemPlace) (n : Nat), cs[f.offset]? = some v ∧ DataW.trod enc P w base sp held n f.type [v] = some y ∧ Rows.uptoBulk y.1 < Rows.uptoBulk x.1 := by
  obtain ⟨xs, n, _, rfl, _, hxl, hall⟩ := DataW.trod_struct ht h
  have h1 := hall i f hf
  rw [hone] at h1
  have h2 : (cs.drop f.offset).take 1 = [cs[f.offset]] := by
    rw [List.drop_eq_getElem_cons hlt]
    rfl
  rw [h2] at h1
  have hi : i < fs.size := (Array.getElem?_eq_some_iff.1 hf).1
  have hix : i < xs.length := by omega
  rw [List.getElem?_eq_getElem hix] at h1
  refine ⟨_, xs[i], n, List.getElem?_eq_getElem hlt, h1, ?_⟩
  have h3 := bulks.part_le (H := H) (d := xs[i].1) (l := xs.map (·.1)) (List.mem_map.2 ⟨xs[i], List.getElem_mem hix, rfl⟩)
  show _ < Rows.uptoBulk (DataW.agg _)
  simp only [Rows.uptoBulk]
  omega
end
end Go.Proofs.Ytmicjfdibhoamaa.read
