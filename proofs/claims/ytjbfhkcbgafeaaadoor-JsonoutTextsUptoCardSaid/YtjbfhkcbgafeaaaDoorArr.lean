/- Words on arrays that a call lays: a composite literal of an array, its variable, its store, as closed facts. -/
import Derived.Test.YtjbfhkcbgafeaaaDoorMem
import Derived.Laws.Tables
namespace Go.Proofs.YtjbfhkcbgafeaaaDoor.arr
open Go.RowKit
section
variable {P : Program}
theorem run_alloc_new (w : World) (t : TypeId) (old : Value) (z : Value) (hz : (P.info? t).bind (·.zero) = some z) : (Instr.alloc t true old).run P w = .ok (.pointer (some ⟨w.heap.size, 0, none⟩)) (w.alloc (.cells z.cells t)) := by
  cases hi : P.info? t with
  | none => simp [hi] at hz
  | some i =>
    simp only [hi, Option.bind_some] at hz
    simp [Instr.alloc, zeroValue, typeInfo, hi, hz, newVar, newRow, newObj, Sem.run, Result.andThen]
    try rfl
theorem wpList_allocNew {ops : Array Oper} {rest : List Oper} {o : Oper} {a : Act} {w : World} {Q : Exit → Act → World → Prop} (hg : o.guard = none) (t : TypeId) (ho : o.op = .alloc t) (d : Tmp) (hd : o.dst = some d)
    (z : Value) (hz : (P.info? t).bind (·.zero) = some z)
    (h : wpList P ops Q rest (a.put o.dst (.pointer (some ⟨w.heap.size, 0, none⟩))) (w.alloc (.cells z.cells t))) : wpList P ops Q (o :: rest) a w :=
  wpList_plain hg fun _ hK => by
    unfold Oper.wp execOp
    simp only [ho, Sem.run_bind, run_alloc_new w t _ z hz, Result.andThen_ok]
    exact hK _ _ h
theorem wpList_allocTo {ops : Array Oper} {rest : List Oper} {o : Oper} {a : Act} {w : World} {Q : Exit → Act → World → Prop} (hg : o.guard = none) (t : TypeId) (ho : o.op = .alloc t) (d : Tmp) (hd : o.dst = some d)
    (zc : Array Value) (hz : ((P.info? t).bind (·.zero)).map (·.cells) = some zc)
    (h : wpList P ops Q rest (a.put (some d) (.pointer (some ⟨w.heap.size, 0, none⟩))) (w.alloc (.cells zc t))) : wpList P ops Q (o :: rest) a w := by
  cases hi : (P.info? t).bind (·.zero) with
  | none => simp [hi] at hz
  | some z =>
    simp only [hi, Option.map_some, Option.some.injEq] at hz
    subst hz
    exact wpList_allocNew hg t ho d hd z hi (hd ▸ h)
theorem wpList_buildTo {ops : Array Oper} {rest : List Oper} {o : Oper} {a : Act} {w : World} {Q : Exit → Act → World → Prop} (hg : o.guard = none) (t : TypeId) (parts : Array (Nat × Operand)) (ho : o.op = .build t parts) (d : Tmp) (hd : o.dst = some d)
    (cells : Array Value) (hf : P.built t (parts.map fun (i, x) => (i, a.eval x)).toList = some cells)
    (h : wpList P ops Q rest (a.put (some d) (.agg cells)) w) : wpList P ops Q (o :: rest) a w :=
  wpList_plain hg fun _ hK => by
    unfold Oper.wp execOp
    simp only [ho, Sem.run_bind, run_build w t _ cells hf, Result.andThen_ok]
    have := hK _ _ h
    rw [← hd] at this
    exact this
theorem setRow_new (w : World) (a b : Array Value) (t : TypeId) : (w.alloc (.cells a t)).setRow w.heap.size b = w.alloc (.cells b t) := by
  unfold World.setRow World.alloc
  congr 1
  apply Array.ext
  · simp
  · intro i h1 h2
    simp only [Array.getElem_modify, Array.getElem_push]
    simp at h1
    split <;> split <;> first | rfl | omega | (exfalso; omega) | simp_all
/-- the whole of a variable just laid is written -/
theorem wpList_storeNew {ops : Array Oper} {rest : List Oper} {o : Oper} {a : Act} {w : World} {Q : Exit → Act → World → Prop} (hg : o.guard = none) (ty : TypeId) (x y : Operand) (ho : o.op = .store ty x y) (hd : o.dst = none)
    (cells old : Array Value) (hx : a.eval x = .pointer (some ⟨w.heap.size, 0, none⟩)) (hy : a.eval y = .agg cells)
    (hi : (P.info? ty).map (·.size) = some cells.size) (hold : old.size = cells.size) (h1 : cells.all (·.oneCell') = true)
    (h : wpList P ops Q rest a (w.alloc (.cells cells ty))) : wpList P ops Q (o :: rest) a (w.alloc (.cells old ty)) :=
  wpList_store_row hg ty x y ho w.heap.size cells hx hy ty old (heap_alloc_new w _) hi hold h1 (by rw [hd, setRow_new]; exact h)
end
end Go.Proofs.YtjbfhkcbgafeaaaDoor.arr
