/- The reference's order on calls, as the program computes it. -/
import Derived.Test.YtmicjfdibhoamaaSortLaw
namespace Go.Proofs.Ytmicjfdibhoamaa.val
open Go.RowKit mem

def BoolPost (w : World) (b : Bool) (e : Ending) (w' : World) : Prop := e = .returned (.bool b) ∧ Below w.heap.size w w'

set_option maxRecDepth 100000 in
set_option maxHeartbeats 4000000 in
theorem less_any (a b : C) (w : World) : Calls Try.prog 41 #[.agg #[.string a.p, .string a.q, .string a.f, .string a.a], .agg #[.string b.p, .string b.q, .string b.f, .string b.a]] w (BoolPost w (ltC a b)) := by
  obtain ⟨x1, x2, x3, x4⟩ := a
  obtain ⟨y1, y2, y3, y4⟩ := b
  have hbb : Below w.heap.size w ((w.alloc (.cells #[.string x1, .string x2, .string x3, .string x4] 25)).alloc (.cells #[.string y1, .string y2, .string y3, .string y4] 25)) := ((Below.refl _ _).alloc (Nat.le_refl _) _).alloc (by simp) _
  go_enter Try.func41, Try.ntmps41
  go_wp2_with fail
  all_goals
    go_ret
    refine ⟨?_, hbb⟩
    simp_all [ltC]
theorem eq_call (d : Nat) (hd : 1 ≤ d) (a b : C) (w : World) : (Op.equalIn (d + 1) 25 (.agg #[.string a.p, .string a.q, .string a.f, .string a.a]) (.agg #[.string b.p, .string b.q, .string b.f, .string b.a])).run Try.prog w = Result.ok (decide (a = b)) w := by
  obtain ⟨d, rfl⟩ : ∃ e, d = e + 1 := ⟨d - 1, by omega⟩
  obtain ⟨a1, a2, a3, a4⟩ := a
  obtain ⟨b1, b2, b3, b4⟩ := b
  have hf : (Try.prog.fieldsOf 25).toList = [{ name := "Path", type := 9, offset := 0, embedded := false, tag := "", pkgPath := "", byteOffset := 0 },
          { name := "Parent", type := 9, offset := 1, embedded := false, tag := "", pkgPath := "", byteOffset := 16 },
          { name := "Field", type := 9, offset := 2, embedded := false, tag := "", pkgPath := "", byteOffset := 32 },
          { name := "Args", type := 9, offset := 3, embedded := false, tag := "", pkgPath := "", byteOffset := 48 }] := by kernel_rfl
  rw [run_equalIn_struct w _ _ _ _ (by kernel_rfl) (by kernel_rfl), hf]
  have e9 := Try.underlying9
  have e25 := Try.underlying25
  by_cases h1 : a1.toList = b1.toList
  · by_cases h2 : a2.toList = b2.toList
    · by_cases h3 : a3.toList = b3.toList
      · by_cases h4 : a4.toList = b4.toList
        · rw [← c_eq h1 h2 h3 h4]
          simp [go_sem, Op.eqFields, h1, h2, h3, h4]
        · rw [← c_ne4 h4]
          simp [go_sem, Op.eqFields, h1, h2, h3, h4]
      · rw [← c_ne3 h3]
        simp [go_sem, Op.eqFields, h1, h2, h3]
    · rw [← c_ne2 h2]
      simp [go_sem, Op.eqFields, h1, h2]
  · rw [← c_ne1 h1]
    simp [go_sem, Op.eqFields, h1]
theorem run_neq_call (a b : C) (w : World) : (binOp .neq 25 (.agg #[.string a.p, .string a.q, .string a.f, .string a.a]) (.agg #[.string b.p, .string b.q, .string b.f, .string b.a])).run Try.prog w = Result.ok (.bool (!decide (a = b))) w := by
  rw [run_neq_struct, eq_call 9999 (by omega)]
  rfl
theorem run_eql_call (a b : C) (w : World) : (binOp .eql 25 (.agg #[.string a.p, .string a.q, .string a.f, .string a.a]) (.agg #[.string b.p, .string b.q, .string b.f, .string b.a])).run Try.prog w = Result.ok (.bool (decide (a = b))) w := by
  rw [run_eql_struct, eq_call 9999 (by omega)]
  rfl
end Go.Proofs.Ytmicjfdibhoamaa.val
