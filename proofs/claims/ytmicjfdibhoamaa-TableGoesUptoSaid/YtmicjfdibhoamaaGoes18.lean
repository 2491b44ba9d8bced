/- One statement of TableGoes alone: the row that comes next is read. -/
import Derived.Test.YtmicjfdibhoamaaRange
import Derived.Test.YtmicjfdibhoamaaReg
import Derived.Stop.RegionWithIn
namespace Go.Proofs.Ytmicjfdibhoamaa.val
open Go.RowKit mem
attribute [local go_sem] run_store_float Oper.semAt_some

/-- the region of this number, the bodies of ranges over functions too -/
def regIn (n : Nat) : Code → Option Code
  | .region id ops d => if id = n then some (.region id ops d) else none
  | .seq a b => match regIn n a with
    | some c => some c
    | none => regIn n b
  | .block _ c => regIn n c
  | .scope c => regIn n c
  | .loop c => regIn n c
  | .cond _ a b => match regIn n a with
    | some c => some c
    | none => regIn n b
  | .rangeFunc _ _ a b => match regIn n a with
    | some c => some c
    | none => regIn n b
  | _ => none

noncomputable def regG18 : Code := (Try.f6.body.bind (regIn 18)).getD .skip

set_option maxRecDepth 100000 in
set_option maxHeartbeats 40000000 in
theorem goes18 (K : Act → World → Prop) (Q : Exit → Act → World → Prop) (l' k : Nat) (s0 s1 s3 s4 s6 s7 s9 s10 s11 s12 s13 s14 s15 s16 s17 s18 s19 s20 s21 s22 s23 s24 s25 s26 s27 s28 s29 s30 s31 s32 s33 s34 s35 s36 s37 s38 s39 s40 s41 s42 s43 s44 s45 s46 s47 s48 s49 s50 s51 s52 s53 s54 s55 s56 s57 s58 s59 s60 s61 s62 s63 s64 s65 s66 s67 s68 s69 s70 s71 s72 s73 s74 s75 s76 s77 s78 s79 s80 s81 s82 s83 s84 s85 s86 s87 s88 s89 s90 s91 s92 s93 s94 s95 s96 s97 s98 s99 s100 s101 s102 s103 : Value) (a2 a5 a8 : Nat) (ad ar : Addr) (c5 c N R q i : Nat) (W2 : World)
    (x1 x2 x3 x4 : ByteArray) (xf : Bool) (k5 : Int) (b5 : Bool) (i5 : Int) (f5 : Nat) (t5 y5 : ByteArray) (A6 : Option Addr) (n6 c6 : Nat) (A6' : Option Addr) (n6' c6' : Nat)
    (j2 : W2.cell? ⟨a2, 0, none⟩ = some (.slice (some ad) N c)) (j5 : W2.cell? ⟨a5, 0, none⟩ = some (.slice (some ar) R c5)) (j8 : W2.cell? ⟨a8, 0, none⟩ = some (.int .i64 q)) (hqR : (q : Int) < (R : Int)) (cr : W2.cell? (ar.add q) = some (.int .i64 i)) (hie : (i : Int) < (N : Int))
    (hcs : CellsAt W2 (ad.add (i * 13)) [.string x1, .string x2, .string x3, .string x4, .bool xf, .int .i64 k5, .bool b5, .int .i64 i5, .float .f64 f5, .string t5, .string y5, .slice A6 n6 c6, .slice A6' n6' c6'])
    (hK : ∀ (v38 v39 v40 v41 v42 v43 v44 : Value), K { tmps := #[s0, s1, .pointer (some ⟨a2, 0, none⟩), s3, s4, .pointer (some ⟨a5, 0, none⟩), s6, s7, .pointer (some ⟨a8, 0, none⟩), s9, s10, .pointer (some ⟨W2.heap.size, 0, none⟩), s12, s13, s14, s15, s16, s17, s18, s19, s20, s21, s22, s23, s24, s25, s26, s27, s28, s29, s30, s31, s32, s33, s34, s35, s36, s37, v38, v39, v40, v41, v42, v43, v44, s45, s46, s47, s48, s49, s50, s51, s52, s53, s54, s55, s56, s57, s58, s59, s60, s61, s62, s63, s64, s65, s66, s67, s68, s69, s70, s71, s72, s73, s74, s75, s76, s77, s78, s79, s80, s81, s82, s83, s84, s85, s86, s87, s88, s89, s90, s91, s92, s93, s94, s95, s96, s97, s98, s99, s100, s101, s102, s103], defers := [] } (W2.drew.alloc (.cells #[.string x1, .string x2, .string x3, .string x4, .bool xf, .int .i64 k5, .bool b5, .int .i64 i5, .float .f64 f5, .string t5, .string y5, .slice A6 n6 c6, .slice A6' n6' c6'] 39))) :
    Code.wpIn (Fence.wide.inRound l') k Try.prog regG18 (Exit.then K Q) { tmps := #[s0, s1, .pointer (some ⟨a2, 0, none⟩), s3, s4, .pointer (some ⟨a5, 0, none⟩), s6, s7, .pointer (some ⟨a8, 0, none⟩), s9, s10, s11, s12, s13, s14, s15, s16, s17, s18, s19, s20, s21, s22, s23, s24, s25, s26, s27, s28, s29, s30, s31, s32, s33, s34, s35, s36, s37, s38, s39, s40, s41, s42, s43, s44, s45, s46, s47, s48, s49, s50, s51, s52, s53, s54, s55, s56, s57, s58, s59, s60, s61, s62, s63, s64, s65, s66, s67, s68, s69, s70, s71, s72, s73, s74, s75, s76, s77, s78, s79, s80, s81, s82, s83, s84, s85, s86, s87, s88, s89, s90, s91, s92, s93, s94, s95, s96, s97, s98, s99, s100, s101, s102, s103], defers := [] } W2 := by
  obtain ⟨d0, d1, d2, d3, d4, d5, d6, d7, d8, d9, d10, d11, d12⟩ := hcs.thirteen
  have ha1 : (ad.add (i * 13)).block < W2.heap.size := World.block_lt_of_cell? W2 _ d0
  have ha2 : (ar.add q).block < W2.heap.size := World.block_lt_of_cell? W2 _ cr
  have ha3 : a2 < W2.heap.size := World.block_lt_of_cell? W2 _ j2
  have ha4 : a5 < W2.heap.size := World.block_lt_of_cell? W2 _ j5
  have ha5 : a8 < W2.heap.size := World.block_lt_of_cell? W2 _ j8
  have hq0 : (0 : Int) ≤ (q : Int) := by omega
  have hi0 : (0 : Int) ≤ (i : Int) := by omega
  have HKK := Lib.hid hK
  clear hcs hK
  conv => arg 4; whnf
  gi_region_with (fail)
  all_goals exact HKK.out _ _ _ _ _ _ _
end Go.Proofs.Ytmicjfdibhoamaa.val
