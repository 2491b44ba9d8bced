/- toFloat, walked: of a number text of which no digit is cut off, either sign. -/
import Derived.Test.YtjhhdnnblcbdbaaGreatDoorGTf
import Derived.Test.YtjhhdnnblcbdbaaGreatDoorGEt
import Derived.Test.YtjhhdnnblcbdbaaGreatDoorGLa
namespace Go.Proofs.YtjhhdnnblcbdbaaGreatDoor.pg
open Go.RowKit mem fl big us uw
set_option linter.unusedVariables false
theorem cell_keep {w w':World} (hb:Below w.heap.size w w') {p:Addr} {v:Value} (h:w.cell? p=some v):w'.cell? p=some v:=(hb.cell (World.block_lt_of_cell? w p h)).trans h
theorem infoAt_below {w w':World} (h:InfoAt w) (hb:Below w.heap.size w w'):InfoAt w':=cell_keep hb h
theorem optAt_below {w w':World} (h:OptAt w) (hb:Below w.heap.size w w'):OptAt w':=cell_keep hb h
theorem p10At_below {w w':World} (h:P10At w) (hb:Below w.heap.size w w'):P10At w':=by
 obtain ⟨A,c,h1,h2,h3,h4⟩:=h
 exact ⟨A,c,cell_keep hb h1,h2,Nat.lt_of_lt_of_le h3 hb.size,fun k hk=>cell_keep hb (h4 k hk)⟩
structure NEnv (w:World):Prop where
 hi:InfoAt w
 ho:OptAt w
 p10:P10At w
 pow:PowAt w
 lt:15<w.heap.size
 tab:Lib.TabIs Tryz.prog w "internal/strconv.uint64pow10" .u64 Lib.pow10Tab
theorem NEnv.below {w w':World} (h:NEnv w) (hb:Below w.heap.size w w'):NEnv w':=
 ⟨infoAt_below h.hi hb,optAt_below h.ho hb,p10At_below h.p10 hb,h.pow.below hb (by have:=h.lt;omega),Nat.lt_of_lt_of_le h.lt hb.size,tab_below h.tab hb⟩
def SpAt (s:ByteArray) (neg:Bool) (D:List Nat) (x:Int):Prop:=∀w,Calls Tryz.prog 64 #[.string s] w fun e w'=>∃(A:Option Addr) (c:Nat),e= .returned (.agg #[.bool neg,.slice A D.length c,.int .i64 x])∧Rd w' w'.heap.size A (ns D)∧Below w.heap.size w w'
theorem itoa_any (x:Int) (w:World) (h1: -400≤x) (h2:x≤400) (hE:NEnv w):Calls Tryz.prog 67 #[.int .i64 x] w fun e w'=>e= .returned (.string (strN (wtx x)))∧Below w.heap.size w w':=by
 have H:=shelf.strconv_Itoa x (by omega) (by omega) w hE.tab
 rw [itoa_eq] at H
 refine H.mono fun e w' ⟨h,k,os,hw⟩=>⟨h,?_⟩
 rw [hw]
 exact Lib.below_grow w.heap.size w (Nat.le_refl _) k os
set_option maxRecDepth 100000 in
set_option maxHeartbeats 4000000 in
theorem toFloat_zero {s:ByteArray} {neg:Bool} {x:Int} (hsp:SpAt s neg [] x) (w:World) (hE:NEnv w):
  Calls Tryz.prog 36 #[.string s] w fun e w'=>e= .returned (.float .f64 (0+sgn neg))∧Below w.heap.size w w':=by
 have HSp:=Lib.hid (hsp w)
 have HC:=Lib.hid (fun w=>copysign_neg 0 w (by omega))
 clear hsp hE
 go_enter Tryz.func36,Tryz.ntmps36
 go_wp2_with fail
 refine HSp.out.mono ?_
 rintro e w4 ⟨A,c,rfl,hr,hb4⟩
 have hb5:Below w.heap.size w (w4.alloc (.cells #[.bool neg,.slice A 0 c,.int .i64 x] 118)):=hb4.alloc hb4.size _
 have hg5:=heap_alloc_new w4 (.cells #[.bool neg,.slice A 0 c,.int .i64 x] 118)
 have m0:=blk_cell hg5 (i:=0) (by simp)
 have m1:=blk_cell hg5 (i:=1) (by simp)
 have m2:=blk_cell hg5 (i:=2) (by simp)
 simp only [List.getElem_toArray,List.getElem_cons_zero,List.getElem_cons_succ] at m0 m1 m2
 have HB5:=Lib.hid hb5
 clear hb5 hb4 hr hg5
 cases neg with
 | true=>
   go_wp2_with fail
   refine (HC.out _).mono ?_
   rintro e8 w8 ⟨rfl,rfl⟩
   go_wp2_with fail
   go_ret
   exact ⟨rfl,HB5.out⟩
 | false=>
   go_wp2_with fail
   go_ret
   exact ⟨rfl,HB5.out⟩
end Go.Proofs.YtjhhdnnblcbdbaaGreatDoor.pg
