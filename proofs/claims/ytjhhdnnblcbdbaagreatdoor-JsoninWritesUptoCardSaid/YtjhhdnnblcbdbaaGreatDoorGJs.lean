/- What Read defers: nothing, or the fault's place and kind. jsonin.Read: the whole reader. Printed by gen_jv.py. -/
import Derived.Test.YtjhhdnnblcbdbaaGreatDoorGJq
import Derived.Recover
import Derived.Defers
import Derived.Laws.Pointers
section
namespace Go.Proofs.YtjhhdnnblcbdbaaGreatDoor.jw
open Go.RowKit mem val jp
set_option linter.unusedVariables false
attribute [local go_sem] run_store_float
theorem ta_none:∀w:World,(Instr.typeAssert .nilIface 20 65 true).run Tryz.prog w= .ok (.tuple #[.agg #[.int .i64 0,.int .i64 0],.bool false]) w:=fun w=>by kernel_rfl
theorem idleR (p q r:Addr) (w:World):CallsD Tryz.prog 26 #[.pointer (some p),.pointer (some q),.pointer (some r)] .returning w fun e u' w'=>e= .returned (.tuple #[])∧u'= .returning∧w'=w.alloc (.cells #[.int .i64 0,.int .i64 0] 65):=by
 have hta:=ta_none
 refine callsD_of_wpS Tryz.func26 rfl fun c₀ cs hu=>?_
 apply wpS_seq
 apply wpS_region
 simp [wpOpsS,go_sem,recoverD,hu,Tryz.ntmps26,Exit.thenS,hta]
 apply wpS_seq
 apply wpS_region
 simp [wpOpsS,go_sem,Exit.thenS]
 refine wpS_cond (t:=false) (by simp [Act.eval,Array.replicate]) ?_
 simp only [Bool.false_eq_true,if_false]
 refine wpS_of_wp (wp_skip ?_)
 cases c₀
 simp_all [bodyPostS,results,Tryz.results26]
def fv (a k:Int):Value:= .iface 65 (.agg #[.int .i64 a,.int .i64 k])
def CatchPost (a k:Int) (B p q r:Nat) (w:World) (e:Ending) (u:FrameMode) (w':World):Prop:=
 e= .returned (.tuple #[])∧u= .panicking [{ v:=fv a k,recovered:=true}]∧w'.heap[p]? =some (.cells #[.int .i64 0,.bool false,.int .i64 0,.float .f64 0,.string { data:= #[]},.string { data:= #[]},.slice none 0 0,.slice none 0 0] 29)∧w'.heap[q]? =some (.cells #[.int .i64 a] 3 (0,0))∧w'.heap[r]? =some (.cells #[.int .i64 k] 30 (0,0))∧Below B w w'
theorem catch_end {w W:World} {B p q r:Nat} {a k y z:Int} {x0 x1 x2 x3 x4 x5 x6 x7:Value} (hpq:p+1=q) (hqr:q+1=r) (hBp:B≤p) (hp:W.heap[p]? =some (.cells #[x0,x1,x2,x3,x4,x5,x6,x7] 29)) (hq:W.heap[q]? =some (.cells #[.int .i64 y] 3 (0,0))) (hr:W.heap[r]? =some (.cells #[.int .i64 z] 30 (0,0))) (hB:Below B w W):
  ((((((((((W.setCell ⟨p,0,none⟩ (.int .i64 0)).setCell ⟨p,1,none⟩ (.bool false)).setCell ⟨p,2,none⟩ (.int .i64 0)).setCell ⟨p,3,none⟩ (.float .f64 0)).setCell ⟨p,4,none⟩ (.string { data:= #[]})).setCell ⟨p,5,none⟩ (.string { data:= #[]})).setCell ⟨p,6,none⟩ (.slice none 0 0)).setCell ⟨p,7,none⟩ (.slice none 0 0)).setCell ⟨q,0,none⟩ (.int .i64 a)).setCell ⟨r,0,none⟩ (.int .i64 k)).drew.heap[p]? =some (.cells #[.int .i64 0,.bool false,.int .i64 0,.float .f64 0,.string { data:= #[]},.string { data:= #[]},.slice none 0 0,.slice none 0 0] 29)∧((((((((((W.setCell ⟨p,0,none⟩ (.int .i64 0)).setCell ⟨p,1,none⟩ (.bool false)).setCell ⟨p,2,none⟩ (.int .i64 0)).setCell ⟨p,3,none⟩ (.float .f64 0)).setCell ⟨p,4,none⟩ (.string { data:= #[]})).setCell ⟨p,5,none⟩ (.string { data:= #[]})).setCell ⟨p,6,none⟩ (.slice none 0 0)).setCell ⟨p,7,none⟩ (.slice none 0 0)).setCell ⟨q,0,none⟩ (.int .i64 a)).setCell ⟨r,0,none⟩ (.int .i64 k)).drew.heap[q]? =some (.cells #[.int .i64 a] 3 (0,0))∧((((((((((W.setCell ⟨p,0,none⟩ (.int .i64 0)).setCell ⟨p,1,none⟩ (.bool false)).setCell ⟨p,2,none⟩ (.int .i64 0)).setCell ⟨p,3,none⟩ (.float .f64 0)).setCell ⟨p,4,none⟩ (.string { data:= #[]})).setCell ⟨p,5,none⟩ (.string { data:= #[]})).setCell ⟨p,6,none⟩ (.slice none 0 0)).setCell ⟨p,7,none⟩ (.slice none 0 0)).setCell ⟨q,0,none⟩ (.int .i64 a)).setCell ⟨r,0,none⟩ (.int .i64 k)).drew.heap[r]? =some (.cells #[.int .i64 k] 30 (0,0))∧Below B w ((((((((((W.setCell ⟨p,0,none⟩ (.int .i64 0)).setCell ⟨p,1,none⟩ (.bool false)).setCell ⟨p,2,none⟩ (.int .i64 0)).setCell ⟨p,3,none⟩ (.float .f64 0)).setCell ⟨p,4,none⟩ (.string { data:= #[]})).setCell ⟨p,5,none⟩ (.string { data:= #[]})).setCell ⟨p,6,none⟩ (.slice none 0 0)).setCell ⟨p,7,none⟩ (.slice none 0 0)).setCell ⟨q,0,none⟩ (.int .i64 a)).setCell ⟨r,0,none⟩ (.int .i64 k)).drew:=by
 obtain ⟨s1,s2,s3⟩:=store8 hp (.int .i64 0) (.bool false) (.int .i64 0) (.float .f64 0) (.string { data:= #[]}) (.string { data:= #[]}) (.slice none 0 0) (.slice none 0 0)
 have h8:=s3 (p+1) B hBp
 have hB8:Below B w ((((((((W.setCell ⟨p,0,none⟩ (.int .i64 0)).setCell ⟨p,1,none⟩ (.bool false)).setCell ⟨p,2,none⟩ (.int .i64 0)).setCell ⟨p,3,none⟩ (.float .f64 0)).setCell ⟨p,4,none⟩ (.string { data:= #[]})).setCell ⟨p,5,none⟩ (.string { data:= #[]})).setCell ⟨p,6,none⟩ (.slice none 0 0)).setCell ⟨p,7,none⟩ (.slice none 0 0)):=hB.trans ⟨h8.os,h8.tape,h8.output,h8.size,fun j hj=>h8.block j hj (by omega)⟩
 have hq8:=(s2 q (by omega)).trans hq
 have hr8:=(s2 r (by omega)).trans hr
 generalize ((((((((W.setCell ⟨p,0,none⟩ (.int .i64 0)).setCell ⟨p,1,none⟩ (.bool false)).setCell ⟨p,2,none⟩ (.int .i64 0)).setCell ⟨p,3,none⟩ (.float .f64 0)).setCell ⟨p,4,none⟩ (.string { data:= #[]})).setCell ⟨p,5,none⟩ (.string { data:= #[]})).setCell ⟨p,6,none⟩ (.slice none 0 0)).setCell ⟨p,7,none⟩ (.slice none 0 0))=w8 at*
 refine ⟨?_,?_,?_,?_⟩
 ·show ((w8.setCell ⟨q,0,none⟩ (.int .i64 a)).setCell ⟨r,0,none⟩ (.int .i64 k)).heap[p]? =_
  exact blk_far (blk_far s1 (show p≠q by omega) _) (show p≠r by omega) _
 ·show ((w8.setCell ⟨q,0,none⟩ (.int .i64 a)).setCell ⟨r,0,none⟩ (.int .i64 k)).heap[q]? =_
  refine blk_far ?_ (show q≠r by omega) _
  have:=blk_set hq8 0 (.int .i64 a)
  simpa using this
 ·show ((w8.setCell ⟨q,0,none⟩ (.int .i64 a)).setCell ⟨r,0,none⟩ (.int .i64 k)).heap[r]? =_
  have:=blk_set (blk_far hr8 (show r≠q by omega) (a:=⟨q,0,none⟩) (.int .i64 a)) 0 (.int .i64 k)
  simpa using this
 ·exact ((hB8.setCell (show B≤q by omega) _).setCell (show B≤r by omega) _).drew
set_option maxRecDepth 100000 in
set_option maxHeartbeats 1000000 in
theorem catchR (a k:Int) (x0 x1 x2 x3 x4 x5 x6 x7:Value) (y z:Int) (B p q r:Nat) (w:World) (hpq:p+1=q) (hqr:q+1=r) (hBp:B≤p) (hp:w.heap[p]? =some (.cells #[x0,x1,x2,x3,x4,x5,x6,x7] 29)) (hq:w.heap[q]? =some (.cells #[.int .i64 y] 3 (0,0))) (hr:w.heap[r]? =some (.cells #[.int .i64 z] 30 (0,0))):
  CallsD Tryz.prog 26 #[.pointer (some ⟨p,0,none⟩),.pointer (some ⟨q,0,none⟩),.pointer (some ⟨r,0,none⟩)] (.panicking [{ v:=fv a k,recovered:=false}]) w (CatchPost a k B p q r w):=by
 have hta:∀w:World,(Instr.typeAssert (.iface 65 (.agg #[.int .i64 a,.int .i64 k])) 20 65 true).run Tryz.prog w= .ok (.tuple #[.agg #[.int .i64 a,.int .i64 k],.bool true]) w:=fun w=>by kernel_rfl
 have hrl:r<w.heap.size:=blk_lt hr
 have hbx:=heap_alloc_new w (.cells #[.int .i64 a,.int .i64 k] 65)
 have hpA:=blk_alloc hp (.cells #[.int .i64 a,.int .i64 k] 65)
 have hqA:=blk_alloc hq (.cells #[.int .i64 a,.int .i64 k] 65)
 have hrA:=blk_alloc hr (.cells #[.int .i64 a,.int .i64 k] 65)
 have hB:Below B w (w.alloc (.cells #[.int .i64 a,.int .i64 k] 65)):=(Below.refl _ _).alloc (by omega) _
 have HA:=Lib.hid (And.intro hpA (And.intro hqA (And.intro hrA hB)))
 have b0:=blk_cell hbx (i:=0) (by simp)
 have b1:=blk_cell hbx (i:=1) (by simp)
 simp only [List.getElem_toArray,List.getElem_cons_zero,List.getElem_cons_succ] at b0 b1
 obtain ⟨m0,m1,m2,m3,m4,m5,m6,m7⟩:=blk8 hpA
 have j0:=blk_frozen hpA 0
 have j1:=blk_frozen hpA 1
 have j2:=blk_frozen hpA 2
 have j3:=blk_frozen hpA 3
 have j4:=blk_frozen hpA 4
 have j5:=blk_frozen hpA 5
 have j6:=blk_frozen hpA 6
 have j7:=blk_frozen hpA 7
 have q0:=blk_cell hqA (i:=0) (by simp)
 have q1:=blk_frozen hqA 0
 have r0:=blk_cell hrA (i:=0) (by simp)
 have r1:=blk_frozen hrA 0
 simp only [List.getElem_toArray,List.getElem_cons_zero] at q0 r0
 refine callsD_of_wpS Tryz.func26 rfl fun c₀ cs hu=>?_
 unfold fv at hu
 apply wpS_seq
 apply wpS_region
 simp [wpOpsS,go_sem,recoverD,hu,Tryz.ntmps26,Exit.thenS,hta]
 apply wpS_seq
 apply wpS_region
 simp [wpOpsS,go_sem,Exit.thenS]
 refine wpS_cond (t:=true) (by simp [Act.eval,Array.replicate]) ?_
 simp only [if_true]
 refine wpS_of_wp ?_
 clear hp hq hr hpA hqA hrA hbx hB
 have HE:=Lib.hid (catch_end (a:=a) (k:=k) hpq hqr hBp HA.out.1 HA.out.2.1 HA.out.2.2.1 HA.out.2.2.2)
 clear HA
 go_region
 all_goals
  refine ⟨rfl,_,rfl,.tuple #[],by simp [results,Tryz.results26],rfl,rfl,?_,?_,?_,?_⟩
  ·exact HE.out.1
  ·exact HE.out.2.1
  ·exact HE.out.2.2.1
  ·exact HE.out.2.2.2
end Go.Proofs.YtjhhdnnblcbdbaaGreatDoor.jw
end
section
namespace Go.Proofs.YtjhhdnnblcbdbaaGreatDoor.jw
open Go.RowKit mem val jp
set_option linter.unusedVariables false
attribute [local go_sem] run_store_float
def RdQ (r:Rs V) (w:World) (e:Ending) (w':World):Prop:=Below w.heap.size w w'∧match r with
 | .ok v k=>∃cs,e= .returned (.tuple #[.agg cs.toArray,.int .i64 0,.int .i64 0])∧IsV w' (New w.heap.size w') v cs
 | .er k x=>e= .returned (.tuple #[.agg #[.int .i64 0,.bool false,.int .i64 0,.float .f64 0,.string { data:= #[]},.string { data:= #[]},.slice none 0 0,.slice none 0 0],.int .i64 (k:Int),.int .i64 x])
def dep (d:Int):Nat:=(min (max d 0) 200).toNat
theorem rd_split {F:Nf} {N d:Nat} {l:List Nat} {j:Nat} (hj:cnt l=j):rd F N d l=((bnd (value F N d) fun v=>bnd blanks fun _ l=>if l=[] then .ok v 0 else .er 0 50) (l.drop j)).sh j:=by
 unfold rd
 rw [bnd_okr (a:=()) (j:=j) (by rw [←hj];rfl)]
theorem heap4 (w:World) (o1 o2 o3 o4:Obj):((((w.alloc o1).alloc o2).alloc o3).alloc o4).heap[w.heap.size]? =some o1∧((((w.alloc o1).alloc o2).alloc o3).alloc o4).heap[w.heap.size+1]? =some o2∧((((w.alloc o1).alloc o2).alloc o3).alloc o4).heap[w.heap.size+1+1]? =some o3∧((((w.alloc o1).alloc o2).alloc o3).alloc o4).heap[w.heap.size+1+1+1]? =some o4:=by
 refine ⟨blk_alloc (blk_alloc (blk_alloc (heap_alloc_new _ _) _) _) _,blk_alloc (blk_alloc ?_ _) _,blk_alloc ?_ _,?_⟩
 ·have:=heap_alloc_new (w.alloc o1) o2
  simpa using this
 ·have:=heap_alloc_new ((w.alloc o1).alloc o2) o3
  simpa using this
 ·have:=heap_alloc_new (((w.alloc o1).alloc o2).alloc o3) o4
  simpa using this
def RdF (w w9:World) (x:V) (cs:List Value):Prop:=
 (((w9.setCell ⟨w.heap.size+1,0,none⟩ (.int .i64 0)).setCell ⟨w.heap.size+1+1,0,none⟩ (.int .i64 0)).alloc (.cells #[.int .i64 0,.int .i64 0] 65)).heap[w.heap.size]? =some (.cells cs.toArray 29 (0,0))∧(((w9.setCell ⟨w.heap.size+1,0,none⟩ (.int .i64 0)).setCell ⟨w.heap.size+1+1,0,none⟩ (.int .i64 0)).alloc (.cells #[.int .i64 0,.int .i64 0] 65)).heap[w.heap.size+1]? =some (.cells #[.int .i64 0] 3 (0,0))∧(((w9.setCell ⟨w.heap.size+1,0,none⟩ (.int .i64 0)).setCell ⟨w.heap.size+1+1,0,none⟩ (.int .i64 0)).alloc (.cells #[.int .i64 0,.int .i64 0] 65)).heap[w.heap.size+1+1]? =some (.cells #[.int .i64 0] 30 (0,0))∧IsV (((w9.setCell ⟨w.heap.size+1,0,none⟩ (.int .i64 0)).setCell ⟨w.heap.size+1+1,0,none⟩ (.int .i64 0)).alloc (.cells #[.int .i64 0,.int .i64 0] 65)) (New w.heap.size (((w9.setCell ⟨w.heap.size+1,0,none⟩ (.int .i64 0)).setCell ⟨w.heap.size+1+1,0,none⟩ (.int .i64 0)).alloc (.cells #[.int .i64 0,.int .i64 0] 65))) x cs∧Below w.heap.size w (((w9.setCell ⟨w.heap.size+1,0,none⟩ (.int .i64 0)).setCell ⟨w.heap.size+1+1,0,none⟩ (.int .i64 0)).alloc (.cells #[.int .i64 0,.int .i64 0] 65))
theorem rdF_of {w w9:World} {x:V} {cs:List Value} {y z:Value} (h1:w9.heap[w.heap.size]? =some (.cells cs.toArray 29 (0,0))) (h2:w9.heap[w.heap.size+1]? =some (.cells #[y] 3 (0,0))) (h3:w9.heap[w.heap.size+1+1]? =some (.cells #[z] 30 (0,0)))
  (hv:IsV w9 (fun b=>w.heap.size+4≤b∧b<w9.heap.size) x cs) (hb:Below w.heap.size w w9) (hs:w.heap.size+4≤w9.heap.size):RdF w w9 x cs:=by
 refine ⟨blk_alloc (blk_far (blk_far h1 (show w.heap.size≠w.heap.size+1 by omega) _) (show w.heap.size≠w.heap.size+1+1 by omega) _) _,blk_alloc (blk_far ?_ (show w.heap.size+1≠w.heap.size+1+1 by omega) _) _,blk_alloc ?_ _,?_,?_⟩
 ·have:=blk_set h2 0 (.int .i64 0)
  simpa using this
 ·have:=blk_set (blk_far h3 (show w.heap.size+1+1≠w.heap.size+1 by omega) (a:=⟨w.heap.size+1,0,none⟩) (.int .i64 0)) 0 (.int .i64 0)
  simpa using this
 ·refine hv.keep (fun p hp=>World.cell?_of_block ?_) (fun b hb=>⟨by have:=hb.1;omega,by have:=hb.2;simp [World.setCell];omega⟩)
  rw [Below.heap_alloc _ _ _ (by simp [World.setCell];exact hp.2),Below.heap_setCell _ _ _ _ (show p.block≠w.heap.size+1+1 by have:=hp.1;omega),Below.heap_setCell _ _ _ _ (show p.block≠w.heap.size+1 by have:=hp.1;omega)]
 ·exact ((hb.setCell (show w.heap.size≤w.heap.size+1 by omega) _).setCell (show w.heap.size≤w.heap.size+1+1 by omega) _).alloc (by simp [World.setCell];omega) _
set_option maxRecDepth 100000 in
set_option maxHeartbeats 1600000 in
theorem read_any {F:Nf} (A:Option Addr) (n c:Nat) (src:List Nat) (d:Int) (N:Nat) (w:World) (hl:src.length=n) (hn:n≤1099511627776) (htok:∀p,pE (src.drop p)≤1100000) (hby:∀x∈src,x<256) (hrd:Rd w w.heap.size A (us src)) (hnum:NumOf F w) (hnf:∀l,(F l).2.2.2≠50∧(F l).2.2.2≠71) (hnc:n≤c) (hcm:c≤maxLen) (hN:2*n<N):
  Calls Tryz.prog 13 #[.slice A n c,.int .i64 d] w (RdQ (rd F N (dep d) src) w):=by
 have hmf:∀(fn:Fn) (first cap:Array Value) (w:World),(Instr.makeFunc fn first cap).run Tryz.prog w= .ok (.func fn first cap) w:=fun _ _ _ _=>rfl
 obtain ⟨g0,g1,g2,g3⟩:=heap4 w (.cells #[.int .i64 0,.bool false,.int .i64 0,.float .f64 0,.string { data:= #[]},.string { data:= #[]},.slice none 0 0,.slice none 0 0] 29) (.cells #[.int .i64 0] 3) (.cells #[.int .i64 0] 30) (.cells #[.slice A n c,.int .i64 0,.int .i64 0,.int .i64 (min (max d 0) 200)] 69)
 have hk4:=((((Below.refl w.heap.size w).alloc (Nat.le_refl _) (.cells #[.int .i64 0,.bool false,.int .i64 0,.float .f64 0,.string { data:= #[]},.string { data:= #[]},.slice none 0 0,.slice none 0 0] 29)).alloc (by simp) (.cells #[.int .i64 0] 3)).alloc (by simp;omega) (.cells #[.int .i64 0] 30)).alloc (by simp;omega) (.cells #[.slice A n c,.int .i64 0,.int .i64 0,.int .i64 (min (max d 0) 200)] 69)
 have hs4:((((w.alloc (.cells #[.int .i64 0,.bool false,.int .i64 0,.float .f64 0,.string { data:= #[]},.string { data:= #[]},.slice none 0 0,.slice none 0 0] 29)).alloc (.cells #[.int .i64 0] 3)).alloc (.cells #[.int .i64 0] 30)).alloc (.cells #[.slice A n c,.int .i64 0,.int .i64 0,.int .i64 (min (max d 0) 200)] 69)).heap.size=w.heap.size+4:=by simp
 have hdep:(dep d:Int)=min (max d 0) 200:=by unfold dep;omega
 have hdp2:(dep d:Int)≤200:=by omega
 go_enter_defers Tryz.func13,Tryz.ntmps13
 go_wp2_with fail
 generalize ((((w.alloc (.cells #[.int .i64 0,.bool false,.int .i64 0,.float .f64 0,.string { data:= #[]},.string { data:= #[]},.slice none 0 0,.slice none 0 0] 29)).alloc (.cells #[.int .i64 0] 3)).alloc (.cells #[.int .i64 0] 30)).alloc (.cells #[.slice A n c,.int .i64 0,.int .i64 0,.int .i64 (min (max d 0) 200)] 69))=w4 at*
 rw [←hdep] at g3
 have HCx:Cx F w (w.heap.size+1+1+1) A n src:=⟨hl,hn,htok,hby,hrd,hnum,hnf,by omega⟩
 have HC':=Lib.hid HCx
 have hr4:Rdr w4 (w.heap.size+1+1+1) A n c ((0:Nat):Int) 0 (dep d:Int):=g3
 have HK4:Hid (Kp (w.heap.size+1+1+1) w.heap.size w w4):=Lib.hid (Kp.of hk4)
 have HG0:=Lib.hid g0
 have HG1:=Lib.hid g1
 have HG2:=Lib.hid g2
 have HV:=value_all HCx (c:=c) (dp:=(dep d:Int)) hnc hcm hdp2 N
 have HVv:=Lib.hid HV
 obtain ⟨j,hj⟩:∃j,cnt src=j:=⟨_,rfl⟩
 have HS:=Lib.hid (rd_split (F:=F) (N:=N) (d:=dep d) hj)
 have hjn:j≤n:=by have:=cnt_le' src;omega
 have HBl:=Lib.hid (blanks_any HCx (c:=c) (o:=0) (dp:=(dep d:Int)) w4 0 (HK4.out.below (by omega)) hr4 (Nat.zero_le _))
 have hNj:2*(n-j)<N:=by omega
 clear g0 g1 g2 g3 hk4 hr4 HV hrd hnum hnf htok hby hdp2 HCx
 refine HBl.out.mono ?_
 rintro e w5 hP
 obtain ⟨v5,rfl,rfl,hr5,hk5⟩:=Pst.ok (a:=()) (k:=j) (by rw [←hj];exact hP)
 rw [Nat.zero_add] at hr5
 have HG05:=Lib.hid (blk_kp HG0.out hk5 (by omega))
 have HG15:=Lib.hid (blk_kp HG1.out hk5 (by omega))
 have HG25:=Lib.hid (blk_kp HG2.out hk5 (by omega))
 have HK5:=Lib.hid (HK4.out.next hk5 HK4.out.size)
 have hs5:w.heap.size+4≤w5.heap.size:=by have:=hk5.size;omega
 have HR5:=Lib.hid hr5
 clear hP hr5 hk5 HG0 HG1 HG2 HK4 HBl
 go_wp2_with fail
 refine (HVv.out (dep d) 0 w5 j (by omega) (by omega) (HK5.out.below (by omega)) HR5.out hjn hNj).mono ?_
 rintro e w6 hP
 cases hD:value F N (dep d) (src.drop j) with
 | er k0 e0=>
   rw [hD] at hP
   obtain ⟨rfl,hk6⟩:=hP.er
   have HE2:Hid (rd F N (dep d) src= .er (j+k0) e0):=Lib.hid (by rw [HS.out,bnd_err hD];rfl)
   have HF:=Lib.hid ((HK5.out.next hk6 HK5.out.size).below (by omega:w.heap.size≤w.heap.size+1+1+1))
   have HG06:=Lib.hid (blk_kp HG05.out hk6 (by omega))
   have HG16:=Lib.hid (blk_kp HG15.out hk6 (by omega))
   have HG26:=Lib.hid (blk_kp HG25.out hk6 (by omega))
   clear hP hk6 hD HS HG05 HG15 HG25 HK5 HR5 HVv
   unfold flt
   go_wp2
   refine leaves_cons (f:=26) (args:= #[.pointer (some ⟨w.heap.size,0,none⟩),.pointer (some ⟨w.heap.size+1,0,none⟩),.pointer (some ⟨w.heap.size+1+1,0,none⟩)]) (by simp) (by simp [go_sem]) ?_
   refine (catchR _ _ _ _ _ _ _ _ _ _ 0 0 w.heap.size w.heap.size (w.heap.size+1) (w.heap.size+1+1) _ rfl rfl (Nat.le_refl _) HG06.out HG16.out HG26.out).mono ?_
   rintro e u' w'' ⟨rfl,rfl,k1,k2,k3,hb8⟩
   obtain ⟨o0,o1,o2,o3,o4,o5,o6,o7⟩:=blk8 k1
   have p0:=cell_of_row w'' (w.heap.size+1) 0 _ _ (0,0) k2
   have p1:=cell_of_row w'' (w.heap.size+1+1) 0 _ _ (0,0) k3
   simp at p0 p1
   simp [Leaves,settle,results,Tryz.results13,go_sem,o0,o1,o2,o3,o4,o5,o6,o7,p0,p1]
   rw [HE2.out]
   exact ⟨HF.out.trans hb8,rfl⟩
 | ok x k0=>
   rw [hD] at hP
   obtain ⟨v6,rfl,⟨cs3,rfl,hv6⟩,hr6,hk6⟩:=hP.ok
   have hbl:j+k0≤n:=by
    have h1:=((Loc.all HC'.out.nf N).1 (dep d)).okl _ _ _ hD
    rw [List.length_drop,HC'.out.len] at h1
    omega
   have HS2:=Lib.hid (show rd F N (dep d) src=((bnd blanks fun _ l=>if l=[] then .ok x 0 else .er 0 50) (src.drop (j+k0))).sh (j+k0) by rw [HS.out,bnd_okr hD,sh_sh,List.drop_drop])
   have HG06:=blk_kp HG05.out hk6 (by omega)
   have HG16:=Lib.hid (blk_kp HG15.out hk6 (by omega))
   have HG26:=Lib.hid (blk_kp HG25.out hk6 (by omega))
   have HK6:=Lib.hid (HK5.out.next hk6 HK5.out.size)
   have hs6:w.heap.size+4≤w6.heap.size:=by have:=hk6.size;omega
   have HR6:=Lib.hid hr6
   have HVX:=Lib.hid hv6
   obtain ⟨x',hx'⟩:∃x',x'=x:=⟨_,rfl⟩
   rw [←hx'] at HVX HS2
   obtain ⟨k2,b2,i2,f2,t2,y2,is2,fs2⟩:=x
   simp only [IsV] at hv6
   obtain ⟨A3,c3,A3',c3',rfl,_⟩:=hv6
   obtain ⟨m0,m1,m2,m3,m4,m5,m6,m7⟩:=blk8 HG06
   have j0:=blk_frozen HG06 0
   have j1:=blk_frozen HG06 1
   have j2:=blk_frozen HG06 2
   have j3:=blk_frozen HG06 3
   have j4:=blk_frozen HG06 4
   have j5:=blk_frozen HG06 5
   have j6:=blk_frozen HG06 6
   have j7:=blk_frozen HG06 7
   obtain ⟨s1,s2,s3⟩:=store8 HG06 (.int .i64 k2) (.bool b2) (.int .i64 i2) (.float .f64 f2) (.string t2) (.string y2) (.slice A3 is2.length c3) (.slice A3' fs2.length c3')
   have s4:=s3 (w.heap.size+1+1+1) w.heap.size (Nat.le_refl _)
   have HSt:=Lib.hid (And.intro s1 (And.intro s2 s4))
   clear hP hk6 hr6 hD hx' HS HG05 HG15 HG25 HK5 HR5 HVv HG06 s1 s2 s3 s4
   go_wp2_with fail
   generalize ((((((((w6.setCell ⟨w.heap.size,0,none⟩ (.int .i64 k2)).setCell ⟨w.heap.size,1,none⟩ (.bool b2)).setCell ⟨w.heap.size,2,none⟩ (.int .i64 i2)).setCell ⟨w.heap.size,3,none⟩ (.float .f64 f2)).setCell ⟨w.heap.size,4,none⟩ (.string t2)).setCell ⟨w.heap.size,5,none⟩ (.string y2)).setCell ⟨w.heap.size,6,none⟩ (.slice A3 is2.length c3)).setCell ⟨w.heap.size,7,none⟩ (.slice A3' fs2.length c3'))=w7 at*
   obtain ⟨s1,s2,s4⟩:=HSt.out
   have HG07:=Lib.hid s1
   have HG17:=Lib.hid ((s2 _ (by omega)).trans HG16.out)
   have HG27:=Lib.hid ((s2 _ (by omega)).trans HG26.out)
   have HR7:=Lib.hid (HR6.out.keep (s2 _ (by omega)))
   have HK7:=Lib.hid (HK6.out.trans s4)
   have hs7:w.heap.size+4≤w7.heap.size:=by have:=s4.size;omega
   have HV7:Hid (IsV w7 (fun b=>w.heap.size+4≤b∧b<w7.heap.size) x' [.int .i64 k2,.bool b2,.int .i64 i2,.float .f64 f2,.string t2,.string y2,.slice A3 is2.length c3,.slice A3' fs2.length c3']):=Lib.hid (HVX.out.keep (fun p hp=>World.cell?_of_block (s2 p.block (by have:=hp.1;omega))) (fun b hb=>⟨by have:=hb.1;omega,by have:=hb.2;have:=s4.size;omega⟩))
   clear m0 m1 m2 m3 m4 m5 m6 m7 j0 j1 j2 j3 j4 j5 j6 j7 s1 s2 s4 HSt HG16 HG26 HR6 HK6 HVX
   refine (blanks_any HC'.out w7 (j+k0) (HK7.out.below (by omega)) HR7.out hbl).mono ?_
   rintro e w8 hP
   obtain ⟨j2,hj2⟩:∃j2,cnt (src.drop (j+k0))=j2:=⟨_,rfl⟩
   obtain ⟨v8,rfl,rfl,hr8,hk8⟩:=Pst.ok (a:=()) (k:=j2) (by rw [←hj2];exact hP)
   have hb8:j+k0+j2≤n:=by
    have:=cnt_le' (src.drop (j+k0))
    rw [List.length_drop,HC'.out.len] at this
    omega
   have HS3:=Lib.hid (show rd F N (dep d) src=((if src.drop (j+k0+j2)=[] then (.ok x' 0:Rs V) else .er 0 50)).sh (j+k0+j2) by rw [HS2.out,bnd_okr (a:=()) (j:=j2) (by rw [←hj2];rfl),sh_sh,List.drop_drop])
   have HG08:=blk_kp HG07.out hk8 (by omega)
   have HG18:=blk_kp HG17.out hk8 (by omega)
   have HG28:=blk_kp HG27.out hk8 (by omega)
   have HK8:=Lib.hid (HK7.out.next hk8 HK7.out.size)
   have hs8:w.heap.size+4≤w8.heap.size:=by have:=hk8.size;omega
   have HR8:=Lib.hid hr8
   have HV8:Hid (IsV w8 (fun b=>w.heap.size+4≤b∧b<w8.heap.size) x' [.int .i64 k2,.bool b2,.int .i64 i2,.float .f64 f2,.string t2,.string y2,.slice A3 is2.length c3,.slice A3' fs2.length c3']):=Lib.hid (HV7.out.keep (fun p hp=>hk8.cell hp.2 (by have:=hp.1;omega)) (fun b hb=>⟨hb.1,by have:=hb.2;have:=hk8.size;omega⟩))
   clear hP hj2 hr8 hk8 HS2 HG07 HG17 HG27 HR7 HK7 HV7
   obtain ⟨cx0,cx1,cx2,cx3⟩:=HR8.out.cells
   by_cases hend:j+k0+j2<n
   ·have HE2:Hid (rd F N (dep d) src= .er (j+k0+j2) 50):=Lib.hid (by
     rw [HS3.out,if_neg (drop_ne.2 (by rw [HC'.out.len];exact hend))]
     rfl)
    have hlt:((j+k0+j2:Nat):Int)<(n:Int):=by omega
    have HF:=Lib.hid (HK8.out.below (by omega:w.heap.size≤w.heap.size+1+1+1))
    have HG0':=Lib.hid HG08
    have HG1':=Lib.hid HG18
    have HG2':=Lib.hid HG28
    clear HS3 HG08 HG18 HG28 HV8 HK8
    go_wp2_with fail
    refine (stop_any _ (j+k0+j2) HR8.out).mono ?_
    rintro e w' ⟨rfl,rfl⟩
    unfold flt
    go_wp2
    refine leaves_cons (f:=26) (args:= #[.pointer (some ⟨w.heap.size,0,none⟩),.pointer (some ⟨w.heap.size+1,0,none⟩),.pointer (some ⟨w.heap.size+1+1,0,none⟩)]) (by simp) (by simp [go_sem]) ?_
    refine (catchR _ _ _ _ _ _ _ _ _ _ 0 0 w.heap.size w.heap.size (w.heap.size+1) (w.heap.size+1+1) _ rfl rfl (Nat.le_refl _) HG0'.out HG1'.out HG2'.out).mono ?_
    rintro e u' w'' ⟨rfl,rfl,k1,k2,k3,hb8⟩
    obtain ⟨o0,o1,o2,o3,o4,o5,o6,o7⟩:=blk8 k1
    have p0:=cell_of_row w'' (w.heap.size+1) 0 _ _ (0,0) k2
    have p1:=cell_of_row w'' (w.heap.size+1+1) 0 _ _ (0,0) k3
    simp at p0 p1
    simp [Leaves,settle,results,Tryz.results13,go_sem,o0,o1,o2,o3,o4,o5,o6,o7,p0,p1]
    rw [HE2.out]
    exact ⟨HF.out.trans hb8,rfl⟩
   ·have HE2:Hid (rd F N (dep d) src= .ok x' (j+k0+j2)):=Lib.hid (by
     rw [HS3.out,if_pos (List.drop_eq_nil_of_le (by rw [HC'.out.len];omega))]
     rfl)
    have hlt:¬((j+k0+j2:Nat):Int)<(n:Int):=by omega
    clear HS3
    obtain ⟨m0,m1,m2,m3,m4,m5,m6,m7⟩:=blk8 HG08
    have j0:=blk_frozen HG08 0
    have j1:=blk_frozen HG08 1
    have j2:=blk_frozen HG08 2
    have j3:=blk_frozen HG08 3
    have j4:=blk_frozen HG08 4
    have j5:=blk_frozen HG08 5
    have j6:=blk_frozen HG08 6
    have j7:=blk_frozen HG08 7
    have q0:=blk_cell HG18 (i:=0) (by simp)
    have q1:=blk_frozen HG18 0
    have r0:=blk_cell HG28 (i:=0) (by simp)
    have r1:=blk_frozen HG28 0
    simp only [List.getElem_toArray,List.getElem_cons_zero] at q0 r0
    obtain ⟨s1,s2,s3⟩:=store8 HG08 (.int .i64 k2) (.bool b2) (.int .i64 i2) (.float .f64 f2) (.string t2) (.string y2) (.slice A3 is2.length c3) (.slice A3' fs2.length c3')
    have s4:=s3 (w.heap.size+1+1+1) w.heap.size (Nat.le_refl _)
    have hq9:=(s2 (w.heap.size+1) (by omega)).trans HG18
    have hr9:=(s2 (w.heap.size+1+1) (by omega)).trans HG28
    have hv9:IsV ((((((((w8.setCell ⟨w.heap.size,0,none⟩ (.int .i64 k2)).setCell ⟨w.heap.size,1,none⟩ (.bool b2)).setCell ⟨w.heap.size,2,none⟩ (.int .i64 i2)).setCell ⟨w.heap.size,3,none⟩ (.float .f64 f2)).setCell ⟨w.heap.size,4,none⟩ (.string t2)).setCell ⟨w.heap.size,5,none⟩ (.string y2)).setCell ⟨w.heap.size,6,none⟩ (.slice A3 is2.length c3)).setCell ⟨w.heap.size,7,none⟩ (.slice A3' fs2.length c3')) (fun b=>w.heap.size+4≤b∧b<((((((((w8.setCell ⟨w.heap.size,0,none⟩ (.int .i64 k2)).setCell ⟨w.heap.size,1,none⟩ (.bool b2)).setCell ⟨w.heap.size,2,none⟩ (.int .i64 i2)).setCell ⟨w.heap.size,3,none⟩ (.float .f64 f2)).setCell ⟨w.heap.size,4,none⟩ (.string t2)).setCell ⟨w.heap.size,5,none⟩ (.string y2)).setCell ⟨w.heap.size,6,none⟩ (.slice A3 is2.length c3)).setCell ⟨w.heap.size,7,none⟩ (.slice A3' fs2.length c3')).heap.size) x' [.int .i64 k2,.bool b2,.int .i64 i2,.float .f64 f2,.string t2,.string y2,.slice A3 is2.length c3,.slice A3' fs2.length c3']:=HV8.out.keep (fun p hp=>World.cell?_of_block (s2 p.block (by have:=hp.1;omega))) (fun b hb=>⟨by have:=hb.1;omega,by have:=hb.2;have:=s4.size;omega⟩)
    have hk9:=HK8.out.trans s4
    have hs9:w.heap.size+4≤((((((((w8.setCell ⟨w.heap.size,0,none⟩ (.int .i64 k2)).setCell ⟨w.heap.size,1,none⟩ (.bool b2)).setCell ⟨w.heap.size,2,none⟩ (.int .i64 i2)).setCell ⟨w.heap.size,3,none⟩ (.float .f64 f2)).setCell ⟨w.heap.size,4,none⟩ (.string t2)).setCell ⟨w.heap.size,5,none⟩ (.string y2)).setCell ⟨w.heap.size,6,none⟩ (.slice A3 is2.length c3)).setCell ⟨w.heap.size,7,none⟩ (.slice A3' fs2.length c3')).heap.size:=by have:=s4.size;omega
    have H9:=Lib.hid (And.intro s1 (And.intro hq9 (And.intro hr9 (And.intro hv9 (And.intro hk9 hs9)))))
    clear s1 s2 s3 s4 hq9 hr9 hv9 hk9 hs9 HV8 HK8 HG08 HG18 HG28
    go_wp2
    refine leaves_cons (f:=26) (args:= #[.pointer (some ⟨w.heap.size,0,none⟩),.pointer (some ⟨w.heap.size+1,0,none⟩),.pointer (some ⟨w.heap.size+1+1,0,none⟩)]) (by simp) (by simp [go_sem]) ?_
    refine (idleR _ _ _ _).mono ?_
    rintro e u' w'' ⟨rfl,rfl,rfl⟩
    generalize ((((((((w8.setCell ⟨w.heap.size,0,none⟩ (.int .i64 k2)).setCell ⟨w.heap.size,1,none⟩ (.bool b2)).setCell ⟨w.heap.size,2,none⟩ (.int .i64 i2)).setCell ⟨w.heap.size,3,none⟩ (.float .f64 f2)).setCell ⟨w.heap.size,4,none⟩ (.string t2)).setCell ⟨w.heap.size,5,none⟩ (.string y2)).setCell ⟨w.heap.size,6,none⟩ (.slice A3 is2.length c3)).setCell ⟨w.heap.size,7,none⟩ (.slice A3' fs2.length c3'))=w9 at*
    obtain ⟨s1,hq9,hr9,hv9,hk9,hs9⟩:=H9.out
    have hF:RdF w w9 x' [.int .i64 k2,.bool b2,.int .i64 i2,.float .f64 f2,.string t2,.string y2,.slice A3 is2.length c3,.slice A3' fs2.length c3']:=rdF_of s1 hq9 hr9 hv9 (hk9.below (by omega)) hs9
    clear s1 hq9 hr9 hv9 hk9 hs9 H9
    obtain ⟨h1,h2,h3,h4,h5⟩:=hF
    obtain ⟨o0,o1,o2,o3,o4,o5,o6,o7⟩:=blk8 h1
    have p0:=cell_of_row _ (w.heap.size+1) 0 _ _ (0,0) h2
    have p1:=cell_of_row _ (w.heap.size+1+1) 0 _ _ (0,0) h3
    have h45:=Lib.hid (And.intro h4 h5)
    clear h1 h2 h3 h4 h5
    generalize (((w9.setCell ⟨w.heap.size+1,0,none⟩ (.int .i64 0)).setCell ⟨w.heap.size+1+1,0,none⟩ (.int .i64 0)).alloc (.cells #[.int .i64 0,.int .i64 0] 65))=wf at*
    simp at p0 p1
    simp [Leaves,settle,results,Tryz.results13,go_sem,o0,o1,o2,o3,o4,o5,o6,o7,p0,p1]
    rw [HE2.out]
    exact ⟨h45.out.2,_,rfl,h45.out.1⟩
end Go.Proofs.YtjhhdnnblcbdbaaGreatDoor.jw
end
