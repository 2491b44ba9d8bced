/- A number. A list. Printed by gen_jo.py. -/
import Derived.Test.YtjhhdnnblcbdbaaGreatDoorGJi
import Derived.Test.YtjhhdnnblcbdbaaGreatDoorGPfp
import Derived.Test.YtjhhdnnblcbdbaaGreatDoorGVal
import Derived.KernelRfl
section
namespace Go.Proofs.YtjhhdnnblcbdbaaGreatDoor.jw
open Go.RowKit mem val jp
set_option linter.unusedVariables false
set_option linter.unusedSectionVars false
attribute [local go_sem] run_store_float
theorem run_shift (d:Nat):∀(M:List Int) (st e f:Int) (i:Nat),pfx.run st (e+d) f (i+d) M=((pfx.run st e f i M).1+d,(pfx.run st e f i M).2.1+d,(pfx.run st e f i M).2.2)
 | [],st,e,f,i=>by simp [pfx.run]
 | c :: r,st,e,f,i=>by
   simp only [pfx.run]
   split
   ·simp
   ·split
    ·rw [show i+d+1=i+1+d by omega]
     exact run_shift d r _ _ _ _
    ·rw [show i+d+1=i+1+d by omega,show (((i+d:Nat):Int)+1)=((i:Int)+1)+d by omega]
     exact run_shift d r _ _ _ _
theorem pE_int (l:List Nat):(pfx.pf (l.map fun n:Nat=>(n:Int)) 0).1=((pE l:Nat):Int)∧(pfx.pf (l.map fun n:Nat=>(n:Int)) 0).2.1=((pS l:Nat):Int):=by
 obtain ⟨u,t,h1,h2,_,h3,_,_⟩:=run_at l 0 0 0 0
 unfold pE pS
 rw [pf_run]
 constructor
 ·rcases h3 with h3 | ⟨s,hs,h3⟩ <;> rw [h3] <;> simp
 ·rw [h1]
  simp
theorem pf_drop (src:List Nat) (p:Nat) (hp:p≤src.length):(pfx.pf (src.map fun n:Nat=>(n:Int)) p).1=((p+pE (src.drop p):Nat):Int)∧(pfx.pf (src.map fun n:Nat=>(n:Int)) p).2.1=((p+pS (src.drop p):Nat):Int):=by
 have h0:pfx.pf (src.map fun n:Nat=>(n:Int)) p=pfx.run 0 (0+(p:Int)) 0 (0+p) ((src.drop p).map fun n:Nat=>(n:Int)):=by
  unfold pfx.pf
  rw [if_neg (by rw [List.length_map];omega),Int.toNat_natCast,←List.map_drop,Int.zero_add,Nat.zero_add]
 obtain ⟨e1,e2⟩:=pE_int (src.drop p)
 rw [pf_run] at e1 e2
 rw [h0,run_shift,e1,e2]
 constructor <;> simp <;> omega
def RV (lo:Nat) (v:V) (x:Value) (w:World):Prop:=∃cs,x= .agg cs.toArray∧IsV w (New lo w) v cs
theorem isV_leaf {w:World} {S:Nat→Prop} (k:Int) (b:Bool) (i:Int) (f:Nat) (t y:ByteArray):IsV w S (.mk k b i f t y [] []) [.int .i64 k,.bool b,.int .i64 i,.float .f64 f,.string t,.string y,.slice none 0 0,.slice none 0 0]:=by
 simp only [IsV,IsVs,IsFs]
 exact ⟨none,0,none,0,rfl,fun _=>rfl,fun _=>rfl,trivial,trivial⟩
theorem quiet_pre {P:Program} {f:FuncId} {args:Array Value} {w:World} {n:Nat} {v:Value} (h:∀W,W=w.drewN n→Calls P f args W fun e w'=>e= .returned v∧W=w'):Calls P f args (w.drewN n) fun e w''=>e= .returned v∧∃k,w''=w.drewN k:=(h _ rfl).mono fun _ _ ⟨he,hm⟩=>⟨he,n,hm.symm⟩
theorem put3 {w2:World} {b:Nat} {x0 x1 x2:Value} {t:TypeId} (hx:w2.heap[b]? =some (.cells #[x0,x1,x2] t (0,0))) (a0 a1 a2:Value):
  (((w2.setCell ⟨b,0,none⟩ a0).setCell ⟨b,1,none⟩ a1).setCell ⟨b,2,none⟩ a2).heap[b]? =some (.cells #[a0,a1,a2] t (0,0)):=by
 have h1:=blk_set hx 0 a0
 have h2:=blk_set h1 1 a1
 have h3:=blk_set h2 2 a2
 simpa using h3
theorem num_end {g b:Nat} {w wd w2:World} {x0 x1 x2:Value} {A:Option Addr} {n c:Nat} {p o dp kk vv er:Int} {bb:Nat} (hx:w2.heap[b]? =some (.cells #[x0,x1,x2] 41 (0,0))) (hbe:wd.heap.size≤b) (hB:Below wd.heap.size wd w2) (HR:Rdr wd g A n c p o dp) (HK:Kp g w.heap.size w wd)
  (HG:wd.heap[w.heap.size]? =some (.cells #[.int .i64 0,.bool false,.int .i64 0,.float .f64 0,.string { data:= #[]},.string { data:= #[]},.slice none 0 0,.slice none 0 0] 29)) (hs:w.heap.size<wd.heap.size):
  ∃b6:Nat,(.pointer (some ⟨b,0,none⟩):Value)= .pointer (some ⟨b6,0,none⟩)∧(.int .i64 er:Value)= .int .i64 er∧wd.heap.size≤b6∧Hid ((((w2.setCell ⟨b,0,none⟩ (.int .i64 kk)).setCell ⟨b,1,none⟩ (.int .i64 vv)).setCell ⟨b,2,none⟩ (.float .f64 bb)).heap[b6]? =some (.cells #[.int .i64 kk,.int .i64 vv,.float .f64 bb] 41))∧
   Hid (Rdr (((w2.setCell ⟨b,0,none⟩ (.int .i64 kk)).setCell ⟨b,1,none⟩ (.int .i64 vv)).setCell ⟨b,2,none⟩ (.float .f64 bb)) g A n c p o dp)∧Hid (Kp g w.heap.size w (((w2.setCell ⟨b,0,none⟩ (.int .i64 kk)).setCell ⟨b,1,none⟩ (.int .i64 vv)).setCell ⟨b,2,none⟩ (.float .f64 bb)))∧
   Hid ((((w2.setCell ⟨b,0,none⟩ (.int .i64 kk)).setCell ⟨b,1,none⟩ (.int .i64 vv)).setCell ⟨b,2,none⟩ (.float .f64 bb)).heap[w.heap.size]? =some (.cells #[.int .i64 0,.bool false,.int .i64 0,.float .f64 0,.string { data:= #[]},.string { data:= #[]},.slice none 0 0,.slice none 0 0] 29)):=by
 have hB3:Below wd.heap.size wd (((w2.setCell ⟨b,0,none⟩ (.int .i64 kk)).setCell ⟨b,1,none⟩ (.int .i64 vv)).setCell ⟨b,2,none⟩ (.float .f64 bb)):=((hB.setCell (show wd.heap.size≤b from hbe) _).setCell (show wd.heap.size≤b from hbe) _).setCell (show wd.heap.size≤b from hbe) _
 exact ⟨b,rfl,rfl,hbe,put3 hx _ _ _,HR.below hB3 HR.lt,HK.next (Kp.of hB3) HK.size,(hB3.block _ hs).trans HG⟩
theorem num_end2 {g:Nat} {w wd w2:World} {A:Option Addr} {n c:Nat} {p o dp kk vv er:Int} {bb:Nat} (hA:wd.heap.size≤w2.heap.size) (hB:Below wd.heap.size wd w2) (HR:Rdr wd g A n c p o dp) (HK:Kp g w.heap.size w wd)
  (HG:wd.heap[w.heap.size]? =some (.cells #[.int .i64 0,.bool false,.int .i64 0,.float .f64 0,.string { data:= #[]},.string { data:= #[]},.slice none 0 0,.slice none 0 0] 29)) (hs:w.heap.size<wd.heap.size):
  ∃b6:Nat,(.pointer (some ⟨w2.heap.size,0,none⟩):Value)= .pointer (some ⟨b6,0,none⟩)∧(.int .i64 er:Value)= .int .i64 er∧wd.heap.size≤b6∧Hid ((w2.alloc (.cells #[.int .i64 kk,.int .i64 vv,.float .f64 bb] 41)).heap[b6]? =some (.cells #[.int .i64 kk,.int .i64 vv,.float .f64 bb] 41))∧
   Hid (Rdr (w2.alloc (.cells #[.int .i64 kk,.int .i64 vv,.float .f64 bb] 41)) g A n c p o dp)∧Hid (Kp g w.heap.size w (w2.alloc (.cells #[.int .i64 kk,.int .i64 vv,.float .f64 bb] 41)))∧
   Hid ((w2.alloc (.cells #[.int .i64 kk,.int .i64 vv,.float .f64 bb] 41)).heap[w.heap.size]? =some (.cells #[.int .i64 0,.bool false,.int .i64 0,.float .f64 0,.string { data:= #[]},.string { data:= #[]},.slice none 0 0,.slice none 0 0] 29)):=by
 have hB3:Below wd.heap.size wd (w2.alloc (.cells #[.int .i64 kk,.int .i64 vv,.float .f64 bb] 41)):=hB.alloc hA _
 exact ⟨w2.heap.size,rfl,rfl,hA,heap_alloc_new w2 _,HR.below hB3 HR.lt,HK.next (Kp.of hB3) HK.size,(hB3.block _ hs).trans HG⟩
theorem store8 {W:World} {r:Nat} {t:TypeId} {x0 x1 x2 x3 x4 x5 x6 x7:Value} (hG:W.heap[r]? =some (.cells #[x0,x1,x2,x3,x4,x5,x6,x7] t (0,0))) (a0 a1 a2 a3 a4 a5 a6 a7:Value):
  ((((((((W.setCell ⟨r,0,none⟩ a0).setCell ⟨r,1,none⟩ a1).setCell ⟨r,2,none⟩ a2).setCell ⟨r,3,none⟩ a3).setCell ⟨r,4,none⟩ a4).setCell ⟨r,5,none⟩ a5).setCell ⟨r,6,none⟩ a6).setCell ⟨r,7,none⟩ a7).heap[r]? =some (.cells #[a0,a1,a2,a3,a4,a5,a6,a7] t (0,0))∧(∀k,k≠r→((((((((W.setCell ⟨r,0,none⟩ a0).setCell ⟨r,1,none⟩ a1).setCell ⟨r,2,none⟩ a2).setCell ⟨r,3,none⟩ a3).setCell ⟨r,4,none⟩ a4).setCell ⟨r,5,none⟩ a5).setCell ⟨r,6,none⟩ a6).setCell ⟨r,7,none⟩ a7).heap[k]? =W.heap[k]?)∧(∀g B,B≤r→Kp g B W ((((((((W.setCell ⟨r,0,none⟩ a0).setCell ⟨r,1,none⟩ a1).setCell ⟨r,2,none⟩ a2).setCell ⟨r,3,none⟩ a3).setCell ⟨r,4,none⟩ a4).setCell ⟨r,5,none⟩ a5).setCell ⟨r,6,none⟩ a6).setCell ⟨r,7,none⟩ a7)):=by
 have h0:=blk_set hG 0 a0
 have h1:=blk_set h0 1 a1
 have h2:=blk_set h1 2 a2
 have h3:=blk_set h2 3 a3
 have h4:=blk_set h3 4 a4
 have h5:=blk_set h4 5 a5
 have h6:=blk_set h5 6 a6
 have h7:=blk_set h6 7 a7
 refine ⟨by simpa using h7,fun k hk=>?_,fun g B hB=>?_⟩
 ·rw [Below.heap_setCell _ _ _ k hk,Below.heap_setCell _ _ _ k hk,Below.heap_setCell _ _ _ k hk,Below.heap_setCell _ _ _ k hk,Below.heap_setCell _ _ _ k hk,Below.heap_setCell _ _ _ k hk,Below.heap_setCell _ _ _ k hk,Below.heap_setCell _ _ _ k hk]
 ·exact ((((((((Kp.refl g B W).setCell (p:=⟨r,0,none⟩) hB a0).setCell (p:=⟨r,1,none⟩) hB a1).setCell (p:=⟨r,2,none⟩) hB a2).setCell (p:=⟨r,3,none⟩) hB a3).setCell (p:=⟨r,4,none⟩) hB a4).setCell (p:=⟨r,5,none⟩) hB a5).setCell (p:=⟨r,6,none⟩) hB a6).setCell (p:=⟨r,7,none⟩) hB a7
section
variable {F:Nf} {w0:World} {g:Nat} {A:Option Addr} {n:Nat} {src:List Nat} (HC:Cx F w0 g A n src) {c:Nat} {o dp:Int}
include HC
set_option maxRecDepth 100000 in
set_option maxHeartbeats 1600000 in
theorem number_any (hnc:n≤c) (hcm:c≤maxLen) (w:World) (p:Nat) (hb:Below w0.heap.size w0 w) (hr:Rdr w g A n c (p:Int) o dp) (hp:p≤n):
  Calls Tryz.prog 55 #[.pointer (some ⟨g,0,none⟩)] w (Pst g A n c (fun _=>o) dp (RV w.heap.size) p (numP F (src.drop p)) w):=by
 have hn:=HC.le
 have HB:=Lib.hid hb
 have HC':=Lib.hid HC
 have hgw:g<w.heap.size:=hr.lt
 have HR:=Lib.hid hr
 obtain ⟨e1,e2⟩:=pf_drop src p (by rw [HC.len];exact hp)
 have hat:=pf_at (src.drop p)
 rw [List.length_drop,HC.len] at hat
 have hPre:∀W,Below w0.heap.size w0 W→Calls Tryz.prog 34 #[.slice A n c,.int .i64 (p:Int)] W fun e w'=>e= .returned (.tuple #[.int .i64 ((p+pE (src.drop p):Nat):Int),.int .i64 ((p+pS (src.drop p):Nat):Int),.int .i64 (pfx.pf (src.map fun n:Nat=>(n:Int)) p).2.2])∧W=w':=fun W hW=>by
  have h:=pfx.prefix_any A c (src.map fun n:Nat=>(n:Int)) (p:Int) w0.heap.size W (HC.rd.below hW) (by rw [List.length_map,HC.len];omega) (fun x hx=>by
   obtain ⟨y,hy,rfl⟩:=List.mem_map.1 hx
   have:=HC.byte y hy
   omega) (by omega)
  rw [List.length_map,HC.len,e1,e2] at h
  exact h
 generalize (pfx.pf (src.map fun n:Nat=>(n:Int)) p).2.2=fmv at hPre
 have HT:=HC.tok p
 obtain ⟨E,hE⟩:∃E,pE (src.drop p)=E:=⟨_,rfl⟩
 obtain ⟨S,hS⟩:∃S,pS (src.drop p)=S:=⟨_,rfl⟩
 have HNP:numP F (src.drop p)=(if S=0∨E<S then .er S 50 else if (F ((src.drop p).take E)).2.2.2=0 then .ok (numV (F ((src.drop p).take E)).1 (F ((src.drop p).take E)).2.1 (F ((src.drop p).take E)).2.2.1) E else .er 0 (F ((src.drop p).take E)).2.2.2):=by
  unfold numP
  rw [hE,hS]
 rw [hE,hS] at hPre hat
 rw [hE] at HT
 have HPre:=Lib.hid hPre
 have HNP':=Lib.hid HNP
 have hSn:=hat.1
 have hES:=hat.2.1
 clear hPre HNP e1 e2 hat hE hS hb hr
 go_enter Tryz.func55,Tryz.ntmps55
 go_wp2_with fail
 have hK1:=(Kp.refl g w.heap.size w).alloc (Nat.le_refl _) (.cells #[.int .i64 0,.bool false,.int .i64 0,.float .f64 0,.string { data:= #[]},.string { data:= #[]},.slice none 0 0,.slice none 0 0] 29)
 have hg1:=heap_alloc_new w (.cells #[.int .i64 0,.bool false,.int .i64 0,.float .f64 0,.string { data:= #[]},.string { data:= #[]},.slice none 0 0,.slice none 0 0] 29)
 have hr1:=HR.out.alloc (.cells #[.int .i64 0,.bool false,.int .i64 0,.float .f64 0,.string { data:= #[]},.string { data:= #[]},.slice none 0 0,.slice none 0 0] 29)
 have hs1:w.heap.size<(w.alloc (.cells #[.int .i64 0,.bool false,.int .i64 0,.float .f64 0,.string { data:= #[]},.string { data:= #[]},.slice none 0 0,.slice none 0 0] 29)).heap.size:=by simp
 generalize (w.alloc (.cells #[.int .i64 0,.bool false,.int .i64 0,.float .f64 0,.string { data:= #[]},.string { data:= #[]},.slice none 0 0,.slice none 0 0] 29))=w1 at*
 obtain ⟨c0,c1,c2,c3⟩:=hr1.cells
 have HB1:=Lib.hid (below_kp HC'.out HB.out hK1)
 have HK1:=Lib.hid hK1
 have HR1:=Lib.hid hr1
 have HG1:=Lib.hid hg1
 clear hK1 hr1 hg1
 go_quiet (first | (go_at_call 34;exact quiet_pre (fun W hW=>HPre.out W (by rw [hW];exact bel_dr HB1.out _))))
 have f1:=HR1.out.frozen 1
 have HF:Hid (Rdr ((w1.drewN nq).setCell ⟨g,1,none⟩ (.int .i64 ((p:Int)+(S:Int)))) g A n c ((p+S:Nat):Int) o dp∧Kp g w.heap.size w ((w1.drewN nq).setCell ⟨g,1,none⟩ (.int .i64 ((p:Int)+(S:Int))))):=Lib.hid ⟨Rdr.toI ((HR1.out.drewN nq).at_ ((p:Int)+(S:Int))) (by omega),(HK1.out.drewN nq).self ⟨g,1,none⟩ rfl _⟩
 by_cases h0:S=0
 ·subst h0
  have HE2:Hid (numP F (src.drop p)= .er 0 50):=Lib.hid (by rw [HNP'.out,if_pos (.inl rfl)])
  have hz:(p:Int)+((0:Nat):Int)=(p:Int):=by omega
  rw [hz] at HF
  clear HPre HNP'
  go_wp2_with fail
  refine (stop_any _ p (HF.out.1)).mono ?_
  rintro e w' ⟨rfl,rfl⟩
  unfold flt
  go_wp2_with fail
  rw [HE2.out]
  exact ⟨rfl,HF.out.2,rfl⟩
 by_cases h1:E<S
 ·have HE2:Hid (numP F (src.drop p)= .er S 50):=Lib.hid (by rw [HNP'.out,if_pos (.inr h1)])
  have hne:(((p:Int)+(S:Int))==(p:Int))=false:=by simp;omega
  have hgt:decide ((p:Int)+(E:Int)<(p:Int)+(S:Int))=true:=by simp;omega
  clear HPre HNP' h0
  go_wp2_with fail
  refine (stop_any _ (p+S) (HF.out.1)).mono ?_
  rintro e w' ⟨rfl,rfl⟩
  unfold flt
  go_wp2_with fail
  rw [HE2.out]
  exact ⟨rfl,HF.out.2,rfl⟩
 have hEq:E=S:=by omega
 subst hEq
 have hne:(((p:Int)+(E:Int))==(p:Int))=false:=by simp;omega
 have hpn:p<n:=by omega
 obtain ⟨ad,rfl,hab,_⟩:=HC'.out.at_ HB1.out hpn
 obtain ⟨L,hL⟩:∃L,(src.drop p).take E=L:=⟨_,rfl⟩
 have hRS:∀W,Below w0.heap.size w0 W→RS L (.slice (some (ad.add p)) E (c-p)) W:=fun W hW=>by rw [←hL];exact RS_of HC'.out rfl hW (by omega) _
 have hLl:L.length=E:=by rw [←hL,List.length_take,List.length_drop,HC'.out.len];omega
 have hL256:∀x∈L,x<256:=fun x hx=>by rw [←hL] at hx;exact HC'.out.byte x (List.mem_of_mem_drop (List.mem_of_mem_take hx))
 rw [hL] at HNP'
 have hcv:∀W,Below w0.heap.size w0 W→(convert 22 9 (.slice (some (ad.add p)) E (c-p))).run Tryz.prog W= .ok (.string (bt L)) W:=fun W hW=>by
  obtain ⟨A',c',hv,hrd,hnn⟩:=hRS W hW
  injection hv with e1 e2 e3
  subst e1
  have:=run_conv_bytes (w:=W) 22 9 5 (some (ad.add p)) (L.map fun n:Nat=>(n:Int)) (c-p) Tryz.underlying22 Tryz.underlying5 Tryz.underlying9 hrd (fun h=>by cases h)
  rw [List.length_map,hLl] at this
  exact this
 have hnum:=HC'.out.num (bt L) (by rw [bt_size,hLl];exact HT)
 rw [show (bt L).data.toList.map UInt8.toNat=L from nats_bt hL256] at hnum
 obtain ⟨kk,hkk⟩:∃x,(F L).1=x:=⟨_,rfl⟩
 obtain ⟨vv,hvv⟩:∃x,(F L).2.1=x:=⟨_,rfl⟩
 obtain ⟨bb,hbb⟩:∃x,(F L).2.2.1=x:=⟨_,rfl⟩
 obtain ⟨er,her⟩:∃x,(F L).2.2.2=x:=⟨_,rfl⟩
 rw [hkk,hvv,hbb,her] at hnum HNP'
 have hKd:=HK1.out.drewN nq
 have hRd:=HR1.out.drewN nq
 have hGd:(w1.drewN nq).heap[w.heap.size]? =some (.cells #[.int .i64 0,.bool false,.int .i64 0,.float .f64 0,.string { data:= #[]},.string { data:= #[]},.slice none 0 0,.slice none 0 0] 29):=HG1.out
 have hsd:w.heap.size<(w1.drewN nq).heap.size:=hs1
 have hBd:=below_kp HC'.out HB.out hKd
 generalize w1.drewN nq=wd at*
 have HKd:=Lib.hid hKd
 have HRd:=Lib.hid hRd
 have HGd:=Lib.hid hGd
 have HBd:=Lib.hid hBd
 have HNum:=Lib.hid hnum
 have HCv:=Lib.hid hcv
 have h0':E≠0:=h0
 clear c0 c1 c2 c3 f1 HF HPre HK1 HR1 HG1 HB1 hkk hvv hbb her hL hRS hKd hRd hGd hBd hnum hcv hs1 h0 h1
 have hgt:decide ((p:Int)+(E:Int)<(p:Int)+(E:Int))=false:=by simp
 obtain ⟨c0,c1,c2,c3⟩:=HRd.out.cells
 go_wp2_with fail
 have d0:wd.drew.cell? ⟨g,0,none⟩=some (.slice (some ad) n c):=c0
 have d1:wd.drew.cell? ⟨g,1,none⟩=some (.int .i64 (p:Int)):=c1
 have dcv:=HCv.out wd.drew (bel_dr HBd.out 1)
 have hrz:=HRd.out.alloc (.cells #[.int .i64 0,.int .i64 0,.float .f64 0] 41)
 have x0:(wd.alloc (.cells #[.int .i64 0,.int .i64 0,.float .f64 0] 41)).drew.cell? ⟨g,0,none⟩=some (.slice (some ad) n c):=hrz.cells.1
 have x1:(wd.alloc (.cells #[.int .i64 0,.int .i64 0,.float .f64 0] 41)).drew.cell? ⟨g,1,none⟩=some (.int .i64 (p:Int)):=hrz.cells.2.1
 have xcv:=HCv.out (wd.alloc (.cells #[.int .i64 0,.int .i64 0,.float .f64 0] 41)).drew (bel_dr (HBd.out.alloc HBd.out.size _) 1)
 clear hrz
 have hpE:(p:Int)≤(p:Int)+(E:Int):=by omega
 have hEc:(p:Int)+(E:Int)≤(c:Int):=by omega
 have hcne:¬c=p:=by omega
 have hlen:((p:Int)+(E:Int)).toNat-p=E:=by omega
 clear c0 c1 c2 c3
 go_cut [6,7] from 38 to 52 (fun u6 u7 wx=>∃b6:Nat,u6= .pointer (some ⟨b6,0,none⟩)∧u7= .int .i64 er∧wd.heap.size≤b6∧Hid (wx.heap[b6]? =some (.cells #[.int .i64 kk,.int .i64 vv,.float .f64 bb] 41))∧Hid (Rdr wx g (some ad) n c (p:Int) o dp)∧Hid (Kp g w.heap.size w wx)∧Hid (wx.heap[w.heap.size]? =some (.cells #[.int .i64 0,.bool false,.int .i64 0,.float .f64 0,.string { data:= #[]},.string { data:= #[]},.slice none 0 0,.slice none 0 0] 29)))
 case first=>
  go_region_law (first
   | (go_simp;go_at_call 17;first
     | (refine (HNum.out wd.drew (bel_dr HBd.out 1)).mono ?_;rintro e w2 ⟨rfl,hb2⟩;have HB2:Hid (Below wd.heap.size wd w2):=Lib.hid ⟨hb2.os,hb2.tape,hb2.output,hb2.size,hb2.block⟩;have hzz:=hb2.size;have HA2:Hid (wd.heap.size≤w2.heap.size):=Lib.hid hzz;clear hb2 hzz)
     | (refine (HNum.out (wd.alloc (.cells #[.int .i64 0,.int .i64 0,.float .f64 0] 41)).drew (bel_dr (HBd.out.alloc HBd.out.size _) 1)).mono ?_;rintro e w2 ⟨rfl,hb2⟩;have hx2:w2.heap[wd.heap.size]? =some (.cells #[.int .i64 0,.int .i64 0,.float .f64 0] 41):=(hb2.block wd.heap.size (show wd.heap.size<(wd.alloc _).heap.size by simp)).trans (heap_alloc_new wd _);have HX2:=Lib.hid hx2;have y0:=blk_cell hx2 (i:=0) (by simp);have y1:=blk_cell hx2 (i:=1) (by simp);have y2:=blk_cell hx2 (i:=2) (by simp);have z0:=blk_frozen hx2 0;have z1:=blk_frozen hx2 1;have z2:=blk_frozen hx2 2;simp only [List.getElem_toArray,List.getElem_cons_zero,List.getElem_cons_succ] at y0 y1 y2;have HB2:Hid (Below wd.heap.size wd w2):=Lib.hid (((Below.refl wd.heap.size wd).alloc (Nat.le_refl _) (.cells #[.int .i64 0,.int .i64 0,.float .f64 0] 41)).trans ⟨hb2.os,hb2.tape,hb2.output,hb2.size,fun k hk=>hb2.block k (show k<(wd.alloc _).heap.size by simp;omega)⟩);clear hb2 hx2)))
  all_goals
   go_wp2_with fail
   go_meet
   case rel=>
    first
     | exact num_end HX2.out (Nat.le_refl _) HB2.out HRd.out HKd.out HGd.out hsd
     | exact num_end2 HA2.out HB2.out HRd.out HKd.out HGd.out hsd
 obtain ⟨b6,rfl,rfl,hb6,HN6,HR6,HK6,HG6⟩:=hcut
 clear HKd HRd HBd HNum HCv d0 d1 dcv x0 x1 xcv
 obtain ⟨c0,c1,c2,c3⟩:=HR6.out.cells
 have f1:=HR6.out.frozen 1
 have hN6:=HN6.out
 have q0:=blk_cell hN6 (i:=0) (by simp)
 have q1:=blk_cell hN6 (i:=1) (by simp)
 have q2:=blk_cell hN6 (i:=2) (by simp)
 simp only [List.getElem_toArray,List.getElem_cons_zero,List.getElem_cons_succ] at q0 q1 q2
 clear hN6
 by_cases her:er=0
 ·have hr7:=HR6.out.at_ ((p:Int)+(E:Int))
  have hk7:=HK6.out.self ⟨g,1,none⟩ rfl (.int .i64 ((p:Int)+(E:Int)))
  have hN7:(wc.setCell ⟨g,1,none⟩ (.int .i64 ((p:Int)+(E:Int)))).heap[b6]? =some (.cells #[.int .i64 kk,.int .i64 vv,.float .f64 bb] 41):=(Below.heap_setCell _ _ _ _ (show b6≠g by omega)).trans HN6.out
  have r0:=blk_cell hN7 (i:=0) (by simp)
  have r1:=blk_cell hN7 (i:=1) (by simp)
  have r2:=blk_cell hN7 (i:=2) (by simp)
  simp only [List.getElem_toArray,List.getElem_cons_zero,List.getElem_cons_succ] at r0 r1 r2
  have hG7:(wc.setCell ⟨g,1,none⟩ (.int .i64 ((p:Int)+(E:Int)))).heap[w.heap.size]? =some (.cells #[.int .i64 0,.bool false,.int .i64 0,.float .f64 0,.string { data:= #[]},.string { data:= #[]},.slice none 0 0,.slice none 0 0] 29):=(Below.heap_setCell _ _ _ _ (show w.heap.size≠g by omega)).trans HG6.out
  have HF:=Lib.hid (And.intro hr7 (And.intro hk7 hG7))
  obtain ⟨m0,m1,m2,m3,m4,m5,m6,m7⟩:=blk8 hG7
  have j0:=blk_frozen hG7 0
  have j1:=blk_frozen hG7 1
  have j2:=blk_frozen hG7 2
  have j3:=blk_frozen hG7 3
  have j4:=blk_frozen hG7 4
  have j5:=blk_frozen hG7 5
  have j6:=blk_frozen hG7 6
  have j7:=blk_frozen hG7 7
  have HE2:Hid (numP F (src.drop p)= .ok (numV kk vv bb) E):=Lib.hid (by rw [HNP'.out,if_neg (by omega),if_pos her])
  have HS8:=Lib.hid (store8 hG7 (.int .i64 kk) (.bool false) (.int .i64 vv) (.float .f64 bb) (.string { data:= #[]}) (.string { data:= #[]}) (.slice none 0 0) (.slice none 0 0))
  clear hr7 hk7 hN7 hG7 HR6 HK6 HG6 HN6 HNP'
  subst her
  go_wp2_with fail
  obtain ⟨s1,s2,s3⟩:=HS8.out
  have hrf:=(HF.out.1).keep (s2 g (by omega))
  have hkf:=HF.out.2.1.trans (s3 g w.heap.size (Nat.le_refl _))
  obtain ⟨o0,o1,o2,o3,o4,o5,o6,o7⟩:=blk8 s1
  refine bodyPost_ret (v:= .agg #[.int .i64 kk,.bool false,.int .i64 vv,.float .f64 bb,.string { data:= #[]},.string { data:= #[]},.slice none 0 0,.slice none 0 0]) (by simp [results,Tryz.results55,go_sem,o0,o1,o2,o3,o4,o5,o6,o7]) rfl ?_
  rw [HE2.out]
  exact ⟨hkf,_,rfl,⟨_,rfl,isV_leaf _ _ _ _ _ _⟩,Rdr.toI hrf (by omega)⟩
 ·have hne2:(er !=0)=true:=by simpa using her
  have HE2:Hid (numP F (src.drop p)= .er 0 er):=Lib.hid (by rw [HNP'.out,if_neg (by omega),if_neg her])
  clear HNP' her
  go_wp2_with fail
  rw [HE2.out]
  exact ⟨rfl,HK6.out,rfl⟩
end
end Go.Proofs.YtjhhdnnblcbdbaaGreatDoor.jw
end
section
namespace Go.Proofs.YtjhhdnnblcbdbaaGreatDoor.jw
open Go.RowKit mem val jp
set_option linter.unusedVariables false
set_option linter.unusedSectionVars false
attribute [local go_sem] run_store_float
def VAt (F:Nf) (w0:World) (g:Nat) (A:Option Addr) (n c:Nat) (src:List Nat) (dp:Int) (N:Nat):Prop:=∀(d:Nat) (o:Int) (w:World) (p:Nat),0≤o→o+d=dp→Below w0.heap.size w0 w→Rdr w g A n c (p:Int) o dp→p≤n→2*(n-p)<N→
 Calls Tryz.prog 28 #[.pointer (some ⟨g,0,none⟩)] w (Pst g A n c (fun _=>o) dp (RV w.heap.size) p (value F N d (src.drop p)) w)
def listP (F:Nf) (N d:Nat):Ps V:=bnd (opn d) fun _=>bnd blanks fun _ l=>if l.headD 0=93 then (bnd one fun _=>jp.ret (listV [])) l else items F N (d-1) [] l
def objP (F:Nf) (N d:Nat):Ps V:=bnd (opn d) fun _=>bnd blanks fun _ l=>if l.headD 0=125 then (bnd one fun _=>jp.ret (objV [])) l else members F N (d-1) [] l
theorem bracket_split {α:Type} (d:Nat) (f:Ps α) (l:List Nat):(bnd (opn d) fun _=>bnd blanks fun _=>f) l=bnd (bnd (opn d) fun _=>blanks) (fun _=>f) l:=by
 simp only [bnd]
 cases opn d l with
 | er k e=>rfl
 | ok a j=>
   simp only [blanks,Rs.sh,List.drop_drop]
   cases f (List.drop (j+cnt (List.drop j l)) l) <;> simp [Nat.add_assoc]
theorem elems_kp {α:Type} {size:Nat} {R:World→(Nat→Prop)→α→List Value→Prop} (hR:Rec size R) {g:Nat} {w w':World} {base:Nat} {v:Value} {l:List α} {css:List (List Value)} (h:Elems R w (val.Kids w base v) l css) (hk:Kp g w.heap.size w w') (hg:g<base):Elems R w' (val.Kids w' base v) l css:=
 h.keep hR (fun p hp=>hk.cell hp.2.1 (by have:=hp.1;omega)) (fun b hp=>⟨hp.1,Nat.lt_of_lt_of_le hp.2.1 hk.size,hp.2.2⟩)
theorem blk_kp {g:Nat} {w w':World} {b:Nat} {ob:Obj} (h:w.heap[b]? =some ob) (hk:Kp g w.heap.size w w') (hg:b≠g):w'.heap[b]? =some ob:=(hk.block b (blk_lt h) hg).trans h
theorem infoVa:(Tryz.prog.info? 29).map (fun i=>(i.zero,i.size,i.bytes))=some (some (.agg #[.int .i64 0,.bool false,.int .i64 0,.float .f64 0,.string ByteArray.empty,.string ByteArray.empty,.slice none 0 0,.slice none 0 0]),8,112):=by kernel_rfl
theorem ended (e:Ending):(∃v,e= .returned v)∨∀v,e≠.returned v:=by
 cases e with
 | returned v=>exact .inl ⟨v,rfl⟩
 | _=>exact .inr (fun v h=>by cases h)
theorem flt_int {a:Int} {b:Nat} {x:Int} (h:a=(b:Int)):flt a x=flt (b:Int) x:=by rw [h]
section
variable {F:Nf} {w0:World} {g:Nat} {A:Option Addr} {n:Nat} {src:List Nat} (HC:Cx F w0 g A n src) {c:Nat} {dp:Int}
include HC
set_option maxRecDepth 100000 in
set_option maxHeartbeats 1600000 in
theorem list_any (N:Nat) (IH:∀m,m<N→VAt F w0 g A n c src dp m) (hdp:dp≤200) (d:Nat) (o:Int) (ho:0≤o) (hod:o+d=dp) (w:World) (p:Nat) (hb:Below w0.heap.size w0 w) (hr:Rdr w g A n c (p:Int) o dp) (hp:p<n) (hN:2*(n-p)≤N):
  Calls Tryz.prog 53 #[.pointer (some ⟨g,0,none⟩)] w (Pst g A n c (fun _=>o) dp (RV w.heap.size) p (listP F N d (src.drop p)) w):=by
 have hn:=HC.le
 have HB:=Lib.hid hb
 have HC':=Lib.hid HC
 have HIH:=Lib.hid IH
 have hgw:g<w.heap.size:=hr.lt
 obtain ⟨iv,hiv,hv0,hv1,hv2⟩:=info_get infoVa
 have hL0:listP F N d (src.drop p)=bnd (bnd (opn d) fun _=>blanks) (fun _ l=>if l.headD 0=93 then (bnd one fun _=>jp.ret (listV [])) l else items F N (d-1) [] l) (src.drop p):=bracket_split d _ _
 have HL0:=Lib.hid hL0
 have g1:=heap_alloc_new w (.cells #[.int .i64 0,.bool false,.int .i64 0,.float .f64 0,.string { data:= #[]},.string { data:= #[]},.slice none 0 0,.slice none 0 0] 29)
 have g2:=heap_alloc_new (w.alloc (.cells #[.int .i64 0,.bool false,.int .i64 0,.float .f64 0,.string { data:= #[]},.string { data:= #[]},.slice none 0 0,.slice none 0 0] 29)) (.cells #[.int .i64 5,.bool false,.int .i64 0,.float .f64 0,.string { data:= #[]},.string { data:= #[]},.slice none 0 0,.slice none 0 0] 29)
 have g1':=blk_alloc g1 (.cells #[.int .i64 5,.bool false,.int .i64 0,.float .f64 0,.string { data:= #[]},.string { data:= #[]},.slice none 0 0,.slice none 0 0] 29)
 have gk:=((Kp.refl g w.heap.size w).alloc (Nat.le_refl _) (.cells #[.int .i64 0,.bool false,.int .i64 0,.float .f64 0,.string { data:= #[]},.string { data:= #[]},.slice none 0 0,.slice none 0 0] 29)).alloc (by simp) (.cells #[.int .i64 5,.bool false,.int .i64 0,.float .f64 0,.string { data:= #[]},.string { data:= #[]},.slice none 0 0,.slice none 0 0] 29)
 have gr:=(hr.alloc (.cells #[.int .i64 0,.bool false,.int .i64 0,.float .f64 0,.string { data:= #[]},.string { data:= #[]},.slice none 0 0,.slice none 0 0] 29)).alloc (.cells #[.int .i64 5,.bool false,.int .i64 0,.float .f64 0,.string { data:= #[]},.string { data:= #[]},.slice none 0 0,.slice none 0 0] 29)
 have gs:((w.alloc (.cells #[.int .i64 0,.bool false,.int .i64 0,.float .f64 0,.string { data:= #[]},.string { data:= #[]},.slice none 0 0,.slice none 0 0] 29)).alloc (.cells #[.int .i64 5,.bool false,.int .i64 0,.float .f64 0,.string { data:= #[]},.string { data:= #[]},.slice none 0 0,.slice none 0 0] 29)).heap.size=w.heap.size+2:=by simp
 rw [show (w.alloc (.cells #[.int .i64 0,.bool false,.int .i64 0,.float .f64 0,.string { data:= #[]},.string { data:= #[]},.slice none 0 0,.slice none 0 0] 29)).heap.size=w.heap.size+1 by simp] at g2
 clear hL0 hb hr IH
 go_enter Tryz.func53,Tryz.ntmps53
 go_wp2_with fail
 generalize ((w.alloc (.cells #[.int .i64 0,.bool false,.int .i64 0,.float .f64 0,.string { data:= #[]},.string { data:= #[]},.slice none 0 0,.slice none 0 0] 29)).alloc (.cells #[.int .i64 5,.bool false,.int .i64 0,.float .f64 0,.string { data:= #[]},.string { data:= #[]},.slice none 0 0,.slice none 0 0] 29))=w1 at*
 have HG1:=Lib.hid g1'
 have HG2:=Lib.hid g2
 have HK1:=Lib.hid gk
 have HR1:=Lib.hid gr
 have HB1:=Lib.hid (below_kp HC'.out HB.out gk)
 clear g1 g2 g1' gk gr
 refine (opened_any HC'.out d ho hod hdp w1 p HB1.out HR1.out hp).mono ?_
 rintro e w2 hP
 cases hO:(bnd (opn d) fun _=>blanks) (src.drop p) with
 | er k0 e0=>
   rw [hO] at hP
   obtain ⟨rfl,hk2⟩:=hP.er
   have HF:=Lib.hid (HK1.out.next hk2 (by have:=HK1.out.size;omega))
   have HE2:Hid (listP F N d (src.drop p)= .er k0 e0):=Lib.hid (by rw [HL0.out,bnd_err hO])
   clear hP hk2 hO HL0
   unfold flt
   go_wp2_with fail
   rw [HE2.out]
   exact ⟨rfl,HF.out,rfl⟩
 | ok u j=>
 rw [hO] at hP
 obtain ⟨v,rfl,rfl,hr2,hk2⟩:=hP.ok
 have hd0:0<d:=by
  rcases Nat.eq_zero_or_pos d with h | h
  ·rw [drop_one src p (by rw [HC'.out.len];exact hp)] at hO
   simp [bnd,opn,h] at hO
  ·exact h
 have hj:0<j∧p+j≤n:=by
  have h1:=(Loc.bnd (Loc.opn d) fun _=>Loc.blanks).okl _ _ _ hO
  rw [List.length_drop,HC'.out.len] at h1
  refine ⟨Nat.pos_of_ne_zero fun e=>Eats.bnd (Eats.opn d) _ _ (by rw [e] at hO;exact hO),by omega⟩
 have HL1:=Lib.hid (show listP F N d (src.drop p)=((if (src.drop (p+j)).headD 0=93 then (bnd one fun _=>jp.ret (listV [])) (src.drop (p+j)) else items F N (d-1) [] (src.drop (p+j)))).sh j by rw [HL0.out,bnd_okr hO,List.drop_drop])
 have HG3:=Lib.hid (blk_kp HG1.out hk2 (by omega))
 have HG4:=Lib.hid (blk_kp HG2.out hk2 (by omega))
 have HK2:=Lib.hid (HK1.out.next hk2 (by have:=HK1.out.size;omega))
 have hs2:w.heap.size+2≤w2.heap.size:=by have:=hk2.size;omega
 have HR2:=Lib.hid hr2
 have HB2:=Lib.hid (below_kp HC'.out HB.out HK2.out)
 clear hP hr2 hk2 hO HL0 HG1 HG2 HK1 HR1 HB1
 go_wp2_with fail
 refine (next_any HC'.out w2 (p+j) HB2.out HR2.out hj.2).mono ?_
 rintro e w3 ⟨rfl,hsm⟩
 have HR3:=Lib.hid (hsm.rdr HR2.out)
 have HK3:=Lib.hid (HK2.out.sm hsm)
 have HB3:=Lib.hid (hsm.below HB2.out)
 have HG5:Hid (w3.heap[w.heap.size]? =some (.cells #[.int .i64 0,.bool false,.int .i64 0,.float .f64 0,.string { data:= #[]},.string { data:= #[]},.slice none 0 0,.slice none 0 0] 29)):=Lib.hid (by rw [hsm.heap];exact HG3.out)
 have HG6:Hid (w3.heap[w.heap.size+1]? =some (.cells #[.int .i64 5,.bool false,.int .i64 0,.float .f64 0,.string { data:= #[]},.string { data:= #[]},.slice none 0 0,.slice none 0 0] 29)):=Lib.hid (by rw [hsm.heap];exact HG4.out)
 have hs3:w.heap.size+2≤w3.heap.size:=by rw [hsm.heap];exact hs2
 clear hsm HR2 HK2 HB2 HG3 HG4 hs2
 have h256:=HC'.out.lt256 (p+j)
 rw [head_drop] at HL1
 by_cases hy:src.getD (p+j) 0=93
 ·have hpj:p+j<src.length:=by
   rcases Nat.lt_or_ge (p+j) src.length with h | h
   ·exact h
   ·rw [List.getD_eq_getElem?_getD,List.getElem?_eq_none h] at hy
    exact absurd hy (by decide)
  have HE2:Hid (listP F N d (src.drop p)= .ok (listV []) (j+1)):=Lib.hid (by
   rw [HL1.out,if_pos hy,drop_one src (p+j) hpj]
   rfl)
  rw [hy]
  have hr4:Rdr (w3.setCell ⟨g,1,none⟩ (.int .i64 (((p+j:Nat):Int)+1))) g A n c ((p+(j+1):Nat):Int) (o+1) dp:=Rdr.toI (HR3.out.at_ (((p+j:Nat):Int)+1)) (by omega)
  have hr5:=hr4.open_ (o+1-1)
  have hk5:=(HK3.out.self ⟨g,1,none⟩ rfl (.int .i64 (((p+j:Nat):Int)+1))).self ⟨g,2,none⟩ rfl (.int .i64 (o+1-1))
  have hx5:∀k,k≠g→((w3.setCell ⟨g,1,none⟩ (.int .i64 (((p+j:Nat):Int)+1))).setCell ⟨g,2,none⟩ (.int .i64 (o+1-1))).heap[k]? =w3.heap[k]? :=fun k hk=>by rw [Below.heap_setCell _ _ _ k hk,Below.heap_setCell _ _ _ k hk]
  have hG7:=(hx5 w.heap.size (by omega)).trans HG5.out
  have hG8:=(hx5 (w.heap.size+1) (by omega)).trans HG6.out
  rw [Int.add_sub_cancel] at hr5 hk5 hx5 hG7 hG8
  have HS8:=Lib.hid (store8 hG7 (.int .i64 5) (.bool false) (.int .i64 0) (.float .f64 0) (.string { data:= #[]}) (.string { data:= #[]}) (.slice none 0 0) (.slice none 0 0))
  have HF:=Lib.hid (And.intro hr5 hk5)
  obtain ⟨c0,c1,c2,c3⟩:=HR3.out.cells
  obtain ⟨e0,e1,e2,e3⟩:=hr4.cells
  have f1:=HR3.out.frozen 1
  have f2:=hr4.frozen 2
  obtain ⟨m0,m1,m2,m3,m4,m5,m6,m7⟩:=blk8 hG7
  obtain ⟨q0,q1,q2,q3,q4,q5,q6,q7⟩:=blk8 hG8
  have j0:=blk_frozen hG7 0
  have j1:=blk_frozen hG7 1
  have j2:=blk_frozen hG7 2
  have j3:=blk_frozen hG7 3
  have j4:=blk_frozen hG7 4
  have j5:=blk_frozen hG7 5
  have j6:=blk_frozen hG7 6
  have j7:=blk_frozen hG7 7
  have hpj1:((p+j:Nat):Int)≤1099511627776:=by omega
  have hpj0:(0:Int)≤((p+j:Nat):Int):=by omega
  have ho1:o+1-1=o:=by omega
  have ho2:o≤200:=by omega
  have hp4:((p+(j+1):Nat):Int)=((p+j:Nat):Int)+1:=by omega
  generalize ((p+j:Nat):Int)=P at*
  clear hr4 hr5 hk5 hx5 hy HL1 hG7 hG8 HG5 HG6 HR3 HK3
  go_wp2_with fail
  obtain ⟨s1,s2,s3⟩:=HS8.out
  obtain ⟨o0,o1',o2,o3,o4,o5,o6,o7⟩:=blk8 s1
  refine bodyPost_ret (v:= .agg #[.int .i64 5,.bool false,.int .i64 0,.float .f64 0,.string { data:= #[]},.string { data:= #[]},.slice none 0 0,.slice none 0 0]) (by simp [results,Tryz.results53,go_sem,o0,o1',o2,o3,o4,o5,o6,o7]) rfl ?_
  rw [HE2.out]
  exact ⟨HF.out.2.trans (s3 g w.heap.size (Nat.le_refl _)),_,rfl,⟨_,rfl,isV_leaf _ _ _ _ _ _⟩,HF.out.1.keep (s2 g (by omega))⟩
 ·have HL2:Hid (listP F N d (src.drop p)=(items F N (d-1) [] (src.drop (p+j))).sh j):=Lib.hid (by rw [HL1.out,if_neg hy])
  obtain ⟨y,hyy⟩:∃y:Nat,src.getD (p+j) 0=y:=⟨_,rfl⟩
  rw [hyy] at hy
  have hne:((y:Int)==93)=false:=by simp;omega
  rw [hyy]
  clear hyy hy HL1 h256
  go_wp2_with fail
  go_loopw [] (fun wr=>∃(q m:Nat) (acc:List V) (css:List (List Value)) (vv:Value),p<q∧q≤n∧Hid (2*(n-q)+1<m)∧m≤N∧Hid (acc.length≤q-p)∧Hid (wr.ownsRow (w.heap.size+2) 29 8 vv acc.length css.flatten)∧Hid (Elems IsV wr (val.Kids wr (w.heap.size+2) vv) acc css)∧
   Hid (wr.heap[w.heap.size]? =some (.cells #[.int .i64 0,.bool false,.int .i64 0,.float .f64 0,.string { data:= #[]},.string { data:= #[]},.slice none 0 0,.slice none 0 0] 29))∧Hid (wr.heap[w.heap.size+1]? =some (.cells #[.int .i64 5,.bool false,.int .i64 0,.float .f64 0,.string { data:= #[]},.string { data:= #[]},vv,.slice none 0 0] 29))∧Hid (Rdr wr g A n c (q:Int) (o+1) dp)∧Hid (Kp g w.heap.size w wr)∧w.heap.size+2≤wr.heap.size∧Hid (listP F N d (src.drop p)=(items F m (d-1) acc (src.drop q)).sh (q-p))) (fun wr=>n-atOf wr g)
  case atStart=>
   exact ⟨p+j,N,[],[],.slice none 0 0,by omega,hj.2,Lib.hid (by omega),Nat.le_refl _,Lib.hid (by simp),Lib.hid (World.ownsRow_nil _ _ _ _),Lib.hid Elems.nil,HG5,HG6,HR3,HK3,hs3,Lib.hid (by rw [HL2.out,show p+j-p=j by omega])⟩
  case round=>
   clear HL2 HG5 HG6 HR3 HK3 HB3 hs3 hne
   obtain ⟨q,m,acc,css,vv,hpq,hq,HM,hmN,HLen,HO,HE,HG1,HG2,HRr,HKr,hsr,HL⟩:=hrel
   obtain ⟨m',rfl⟩:∃m',m=m'+1:=⟨m-1,by have:=HM.out;omega⟩
   have hat:=HRr.out.atOf
   have HBr:=Lib.hid (below_kp HC'.out HB.out HKr.out)
   have hL:=HL.out
   rw [items] at hL
   have hVA:=HIH.out m' (by omega) (d-1) (o+1)
   have HV:=Lib.hid (fun W (h1:Below w0.heap.size w0 W) (h2:Rdr W g A n c (q:Int) (o+1) dp)=>hVA W q (by omega) (by omega) h1 h2 hq (by have:=HM.out;omega))
   have b6:=(blk8 HG2.out).2.2.2.2.2.2.1
   clear HL hVA
   cases hD:value F m' (d-1) (src.drop q) with
   | er k0 e0=>
     have HE2:Hid (listP F N d (src.drop p)= .er (q-p+k0) e0):=Lib.hid (by rw [hL,bnd_err hD];rfl)
     have HQK:Hid ((q:Int)+(k0:Int)=((p+(q-p+k0):Nat):Int)):=Lib.hid (by omega)
     have HD:=Lib.hid hD
     have b6d:wr.drew.cell? ⟨w.heap.size+1,6,none⟩=some vv:=b6
     clear hL hD b6
     have hlen:=HLen.out
     go_wp2_with fail
     go_cut [] from 25 to 31 (fun wx=>False)
     case first=>
      go_region_law (first
       | (refine step_app _ rfl (.tmp 26) (.tmp 29) _ rfl (w.heap.size+2) 29 iv _ 8 112 Tryz.underlying26 hiv hv0 hv1 hv2 rfl (by omega) vv acc.length css.flatten rfl (HO3.out.alloc _) (wc.heap.size+1) (some ⟨wc.heap.size,0,none⟩) 1 1 [.int .i64 k2,.bool b2,.int .i64 i2,.float .f64 f2,.string t2,.string y2,.slice A3 is2.length c3,.slice A3' fs2.length c3'] rfl rfl (Rd.new wc [.int .i64 k2,.bool b2,.int .i64 i2,.float .f64 f2,.string t2,.string y2,.slice A3 is2.length c3,.slice A3' fs2.length c3'] 29) (by simp) HV3.out (by unfold maxLen;omega) (by omega) hszc ?_;intro v' w5 hown' hgrow hat5;have R2w:=blk_grown (blk_alloc HG2c.out _) hgrow (own_ne HO3.out (by omega));have j6w:=(blk8 R2w).2.2.2.2.2.2.1;have jfw:=blk_frozen R2w 6;obtain ⟨A5,c5,rfl,_,_,_⟩:=own_form hown';clear hown' hgrow hat5 R2w)
       | (go_simp;go_at_call 28;(refine (HV.out wr.drew (bel_dr HBr.out 1) (HRr.out.drewN 1)).mono ?_;rintro e wc hP;rw [HD.out] at hP;obtain ⟨he,hk⟩:=hP.er;have HK4:Hid (Kp g w.heap.size w wc):=Lib.hid ((HKr.out.drewN 1).next hk (HKr.out.drewN 1).size);clear hk hP;rcases ended e with ⟨vr,rfl⟩ | hne;rotate_left;(subst he;unfold flt;refine ⟨rfl,?_⟩;rw [HE2.out];exact ⟨HK4.out,flt_int HQK.out⟩);have hFF:False:=absurd he (by unfold flt;intro h;cases h);have HFF:=Lib.hid hFF;obtain ⟨k2,b2,i2,f2,t2,y2,is2,fs2,A3,c3,A3',c3',rfl,hV3,hO3,hG2,hsz⟩:∃(k2:Int) (b2:Bool) (i2:Int) (f2:Nat) (t2 y2:ByteArray) (is2:List V) (fs2:List (ByteArray×V)) (A3:Option Addr) (c3:Nat) (A3':Option Addr) (c3':Nat),vr= .agg ([.int .i64 k2,.bool b2,.int .i64 i2,.float .f64 f2,.string t2,.string y2,.slice A3 is2.length c3,.slice A3' fs2.length c3']:List Value).toArray∧(∀u∈([.int .i64 k2,.bool b2,.int .i64 i2,.float .f64 f2,.string t2,.string y2,.slice A3 is2.length c3,.slice A3' fs2.length c3']:List Value),u.oneCell'=true)∧wc.ownsRow (w.heap.size+2) 29 8 vv acc.length css.flatten∧wc.heap[w.heap.size+1]? =some (.cells #[.int .i64 5,.bool false,.int .i64 0,.float .f64 0,.string { data:= #[]},.string { data:= #[]},vv,.slice none 0 0] 29)∧w.heap.size+2≤(wc.alloc (.cells ([.int .i64 k2,.bool b2,.int .i64 i2,.float .f64 f2,.string t2,.string y2,.slice A3 is2.length c3,.slice A3' fs2.length c3']:List Value).toArray 29)).heap.size:=hFF.elim;have HV3:=Lib.hid hV3;have HO3:=Lib.hid hO3;have HG2c:=Lib.hid hG2;have hszc:=hsz;have b6c:=(blk8 hG2).2.2.2.2.2.2.1;have gl1c:=blk_lt hG2;clear he hFF hV3 hO3 hG2 hsz)))
      all_goals exact HFF.out.elim
     case rest=>exact hcut.elim
   | ok x k0=>
     have hk0:0<k0:=Nat.pos_of_ne_zero fun e=>Eats.value F m' (d-1) _ _ (by rw [e] at hD;exact hD)
     have hbl:q+k0≤n:=by
      have h1:=((Loc.all HC'.out.nf m').1 (d-1)).okl _ _ _ hD
      rw [List.length_drop,HC'.out.len] at h1
      omega
     have HL3:=Lib.hid (show listP F N d (src.drop p)=((bnd (more 93) fun b=>if b=true then items F m' (d-1) (acc++[x]) else jp.ret (listV (acc++[x]))) (src.drop (q+k0))).sh (q-p+k0) by rw [hL,bnd_okr hD,sh_sh,List.drop_drop])
     have HD:=Lib.hid hD
     have hlen:=HLen.out
     have hmx:=HM.out
     clear hL hD
     go_wp2_with fail
     go_cut [] from 25 to 31 (fun wx=>∃(css':List (List Value)) (vv':Value),Hid (wx.ownsRow (w.heap.size+2) 29 8 vv' (acc++[x]).length css'.flatten)∧Hid (Elems IsV wx (val.Kids wx (w.heap.size+2) vv') (acc++[x]) css')∧
      Hid (wx.heap[w.heap.size]? =some (.cells #[.int .i64 0,.bool false,.int .i64 0,.float .f64 0,.string { data:= #[]},.string { data:= #[]},.slice none 0 0,.slice none 0 0] 29))∧Hid (wx.heap[w.heap.size+1]? =some (.cells #[.int .i64 5,.bool false,.int .i64 0,.float .f64 0,.string { data:= #[]},.string { data:= #[]},vv',.slice none 0 0] 29))∧Hid (Rdr wx g A n c ((q+k0:Nat):Int) (o+1) dp)∧Hid (Kp g w.heap.size w wx)∧w.heap.size+2≤wx.heap.size)
     case first=>
      have HEd:=Lib.hid (HE.out.below recV ((Below.refl wr.heap.size wr).drew))
      have b6d:wr.drew.cell? ⟨w.heap.size+1,6,none⟩=some vv:=b6
      clear b6
      go_region_law (first
       | (refine step_app _ rfl (.tmp 26) (.tmp 29) _ rfl (w.heap.size+2) 29 iv _ 8 112 Tryz.underlying26 hiv hv0 hv1 hv2 rfl (by omega) vv acc.length css.flatten rfl (HO3.out.alloc _) (wc.heap.size+1) (some ⟨wc.heap.size,0,none⟩) 1 1 [.int .i64 k2,.bool b2,.int .i64 i2,.float .f64 f2,.string t2,.string y2,.slice A3 is2.length c3,.slice A3' fs2.length c3'] rfl rfl (Rd.new wc [.int .i64 k2,.bool b2,.int .i64 i2,.float .f64 f2,.string t2,.string y2,.slice A3 is2.length c3,.slice A3' fs2.length c3'] 29) (by simp) (isV_one HV3.out) (by unfold maxLen;omega) (by omega) (by simp;omega) ?_;intro v' w5 hown' hgrow hat5;have R2w:=blk_grown (blk_alloc HG2c.out _) hgrow (own_ne HO3.out (by omega));have j6w:=(blk8 R2w).2.2.2.2.2.2.1;have jfw:=blk_frozen R2w 6;have R2W:=Lib.hid R2w;have HO5:=Lib.hid hown';have HG5:=Lib.hid hgrow;have HA5:=Lib.hid hat5;obtain ⟨A5,c5,rfl,_,_,_⟩:=own_form hown';clear hown' hgrow hat5 R2w)
       | (go_simp;go_at_call 28;(refine (HV.out wr.drew (bel_dr HBr.out 1) (HRr.out.drewN 1)).mono ?_;rintro e wc hP;rw [HD.out] at hP;obtain ⟨vr,rfl,⟨cs3,rfl,hv3⟩,hr3,hk3⟩:=hP.ok;obtain ⟨k2,b2,i2,f2,t2,y2,is2,fs2⟩:=x;have HV3:=Lib.hid hv3;simp only [IsV] at hv3;obtain ⟨A3,c3,A3',c3',rfl,_⟩:=hv3;have HR3:=Lib.hid hr3;have HK3:Hid (Kp g w.heap.size w wc):=Lib.hid ((HKr.out.drewN 1).next hk3 (HKr.out.drewN 1).size);have HO3:=Lib.hid (row_kp (w:=wr.drew) HO.out hk3 (by omega));have HE3:=Lib.hid (elems_kp recV (w:=wr.drew) HEd.out hk3 (by omega));have HG1c:=Lib.hid (blk_kp (w:=wr.drew) HG1.out hk3 (by omega));have HG2c:=Lib.hid (blk_kp (w:=wr.drew) HG2.out hk3 (by omega));have b6c:=(blk8 HG2c.out).2.2.2.2.2.2.1;have hszc:wr.heap.size≤wc.heap.size:=hk3.size;have gl1c:=blk_lt HG2c.out;clear hr3 hk3 hP)))
      all_goals
       go_wp2_with fail
       go_meet
       case rel=>
        have hOn:w5.ownsRow (w.heap.size+2) 29 8 (.slice A5 (acc.length+1) c5) (acc++[V.mk k2 b2 i2 f2 t2 y2 is2 fs2]).length (css++[([.int .i64 k2,.bool b2,.int .i64 i2,.float .f64 f2,.string t2,.string y2,.slice A3 is2.length c3,.slice A3' fs2.length c3']:List Value)]).flatten:=by
         have h1:=HO5.out
         rw [List.length_append,List.flatten_append]
         simpa only [List.flatten_cons,List.flatten_nil,List.append_nil,List.length_cons,List.length_nil,Nat.zero_add] using h1
        have hxk:IsV wc (val.Kids wc (w.heap.size+2) vv) (.mk k2 b2 i2 f2 t2 y2 is2 fs2) [.int .i64 k2,.bool b2,.int .i64 i2,.float .f64 f2,.string t2,.string y2,.slice A3 is2.length c3,.slice A3' fs2.length c3']:=HV3.out.more (kid_new HO.out (Nat.le_refl wr.heap.size) hsr)
        have hEn:=Elems.app recV HE3.out hxk HG5.out HA5.out
        have hsz5:wc.heap.size+1≤w5.heap.size:=by have:=HG5.out.size;simpa using this
        have hne5:∀k,k<w.heap.size+2→some k≠vv.ownBlock:=fun k hk=>own_ne HO3.out hk
        exact ⟨css++[([.int .i64 k2,.bool b2,.int .i64 i2,.float .f64 f2,.string t2,.string y2,.slice A3 is2.length c3,.slice A3' fs2.length c3']:List Value)],.slice A5 (acc.length+1) c5,ownsRow_setCell_below hOn (show w.heap.size+1<w.heap.size+2 by omega) _,hEn.low recV (show w.heap.size+1<w.heap.size+2 by omega) _,
         blk_far (blk_grown (blk_alloc HG1c.out _) HG5.out (hne5 _ (by omega))) (show w.heap.size≠w.heap.size+1 by omega) _,Lib.hid (by simpa using blk_set R2W.out 6 (.slice A5 (acc.length+1) c5)),
         ((HR3.out.alloc _).keep (HG5.out.block g (HR3.out.alloc _).lt (hne5 g (by omega)))).keep (Below.heap_setCell _ _ _ _ (show g≠w.heap.size+1 by omega)),
         ((HK3.out.alloc (by omega) _).grown HG5.out (by simp;omega) (fun k hk=>by have:=(HO3.out.lt k hk).1;omega)).setCell (show w.heap.size≤w.heap.size+1 by omega) _,by simp [World.setCell];omega⟩
     obtain ⟨css',vv',HO6,HE6,HG1',HG2',HR6,HK6,hs6⟩:=hcut
     clear HO HE HG1 HG2 HRr HKr HBr hsr b6 HV HD
     have HB6:=Lib.hid (below_kp HC'.out HB.out HK6.out)
     go_wp2_with fail
     refine (more_any HC'.out 93 (by decide) (by decide) (by omega) (by omega) wc (q+k0) HB6.out HR6.out hbl).mono ?_
     rintro e w7 hP
     cases hM:more 93 (src.drop (q+k0)) with
     | er k1 e1=>
       rw [hM] at hP
       obtain ⟨rfl,hk7⟩:=hP.er
       have HF:=Lib.hid (HK6.out.next hk7 HK6.out.size)
       have HE2:Hid (listP F N d (src.drop p)= .er (q-p+k0+k1) e1):=Lib.hid (by rw [HL3.out,bnd_err hM];rfl)
       clear hP hk7 hM HL3
       unfold flt
       go_wp2_with fail
       refine ⟨rfl,?_⟩
       rw [HE2.out]
       exact ⟨HF.out,flt_int (by omega)⟩
     | ok bm k1=>
       rw [hM] at hP
       obtain ⟨v7,rfl,rfl,hr7,hk7⟩:=hP.ok
       have hk1:q+k0+k1≤n:=by
        have h1:=(Loc.more 93).okl _ _ _ hM
        rw [List.length_drop,HC'.out.len] at h1
        omega
       have HL4:=Lib.hid (show listP F N d (src.drop p)=((if bm=true then items F m' (d-1) (acc++[x]) else jp.ret (listV (acc++[x]))) (src.drop (q+k0+k1))).sh (q-p+k0+k1) by rw [HL3.out,bnd_okr hM,sh_sh,List.drop_drop])
       have HO7:=Lib.hid (row_kp HO6.out hk7 (by omega))
       have HE7:=Lib.hid (elems_kp recV HE6.out hk7 (by omega))
       have HG17:=Lib.hid (blk_kp HG1'.out hk7 (by omega))
       have HG27:=Lib.hid (blk_kp HG2'.out hk7 (by omega))
       have HK7:=Lib.hid (HK6.out.next hk7 HK6.out.size)
       have HR7:=Lib.hid hr7
       have hs7:w.heap.size+2≤w7.heap.size:=by have:=hk7.size;omega
       have hla:(acc++[x]).length=acc.length+1:=by simp
       clear hP hr7 hk7 hM HL3 HO6 HE6 HG1' HG2' HR6 HK6 HB6
       cases bm with
       | true=>
         have HR8:Hid (Rdr w7 g A n c ((q+k0+k1:Nat):Int) (o+1) dp):=Lib.hid HR7.out
         go_wp2_with fail
         refine ⟨⟨q+k0+k1,m',acc++[x],css',vv',by omega,hk1,Lib.hid (by omega),by omega,Lib.hid (by rw [hla];omega),HO7,HE7,HG17,HG27,HR8,HK7,hs7,Lib.hid (by rw [HL4.out,if_pos trivial];congr 1;omega)⟩,?_⟩
         rw [hat,HR8.out.atOf]
         omega
       | false=>
         have HE2:Hid (listP F N d (src.drop p)= .ok (listV (acc++[x])) (q-p+k0+k1)):=Lib.hid (by rw [HL4.out,if_neg (by decide)];rfl)
         have HR8:Hid (Rdr w7 g A n c ((q+k0+k1:Nat):Int) o dp):=Lib.hid (by have:=HR7.out;rw [if_neg (by decide),Int.add_sub_cancel] at this;exact this)
         clear hla
         generalize acc++[x]=l2 at*
         obtain ⟨A5,c5,rfl,hA5,_,_⟩:=own_form HO7.out
         have hG7:=HG17.out
         obtain ⟨m0,m1,m2,m3,m4,m5,m6,m7⟩:=blk8 hG7
         obtain ⟨q0,q1,q2,q3,q4,q5,q6,q7⟩:=blk8 HG27.out
         have j0:=blk_frozen hG7 0
         have j1:=blk_frozen hG7 1
         have j2:=blk_frozen hG7 2
         have j3:=blk_frozen hG7 3
         have j4:=blk_frozen hG7 4
         have j5:=blk_frozen hG7 5
         have j6:=blk_frozen hG7 6
         have j7:=blk_frozen hG7 7
         have HS8:=Lib.hid (store8 hG7 (.int .i64 5) (.bool false) (.int .i64 0) (.float .f64 0) (.string { data:= #[]}) (.string { data:= #[]}) (.slice A5 l2.length c5) (.slice none 0 0))
         have HIs:=Lib.hid (own_isVs HO7.out HE7.out)
         have HA5:=Lib.hid hA5
         clear hG7 HL4 HO7 HE7 HG17 HG27 HR7 hA5
         go_wp2_with fail
         obtain ⟨s1,s2,s3⟩:=HS8.out
         obtain ⟨o0,o1',o2,o3,o4,o5,o6,o7⟩:=blk8 s1
         refine bodyPost_ret (v:= .agg #[.int .i64 5,.bool false,.int .i64 0,.float .f64 0,.string { data:= #[]},.string { data:= #[]},.slice A5 l2.length c5,.slice none 0 0]) (by simp [results,Tryz.results53,go_sem,o0,o1',o2,o3,o4,o5,o6,o7]) rfl ?_
         rw [HE2.out]
         refine ⟨HK7.out.trans (s3 g w.heap.size (Nat.le_refl _)),_,rfl,⟨_,rfl,?_⟩,Rdr.to (HR8.out.keep (s2 g (by omega))) (by omega)⟩
         unfold listV
         simp only [IsV,IsFs]
         exact ⟨A5,c5,none,0,rfl,HA5.out,fun _=>rfl,HIs.out.keep (fun p hp=>World.cell?_of_block (s2 p.block (by have:=hp.1;omega))) (fun b hb=>⟨by have:=hb.1;omega,by have:=hb.2;simpa [World.setCell] using this⟩),trivial⟩
end
end Go.Proofs.YtjhhdnnblcbdbaaGreatDoor.jw
end
