/- The library's decimal: what set answers. The library's decimal: set, walked, on the text 0.DIGITSeEXPONENT. The library's decimal: set, walked, on the text 0.DIGITSe-EXPONENT. -/
import Derived.Test.YtjhhdnnblcbdbaaGreatDoorGDcj
import Derived.Test.YtjhhdnnblcbdbaaGreatDoorGDl
import Derived.BigRegion
section
namespace Go.Proofs.YtjhhdnnblcbdbaaGreatDoor.dcm
open Go.RowKit mem fl big us uw
set_option linter.unusedVariables false
theorem DcAt.setS {W:World} {g:Nat} {L:List Nat} {nd:Nat} {dp:Int} {tr:Bool} (h:DcAt W g L nd dp false tr):DcAt (W.setCell ⟨g,802,none⟩ (.bool false)) g L nd dp false tr:=by
 refine ⟨h.len,h.by8,(blk_set h.blk 802 _).trans ?_⟩
 congr 2
 apply Array.ext_getElem?
 intro j
 have hl:=h.len
 rw [Array.getElem?_setIfInBounds]
 split
 ·rename_i hh
  subst hh
  have hs:(dcells L nd dp false tr).size=804:=by simp [dcells,hl]
  rw [if_pos (by omega)]
  exact (dc_hi hl 2).symm
 ·rfl
def SetPost (g:Nat) (D:List Nat) (k:Nat) (E:Int) (w:World) (e:Ending) (w':World):Prop:=
 e= .returned (.bool true)∧∃L',DcAt w' g L' (min k 800) E false ((D.drop 800).any fun c=>c !=48)∧(∀u,u<min k 800→L'.getD u 0=D.getD u 0)∧w.grownBy w' (some g)
end Go.Proofs.YtjhhdnnblcbdbaaGreatDoor.dcm
end
section
namespace Go.Proofs.YtjhhdnnblcbdbaaGreatDoor.dcm
open Go.RowKit mem fl big us uw
set_option linter.unusedVariables false
set_option maxRecDepth 100000 in
set_option maxHeartbeats 4000000 in
theorem set_pos (g:Nat) (L0:List Nat) (s:ByteArray) (D:List Nat) (k E:Nat) (w:World) (h:DcAt w g L0 0 0 false false) (hs:nats s=rfT D (dgs E)) (hk:D.length=k) (hk0:0<k) (hkb:k≤1100000) (hD:∀c∈D,48≤c∧c≤57) (hD0:D.getD 0 0≠48) (hE:E<1000):
  Calls Tryz.prog 154 #[.pointer (some ⟨g,0,none⟩),.string s] w (SetPost g D k (E:Int) w):=by
 have hXl:0<(dgs E).length∧(dgs E).length≤3:=by
  rw [dgs_length]
  exact ⟨Lib.nDigits_pos E,nd_le 3 E (by decide) hE⟩
 obtain ⟨x,hx⟩:∃x,(dgs E).length=x:=⟨_,rfl⟩
 have hsz:s.size=k+3+x:=by
  have h1:=nats_length s
  rw [hs,rfT_len,hk] at h1
  try simp only [List.length_cons] at h1
  omega
 have hget:∀i (h:i<s.size),(s[i]).toNat=(rfT D (dgs E)).getD i 0:=fun i h=>by
  have h1:=nats_get s i h
  rw [←h1,←hs,List.getD_eq_getElem?_getD,List.getElem?_eq_getElem (by rw [nats_length];exact h)]
  rfl
 have HGd:=Lib.hid (fun t (h:t<k) (h2:t+2<s.size)=>(hget (t+2) h2).trans (rfT_D D (dgs E) t (by omega)))
 have re:=rfT_e D (dgs E)
 have rx:=rfT_X D (dgs E)
 rw [hk] at re rx
 have HGe:=Lib.hid (fun (h2:k+2<s.size)=>(hget (k+2) h2).trans re)
 have HGx:=Lib.hid (fun t (h2:k+3+t<s.size)=>(hget (k+3+t) h2).trans (rx t))
 have hb0:0<s.size:=by omega
 have hb1:1<s.size:=by omega
 have g0':(s[0]'hb0).toNat=48:=hget 0 hb0
 have g1':(s[1]'hb1).toNat=46:=hget 1 hb1
 have HDd:=Lib.hid (fun t (h:t<k)=>hD (D.getD t 0) (by rw [List.getD_eq_getElem?_getD,List.getElem?_eq_getElem (by omega)];exact List.getElem_mem _))
 have HD0:=Lib.hid hD0
 have HK:=Lib.hid hk
 have HXx:=Lib.hid hx
 have HSz:=Lib.hid hsz
 rw [hx] at hXl
 have hsz0:0<s.size:=by omega
 have hsz2:2<s.size:=by omega
 have hsz3:k+3<s.size:=by omega
 have zz2:decide ((0:Int)≥s.size)=false:=decide_eq_false (by omega)
 have zz1:decide ((s.size:Int)≤0)=false:=decide_eq_false (by omega)
 have hne:¬s=ByteArray.empty:=fun h=>by rw [h] at hsz0;exact absurd hsz0 (by decide)
 have hne2:decide (s=ByteArray.empty)=false:=decide_eq_false hne
 have H1:=Lib.hid ((h.setS).setT false)
 have hG1:=Lib.hid (grown_set (grown_set (grown_refl w (some g)) 802 (.bool false)) 803 (.bool false))
 have s0:=h.cS
 have t0:=h.cT
 have z2:=h.fz 802
 have z3:=h.fz 803
 clear hs hD hD0 hget hk hx hsz re rx h
 go_enter Tryz.func154,Tryz.ntmps154
 go_wp2_with fail
 clear s0 t0 z2 z3 zz1 zz2
 go_loopw [5,6,7] (fun v5 v6 v7 wr=>∃(i:Nat) (dot dg:Bool),i≤k+2∧v5= .int .i64 (i:Int)∧v6= .bool dot∧v7= .bool dg∧w.grownBy wr (some g)∧
   ((i=0∧dot=false∧dg=false∧Hid (DcAt wr g L0 0 0 false false))∨(i=1∧dot=false∧dg=true∧Hid (DcAt wr g L0 0 (-1) false false))∨
     (∃(t:Nat) (Lw:List Nat) (tr:Bool),i=t+2∧t≤k∧dot=true∧dg=true∧Hid (DcAt wr g Lw (min t 800) 0 false tr)∧Hid ((∀u,u<min t 800→Lw.getD u 0=D.getD u 0)∧tr=((D.take t).drop 800).any fun c=>c !=48)))) (fun v5 _ _ _=>k+3-(intOf v5).toNat)
 case atStart=>exact ⟨0,false,false,by omega,rfl,rfl,rfl,hG1.out,.inl ⟨rfl,rfl,rfl,H1⟩⟩
 case round=>
  clear H1 hG1
  obtain ⟨i,dot,dg,hi,rfl,rfl,rfl,hg,hst⟩:=hrel
  have HG:=Lib.hid hg
  clear hg
  rcases hst with ⟨rfl,rfl,rfl,HD⟩ | ⟨rfl,rfl,rfl,HD⟩ | ⟨t,Lw,tr,rfl,htk,rfl,rfl,HD,hst⟩
  ·have c0:=HD.out.cN
   have p0:=HD.out.cP
   have z1:=HD.out.fz 801
   have HS:=Lib.hid (HD.out.setP (-1))
   have c00:wr.cell? ⟨g,800,none⟩=some (.int .i64 0):=c0
   clear c0
   go_wp2_with fail
   exact ⟨⟨1,false,true,by omega,rfl,rfl,rfl,grown_set HG.out _ _,.inr (.inl ⟨rfl,rfl,rfl,HS⟩)⟩,by simp [intOf] <;> omega⟩
  ·have c0:=HD.out.cN
   have p0:=HD.out.cP
   have z1:=HD.out.fz 801
   have HS:=Lib.hid (HD.out.setP 0)
   have c00:wr.cell? ⟨g,800,none⟩=some (.int .i64 0):=c0
   clear c0
   go_wp2_with fail
   exact ⟨⟨2,true,true,by omega,rfl,rfl,rfl,grown_set HG.out _ _,.inr (.inr ⟨0,L0,false,rfl,by omega,rfl,rfl,HS,Lib.hid ⟨fun u hu=>absurd hu (by omega),by simp⟩⟩)⟩,by simp [intOf] <;> omega⟩
  ·have hti:t+2<s.size:=by omega
   by_cases htk2:t<k
   ·obtain ⟨c,hc⟩:∃c,D.getD t 0=c:=⟨_,rfl⟩
    have hcc:=HGd.out t htk2 hti
    have hcd:=HDd.out t htk2
    rw [hc] at hcc hcd
    have hcd1:=hcd.1
    have hcd2:=hcd.2
    have p1:((c:Int)==95)=false:=beq_false_of_ne (by omega)
    have p2:((c:Int)==46)=false:=beq_false_of_ne (by omega)
    have p3:decide ((48:Int)≤c)=true:=decide_eq_true (by omega)
    have p4:decide ((c:Int)≤57)=true:=decide_eq_true (by omega)
    have hc48:t=0→c≠48:=fun h=>by subst h;rw [←hc];exact HD0.out
    have HC:=Lib.hid hc
    have HMt:=Lib.hid hst.out
    have HTK:=Lib.hid htk
    have c0:=HD.out.cN
    by_cases h8:t<800
    ·have hm:min t 800=t:=by omega
     rw [hm] at HMt HD c0
     have dt:=HD.out.cD h8
     have zt:=HD.out.fz t
     have ht8:(t:Int)<800:=by omega
     have HS1:=HD.out.setD h8 (show c<256 by omega)
     have c1:=HS1.cN
     have z1:=HS1.fz 800
     have HS:=Lib.hid (HS1.setN (t+1))
     have HNx:Hid ((∀u,u<min (t+1) 800→(Lw.set t c).getD u 0=D.getD u 0)∧tr=(((D.take (t+1)).drop 800).any fun c=>c !=48)):=Lib.hid (by
      obtain ⟨a1,a2⟩:=HMt.out
      have hl:=HD.out.len
      refine ⟨fun u hu=>?_,?_⟩
      ·by_cases hut:u=t
       ·subst hut
        rw [getD_set_eq (by omega),HC.out]
       ·rw [getD_set_ne (fun hh=>hut hh.symm)]
        exact a1 u (by omega)
      ·rw [a2,List.drop_of_length_le (by rw [List.length_take];omega),List.drop_of_length_le (by rw [List.length_take];omega)])
     have ht1:((t+1:Nat):Int)=(t:Int)+1:=by omega
     have hmt:t+1=min (t+1) 800:=by omega
     have HSF:=Lib.hid (fun (W:World) (hW:W.heap=((wr.setCell ⟨g,t,none⟩ (.int .u8 (c:Int))).setCell ⟨g,800,none⟩ (.int .i64 ((t:Int)+1))).heap)=>(show DcAt W g (Lw.set t c) (min (t+1) 800) 0 false tr from by rw [←hmt];have:=HS.out;rw [ht1] at this;exact this.as hW))
     have HGF:=Lib.hid (grown_set (grown_set HG.out t (.int .u8 (c:Int))) 800 (.int .i64 ((t:Int)+1)))
     have hch:∃b1:Bool,((c:Int)==48)=b1∧(b1=true→((t:Int)==0)=false∧¬t=0):=by
      by_cases h48:c=48
      ·exact ⟨true,by simp [h48],fun _=>⟨beq_false_of_ne (fun hh=>hc48 (by omega) h48),fun hh=>hc48 hh h48⟩⟩
      ·exact ⟨false,beq_false_of_ne (by omega),fun hh=>Bool.noConfusion hh⟩
     obtain ⟨b1,hb1,hb2⟩:=hch
     clear hc hcd hst HMt HD HS1 hm htk ht1 hmt hc48 HS
     cases b1
     ·clear hb2
      go_wp2_with fail
      go_region
      go_wp2_with fail
      exact ⟨⟨t+1+2,true,true,by have:=HTK.out;omega,congrArg (Value.int .i64) (by omega),rfl,rfl,grown_as HGF.out rfl rfl rfl rfl,.inr (.inr ⟨t+1,Lw.set t c,tr,rfl,by have:=HTK.out;omega,rfl,rfl,Lib.hid (HSF.out _ rfl),HNx⟩)⟩,by simp [intOf] <;> omega⟩
     ·obtain ⟨ht0,ht0'⟩:=hb2 rfl
      clear hb2
      go_wp2_with fail
      go_region
      go_wp2_with fail
      exact ⟨⟨t+1+2,true,true,by have:=HTK.out;omega,congrArg (Value.int .i64) (by omega),rfl,rfl,grown_as HGF.out rfl rfl rfl rfl,.inr (.inr ⟨t+1,Lw.set t c,tr,rfl,by have:=HTK.out;omega,rfl,rfl,Lib.hid (HSF.out _ rfl),HNx⟩)⟩,by simp [intOf] <;> omega⟩
    ·have hm:min t 800=800:=by omega
     rw [hm] at HMt HD c0
     have ht8:¬((t:Int)=0):=by omega
     have ht9:((t:Int)==0)=false:=beq_false_of_ne ht8
     have e8:((800:Nat):Int)=800:=rfl
     rw [e8] at c0
     have z3:=HD.out.fz 803
     have t3:=HD.out.cT
     have hmt:min (t+1) 800=800:=by omega
     have HNx:Hid ((∀u,u<min (t+1) 800→Lw.getD u 0=D.getD u 0)∧(tr||(c !=48))=(((D.take (t+1)).drop 800).any fun c=>c !=48)):=Lib.hid (by
      obtain ⟨a1,a2⟩:=HMt.out
      have hk:=HK.out
      refine ⟨fun u hu=>a1 u (by omega),?_⟩
      rw [a2,List.take_succ_eq_append_getElem (by omega),List.drop_append_of_le_length (by rw [List.length_take];omega),List.any_append]
      have h9:=HC.out
      rw [List.getD_eq_getElem?_getD,List.getElem?_eq_getElem (by omega)] at h9
      simp only [Option.getD_some] at h9
      rw [h9]
      simp)
     have HDT:=Lib.hid (show DcAt (wr.setCell ⟨g,803,none⟩ (.bool true)) g Lw (min (t+1) 800) 0 false true from by rw [hmt];exact HD.out.setT true)
     have HDF:=Lib.hid (show DcAt wr g Lw (min (t+1) 800) 0 false tr from by rw [hmt];exact HD.out)
     clear hc hcd hst HMt HD hm htk hmt hc48 e8
     by_cases h48:c=48
     ·have hb1:((c:Int)==48)=true:=by simp [h48]
      have hb2:((c:Int) !=48)=false:=by simp [h48]
      have hb3:(tr||(c !=48))=tr:=by simp [h48]
      rw [hb3] at HNx
      clear h48 hb3
      go_wp2_with fail
      exact ⟨⟨t+1+2,true,true,by have:=HTK.out;omega,congrArg (Value.int .i64) (by omega),rfl,rfl,HG.out,.inr (.inr ⟨t+1,Lw,tr,rfl,by have:=HTK.out;omega,rfl,rfl,HDF,HNx⟩)⟩,by simp [intOf] <;> omega⟩
     ·have hb1:((c:Int)==48)=false:=beq_false_of_ne (by omega)
      have hb2:((c:Int) !=48)=true:=bne_iff_ne.2 (by omega)
      have hb3:(tr||(c !=48))=true:=by rw [bne_iff_ne.2 h48,Bool.or_true]
      rw [hb3] at HNx
      clear h48 hb3
      go_wp2_with fail
      exact ⟨⟨t+1+2,true,true,by have:=HTK.out;omega,congrArg (Value.int .i64) (by omega),rfl,rfl,grown_set HG.out _ _,.inr (.inr ⟨t+1,Lw,true,rfl,by have:=HTK.out;omega,rfl,rfl,HDT,HNx⟩)⟩,by simp [intOf] <;> omega⟩
   ·obtain rfl:t=k:=by omega
    have hce:=HGe.out hti
    have HMt:=Lib.hid hst.out
    clear hst
    have hsz:=HSz.out
    have p0:=HD.out.cP
    have z1:=HD.out.fz 801
    have HFin:=Lib.hid (fun (W:World) (hW:W.heap=(wr.setCell ⟨g,801,none⟩ (.int .i64 (E:Int))).heap)=>(show DcAt W g Lw (min t 800) (E:Int) false ((D.drop 800).any fun c=>c !=48)∧∀u,u<min t 800→Lw.getD u 0=D.getD u 0 from by
     obtain ⟨a1,a2⟩:=HMt.out
     rw [show D.take t=D by rw [←HK.out];exact List.take_length] at a2
     rw [←a2]
     exact ⟨(HD.out.setP (E:Int)).as hW,a1⟩))
    have HFin2:=Lib.hid HMt.out.1
    have hx1:(s[t+2+1]'(by omega)).toNat=(dgs E).getD 0 0:=HGx.out 0 (by omega)
    have HEd:=Lib.hid (fun t (h:t<x)=>dgs_bytes E ((dgs E).getD t 0) (by rw [List.getD_eq_getElem?_getD,List.getElem?_eq_getElem (by have:=HXx.out;omega)];exact List.getElem_mem _))
    obtain ⟨c0,hc0⟩:∃c0,(dgs E).getD 0 0=c0:=⟨_,rfl⟩
    have hcd:=HEd.out 0 (by omega)
    rw [hc0] at hx1 hcd
    have hcd1:=hcd.1
    have hcd2:=hcd.2
    have p1:((c0:Int)==43)=false:=beq_false_of_ne (by omega)
    have p2:((c0:Int)==45)=false:=beq_false_of_ne (by omega)
    have p3:decide ((c0:Int)<48)=false:=decide_eq_false (by omega)
    have p4:decide ((c0:Int)>57)=false:=decide_eq_false (by omega)
    have p5:decide ((57:Int)<c0)=false:=decide_eq_false (by omega)
    clear hcd hc0 HMt HD
    go_wp2_with fail
    refine (lower_101 _).mono ?_
    rintro e wl ⟨rfl,rfl⟩
    go_wp2_with fail
    clear p1 p2 p3 p4 p5 hx1 hcd1 hcd2
    go_loopw [5,9] (fun v5 v9 wr=>∃(u e:Nat),u≤x∧v5= .int .i64 ((t+3+u:Nat):Int)∧v9= .int .i64 (e:Int)∧e≤999∧wr=wl∧Hid (e=dvn ((dgs E).take u))) (fun v5 _ _=>s.size-(intOf v5).toNat)
    case atStart=>exact ⟨0,0,by omega,congrArg (Value.int .i64) (by omega),rfl,by omega,rfl,Lib.hid rfl⟩
    case round=>
     obtain ⟨u,e,ht,rfl,rfl,he,rfl,hst⟩:=hrel
     by_cases htx:u<x
     ·obtain ⟨i,hi⟩:∃i,t+3+u=i:=⟨_,rfl⟩
      have his:i<s.size:=by omega
      have hcc:(s[i]).toNat=(dgs E).getD u 0:=by
       subst hi
       have:=HGx.out u (by omega)
       simpa [Nat.add_assoc,Nat.add_comm,Nat.add_left_comm] using this
      obtain ⟨c,hc⟩:∃c,(dgs E).getD u 0=c:=⟨_,rfl⟩
      have hcd:=HEd.out u htx
      rw [hc] at hcc hcd
      have hcd1:=hcd.1
      have hcd2:=hcd.2
      have p1:((c:Int)==95)=false:=beq_false_of_ne (by omega)
      have p3:decide ((48:Int)≤c)=true:=decide_eq_true (by omega)
      have p4:decide ((c:Int)≤57)=true:=decide_eq_true (by omega)
      have hstep:Hid (e*10+(c-48)=dvn ((dgs E).take (u+1))):=Lib.hid (by rw [dvn_take _ u (by have:=HXx.out;omega),←hst.out,hc])
      have hb9:e*10+(c-48)≤999:=by
       rw [hstep.out]
       have h7:dvn ((dgs E).take (u+1))≤dvn (dgs E):=by
        have h8:=dvn_app ((dgs E).take (u+1)) ((dgs E).drop (u+1))
        rw [List.take_append_drop] at h8
        rw [h8]
        exact Nat.le_trans (Nat.le_mul_of_pos_right _ (Nat.pow_pos (by decide))) (Nat.le_add_right _ _)
       rw [dvn_dgs'] at h7
       omega
      have hi9:=Lib.hid hi
      rw [hi]
      clear hcd hst hi hc
      go_wp2_with fail
      exact ⟨⟨u+1,e*10+(c-48),by omega,congrArg (Value.int .i64) (by have:=hi9.out;omega),congrArg (Value.int .i64) (by omega),hb9,trivial,hstep⟩,by simp [intOf] <;> omega⟩
     ·obtain rfl:u=x:=by omega
      have hfin:e=E:=by
       have h7:=hst.out
       rw [show (dgs E).take u=dgs E by rw [←HXx.out];exact List.take_length,dvn_dgs'] at h7
       exact h7
      subst hfin
      have hi9:((t+3+u:Nat):Int)=s.size:=by omega
      rw [hi9]
      have z9:decide ((s.size:Int)<s.size)=false:=decide_eq_false (by omega)
      have z8:((s.size:Int) !=s.size)=false:=by simp
      clear hst
      go_wp2_with fail
      refine bodyPost_ret (v:= .bool true) (by simp [results,Tryz.results154,go_sem]) rfl ⟨rfl,Lw,(HFin.out _ ?_).1,HFin2.out,?_⟩
      ·rfl
      ·exact grown_set HG.out _ _
end Go.Proofs.YtjhhdnnblcbdbaaGreatDoor.dcm
end
section
namespace Go.Proofs.YtjhhdnnblcbdbaaGreatDoor.dcm
open Go.RowKit mem fl big us uw
set_option linter.unusedVariables false
set_option maxRecDepth 100000 in
set_option maxHeartbeats 4000000 in
theorem set_neg (g:Nat) (L0:List Nat) (s:ByteArray) (D:List Nat) (k E:Nat) (w:World) (h:DcAt w g L0 0 0 false false) (hs:nats s=rfT D (45 :: dgs E)) (hk:D.length=k) (hk0:0<k) (hkb:k≤1100000) (hD:∀c∈D,48≤c∧c≤57) (hD0:D.getD 0 0≠48) (hE:E<1000):
  Calls Tryz.prog 154 #[.pointer (some ⟨g,0,none⟩),.string s] w (SetPost g D k (-(E:Int)) w):=by
 have hXl:0<(dgs E).length∧(dgs E).length≤3:=by
  rw [dgs_length]
  exact ⟨Lib.nDigits_pos E,nd_le 3 E (by decide) hE⟩
 obtain ⟨x,hx⟩:∃x,(dgs E).length=x:=⟨_,rfl⟩
 have hsz:s.size=k+4+x:=by
  have h1:=nats_length s
  rw [hs,rfT_len,hk] at h1
  try simp only [List.length_cons] at h1
  omega
 have hget:∀i (h:i<s.size),(s[i]).toNat=(rfT D (45 :: dgs E)).getD i 0:=fun i h=>by
  have h1:=nats_get s i h
  rw [←h1,←hs,List.getD_eq_getElem?_getD,List.getElem?_eq_getElem (by rw [nats_length];exact h)]
  rfl
 have HGd:=Lib.hid (fun t (h:t<k) (h2:t+2<s.size)=>(hget (t+2) h2).trans (rfT_D D (45 :: dgs E) t (by omega)))
 have re:=rfT_e D (45 :: dgs E)
 have rx:=rfT_X D (45 :: dgs E)
 rw [hk] at re rx
 have HGe:=Lib.hid (fun (h2:k+2<s.size)=>(hget (k+2) h2).trans re)
 have HGx:=Lib.hid (fun t (h2:k+3+t<s.size)=>(hget (k+3+t) h2).trans (rx t))
 have hb0:0<s.size:=by omega
 have hb1:1<s.size:=by omega
 have g0':(s[0]'hb0).toNat=48:=hget 0 hb0
 have g1':(s[1]'hb1).toNat=46:=hget 1 hb1
 have HDd:=Lib.hid (fun t (h:t<k)=>hD (D.getD t 0) (by rw [List.getD_eq_getElem?_getD,List.getElem?_eq_getElem (by omega)];exact List.getElem_mem _))
 have HD0:=Lib.hid hD0
 have HK:=Lib.hid hk
 have HXx:=Lib.hid hx
 have HSz:=Lib.hid hsz
 rw [hx] at hXl
 have hsz0:0<s.size:=by omega
 have hsz2:2<s.size:=by omega
 have hsz3:k+3<s.size:=by omega
 have zz2:decide ((0:Int)≥s.size)=false:=decide_eq_false (by omega)
 have zz1:decide ((s.size:Int)≤0)=false:=decide_eq_false (by omega)
 have hne:¬s=ByteArray.empty:=fun h=>by rw [h] at hsz0;exact absurd hsz0 (by decide)
 have hne2:decide (s=ByteArray.empty)=false:=decide_eq_false hne
 have H1:=Lib.hid ((h.setS).setT false)
 have hG1:=Lib.hid (grown_set (grown_set (grown_refl w (some g)) 802 (.bool false)) 803 (.bool false))
 have s0:=h.cS
 have t0:=h.cT
 have z2:=h.fz 802
 have z3:=h.fz 803
 clear hs hD hD0 hget hk hx hsz re rx h
 go_enter Tryz.func154,Tryz.ntmps154
 go_wp2_with fail
 clear s0 t0 z2 z3 zz1 zz2
 go_loopw [5,6,7] (fun v5 v6 v7 wr=>∃(i:Nat) (dot dg:Bool),i≤k+2∧v5= .int .i64 (i:Int)∧v6= .bool dot∧v7= .bool dg∧w.grownBy wr (some g)∧
   ((i=0∧dot=false∧dg=false∧Hid (DcAt wr g L0 0 0 false false))∨(i=1∧dot=false∧dg=true∧Hid (DcAt wr g L0 0 (-1) false false))∨
     (∃(t:Nat) (Lw:List Nat) (tr:Bool),i=t+2∧t≤k∧dot=true∧dg=true∧Hid (DcAt wr g Lw (min t 800) 0 false tr)∧Hid ((∀u,u<min t 800→Lw.getD u 0=D.getD u 0)∧tr=((D.take t).drop 800).any fun c=>c !=48)))) (fun v5 _ _ _=>k+3-(intOf v5).toNat)
 case atStart=>exact ⟨0,false,false,by omega,rfl,rfl,rfl,hG1.out,.inl ⟨rfl,rfl,rfl,H1⟩⟩
 case round=>
  clear H1 hG1
  obtain ⟨i,dot,dg,hi,rfl,rfl,rfl,hg,hst⟩:=hrel
  have HG:=Lib.hid hg
  clear hg
  rcases hst with ⟨rfl,rfl,rfl,HD⟩ | ⟨rfl,rfl,rfl,HD⟩ | ⟨t,Lw,tr,rfl,htk,rfl,rfl,HD,hst⟩
  ·have c0:=HD.out.cN
   have p0:=HD.out.cP
   have z1:=HD.out.fz 801
   have HS:=Lib.hid (HD.out.setP (-1))
   have c00:wr.cell? ⟨g,800,none⟩=some (.int .i64 0):=c0
   clear c0
   go_wp2_with fail
   exact ⟨⟨1,false,true,by omega,rfl,rfl,rfl,grown_set HG.out _ _,.inr (.inl ⟨rfl,rfl,rfl,HS⟩)⟩,by simp [intOf] <;> omega⟩
  ·have c0:=HD.out.cN
   have p0:=HD.out.cP
   have z1:=HD.out.fz 801
   have HS:=Lib.hid (HD.out.setP 0)
   have c00:wr.cell? ⟨g,800,none⟩=some (.int .i64 0):=c0
   clear c0
   go_wp2_with fail
   exact ⟨⟨2,true,true,by omega,rfl,rfl,rfl,grown_set HG.out _ _,.inr (.inr ⟨0,L0,false,rfl,by omega,rfl,rfl,HS,Lib.hid ⟨fun u hu=>absurd hu (by omega),by simp⟩⟩)⟩,by simp [intOf] <;> omega⟩
  ·have hti:t+2<s.size:=by omega
   by_cases htk2:t<k
   ·obtain ⟨c,hc⟩:∃c,D.getD t 0=c:=⟨_,rfl⟩
    have hcc:=HGd.out t htk2 hti
    have hcd:=HDd.out t htk2
    rw [hc] at hcc hcd
    have hcd1:=hcd.1
    have hcd2:=hcd.2
    have p1:((c:Int)==95)=false:=beq_false_of_ne (by omega)
    have p2:((c:Int)==46)=false:=beq_false_of_ne (by omega)
    have p3:decide ((48:Int)≤c)=true:=decide_eq_true (by omega)
    have p4:decide ((c:Int)≤57)=true:=decide_eq_true (by omega)
    have hc48:t=0→c≠48:=fun h=>by subst h;rw [←hc];exact HD0.out
    have HC:=Lib.hid hc
    have HMt:=Lib.hid hst.out
    have HTK:=Lib.hid htk
    have c0:=HD.out.cN
    by_cases h8:t<800
    ·have hm:min t 800=t:=by omega
     rw [hm] at HMt HD c0
     have dt:=HD.out.cD h8
     have zt:=HD.out.fz t
     have ht8:(t:Int)<800:=by omega
     have HS1:=HD.out.setD h8 (show c<256 by omega)
     have c1:=HS1.cN
     have z1:=HS1.fz 800
     have HS:=Lib.hid (HS1.setN (t+1))
     have HNx:Hid ((∀u,u<min (t+1) 800→(Lw.set t c).getD u 0=D.getD u 0)∧tr=(((D.take (t+1)).drop 800).any fun c=>c !=48)):=Lib.hid (by
      obtain ⟨a1,a2⟩:=HMt.out
      have hl:=HD.out.len
      refine ⟨fun u hu=>?_,?_⟩
      ·by_cases hut:u=t
       ·subst hut
        rw [getD_set_eq (by omega),HC.out]
       ·rw [getD_set_ne (fun hh=>hut hh.symm)]
        exact a1 u (by omega)
      ·rw [a2,List.drop_of_length_le (by rw [List.length_take];omega),List.drop_of_length_le (by rw [List.length_take];omega)])
     have ht1:((t+1:Nat):Int)=(t:Int)+1:=by omega
     have hmt:t+1=min (t+1) 800:=by omega
     have HSF:=Lib.hid (fun (W:World) (hW:W.heap=((wr.setCell ⟨g,t,none⟩ (.int .u8 (c:Int))).setCell ⟨g,800,none⟩ (.int .i64 ((t:Int)+1))).heap)=>(show DcAt W g (Lw.set t c) (min (t+1) 800) 0 false tr from by rw [←hmt];have:=HS.out;rw [ht1] at this;exact this.as hW))
     have HGF:=Lib.hid (grown_set (grown_set HG.out t (.int .u8 (c:Int))) 800 (.int .i64 ((t:Int)+1)))
     have hch:∃b1:Bool,((c:Int)==48)=b1∧(b1=true→((t:Int)==0)=false∧¬t=0):=by
      by_cases h48:c=48
      ·exact ⟨true,by simp [h48],fun _=>⟨beq_false_of_ne (fun hh=>hc48 (by omega) h48),fun hh=>hc48 hh h48⟩⟩
      ·exact ⟨false,beq_false_of_ne (by omega),fun hh=>Bool.noConfusion hh⟩
     obtain ⟨b1,hb1,hb2⟩:=hch
     clear hc hcd hst HMt HD HS1 hm htk ht1 hmt hc48 HS
     cases b1
     ·clear hb2
      go_wp2_with fail
      go_region
      go_wp2_with fail
      exact ⟨⟨t+1+2,true,true,by have:=HTK.out;omega,congrArg (Value.int .i64) (by omega),rfl,rfl,grown_as HGF.out rfl rfl rfl rfl,.inr (.inr ⟨t+1,Lw.set t c,tr,rfl,by have:=HTK.out;omega,rfl,rfl,Lib.hid (HSF.out _ rfl),HNx⟩)⟩,by simp [intOf] <;> omega⟩
     ·obtain ⟨ht0,ht0'⟩:=hb2 rfl
      clear hb2
      go_wp2_with fail
      go_region
      go_wp2_with fail
      exact ⟨⟨t+1+2,true,true,by have:=HTK.out;omega,congrArg (Value.int .i64) (by omega),rfl,rfl,grown_as HGF.out rfl rfl rfl rfl,.inr (.inr ⟨t+1,Lw.set t c,tr,rfl,by have:=HTK.out;omega,rfl,rfl,Lib.hid (HSF.out _ rfl),HNx⟩)⟩,by simp [intOf] <;> omega⟩
    ·have hm:min t 800=800:=by omega
     rw [hm] at HMt HD c0
     have ht8:¬((t:Int)=0):=by omega
     have ht9:((t:Int)==0)=false:=beq_false_of_ne ht8
     have e8:((800:Nat):Int)=800:=rfl
     rw [e8] at c0
     have z3:=HD.out.fz 803
     have t3:=HD.out.cT
     have hmt:min (t+1) 800=800:=by omega
     have HNx:Hid ((∀u,u<min (t+1) 800→Lw.getD u 0=D.getD u 0)∧(tr||(c !=48))=(((D.take (t+1)).drop 800).any fun c=>c !=48)):=Lib.hid (by
      obtain ⟨a1,a2⟩:=HMt.out
      have hk:=HK.out
      refine ⟨fun u hu=>a1 u (by omega),?_⟩
      rw [a2,List.take_succ_eq_append_getElem (by omega),List.drop_append_of_le_length (by rw [List.length_take];omega),List.any_append]
      have h9:=HC.out
      rw [List.getD_eq_getElem?_getD,List.getElem?_eq_getElem (by omega)] at h9
      simp only [Option.getD_some] at h9
      rw [h9]
      simp)
     have HDT:=Lib.hid (show DcAt (wr.setCell ⟨g,803,none⟩ (.bool true)) g Lw (min (t+1) 800) 0 false true from by rw [hmt];exact HD.out.setT true)
     have HDF:=Lib.hid (show DcAt wr g Lw (min (t+1) 800) 0 false tr from by rw [hmt];exact HD.out)
     clear hc hcd hst HMt HD hm htk hmt hc48 e8
     by_cases h48:c=48
     ·have hb1:((c:Int)==48)=true:=by simp [h48]
      have hb2:((c:Int) !=48)=false:=by simp [h48]
      have hb3:(tr||(c !=48))=tr:=by simp [h48]
      rw [hb3] at HNx
      clear h48 hb3
      go_wp2_with fail
      exact ⟨⟨t+1+2,true,true,by have:=HTK.out;omega,congrArg (Value.int .i64) (by omega),rfl,rfl,HG.out,.inr (.inr ⟨t+1,Lw,tr,rfl,by have:=HTK.out;omega,rfl,rfl,HDF,HNx⟩)⟩,by simp [intOf] <;> omega⟩
     ·have hb1:((c:Int)==48)=false:=beq_false_of_ne (by omega)
      have hb2:((c:Int) !=48)=true:=bne_iff_ne.2 (by omega)
      have hb3:(tr||(c !=48))=true:=by rw [bne_iff_ne.2 h48,Bool.or_true]
      rw [hb3] at HNx
      clear h48 hb3
      go_wp2_with fail
      exact ⟨⟨t+1+2,true,true,by have:=HTK.out;omega,congrArg (Value.int .i64) (by omega),rfl,rfl,grown_set HG.out _ _,.inr (.inr ⟨t+1,Lw,true,rfl,by have:=HTK.out;omega,rfl,rfl,HDT,HNx⟩)⟩,by simp [intOf] <;> omega⟩
   ·obtain rfl:t=k:=by omega
    have hce:=HGe.out hti
    have HMt:=Lib.hid hst.out
    clear hst
    have hsz:=HSz.out
    have p0:=HD.out.cP
    have z1:=HD.out.fz 801
    have HFin:=Lib.hid (fun (W:World) (hW:W.heap=(wr.setCell ⟨g,801,none⟩ (.int .i64 (-(E:Int)))).heap)=>(show DcAt W g Lw (min t 800) (-(E:Int)) false ((D.drop 800).any fun c=>c !=48)∧∀u,u<min t 800→Lw.getD u 0=D.getD u 0 from by
     obtain ⟨a1,a2⟩:=HMt.out
     rw [show D.take t=D by rw [←HK.out];exact List.take_length] at a2
     rw [←a2]
     exact ⟨(HD.out.setP (-(E:Int))).as hW,a1⟩))
    have HFin2:=Lib.hid HMt.out.1
    have hx0:(s[t+2+1]'(by omega)).toNat=45:=HGx.out 0 (by omega)
    have hx1:(s[t+2+1+1]'(by omega)).toNat=(dgs E).getD 0 0:=HGx.out 1 (by omega)
    have HEd:=Lib.hid (fun t (h:t<x)=>dgs_bytes E ((dgs E).getD t 0) (by rw [List.getD_eq_getElem?_getD,List.getElem?_eq_getElem (by have:=HXx.out;omega)];exact List.getElem_mem _))
    obtain ⟨c0,hc0⟩:∃c0,(dgs E).getD 0 0=c0:=⟨_,rfl⟩
    have hcd:=HEd.out 0 (by omega)
    rw [hc0] at hx1 hcd
    have hcd1:=hcd.1
    have hcd2:=hcd.2
    have p1:((c0:Int)==43)=false:=beq_false_of_ne (by omega)
    have p2:((c0:Int)==45)=false:=beq_false_of_ne (by omega)
    have p3:decide ((c0:Int)<48)=false:=decide_eq_false (by omega)
    have p4:decide ((c0:Int)>57)=false:=decide_eq_false (by omega)
    have p5:decide ((57:Int)<c0)=false:=decide_eq_false (by omega)
    clear hcd hc0 HMt HD
    go_wp2_with fail
    refine (lower_101 _).mono ?_
    rintro e wl ⟨rfl,rfl⟩
    go_wp2_with fail
    clear p1 p2 p3 p4 p5 hx1 hcd1 hcd2
    go_loopw [5,9] (fun v5 v9 wr=>∃(u e:Nat),u≤x∧v5= .int .i64 ((t+4+u:Nat):Int)∧v9= .int .i64 (e:Int)∧e≤999∧wr=wl∧Hid (e=dvn ((dgs E).take u))) (fun v5 _ _=>s.size-(intOf v5).toNat)
    case atStart=>exact ⟨0,0,by omega,congrArg (Value.int .i64) (by omega),rfl,by omega,rfl,Lib.hid rfl⟩
    case round=>
     obtain ⟨u,e,ht,rfl,rfl,he,rfl,hst⟩:=hrel
     by_cases htx:u<x
     ·obtain ⟨i,hi⟩:∃i,t+4+u=i:=⟨_,rfl⟩
      have his:i<s.size:=by omega
      have hcc:(s[i]).toNat=(dgs E).getD u 0:=by
       subst hi
       have:=HGx.out (u+1) (by omega)
       simpa [Nat.add_assoc,Nat.add_comm,Nat.add_left_comm] using this
      obtain ⟨c,hc⟩:∃c,(dgs E).getD u 0=c:=⟨_,rfl⟩
      have hcd:=HEd.out u htx
      rw [hc] at hcc hcd
      have hcd1:=hcd.1
      have hcd2:=hcd.2
      have p1:((c:Int)==95)=false:=beq_false_of_ne (by omega)
      have p3:decide ((48:Int)≤c)=true:=decide_eq_true (by omega)
      have p4:decide ((c:Int)≤57)=true:=decide_eq_true (by omega)
      have hstep:Hid (e*10+(c-48)=dvn ((dgs E).take (u+1))):=Lib.hid (by rw [dvn_take _ u (by have:=HXx.out;omega),←hst.out,hc])
      have hb9:e*10+(c-48)≤999:=by
       rw [hstep.out]
       have h7:dvn ((dgs E).take (u+1))≤dvn (dgs E):=by
        have h8:=dvn_app ((dgs E).take (u+1)) ((dgs E).drop (u+1))
        rw [List.take_append_drop] at h8
        rw [h8]
        exact Nat.le_trans (Nat.le_mul_of_pos_right _ (Nat.pow_pos (by decide))) (Nat.le_add_right _ _)
       rw [dvn_dgs'] at h7
       omega
      have hi9:=Lib.hid hi
      rw [hi]
      clear hcd hst hi hc
      go_wp2_with fail
      exact ⟨⟨u+1,e*10+(c-48),by omega,congrArg (Value.int .i64) (by have:=hi9.out;omega),congrArg (Value.int .i64) (by omega),hb9,trivial,hstep⟩,by simp [intOf] <;> omega⟩
     ·obtain rfl:u=x:=by omega
      have hfin:e=E:=by
       have h7:=hst.out
       rw [show (dgs E).take u=dgs E by rw [←HXx.out];exact List.take_length,dvn_dgs'] at h7
       exact h7
      subst hfin
      have hi9:((t+4+u:Nat):Int)=s.size:=by omega
      rw [hi9]
      have z9:decide ((s.size:Int)<s.size)=false:=decide_eq_false (by omega)
      have z8:((s.size:Int) !=s.size)=false:=by simp
      clear hst
      go_wp2_with fail
      refine bodyPost_ret (v:= .bool true) (by simp [results,Tryz.results154,go_sem]) rfl ⟨rfl,Lw,(HFin.out _ ?_).1,HFin2.out,?_⟩
      ·rfl
      ·exact grown_set HG.out _ _
end Go.Proofs.YtjhhdnnblcbdbaaGreatDoor.dcm
end
