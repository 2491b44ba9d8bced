/- readFloat, walked: on the text 0.DIGITSe-EXPONENT. -/
import Derived.Test.YtjhhdnnblcbdbaaGreatDoorGDl
namespace Go.Proofs.YtjhhdnnblcbdbaaGreatDoor.uw
open Go.RowKit mem fl big us
set_option linter.unusedVariables false
set_option maxRecDepth 100000 in
set_option maxHeartbeats 8000000 in
theorem rf_neg (s:ByteArray) (D:List Nat) (k E:Nat) (w:World) (hs:nats s=rfT D (45 :: dgs E)) (hk:D.length=k) (hk0:0<k) (hkb:k≤1100000) (hD:∀c∈D,48≤c∧c≤57) (hD0:D.getD 0 0≠48) (hE:E<1000):
  Calls Tryz.prog 148 #[.string s] w fun e w'=>e= .returned (.tuple #[.int .u64 (rfM D:Int),.int .i64 (-(E:Int)-(min k 19:Nat)),.bool false,.bool (rfTr D),.bool false,.int .i64 (s.size:Int),.bool true])∧w'=w:=by
 have hXl:0<(dgs E).length∧(dgs E).length≤3:=by
  rw [dgs_length]
  exact ⟨Lib.nDigits_pos E,nd_le 3 E (by decide) hE⟩
 obtain ⟨x,hx⟩:∃x,(dgs E).length=x:=⟨_,rfl⟩
 have hsz:s.size=k+4+x:=by
  have h1:=nats_length s
  rw [hs,rfT_len,hk] at h1
  try simp only [List.length_cons] at h1
  omega
 have hget:∀i (h:i<s.size),(s[i]).toNat=(rfT D (45 :: dgs E)).getD i 0:=fun i h=>by
  have h1:=nats_get s i h
  rw [←h1,←hs,List.getD_eq_getElem?_getD,List.getElem?_eq_getElem (by rw [nats_length];exact h)]
  rfl
 have HGd:=Lib.hid (fun t (h:t<k) (h2:t+2<s.size)=>(hget (t+2) h2).trans (rfT_D D (45 :: dgs E) t (by omega)))
 have re:=rfT_e D (45 :: dgs E)
 have rx:=rfT_X D (45 :: dgs E)
 rw [hk] at re rx
 have HGe:=Lib.hid (fun (h2:k+2<s.size)=>(hget (k+2) h2).trans re)
 have HGx:=Lib.hid (fun t (h2:k+3+t<s.size)=>(hget (k+3+t) h2).trans (rx t))
 have hb0:0<s.size:=by omega
 have hb1:1<s.size:=by omega
 have g0':(s[0]'hb0).toNat=48:=hget 0 hb0
 have g1':(s[1]'hb1).toNat=46:=hget 1 hb1
 have HDd:=Lib.hid (fun t (h:t<k)=>hD (D.getD t 0) (by rw [List.getD_eq_getElem?_getD,List.getElem?_eq_getElem (by omega)];exact List.getElem_mem _))
 have HD0:=Lib.hid hD0
 have HK:=Lib.hid hk
 have HXx:=Lib.hid hx
 have HSz:=Lib.hid hsz
 rw [hx] at hXl
 have hsz0:0<s.size:=by omega
 have hsz2:2<s.size:=by omega
 have hsz3:k+3<s.size:=by omega
 have hne:¬s=ByteArray.empty:=fun h=>by rw [h] at hsz0;exact absurd hsz0 (by decide)
 have hne2:decide (s=ByteArray.empty)=false:=decide_eq_false hne
 have zz1:decide ((s.size:Int)≤0)=false:=decide_eq_false (by omega)
 have zz2:decide ((0:Int)≥s.size)=false:=decide_eq_false (by omega)
 have zz3:decide ((2:Int)<s.size)=true:=decide_eq_true (by omega)
 have zz:((s.size:Int)==0)=false:=beq_false_of_ne (by omega)
 clear hs hD hD0 hget hk hx hsz re rx
 go_enter Tryz.func148,Tryz.ntmps148
 go_wp2_with fail
 go_step3
 go_wp2_with fail
 refine (lower_46 w).mono ?_
 rintro e w2 ⟨rfl,rfl⟩
 go_wp2_with fail
 go_step3
 go_wp2_with fail
 go_loopw [2,5,7,9,13,14,15,16,17] (fun v2 v5 v7 v9 v13 v14 v15 v16 v17 wr=>∃(i nd nm M:Nat) (tr dot dg:Bool) (dp:Int),i≤k+2∧v2= .int .u64 (M:Int)∧v5= .bool tr∧v7= .int .i64 (i:Int)∧v9= .bool false∧v13= .bool dot∧v14= .bool dg∧v15= .int .i64 (nd:Int)∧v16= .int .i64 (nm:Int)∧v17= .int .i64 dp∧wr=w2∧
   ((i=0∧M=0∧tr=false∧dot=false∧dg=false∧nd=0∧nm=0∧dp=0)∨(i=1∧M=0∧tr=false∧dot=false∧dg=true∧nd=0∧nm=0∧dp= -1)∨
     (∃t,i=t+2∧t≤k∧dot=true∧dg=true∧nd=t∧nm=min t 19∧dp=0∧Hid (M=rfM (D.take t)∧tr=rfTr (D.take t)∧M<10^(min t 19))))) (fun _ _ v7 _ _ _ _ _ _ _=>k+3-(intOf v7).toNat)
 case atStart=>exact ⟨0,0,0,0,false,false,false,0,by omega,rfl,rfl,rfl,rfl,rfl,rfl,rfl,rfl,rfl,rfl,.inl ⟨rfl,rfl,rfl,rfl,rfl,rfl,rfl,rfl⟩⟩
 case round=>
  obtain ⟨i,nd,nm,M,tr,dot,dg,dp,hi,rfl,rfl,rfl,rfl,rfl,rfl,rfl,rfl,rfl,rfl,hst⟩:=hrel
  rcases hst with ⟨rfl,rfl,rfl,rfl,rfl,rfl,rfl,rfl⟩ | ⟨rfl,rfl,rfl,rfl,rfl,rfl,rfl,rfl⟩ | ⟨t,rfl,htk,rfl,rfl,rfl,rfl,rfl,hst⟩
  ·go_wp2_with fail
   exact ⟨⟨1,0,0,0,false,false,true,-1,by omega,rfl,rfl,rfl,rfl,rfl,rfl,rfl,rfl,rfl,trivial,.inr (.inl ⟨rfl,rfl,rfl,rfl,rfl,rfl,rfl,rfl⟩)⟩,by simp [intOf] <;> omega⟩
  ·go_wp2_with fail
   exact ⟨⟨2,0,0,0,false,true,true,0,by omega,rfl,rfl,rfl,rfl,rfl,rfl,rfl,rfl,rfl,trivial,.inr (.inr ⟨0,rfl,by omega,rfl,rfl,rfl,rfl,rfl,Lib.hid ⟨rfl,rfl,by decide⟩⟩)⟩,by simp [intOf] <;> omega⟩
  ·have hti:nd+2<s.size:=by omega
   by_cases htk2:nd<k
   ·obtain ⟨c,hc⟩:∃c,D.getD nd 0=c:=⟨_,rfl⟩
    have hcc:=HGd.out nd htk2 hti
    have hcd:=HDd.out nd htk2
    rw [hc] at hcc hcd
    have hcd1:=hcd.1
    have hcd2:=hcd.2
    have p1:((c:Int)==95)=false:=beq_false_of_ne (by omega)
    have p2:((c:Int)==46)=false:=beq_false_of_ne (by omega)
    have p3:decide ((48:Int)≤c)=true:=decide_eq_true (by omega)
    have p4:decide ((c:Int)≤57)=true:=decide_eq_true (by omega)
    have hc48:nd=0→c≠48:=fun h=>by subst h;rw [←hc];exact HD0.out
    have HC:=Lib.hid hc
    have HMt:=Lib.hid hst.out
    have hq:(((c:Int)==48)&&((nd:Int)==0))=false:=by
     rw [Bool.and_eq_false_iff]
     by_cases h9:c=48
     ·right;exact beq_false_of_ne (fun h=>hc48 (by omega) h9)
     ·left;exact beq_false_of_ne (by omega)
    clear hcd hst
    by_cases h19:nd<19
    ·have hnm:min nd 19=nd:=by omega
     rw [hnm] at HMt
     have hM10:M<1000000000000000000:=Nat.lt_of_lt_of_le HMt.out.2.2 (by
      have:=Nat.pow_le_pow_right (n:=10) (by decide) (show nd≤18 by omega)
      have e:(10:Nat)^18=1000000000000000000:=by decide
      omega)
     have hNx:Hid (M*10+(c-48)=rfM (D.take (nd+1))∧tr=rfTr (D.take (nd+1))∧M*10+(c-48)<10^(min (nd+1) 19)):=Lib.hid (by
      obtain ⟨a1,a2,a3⟩:=HMt.out
      have hk:=HK.out
      refine ⟨by rw [rfM_step_lo D nd (by omega) h19,←a1,HC.out],?_,?_⟩
      ·rw [a2,rfTr_small D nd (by omega),rfTr_small D (nd+1) (by omega)]
      ·rw [show min (nd+1) 19=nd+1 by omega,Nat.pow_succ]
       omega)
     have p5:decide ((nd:Int)<19)=true:=decide_eq_true (by omega)
     rw [hnm]
     clear HMt hnm
     by_cases h9:c=48
     ·subst h9
      have p6:((nd:Int)==0)=false:=beq_false_of_ne (fun h=>hc48 (by omega) rfl)
      clear hq hc48
      go_wp2_with fail
      exact ⟨⟨nd+1+2,nd+1,nd+1,M*10+(48-48),tr,true,true,0,by omega,congrArg (Value.int .u64) (by omega),rfl,congrArg (Value.int .i64) (by omega),rfl,rfl,rfl,rfl,rfl,rfl,trivial,.inr (.inr ⟨nd+1,rfl,by omega,rfl,rfl,rfl,by omega,rfl,hNx⟩)⟩,by simp [intOf] <;> omega⟩
     ·have p6:((c:Int)==48)=false:=beq_false_of_ne (by omega)
      clear hq hc48
      go_wp2_with fail
      exact ⟨⟨nd+1+2,nd+1,nd+1,M*10+(c-48),tr,true,true,0,by omega,congrArg (Value.int .u64) (by omega),rfl,congrArg (Value.int .i64) (by omega),rfl,rfl,rfl,rfl,rfl,rfl,trivial,.inr (.inr ⟨nd+1,rfl,by omega,rfl,rfl,rfl,by omega,rfl,hNx⟩)⟩,by simp [intOf] <;> omega⟩
    ·have hnm:min nd 19=19:=by omega
     rw [hnm] at HMt ⊢
     have hNx:Hid (M=rfM (D.take (nd+1))∧(tr||c !=48)=rfTr (D.take (nd+1))∧M<10^(min (nd+1) 19)):=Lib.hid (by
      obtain ⟨a1,a2,a3⟩:=HMt.out
      have hk:=HK.out
      refine ⟨by rw [rfM_step_hi D nd (by omega),←a1],?_,?_⟩
      ·rw [rfTr_take D nd (by omega) (by omega),←a2,HC.out]
      ·rw [show min (nd+1) 19=19 by omega]
       exact a3)
     have p6:((nd:Int)==0)=false:=beq_false_of_ne (by omega)
     clear HMt hnm hq hc48
     by_cases h9:c=48
     ·subst h9
      go_wp2_with fail
      exact ⟨⟨nd+1+2,nd+1,19,M,tr,true,true,0,by omega,rfl,rfl,congrArg (Value.int .i64) (by omega),rfl,rfl,rfl,rfl,rfl,rfl,trivial,.inr (.inr ⟨nd+1,rfl,by omega,rfl,rfl,rfl,by omega,rfl,by simpa using hNx⟩)⟩,by simp [intOf] <;> omega⟩
     ·have p7:((c:Int) !=48)=true:=bne_iff_ne.2 (by omega)
      have hbn:(tr||c !=48)=true:=by rw [bne_iff_ne.2 h9,Bool.or_true]
      rw [hbn] at hNx
      go_wp2_with fail
      exact ⟨⟨nd+1+2,nd+1,19,M,true,true,true,0,by omega,rfl,rfl,congrArg (Value.int .i64) (by omega),rfl,rfl,rfl,rfl,rfl,rfl,trivial,.inr (.inr ⟨nd+1,rfl,by omega,rfl,rfl,rfl,by omega,rfl,hNx⟩)⟩,by simp [intOf] <;> omega⟩
   ·obtain rfl:nd=k:=by omega
    have hce:=HGe.out hti
    have HMt:=Lib.hid hst.out
    clear hst
    have hsz:=HSz.out
    have hM0:Hid (M=rfM D∧tr=rfTr D):=Lib.hid (by
     have:=HMt.out
     have hk:=HK.out
     rw [show D.take nd=D by rw [←hk];exact List.take_length] at this
     exact ⟨this.1,this.2.1⟩)
    have hMp:0<M:=by
     have h1:=hM0.out.1
     have hk:=HK.out
     rw [h1]
     unfold rfM
     have h2:=dvn_ge (l:=D.take 19) (fun c hc=>by
      obtain ⟨i,hi,rfl⟩:=List.mem_iff_getElem.1 (List.mem_of_mem_take hc)
      have:=HDd.out i (by omega)
      rw [List.getD_eq_getElem?_getD,List.getElem?_eq_getElem hi] at this
      exact this) (fun c hc=>by
      have h3:=HD0.out
      rw [List.head?_take,if_neg (by decide),List.head?_eq_getElem?] at hc
      rw [List.getD_eq_getElem?_getD,hc] at h3
      exact h3) (by
      intro h4
      have h5:=congrArg List.length h4
      rw [List.length_take,List.length_nil] at h5
      omega)
     exact Nat.lt_of_lt_of_le (Nat.pow_pos (by decide)) h2
    have hMz:((M:Int) !=0)=true:=bne_iff_ne.2 (by omega)
    obtain ⟨nm,hnm⟩:∃nm,min nd 19=nm:=⟨_,rfl⟩
    rw [hnm]
    have hnmb:nm≤19:=by omega
    have HNm:=Lib.hid hnm
    clear hnm HMt
    have hx0:(s[nd+2+1]'(by omega)).toNat=45:=HGx.out 0 (by omega)
    have hx1:(s[nd+2+1+1]'(by omega)).toNat=(dgs E).getD 0 0:=HGx.out 1 (by omega)
    have HEd:=Lib.hid (fun t (h:t<x)=>dgs_bytes E ((dgs E).getD t 0) (by rw [List.getD_eq_getElem?_getD,List.getElem?_eq_getElem (by have:=HXx.out;omega)];exact List.getElem_mem _))
    obtain ⟨c0,hc0⟩:∃c0,(dgs E).getD 0 0=c0:=⟨_,rfl⟩
    have hcd:=HEd.out 0 (by omega)
    rw [hc0] at hx1 hcd
    have hcd1:=hcd.1
    have hcd2:=hcd.2
    have p1:((c0:Int)==43)=false:=beq_false_of_ne (by omega)
    have p2:((c0:Int)==45)=false:=beq_false_of_ne (by omega)
    have p3:decide ((c0:Int)<48)=false:=decide_eq_false (by omega)
    have p4:decide ((c0:Int)>57)=false:=decide_eq_false (by omega)
    have p5:decide ((57:Int)<c0)=false:=decide_eq_false (by omega)
    clear hcd hc0
    go_wp2_with fail
    refine (lower_101 _).mono ?_
    rintro e wl ⟨rfl,rfl⟩
    go_wp2_with fail
    clear p1 p2 p3 p4 p5 hx1 hcd1 hcd2
    go_loopw [7,9,20] (fun v7 v9 v20 wr=>∃(t e:Nat),t≤x∧v9= .bool false∧v7= .int .i64 ((nd+4+t:Nat):Int)∧v20= .int .i64 (e:Int)∧e≤999∧wr=wl∧Hid (e=dvn ((dgs E).take t))) (fun v7 _ _ _=>s.size-(intOf v7).toNat)
    case atStart=>exact ⟨0,0,by omega,rfl,congrArg (Value.int .i64) (by omega),rfl,by omega,rfl,Lib.hid rfl⟩
    case round=>
     obtain ⟨t,e,ht,rfl,rfl,rfl,he,rfl,hst⟩:=hrel
     by_cases htx:t<x
     ·obtain ⟨i,hi⟩:∃i,nd+4+t=i:=⟨_,rfl⟩
      have his:i<s.size:=by omega
      have hcc:(s[i]).toNat=(dgs E).getD t 0:=by
       subst hi
       have:=HGx.out (t+1) (by omega)
       simpa [Nat.add_assoc,Nat.add_comm,Nat.add_left_comm] using this
      obtain ⟨c,hc⟩:∃c,(dgs E).getD t 0=c:=⟨_,rfl⟩
      have hcd:=HEd.out t htx
      rw [hc] at hcc hcd
      have hcd1:=hcd.1
      have hcd2:=hcd.2
      have p1:((c:Int)==95)=false:=beq_false_of_ne (by omega)
      have p3:decide ((48:Int)≤c)=true:=decide_eq_true (by omega)
      have p4:decide ((c:Int)≤57)=true:=decide_eq_true (by omega)
      have hstep:Hid (e*10+(c-48)=dvn ((dgs E).take (t+1))):=Lib.hid (by rw [dvn_take _ t (by have:=HXx.out;omega),←hst.out,hc])
      have hb9:e*10+(c-48)≤999:=by
       rw [hstep.out]
       have h7:dvn ((dgs E).take (t+1))≤dvn (dgs E):=by
        have h8:=dvn_app ((dgs E).take (t+1)) ((dgs E).drop (t+1))
        rw [List.take_append_drop] at h8
        rw [h8]
        exact Nat.le_trans (Nat.le_mul_of_pos_right _ (Nat.pow_pos (by decide))) (Nat.le_add_right _ _)
       rw [dvn_dgs'] at h7
       omega
      have hi9:=Lib.hid hi
      rw [hi]
      clear hcd hst hi hc
      go_wp2_with fail
      exact ⟨⟨t+1,e*10+(c-48),by omega,rfl,congrArg (Value.int .i64) (by have:=hi9.out;omega),congrArg (Value.int .i64) (by omega),hb9,trivial,hstep⟩,by simp [intOf] <;> omega⟩
     ·obtain rfl:t=x:=by omega
      have hfin:e=E:=by
       have h7:=hst.out
       rw [show (dgs E).take t=dgs E by rw [←HXx.out];exact List.take_length,dvn_dgs'] at h7
       exact h7
      subst hfin
      have hi9:((nd+4+t:Nat):Int)=s.size:=by omega
      rw [hi9]
      have z9:decide ((s.size:Int)<s.size)=false:=decide_eq_false (by omega)
      clear hst
      go_wp2_with fail
      try rw [Exit.noGoto_ret]
      refine bodyPost_ret (v:= .tuple #[.int .u64 (M:Int),.int .i64 (-(e:Int)-nm),.bool false,.bool tr,.bool false,.int .i64 (s.size:Int),.bool true]) (by simp [results,Tryz.results148,go_sem]) rfl ⟨?_,rfl⟩
      rw [hM0.out.1,hM0.out.2,HNm.out]
end Go.Proofs.YtjhhdnnblcbdbaaGreatDoor.uw
