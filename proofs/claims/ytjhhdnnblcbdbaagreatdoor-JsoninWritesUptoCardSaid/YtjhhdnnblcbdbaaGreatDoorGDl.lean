/- PLAIN LEAN: the digits that the toolchain lays, less the noughts at their end, are the digits that the reference writes. readFloat, walked: on the text 0.DIGITSeEXPONENT. readFloat, walked: on the text 0.DIGITSeEXPONENT. -/
import Derived.Test.YtjhhdnnblcbdbaaGreatDoorGSg
import Derived.Test.YtjhhdnnblcbdbaaGreatDoorGDig
import Derived.Test.YtjhhdnnblcbdbaaGreatDoorGPw
import Derived.Test.YtjhhdnnblcbdbaaGreatDoorGRb
section
namespace Go.Proofs.YtjhhdnnblcbdbaaGreatDoor.uw
open Go.RowKit Go.Sort mem fl big us sh
set_option linter.unusedVariables false
theorem dgs_step (u:Nat) (h:¬u<10):dgs u=dgs (u/10)++[48+u % 10]:=by
 unfold dgs
 rw [dg_step u,if_neg (by omega),List.reverse_cons]
theorem dgs_small (u:Nat) (h:u<10):dgs u=[48+u % 10]:=by
 unfold dgs
 rw [dg_step u,if_pos (by omega)]
 rfl
theorem dgs_eq (u:Nat):dgs u=(List.range (Lib.nDigits u)).map fun t=>48+u/10^(Lib.nDigits u-1-t) % 10:=by
 induction u using Nat.strongRecOn with
 | _ u ih=>
   by_cases h:u<10
   ·rw [dgs_small u h,Lib.nDigits_small h]
    simp
   ·rw [dgs_step u h,ih (u/10) (by omega),Lib.nDigits_big h,List.range_succ,List.map_append]
    congr 1
    ·apply List.map_congr_left
     intro t ht
     have ht:=List.mem_range.1 ht
     rw [Nat.div_div_eq_div_mul]
     congr 3
     rw [show Lib.nDigits (u/10)+1-1-t=Lib.nDigits (u/10)-1-t+1 by omega,Nat.pow_succ,Nat.mul_comm]
    ·simp
theorem dgs_length (u:Nat):(dgs u).length=Lib.nDigits u:=by rw [dgs_eq];simp
theorem nd_mul (q:Nat) (hq:0<q):∀k,Lib.nDigits (q*10^k)=Lib.nDigits q+k
 | 0=>by simp
 | k+1=>by
   have h10:10≤q*10^(k+1):=by
    rw [Nat.pow_succ,←Nat.mul_assoc]
    have:=Nat.mul_pos hq (Nat.pow_pos (n:=k) (show 0<10 by decide))
    omega
   rw [Lib.nDigits_big (by omega),Nat.pow_succ,←Nat.mul_assoc,Nat.mul_div_cancel _ (by decide),nd_mul q hq k]
   omega
theorem nd_le:∀k u,0<k→u<10^k→Lib.nDigits u≤k
 | 0,u,h,_=>by omega
 | k+1,u,_,h=>by
   by_cases h1:u<10
   ·rw [Lib.nDigits_small h1];omega
   ·rw [Lib.nDigits_big h1]
    rw [Nat.pow_succ] at h
    have h0:0<k:=by
     rcases Nat.eq_zero_or_pos k with rfl | h0
     ·simp at h;omega
     ·exact h0
    have:=nd_le k (u/10) h0 (by omega)
    omega
theorem nd20 (u:Nat) (h:u<18446744073709551616):Lib.nDigits u≤20:=nd_le 20 u (by decide) (Nat.lt_of_lt_of_le h (by decide))
theorem zeros_mod (d:Nat):∀k,(∀i,i<k→d/10^i % 10=0)→d % 10^k=0
 | 0,_=>by simp [Nat.mod_one]
 | k+1,h=>by
   have h1:=zeros_mod d k fun i hi=>h i (by omega)
   have h2:=h k (by omega)
   rw [Nat.pow_succ,Nat.mod_mul,h1,h2,Nat.mul_zero]
theorem dig_nat (d i:Nat):(Lib.dg d i).toNat=48+d/10^i % 10:=by
 unfold Lib.dg
 rw [UInt8.toNat_ofNat']
 omega
theorem laid_digits {d r v':Nat} {dk:Array UInt8} (hd:0<d) (h:Lib.FmtInv (Lib.nDigits d) d 0 v' dk) (hr:r≤Lib.nDigits d) (hr0:r=0∨dk[r-1]!≠48) (hz:∀t,r≤t→t<Lib.nDigits d→dk[t]! =48):
  ∃q k,d=q*10^k∧q % 10≠0∧Lib.nDigits d=r+k∧Lib.nDigits q=r∧(List.range r).map (fun t=>(dk[t]!).toNat)=dgs q:=by
 obtain ⟨n,hn⟩:∃n,Lib.nDigits d=n:=⟨_,rfl⟩
 have hlt:=Lib.lt_pow_nDigits d
 rw [hn] at h hr hz hlt ⊢
 obtain ⟨k,hk⟩:∃k,n=r+k:=⟨n-r,by omega⟩
 have hdig:∀t,t<n→(dk[t]!).toNat=48+d/10^(n-1-t) % 10:=fun t ht=>by rw [h.done t (Nat.zero_le _) ht,dig_nat]
 have hmod:d % 10^k=0:=zeros_mod d k fun i hi=>by
  have h1:=hdig (n-1-i) (by omega)
  rw [hz (n-1-i) (by omega) (by omega),show n-1-(n-1-i)=i by omega] at h1
  have e:(48:UInt8).toNat=48:=rfl
  omega
 obtain ⟨q,hq⟩:∃q,d=q*10^k:=⟨d/10^k,by rw [Nat.div_mul_cancel (Nat.dvd_of_mod_eq_zero hmod)]⟩
 have hq0:0<q:=by
  rcases Nat.eq_zero_or_pos q with h0 | h0
  ·rw [h0,Nat.zero_mul] at hq;omega
  ·exact h0
 have hnq:Lib.nDigits q=r:=by
  have:=nd_mul q hq0 k
  rw [←hq,hn] at this
  omega
 have hdiv:d/10^k=q:=by rw [hq,Nat.mul_div_cancel _ (Nat.pow_pos (by decide))]
 refine ⟨q,k,hq,?_,hk,hnq,?_⟩
 ·rcases hr0 with h0 | h0
  ·have:=Lib.nDigits_pos q
   omega
  ·have hp:=Lib.nDigits_pos q
   have h1:=hdig (r-1) (by omega)
   rw [show n-1-(r-1)=k by omega,hdiv] at h1
   intro h2
   rw [h2] at h1
   exact h0 (UInt8.toNat_inj.1 (by rw [h1];rfl))
 ·rw [dgs_eq,hnq]
  apply List.map_congr_left
  intro t ht
  have ht:=List.mem_range.1 ht
  rw [hdig t (by omega),show n-1-t=k+(r-1-t) by omega,Nat.pow_add,←Nat.div_div_eq_div_mul,hdiv]
theorem dgs_bytes (q:Nat):∀c∈dgs q,48≤c∧c≤57:=by
 intro c hc
 rw [dgs_eq] at hc
 obtain ⟨t,_,rfl⟩:=List.mem_map.1 hc
 omega
end Go.Proofs.YtjhhdnnblcbdbaaGreatDoor.uw
end
section
namespace Go.Proofs.YtjhhdnnblcbdbaaGreatDoor.uw
open Go.RowKit mem fl big us
set_option linter.unusedVariables false
def rfT (D X:List Nat):List Nat:=48 :: 46 :: (D++101 :: X)
theorem rfT_len (D X:List Nat):(rfT D X).length=D.length+X.length+3:=by simp [rfT];omega
theorem rfT_D (D X:List Nat) (t:Nat) (h:t<D.length):(rfT D X).getD (t+2) 0=D.getD t 0:=by
 unfold rfT
 simp only [List.getD_cons_succ]
 rw [List.getD_eq_getElem?_getD,List.getD_eq_getElem?_getD,List.getElem?_append_left h]
theorem rfT_e (D X:List Nat):(rfT D X).getD (D.length+2) 0=101:=by
 unfold rfT
 simp only [List.getD_cons_succ]
 rw [List.getD_eq_getElem?_getD,List.getElem?_append_right (Nat.le_refl _)]
 simp
theorem rfT_X (D X:List Nat) (t:Nat):(rfT D X).getD (D.length+3+t) 0=X.getD t 0:=by
 unfold rfT
 rw [show D.length+3+t=D.length+(t+1)+2 by omega]
 simp only [List.getD_cons_succ]
 rw [List.getD_eq_getElem?_getD,List.getD_eq_getElem?_getD,List.getElem?_append_right (by omega),show D.length+(t+1)-D.length=t+1 by omega]
 simp
def rfM (D:List Nat):Nat:=dvn (D.take 19)
def rfTr (D:List Nat):Bool:=(D.drop 19).any fun c=>c !=48
theorem dvn_take (D:List Nat) (t:Nat) (h:t<D.length):dvn (D.take (t+1))=dvn (D.take t)*10+(D.getD t 0-48):=by
 rw [List.take_succ_eq_append_getElem h,dvn_app]
 show dvn (D.take t)*10^1+(0*10+(D[t]-48))=_
 rw [List.getD_eq_getElem?_getD,List.getElem?_eq_getElem h]
 simp
theorem rfTr_take (D:List Nat) (t:Nat) (h:t<D.length) (h19:19≤t):rfTr (D.take (t+1))=(rfTr (D.take t)||D.getD t 0 !=48):=by
 unfold rfTr
 rw [List.take_succ_eq_append_getElem h,List.drop_append_of_le_length (by rw [List.length_take];omega),List.any_append]
 rw [List.getD_eq_getElem?_getD,List.getElem?_eq_getElem h]
 simp
theorem rfTr_small (D:List Nat) (t:Nat) (h19:t≤19):rfTr (D.take t)=false:=by
 unfold rfTr
 rw [List.drop_of_length_le (by rw [List.length_take];omega)]
 rfl
theorem rfM_step_lo (D:List Nat) (t:Nat) (h:t<D.length) (h19:t<19):rfM (D.take (t+1))=rfM (D.take t)*10+(D.getD t 0-48):=by
 unfold rfM
 rw [List.take_take,List.take_take,show min 19 (t+1)=t+1 by omega,show min 19 t=t by omega,dvn_take D t h]
theorem rfM_step_hi (D:List Nat) (t:Nat) (h19:19≤t):rfM (D.take (t+1))=rfM (D.take t):=by
 unfold rfM
 rw [List.take_take,List.take_take,show min 19 (t+1)=19 by omega,show min 19 t=19 by omega]
end Go.Proofs.YtjhhdnnblcbdbaaGreatDoor.uw
end
section
namespace Go.Proofs.YtjhhdnnblcbdbaaGreatDoor.uw
open Go.RowKit mem fl big us
set_option linter.unusedVariables false
theorem dvn_dgs' (q:Nat):dvn (dgs q)=q:=by
 induction q using Nat.strongRecOn with
 | _ q ih=>
   by_cases h:q<10
   ·rw [dgs_small q h]
    show (0*10+(48+q % 10-48))=q
    omega
   ·rw [dgs_step q h,dvn_app,ih (q/10) (by omega)]
    show q/10*10^1+(0*10+(48+q % 10-48))=q
    omega
theorem lower_46 (w:World):Calls Tryz.prog 118 #[.int .u8 46] w fun e w'=>e= .returned (.int .u8 46)∧w'=w:=by
 go_enter Tryz.func118,Tryz.ntmps118
 go_wp2_with fail
 go_ret
 exact ⟨rfl,rfl⟩
theorem lower_101 (w:World):Calls Tryz.prog 118 #[.int .u8 101] w fun e w'=>e= .returned (.int .u8 101)∧w'=w:=by
 go_enter Tryz.func118,Tryz.ntmps118
 go_wp2_with fail
 go_ret
 exact ⟨rfl,rfl⟩
set_option maxRecDepth 100000 in
set_option maxHeartbeats 8000000 in
theorem rf_pos (s:ByteArray) (D:List Nat) (k E:Nat) (w:World) (hs:nats s=rfT D (dgs E)) (hk:D.length=k) (hk0:0<k) (hkb:k≤1100000) (hD:∀c∈D,48≤c∧c≤57) (hD0:D.getD 0 0≠48) (hE:E<1000):
  Calls Tryz.prog 148 #[.string s] w fun e w'=>e= .returned (.tuple #[.int .u64 (rfM D:Int),.int .i64 ((E:Int)-(min k 19:Nat)),.bool false,.bool (rfTr D),.bool false,.int .i64 (s.size:Int),.bool true])∧w'=w:=by
 have hXl:0<(dgs E).length∧(dgs E).length≤3:=by
  rw [dgs_length]
  exact ⟨Lib.nDigits_pos E,nd_le 3 E (by decide) hE⟩
 obtain ⟨x,hx⟩:∃x,(dgs E).length=x:=⟨_,rfl⟩
 have hsz:s.size=k+3+x:=by
  have h1:=nats_length s
  rw [hs,rfT_len,hk] at h1
  try simp only [List.length_cons] at h1
  omega
 have hget:∀i (h:i<s.size),(s[i]).toNat=(rfT D (dgs E)).getD i 0:=fun i h=>by
  have h1:=nats_get s i h
  rw [←h1,←hs,List.getD_eq_getElem?_getD,List.getElem?_eq_getElem (by rw [nats_length];exact h)]
  rfl
 have HGd:=Lib.hid (fun t (h:t<k) (h2:t+2<s.size)=>(hget (t+2) h2).trans (rfT_D D (dgs E) t (by omega)))
 have re:=rfT_e D (dgs E)
 have rx:=rfT_X D (dgs E)
 rw [hk] at re rx
 have HGe:=Lib.hid (fun (h2:k+2<s.size)=>(hget (k+2) h2).trans re)
 have HGx:=Lib.hid (fun t (h2:k+3+t<s.size)=>(hget (k+3+t) h2).trans (rx t))
 have hb0:0<s.size:=by omega
 have hb1:1<s.size:=by omega
 have g0':(s[0]'hb0).toNat=48:=hget 0 hb0
 have g1':(s[1]'hb1).toNat=46:=hget 1 hb1
 have HDd:=Lib.hid (fun t (h:t<k)=>hD (D.getD t 0) (by rw [List.getD_eq_getElem?_getD,List.getElem?_eq_getElem (by omega)];exact List.getElem_mem _))
 have HD0:=Lib.hid hD0
 have HK:=Lib.hid hk
 have HXx:=Lib.hid hx
 have HSz:=Lib.hid hsz
 rw [hx] at hXl
 have hsz0:0<s.size:=by omega
 have hsz2:2<s.size:=by omega
 have hsz3:k+3<s.size:=by omega
 have hne:¬s=ByteArray.empty:=fun h=>by rw [h] at hsz0;exact absurd hsz0 (by decide)
 have hne2:decide (s=ByteArray.empty)=false:=decide_eq_false hne
 have zz1:decide ((s.size:Int)≤0)=false:=decide_eq_false (by omega)
 have zz2:decide ((0:Int)≥s.size)=false:=decide_eq_false (by omega)
 have zz3:decide ((2:Int)<s.size)=true:=decide_eq_true (by omega)
 have zz:((s.size:Int)==0)=false:=beq_false_of_ne (by omega)
 clear hs hD hD0 hget hk hx hsz re rx
 go_enter Tryz.func148,Tryz.ntmps148
 go_wp2_with fail
 go_step3
 go_wp2_with fail
 refine (lower_46 w).mono ?_
 rintro e w2 ⟨rfl,rfl⟩
 go_wp2_with fail
 go_step3
 go_wp2_with fail
 go_loopw [2,5,7,9,13,14,15,16,17] (fun v2 v5 v7 v9 v13 v14 v15 v16 v17 wr=>∃(i nd nm M:Nat) (tr dot dg:Bool) (dp:Int),i≤k+2∧v2= .int .u64 (M:Int)∧v5= .bool tr∧v7= .int .i64 (i:Int)∧v9= .bool false∧v13= .bool dot∧v14= .bool dg∧v15= .int .i64 (nd:Int)∧v16= .int .i64 (nm:Int)∧v17= .int .i64 dp∧wr=w2∧
   ((i=0∧M=0∧tr=false∧dot=false∧dg=false∧nd=0∧nm=0∧dp=0)∨(i=1∧M=0∧tr=false∧dot=false∧dg=true∧nd=0∧nm=0∧dp= -1)∨
     (∃t,i=t+2∧t≤k∧dot=true∧dg=true∧nd=t∧nm=min t 19∧dp=0∧Hid (M=rfM (D.take t)∧tr=rfTr (D.take t)∧M<10^(min t 19))))) (fun _ _ v7 _ _ _ _ _ _ _=>k+3-(intOf v7).toNat)
 case atStart=>exact ⟨0,0,0,0,false,false,false,0,by omega,rfl,rfl,rfl,rfl,rfl,rfl,rfl,rfl,rfl,rfl,.inl ⟨rfl,rfl,rfl,rfl,rfl,rfl,rfl,rfl⟩⟩
 case round=>
  obtain ⟨i,nd,nm,M,tr,dot,dg,dp,hi,rfl,rfl,rfl,rfl,rfl,rfl,rfl,rfl,rfl,rfl,hst⟩:=hrel
  rcases hst with ⟨rfl,rfl,rfl,rfl,rfl,rfl,rfl,rfl⟩ | ⟨rfl,rfl,rfl,rfl,rfl,rfl,rfl,rfl⟩ | ⟨t,rfl,htk,rfl,rfl,rfl,rfl,rfl,hst⟩
  ·go_wp2_with fail
   exact ⟨⟨1,0,0,0,false,false,true,-1,by omega,rfl,rfl,rfl,rfl,rfl,rfl,rfl,rfl,rfl,trivial,.inr (.inl ⟨rfl,rfl,rfl,rfl,rfl,rfl,rfl,rfl⟩)⟩,by simp [intOf] <;> omega⟩
  ·go_wp2_with fail
   exact ⟨⟨2,0,0,0,false,true,true,0,by omega,rfl,rfl,rfl,rfl,rfl,rfl,rfl,rfl,rfl,trivial,.inr (.inr ⟨0,rfl,by omega,rfl,rfl,rfl,rfl,rfl,Lib.hid ⟨rfl,rfl,by decide⟩⟩)⟩,by simp [intOf] <;> omega⟩
  ·have hti:nd+2<s.size:=by omega
   by_cases htk2:nd<k
   ·obtain ⟨c,hc⟩:∃c,D.getD nd 0=c:=⟨_,rfl⟩
    have hcc:=HGd.out nd htk2 hti
    have hcd:=HDd.out nd htk2
    rw [hc] at hcc hcd
    have hcd1:=hcd.1
    have hcd2:=hcd.2
    have p1:((c:Int)==95)=false:=beq_false_of_ne (by omega)
    have p2:((c:Int)==46)=false:=beq_false_of_ne (by omega)
    have p3:decide ((48:Int)≤c)=true:=decide_eq_true (by omega)
    have p4:decide ((c:Int)≤57)=true:=decide_eq_true (by omega)
    have hc48:nd=0→c≠48:=fun h=>by subst h;rw [←hc];exact HD0.out
    have HC:=Lib.hid hc
    have HMt:=Lib.hid hst.out
    have hq:(((c:Int)==48)&&((nd:Int)==0))=false:=by
     rw [Bool.and_eq_false_iff]
     by_cases h9:c=48
     ·right;exact beq_false_of_ne (fun h=>hc48 (by omega) h9)
     ·left;exact beq_false_of_ne (by omega)
    clear hcd hst
    by_cases h19:nd<19
    ·have hnm:min nd 19=nd:=by omega
     rw [hnm] at HMt
     have hM10:M<1000000000000000000:=Nat.lt_of_lt_of_le HMt.out.2.2 (by
      have:=Nat.pow_le_pow_right (n:=10) (by decide) (show nd≤18 by omega)
      have e:(10:Nat)^18=1000000000000000000:=by decide
      omega)
     have hNx:Hid (M*10+(c-48)=rfM (D.take (nd+1))∧tr=rfTr (D.take (nd+1))∧M*10+(c-48)<10^(min (nd+1) 19)):=Lib.hid (by
      obtain ⟨a1,a2,a3⟩:=HMt.out
      have hk:=HK.out
      refine ⟨by rw [rfM_step_lo D nd (by omega) h19,←a1,HC.out],?_,?_⟩
      ·rw [a2,rfTr_small D nd (by omega),rfTr_small D (nd+1) (by omega)]
      ·rw [show min (nd+1) 19=nd+1 by omega,Nat.pow_succ]
       omega)
     have p5:decide ((nd:Int)<19)=true:=decide_eq_true (by omega)
     rw [hnm]
     clear HMt hnm
     by_cases h9:c=48
     ·subst h9
      have p6:((nd:Int)==0)=false:=beq_false_of_ne (fun h=>hc48 (by omega) rfl)
      clear hq hc48
      go_wp2_with fail
      exact ⟨⟨nd+1+2,nd+1,nd+1,M*10+(48-48),tr,true,true,0,by omega,congrArg (Value.int .u64) (by omega),rfl,congrArg (Value.int .i64) (by omega),rfl,rfl,rfl,rfl,rfl,rfl,trivial,.inr (.inr ⟨nd+1,rfl,by omega,rfl,rfl,rfl,by omega,rfl,hNx⟩)⟩,by simp [intOf] <;> omega⟩
     ·have p6:((c:Int)==48)=false:=beq_false_of_ne (by omega)
      clear hq hc48
      go_wp2_with fail
      exact ⟨⟨nd+1+2,nd+1,nd+1,M*10+(c-48),tr,true,true,0,by omega,congrArg (Value.int .u64) (by omega),rfl,congrArg (Value.int .i64) (by omega),rfl,rfl,rfl,rfl,rfl,rfl,trivial,.inr (.inr ⟨nd+1,rfl,by omega,rfl,rfl,rfl,by omega,rfl,hNx⟩)⟩,by simp [intOf] <;> omega⟩
    ·have hnm:min nd 19=19:=by omega
     rw [hnm] at HMt ⊢
     have hNx:Hid (M=rfM (D.take (nd+1))∧(tr||c !=48)=rfTr (D.take (nd+1))∧M<10^(min (nd+1) 19)):=Lib.hid (by
      obtain ⟨a1,a2,a3⟩:=HMt.out
      have hk:=HK.out
      refine ⟨by rw [rfM_step_hi D nd (by omega),←a1],?_,?_⟩
      ·rw [rfTr_take D nd (by omega) (by omega),←a2,HC.out]
      ·rw [show min (nd+1) 19=19 by omega]
       exact a3)
     have p6:((nd:Int)==0)=false:=beq_false_of_ne (by omega)
     clear HMt hnm hq hc48
     by_cases h9:c=48
     ·subst h9
      go_wp2_with fail
      exact ⟨⟨nd+1+2,nd+1,19,M,tr,true,true,0,by omega,rfl,rfl,congrArg (Value.int .i64) (by omega),rfl,rfl,rfl,rfl,rfl,rfl,trivial,.inr (.inr ⟨nd+1,rfl,by omega,rfl,rfl,rfl,by omega,rfl,by simpa using hNx⟩)⟩,by simp [intOf] <;> omega⟩
     ·have p7:((c:Int) !=48)=true:=bne_iff_ne.2 (by omega)
      have hbn:(tr||c !=48)=true:=by rw [bne_iff_ne.2 h9,Bool.or_true]
      rw [hbn] at hNx
      go_wp2_with fail
      exact ⟨⟨nd+1+2,nd+1,19,M,true,true,true,0,by omega,rfl,rfl,congrArg (Value.int .i64) (by omega),rfl,rfl,rfl,rfl,rfl,rfl,trivial,.inr (.inr ⟨nd+1,rfl,by omega,rfl,rfl,rfl,by omega,rfl,hNx⟩)⟩,by simp [intOf] <;> omega⟩
   ·obtain rfl:nd=k:=by omega
    have hce:=HGe.out hti
    have HMt:=Lib.hid hst.out
    clear hst
    have hsz:=HSz.out
    have hM0:Hid (M=rfM D∧tr=rfTr D):=Lib.hid (by
     have:=HMt.out
     have hk:=HK.out
     rw [show D.take nd=D by rw [←hk];exact List.take_length] at this
     exact ⟨this.1,this.2.1⟩)
    have hMp:0<M:=by
     have h1:=hM0.out.1
     have hk:=HK.out
     rw [h1]
     unfold rfM
     have h2:=dvn_ge (l:=D.take 19) (fun c hc=>by
      obtain ⟨i,hi,rfl⟩:=List.mem_iff_getElem.1 (List.mem_of_mem_take hc)
      have:=HDd.out i (by omega)
      rw [List.getD_eq_getElem?_getD,List.getElem?_eq_getElem hi] at this
      exact this) (fun c hc=>by
      have h3:=HD0.out
      rw [List.head?_take,if_neg (by decide),List.head?_eq_getElem?] at hc
      rw [List.getD_eq_getElem?_getD,hc] at h3
      exact h3) (by
      intro h4
      have h5:=congrArg List.length h4
      rw [List.length_take,List.length_nil] at h5
      omega)
     exact Nat.lt_of_lt_of_le (Nat.pow_pos (by decide)) h2
    have hMz:((M:Int) !=0)=true:=bne_iff_ne.2 (by omega)
    obtain ⟨nm,hnm⟩:∃nm,min nd 19=nm:=⟨_,rfl⟩
    rw [hnm]
    have hnmb:nm≤19:=by omega
    have HNm:=Lib.hid hnm
    clear hnm HMt
    have hx1:(s[nd+2+1]'(by omega)).toNat=(dgs E).getD 0 0:=HGx.out 0 (by omega)
    have HEd:=Lib.hid (fun t (h:t<x)=>dgs_bytes E ((dgs E).getD t 0) (by rw [List.getD_eq_getElem?_getD,List.getElem?_eq_getElem (by have:=HXx.out;omega)];exact List.getElem_mem _))
    obtain ⟨c0,hc0⟩:∃c0,(dgs E).getD 0 0=c0:=⟨_,rfl⟩
    have hcd:=HEd.out 0 (by omega)
    rw [hc0] at hx1 hcd
    have hcd1:=hcd.1
    have hcd2:=hcd.2
    have p1:((c0:Int)==43)=false:=beq_false_of_ne (by omega)
    have p2:((c0:Int)==45)=false:=beq_false_of_ne (by omega)
    have p3:decide ((c0:Int)<48)=false:=decide_eq_false (by omega)
    have p4:decide ((c0:Int)>57)=false:=decide_eq_false (by omega)
    have p5:decide ((57:Int)<c0)=false:=decide_eq_false (by omega)
    clear hcd hc0
    go_wp2_with fail
    refine (lower_101 _).mono ?_
    rintro e wl ⟨rfl,rfl⟩
    go_wp2_with fail
    clear p1 p2 p3 p4 p5 hx1 hcd1 hcd2
    go_loopw [7,9,20] (fun v7 v9 v20 wr=>∃(t e:Nat),t≤x∧v9= .bool false∧v7= .int .i64 ((nd+3+t:Nat):Int)∧v20= .int .i64 (e:Int)∧e≤999∧wr=wl∧Hid (e=dvn ((dgs E).take t))) (fun v7 _ _ _=>s.size-(intOf v7).toNat)
    case atStart=>exact ⟨0,0,by omega,rfl,congrArg (Value.int .i64) (by omega),rfl,by omega,rfl,Lib.hid rfl⟩
    case round=>
     obtain ⟨t,e,ht,rfl,rfl,rfl,he,rfl,hst⟩:=hrel
     by_cases htx:t<x
     ·obtain ⟨i,hi⟩:∃i,nd+3+t=i:=⟨_,rfl⟩
      have his:i<s.size:=by omega
      have hcc:(s[i]).toNat=(dgs E).getD t 0:=by
       subst hi
       have:=HGx.out t (by omega)
       simpa [Nat.add_assoc,Nat.add_comm,Nat.add_left_comm] using this
      obtain ⟨c,hc⟩:∃c,(dgs E).getD t 0=c:=⟨_,rfl⟩
      have hcd:=HEd.out t htx
      rw [hc] at hcc hcd
      have hcd1:=hcd.1
      have hcd2:=hcd.2
      have p1:((c:Int)==95)=false:=beq_false_of_ne (by omega)
      have p3:decide ((48:Int)≤c)=true:=decide_eq_true (by omega)
      have p4:decide ((c:Int)≤57)=true:=decide_eq_true (by omega)
      have hstep:Hid (e*10+(c-48)=dvn ((dgs E).take (t+1))):=Lib.hid (by rw [dvn_take _ t (by have:=HXx.out;omega),←hst.out,hc])
      have hb9:e*10+(c-48)≤999:=by
       rw [hstep.out]
       have h7:dvn ((dgs E).take (t+1))≤dvn (dgs E):=by
        have h8:=dvn_app ((dgs E).take (t+1)) ((dgs E).drop (t+1))
        rw [List.take_append_drop] at h8
        rw [h8]
        exact Nat.le_trans (Nat.le_mul_of_pos_right _ (Nat.pow_pos (by decide))) (Nat.le_add_right _ _)
       rw [dvn_dgs'] at h7
       omega
      have hi9:=Lib.hid hi
      rw [hi]
      clear hcd hst hi hc
      go_wp2_with fail
      exact ⟨⟨t+1,e*10+(c-48),by omega,rfl,congrArg (Value.int .i64) (by have:=hi9.out;omega),congrArg (Value.int .i64) (by omega),hb9,trivial,hstep⟩,by simp [intOf] <;> omega⟩
     ·obtain rfl:t=x:=by omega
      have hfin:e=E:=by
       have h7:=hst.out
       rw [show (dgs E).take t=dgs E by rw [←HXx.out];exact List.take_length,dvn_dgs'] at h7
       exact h7
      subst hfin
      have hi9:((nd+3+t:Nat):Int)=s.size:=by omega
      rw [hi9]
      have z9:decide ((s.size:Int)<s.size)=false:=decide_eq_false (by omega)
      clear hst
      go_wp2_with fail
      try rw [Exit.noGoto_ret]
      refine bodyPost_ret (v:= .tuple #[.int .u64 (M:Int),.int .i64 ((e:Int)-nm),.bool false,.bool tr,.bool false,.int .i64 (s.size:Int),.bool true]) (by simp [results,Tryz.results148,go_sem]) rfl ⟨?_,rfl⟩
      rw [hM0.out.1,hM0.out.2,HNm.out]
end Go.Proofs.YtjhhdnnblcbdbaaGreatDoor.uw
end
