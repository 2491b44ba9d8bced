/- The library's decimal: floatBits, walked. The library's decimal: floatBits, walked. -/
import Derived.Test.YtjhhdnnblcbdbaaGreatDoorGDce
import Derived.Test.YtjhhdnnblcbdbaaGreatDoorGPw
section
namespace Go.Proofs.YtjhhdnnblcbdbaaGreatDoor.dcm
open Go.RowKit mem fl big us uw
set_option linter.unusedVariables false
theorem ten311 (b S V0:Nat) (h1:2^b*10^S≤10*V0) (h2:V0<10^(S+310)):b<1040:=by
 obtain ⟨q,hq⟩:∃q:Nat,q=312:=⟨_,rfl⟩
 have h3:2^b*10^S<10^q*10^S:=by
  have e:(10:Nat)^(q-1+S)=10^(S+310)*10:=by rw [←Nat.pow_succ];congr 1;omega
  have e2:(10:Nat)^q*10^S=10*10^(q-1+S):=by rw [←Nat.pow_add,←Nat.pow_succ'];congr 1;omega
  have hp:0<(10:Nat)^(S+310):=Nat.pow_pos (by omega)
  rw [e2,e]
  omega
 have h4:=Nat.lt_of_mul_lt_mul_right h3
 obtain ⟨u,hu⟩:∃u:Nat,u=104:=⟨_,rfl⟩
 have h5:(10:Nat)^q=(10^3)^u:=by rw [←Nat.pow_mul];congr 1;omega
 have h6:(10^3)^u≤(2^10)^u:=Nat.pow_le_pow_left (by decide) u
 rw [←Nat.pow_mul 2] at h6
 rw [h5] at h4
 have h7:2^b<2^(10*u):=Nat.lt_of_lt_of_le h4 h6
 have h8:=(Nat.pow_lt_pow_iff_right (show 1<2 by omega)).1 h7
 omega
theorem ten331 (v z:Nat) (hv:v=331) (hz:z=1100):10^v≤2^z:=by
 have h1:(10:Nat)^59≤2^196:=by decide+kernel
 have h2:(10:Nat)^36≤2^120:=by decide+kernel
 obtain ⟨u,hu⟩:∃u:Nat,u=59:=⟨_,rfl⟩
 obtain ⟨y,hy⟩:∃y:Nat,y=196:=⟨_,rfl⟩
 obtain ⟨q,hq⟩:∃q:Nat,q=36:=⟨_,rfl⟩
 obtain ⟨x,hx⟩:∃x:Nat,x=120:=⟨_,rfl⟩
 rw [←hu,←hy] at h1
 rw [←hq,←hx] at h2
 have e1:(10:Nat)^v=(10^u)^5*10^q:=by rw [←Nat.pow_mul,←Nat.pow_add];congr 1;omega
 have e2:(2:Nat)^z=(2^y)^5*2^x:=by rw [←Nat.pow_mul,←Nat.pow_add];congr 1;omega
 rw [e1,e2]
 exact Nat.mul_le_mul (Nat.pow_le_pow_left h1 5) h2
theorem Ap.v0 {X B S:Nat} {L:List Nat} {nd:Nat} {dp:Int} {tr:Bool} (h:Ap X B S L nd dp tr 0 0):vl S L nd dp≤X:=by
 have:=h.le
 simpa using this
theorem x_big {X B S V0:Nat} {dp:Int} (hV:V0≤X) (hl:10^((S:Int)+dp-1).toNat≤V0) (hp1: -330≤dp) (hS:4000≤S) (hB:(0<dp∧B=60)∨(dp≤0∧B=1100)):10^S≤X*2^B∧(B=60→10^S≤X):=by
 rcases hB with ⟨h1,rfl⟩ | ⟨h1,hB⟩
 ·have h2:10^S≤10^((S:Int)+dp-1).toNat:=Nat.pow_le_pow_right (by omega) (by omega)
  have h3:10^S≤X:=Nat.le_trans h2 (Nat.le_trans hl hV)
  exact ⟨Nat.le_trans h3 (Nat.le_mul_of_pos_right _ (Nat.two_pow_pos _)),fun _=>h3⟩
 ·refine ⟨?_,fun h=>absurd h (by omega)⟩
  have h2:10^(S-331)≤10^((S:Int)+dp-1).toNat:=Nat.pow_le_pow_right (by omega) (by omega)
  have h3:10^(S-331)≤X:=Nat.le_trans h2 (Nat.le_trans hl hV)
  obtain ⟨v,hv⟩:∃v:Nat,v=331:=⟨_,rfl⟩
  rw [←hv] at h3
  have h4:(10:Nat)^S=10^(S-v)*10^v:=by rw [←Nat.pow_add];congr 1;omega
  rw [h4]
  exact Nat.mul_le_mul h3 (ten331 v B hv hB)
theorem near_at {X P S a b j K z:Nat} (hz:z=1074) (hP:P=2^z) (h1:X*2^a<10^S*2^b) (hlo:j=0∨10^S*2^b≤2*(X*2^a)) (hj:j+a=b+1021) (hK:Half (X*2^(a+53)) (10^S*2^b) K):
  Near (X*P) (10^S) (min (j*4503599627370496+K) 9218868437227405312)∧(0<j→4503599627370496≤K):=by
 have hT:0<10^S:=Nat.pow_pos (by omega)
 have hD:0<10^S*2^b:=Nat.mul_pos hT (Nat.two_pow_pos b)
 have e1:X*2^(a+53)=X*2^a*9007199254740992:=by rw [Nat.pow_add,←Nat.mul_assoc]
 have hlo2:4503599627370496*(10^S*2^b)≤X*2^(a+53)∨j=0:=by
  rcases hlo with h | h
  ·exact .inr h
  ·left;rw [e1];omega
 refine ⟨near_of_half hz hP rfl rfl hT hK (by omega) hlo2 (by rw [e1];omega),fun hj0=>?_⟩
 rcases hlo2 with h | h
 ·obtain ⟨_,k2⟩:=hK
  have h3:9007199254740992*(10^S*2^b)≤(2*K+1)*(10^S*2^b):=by omega
  have:=Nat.le_of_mul_le_mul_right h3 hD
  omega
 ·omega
theorem near_inf {X P S a b j z:Nat} (hz:z=1074) (hP:P=2^z) (h1:X*2^a<10^S*2^b) (hlo:j=0∨10^S*2^b≤2*(X*2^a)) (hj:j+a=b+1021) (h2:2046≤j):Near (X*P) (10^S) 9218868437227405312:=by
 have hD:0<10^S*2^b:=Nat.mul_pos (Nat.pow_pos (by omega)) (Nat.two_pow_pos b)
 obtain ⟨h3,h4⟩:=near_at hz hP h1 hlo hj (half_cut (X*2^(a+53)) (10^S*2^b) hD)
 have h5:=h4 (by omega)
 rwa [Nat.min_eq_right (by omega)] at h3
theorem Dst.dr {W:World} {g:Nat} {neg:Bool} {X B S:Nat} {L:List Nat} {nd:Nat} {dp:Int} {tr:Bool} {a b:Nat} (h:Dst W g neg X B S L nd dp tr a b) (n:Nat):Dst (W.drewN n) g neg X B S L nd dp tr a b:=⟨h.at_.as rfl,h.dg,h.pos,h.ap⟩
theorem pow_dp {S V:Nat} {dp:Int} (h1:10^((S:Int)+dp-1).toNat≤V) (h2:V<10^S) (hS:0<S):dp≤0:=by
 have h3:=(Nat.pow_lt_pow_iff_right (show 1<10 by omega)).1 (Nat.lt_of_le_of_lt h1 h2)
 omega
theorem pow_dp16 {S V:Nat} {dp:Int} (h1:10^((S:Int)+dp-1).toNat≤V) (h2:V<9007199254740992*10^S):dp≤16:=by
 have h4:9007199254740992*10^S≤10^(S+16):=by
  rw [Nat.pow_add,Nat.mul_comm (10^S)]
  exact Nat.mul_le_mul_right _ (by decide)
 have h3:=(Nat.pow_lt_pow_iff_right (show 1<10 by omega)).1 (Nat.lt_of_lt_of_le (Nat.lt_of_le_of_lt h1 h2) h4)
 omega
theorem step_bd {S b n V V0:Nat} {m:Nat} (hm:0<m) (hpn:2^n≤10^m) (hl:10^((S:Int)+(m:Int)-1).toNat≤V) (hV:V*2^b≤V0):2^(b+n)*10^S≤10*V0:=by
 have e:((S:Int)+(m:Int)-1).toNat=(m-1)+S:=by omega
 rw [e] at hl
 have h1:2^(b+n)*10^S≤2^b*(10^m*10^S):=by
  rw [Nat.pow_add,Nat.mul_assoc]
  exact Nat.mul_le_mul_left _ (Nat.mul_le_mul_right _ hpn)
 have h2:2^b*(10^m*10^S)=10*(10^(m-1+S)*2^b):=by
  rw [←Nat.pow_add,show m+S=(m-1+S)+1 by omega,Nat.pow_succ];ac_rfl
 have h3:10^(m-1+S)*2^b≤V0:=Nat.le_trans (Nat.mul_le_mul_right _ hl) hV
 omega
theorem left_bd {S n V:Nat} {m:Nat} (hpn:2^n≤10^m) (hm:m≤S) (hV:V<10^((S:Int)+ -(m:Int)).toNat):V*2^n<10^S:=by
 have e:((S:Int)+ -(m:Int)).toNat=S-m:=by omega
 rw [e] at hV
 have h1:V*2^n<10^(S-m)*2^n:=(Nat.mul_lt_mul_right (Nat.two_pow_pos n)).2 hV
 have h2:10^(S-m)*2^n≤10^(S-m)*10^m:=Nat.mul_le_mul_left _ hpn
 rw [←Nat.pow_add,show S-m+m=S by omega] at h2
 omega
def FbPost (g X P S:Nat) (w:World) (e:Ending) (w':World):Prop:=∃(R:Nat) (ov:Bool),e= .returned (.tuple #[.int .u64 (R:Int),.bool ov])∧Near (X*P) (10^S) R∧w.grownBy w' (some g)
end Go.Proofs.YtjhhdnnblcbdbaaGreatDoor.dcm
end
section
namespace Go.Proofs.YtjhhdnnblcbdbaaGreatDoor.dcm
open Go.RowKit mem fl big us uw
set_option linter.unusedVariables false
set_option maxRecDepth 100000 in
set_option maxHeartbeats 1100000 in
theorem fb_main (g:Nat) (L:List Nat) (nd X B S P z:Nat) (dp:Int) (tr:Bool) (w0 w:World) (hz:z=1074) (hP:P=2^z) (h:Dst w g false X B S L nd dp tr 0 0) (hp1: -330≤dp) (hp2:dp≤310) (hS:4000≤S) (hB:(0<dp∧B=60)∨(dp≤0∧B=1100)) (hE:SEnv w0) (hb0:Below w0.heap.size w0 w) (hg0:w0.heap.size≤g):
  Calls Tryz.prog 155 #[.pointer (some ⟨g,0,none⟩),.pointer (some ⟨8,0,none⟩)] w (FbPost g X P S w):=by
 have HZ:=Lib.hid hz
 have HP:=Lib.hid hP
 clear hz hP
 have H:=Lib.hid h
 have HE:=Lib.hid hE
 have HB0:=Lib.hid hb0
 have c0:=h.at_.cN
 have p0:=h.at_.cP
 have hnd:=h.pos
 have hz0:((nd:Int)==0)=false:=beq_false_of_ne (by omega)
 have HXB:=Lib.hid (x_big h.ap.v0 h.vl_lo hp1 hS hB)
 have HV0:=Lib.hid (show vl S L nd dp<10^(S+310) from Nat.lt_of_lt_of_le h.vl_hi (Nat.pow_le_pow_right (by omega) (by omega)))
 have HBB:=Lib.hid hB
 have q1:decide (dp>310)=false:=decide_eq_false (by omega)
 have q2:decide (310<dp)=false:=decide_eq_false (by omega)
 have q3:decide (dp< -330)=false:=decide_eq_false (by omega)
 have HP1:=Lib.hid hp1
 have HP2:=Lib.hid hp2
 have HS4:=Lib.hid hS
 clear h hE hb0 hB hp1 hp2 hS hnd
 go_enter Tryz.func155,Tryz.ntmps155
 go_wp2_with fail
 refine wp_scope_two 1 0 rfl rfl ?_
 go_hide hQ
 rename_i Q0
 have HQ:=Lib.hid hQ
 clear hQ
 go_wp2_with fail
 go_loopw [6,8] (fun u6 u8 wr=>∃b nd2:Nat,∃L2:List Nat,∃dp2:Int,∃tr2:Bool,u6= .int .i64 (b:Int)∧Hid (Dst wr g false X B S L2 nd2 dp2 tr2 0 b)∧dp2≤dp∧(dp2=dp∨(-27≤dp2∧0<dp))∧(b=0∨(B=60∧2^b*10^S≤10*vl S L nd dp))∧vl S L2 nd2 dp2*2^b≤vl S L nd dp∧w.grownBy wr (some g)) (fun u6 _ _=>1040-(intOf u6).toNat)
 case atStart=>exact ⟨0,nd,L,dp,tr,rfl,H,Int.le_refl _,.inl rfl,.inl rfl,by rw [Nat.pow_zero,Nat.mul_one];exact Nat.le_refl _,grown_refl w _⟩
 case round=>
  clear H c0 p0 hz0 q1 q2 q3
  have hS:=HS4.out
  have hp310:=HP2.out
  have hp330:=HP1.out
  obtain ⟨b,nd2,L2,dp2,tr2,rfl,HD,hd1,hd2,hbb,hvl,hg⟩:=hrel
  have HEr:=Lib.hid (HE.out.below (grown_below HB0.out hg hg0))
  have HBr:=Lib.hid (grown_below HB0.out hg hg0)
  have p0:=HD.out.at_.cP
  rcases Int.lt_or_le 0 dp2 with hpos | hneg
  ·obtain ⟨m,rfl⟩:∃m:Nat,dp2=(m:Int):=⟨dp2.toNat,by omega⟩
   have hpn:=pn_all m
   have hbd:=step_bd (by omega) (hpn.2.2 (by omega)) HD.out.vl_lo hvl
   have hbl:=ten311 _ _ _ hbd HV0.out
   have hB60:B=60:=by have:=HBB.out;omega
   have HSh:=Lib.hid (fun k:Nat=>shr_any g L2 nd2 (pn m) X B S 0 b m false tr2 (wr.drewN k) (HD.out.dr k) hpn.1 (by omega) (by omega) (by omega) hS (by omega))
   have HK:=Lib.hid (show ∀(k:Nat) (e:Ending) (w2:World),RPost g false X B S L2 nd2 (m:Int) 0 b (pn m) (wr.drewN k) e w2→∃nd3:Nat,∃L3:List Nat,∃dp3:Int,∃tr3:Bool,e= .returned (.tuple #[])∧Hid (Dst w2 g false X B S L3 nd3 dp3 tr3 0 (b+pn m))∧dp3≤dp∧(dp3=dp∨(-27≤dp3∧0<dp))∧(b+pn m=0∨(B=60∧2^(b+pn m)*10^S≤10*vl S L nd dp))∧vl S L3 nd3 dp3*2^(b+pn m)≤vl S L nd dp∧w.grownBy w2 (some g) from by
    rintro k e w2 ⟨he,L3,nd3,dp3,tr3,hD3,hl3,hp3,hp4,hv3,hg3⟩
    refine ⟨nd3,L3,dp3,tr3,he,Lib.hid hD3,by omega,.inr ⟨by omega,by omega⟩,.inr ⟨hB60,hbd⟩,?_,(grown_dr hg k).trans hg3⟩
    rw [Nat.pow_add,Nat.mul_comm (2^b),←Nat.mul_assoc]
    exact Nat.le_trans (Nat.mul_le_mul_right _ hv3) hvl)
   have hpos9:=hpn.1
   obtain ⟨⟨pb,po,ps⟩,pc,pt1,pt2,pt3,pt4⟩:=HEr.out.pt
   simp only at pt2 pt3 pt4
   subst pt2
   rcases Nat.lt_or_ge m 9 with h9 | h9
   ·have pt5:=pt4 m (by omega)
    have e:pn m=ptv.getD m 0:=if_neg (by omega)
    rw [←e] at pt5
    have h9i:decide ((9:Int)≤(m:Int))=false:=decide_eq_false (by omega)
    have h9k:decide ((m:Int)≥9)=false:=decide_eq_false (by omega)
    have h9j:(m:Int)<9:=by omega
    have g0:0<m:=by omega
    obtain ⟨n,hn⟩:∃n,pn m=n:=⟨_,rfl⟩
    rw [hn] at pt5 HSh HK hbl hpos9
    clear pt3 pt4 e hbd hpn hn hvl hbb hd1 hd2 hpos h9 hS hp310 hp330
    go_wp2_with fail
    go_quiet (fail)
    go_wp2_with fail
    go_quiet (fail)
    go_wp2_with fail
    refine (HSh.out _).mono ?_
    intro e2 w2 hPo
    obtain ⟨nd3,L3,dp3,tr3,rfl,hD3,x1,x2,x3,x4,x5⟩:=HK.out _ _ _ hPo
    clear hPo
    go_wp2_with fail
    exact ⟨⟨b+n,nd3,L3,dp3,tr3,by simp,hD3,x1,x2,x3,x4,x5⟩,by simp [intOf];omega⟩
   ·have e:pn m=27:=if_pos h9
    have h9i:decide ((9:Int)≤(m:Int))=true:=decide_eq_true (by omega)
    have h9k:decide ((m:Int)≥9)=true:=decide_eq_true (by omega)
    have g0:0<m:=by omega
    rw [e] at HSh HK hbl hpos9
    have e27: -(((27:Nat)):Int)= -27:=rfl
    rw [e27] at HSh
    clear pt3 pt4 e hbd hpn hvl hbb hd1 hd2 e27 hpos h9 hS hp310 hp330
    go_wp2_with fail
    go_quiet (fail)
    go_wp2_with fail
    refine (HSh.out _).mono ?_
    intro e2 w2 hPo
    obtain ⟨nd3,L3,dp3,tr3,rfl,hD3,x1,x2,x3,x4,x5⟩:=HK.out _ _ _ hPo
    clear hPo
    go_wp2_with fail
    exact ⟨⟨b+27,nd3,L3,dp3,tr3,by simp,hD3,x1,x2,x3,x4,x5⟩,by simp [intOf];omega⟩
  ·have hb40:b<1040:=by
    rcases hbb with rfl | ⟨_,h2⟩
    ·omega
    ·exact ten311 _ _ _ h2 HV0.out
   have hBb:B+b≤1100:=by
    have:=HBB.out
    rcases hbb with rfl | ⟨h2,_⟩ <;> omega
   have hpl: -330≤dp2:=by omega
   have g0:decide (dp2>0)=false:=decide_eq_false (by omega)
   have g1:decide (0<dp2)=false:=decide_eq_false (by omega)
   have HB40:=Lib.hid hb40
   have HBb:=Lib.hid hBb
   have HPl:=Lib.hid hpl
   have HNeg:=Lib.hid hneg
   clear hb40 hBb hpl hneg hS hp310 hp330 hvl hbb hd1 hd2
   go_wp2_with fail
   go_loopw [6,9] (fun u6 u9 wr=>∃a nd3:Nat,∃L3:List Nat,∃dp3:Int,∃tr3:Bool,u6= .int .i64 ((b:Int)-(a:Int))∧Hid (Dst wr g false X B S L3 nd3 dp3 tr3 a b)∧dp3≤0∧ -330≤dp3∧a≤B+b∧w.grownBy wr (some g)) (fun u6 _ _=>((B:Int)+intOf u6).toNat)
   case atStart=>exact ⟨0,nd2,L2,dp2,tr2,by simp,HD,HNeg.out,HPl.out,Nat.zero_le _,hg⟩
   case round=>
    clear HD HNeg HPl p0 g0 g1 hg HEr HBr
    obtain ⟨a,nd3,L3,dp3,tr3,rfl,HD,hn1,hn2,hab,hg⟩:=hrel
    have HEr:=Lib.hid (HE.out.below (grown_below HB0.out hg hg0))
    have p0:=HD.out.at_.cP
    have HAB:=Lib.hid hab
    have hS:=HS4.out
    have hB1:=HBb.out
    have hB2:=HB40.out
    by_cases hgo:dp3<0∨L3.getD 0 0<53
    ·
     obtain ⟨m,rfl⟩:∃m:Nat,dp3= -(m:Int):=⟨(-dp3).toNat,by omega⟩
     have hpn:=pn_all m
     have hlt:vl S L3 nd3 (-(m:Int))*2^pn m<10^S:=by
      rcases Nat.eq_zero_or_pos m with rfl | hm
      ·have h1:=HD.out
       have e0: -((0:Nat):Int)=0:=rfl
       rw [e0] at h1 ⊢
       have h2:=h1.head_hi (by omega)
       rw [show pn 0=1 by decide,Nat.pow_one]
       omega
      ·exact left_bd (hpn.2.2 hm) (by omega) HD.out.vl_hi
     have hfar:=HD.out.ap.far HXB.out.1 hlt
     have HSh:=Lib.hid (fun k:Nat=>shl_any g L3 nd3 (pn m) X B S a b (-(m:Int)) false tr3 (wr.drewN k) (HD.out.dr k) hpn.1 (by omega) (by omega) (by omega) (lcAt_below HEr.out.lc ⟨rfl,rfl,rfl,Nat.le_refl _,fun _ _=>rfl⟩) (by omega))
     have HK:=Lib.hid (show ∀(k:Nat) (e:Ending) (w2:World),LPost g false X B S L3 nd3 (-(m:Int)) a b (pn m) (wr.drewN k) e w2→∃nd4:Nat,∃L4:List Nat,∃dp4:Int,∃tr4:Bool,e= .returned (.tuple #[])∧Hid (Dst w2 g false X B S L4 nd4 dp4 tr4 (a+pn m) b)∧dp4≤0∧ -330≤dp4∧a+pn m≤B+b∧w.grownBy w2 (some g) from by
      rintro k e w2 ⟨he,L4,nd4,dp4,tr4,hD4,hl4,hp4,hp5,hv4,hv5,hg4⟩
      exact ⟨nd4,L4,dp4,tr4,he,Lib.hid hD4,pow_dp hD4.vl_lo (Nat.lt_of_le_of_lt hv5 hlt) (by omega),by omega,by omega,(grown_dr hg k).trans hg4⟩)
     have hpos9:=hpn.1
     obtain ⟨⟨pb,po,ps⟩,pc,pt1,pt2,pt3,pt4⟩:=HEr.out.pt
     simp only at pt2 pt3 pt4
     subst pt2
     have d0:=HD.out.at_.cD (i:=0) (by omega)
     have HFar:=Lib.hid hfar
     rcases Nat.eq_zero_or_pos m with rfl | hm0
     ·have e0: -((0:Nat):Int)=0:=rfl
      have e1:pn 0=1:=by decide
      have pt5:=pt4 0 (by omega)
      have e2:((ptv.getD 0 0:Nat):Int)=1:=by decide
      rw [e0] at p0 HSh HK
      rw [e1] at HSh HK HFar hpos9
      rw [e2] at pt5
      rw [Nat.add_zero] at pt5
      have hd0:L3.getD 0 0<53:=by omega
      obtain ⟨c,hc⟩:∃c,L3.getD 0 0=c:=⟨_,rfl⟩
      rw [hc] at d0 hd0
      have e3:((1:Nat):Int)=1:=rfl
      rw [e3] at HSh
      have hd1:decide ((c:Int)<53)=true:=decide_eq_true (by omega)
      clear pt3 pt4 e0 e1 e2 e3 hlt hfar hpn hc hgo hn1 hn2 hab hB1 hB2 hS
      go_wp2_with fail
      go_quiet (fail)
      go_wp2_with fail
      go_quiet (fail)
      go_wp2_with fail
      refine (HSh.out _).mono ?_
      intro e2 w2 hPo
      obtain ⟨nd4,L4,dp4,tr4,rfl,hD4,x1,x2,x3,x4⟩:=HK.out _ _ _ hPo
      have y1:a≤1100:=by have:=HAB.out;have:=HBb.out;omega
      have y2:b≤1040:=by have:=HB40.out;omega
      clear hPo
      go_wp2_with fail
      exact ⟨⟨a+1,nd4,L4,dp4,tr4,by congr 1;omega,hD4,x1,x2,x3,x4⟩,by simp [intOf];have:=HAB.out;have:=x3;omega⟩
     ·rcases Nat.lt_or_ge m 9 with h9 | h9
      ·have pt5:=pt4 m (by omega)
       have e:pn m=ptv.getD m 0:=if_neg (by omega)
       rw [←e] at pt5
       have h9i:decide ((9:Int)≤(m:Int))=false:=decide_eq_false (by omega)
       have h9k:decide ((m:Int)≥9)=false:=decide_eq_false (by omega)
       have h9j:(m:Int)<9:=by omega
       have h8k:¬(9≤m):=by omega
       have y3:=hpn.2.1
       obtain ⟨n,hn⟩:∃n,pn m=n:=⟨_,rfl⟩
       rw [hn] at pt5 HSh HK HFar hpos9 y3
       clear pt3 pt4 e hlt hfar hpn hn h9 hgo hn1 hn2 hab hB1 hB2 hS d0
       go_wp2_with fail
       go_quiet (fail)
       go_wp2_with fail
       go_quiet (fail)
       go_wp2_with fail
       refine (HSh.out _).mono ?_
       intro e2 w2 hPo
       obtain ⟨nd4,L4,dp4,tr4,rfl,hD4,x1,x2,x3,x4⟩:=HK.out _ _ _ hPo
       have y1:a≤1100:=by have:=HAB.out;have:=HBb.out;omega
       have y2:b≤1040:=by have:=HB40.out;omega
       clear hPo
       go_wp2_with fail
       exact ⟨⟨a+n,nd4,L4,dp4,tr4,by congr 1;omega,hD4,x1,x2,x3,x4⟩,by simp [intOf];have:=HAB.out;have:=x3;omega⟩
      ·have e:pn m=27:=if_pos h9
       have h9i:decide ((9:Int)≤(m:Int))=true:=decide_eq_true (by omega)
       have h9k:decide ((m:Int)≥9)=true:=decide_eq_true (by omega)
       rw [e] at HSh HK HFar hpos9
       have hm3:m≤330:=by omega
       have e27:(((27:Nat)):Int)=27:=rfl
       rw [e27] at HSh
       clear pt3 pt4 e hlt hfar hpn e27 hgo hn1 hn2 hab hB1 hB2 hS d0
       go_wp2_with fail
       go_quiet (fail)
       go_wp2_with fail
       refine (HSh.out _).mono ?_
       intro e2 w2 hPo
       obtain ⟨nd4,L4,dp4,tr4,rfl,hD4,x1,x2,x3,x4⟩:=HK.out _ _ _ hPo
       have y1:a≤1100:=by have:=HAB.out;have:=HBb.out;omega
       have y2:b≤1040:=by have:=HB40.out;omega
       clear hPo
       go_wp2_with fail
       exact ⟨⟨a+27,nd4,L4,dp4,tr4,by congr 1;omega,hD4,x1,x2,x3,x4⟩,by simp [intOf];have:=HAB.out;have:=x3;omega⟩
    ·
     have hdz:dp3=0:=by omega
     subst hdz
     have h53:53≤L3.getD 0 0:=by omega
     have h1S:vl S L3 nd3 0<10^S:=Nat.lt_of_lt_of_le HD.out.vl_hi (Nat.pow_le_pow_right (by omega) (by omega))
     have H1:=HD.out.ap.lt_one hab h1S
     have H2:10^S*2^b≤2*(X*2^a):=by
      have h2:=Nat.mul_le_mul_right (2^b) (HD.out.head_lo h53)
      have h3:=HD.out.ap.le
      rw [Nat.mul_assoc] at h2
      omega
     have HH1:=Lib.hid H1
     have HH2:=Lib.hid H2
     have d0:=HD.out.at_.cD (i:=0) (by omega)
     obtain ⟨c,hc⟩:∃c,L3.getD 0 0=c:=⟨_,rfl⟩
     rw [hc] at d0 h53
     have hd1:decide ((c:Int)<53)=false:=decide_eq_false (by omega)
     have hd2:¬(c<53):=by omega
     have i0:=HEr.out.i0
     have i1:=HEr.out.i1
     have i2:=HEr.out.i2
     have y1:a≤1100:=by omega
     have y2:b≤1040:=by omega
     obtain ⟨E,hEe⟩:∃E:Int,(b:Int)-(a:Int)-1=E:=⟨_,rfl⟩
     have hE1: -1101≤E:=by omega
     have hE2:E≤1040:=by omega
     clear H1 H2 hc h53 hgo hn1 hn2 hab hB1 hB2 hS h1S
     have hEe2:=Lib.hid hEe
     go_upto_if 111 with (fail)
     clear hEe
     go_cut [6,10] from 111 to 125 (fun u6 u10 wc=>∃b2 nd4 j:Nat,∃L4:List Nat,∃dp4:Int,∃tr4:Bool,u6= .int .i64 ((j:Int)-1022)∧Hid (Dst wc g false X B S L4 nd4 dp4 tr4 a b2)∧j+a=b2+1021∧Hid (X*2^a<10^S*2^b2∧(j=0∨10^S*2^b2≤2*(X*2^a)))∧ -100≤dp4∧dp4≤0∧B+b2≤1100+a∧j≤2100∧w.grownBy wc (some g))
     case first=>
      by_cases hden:E< -1022
      ·obtain ⟨n,hn⟩:∃n:Nat,(n:Int)= -1022-E:=⟨(-1022-E).toNat,by omega⟩
       have hEE:=hEe2.out
       have hB1:=HBb.out
       have HSh:=Lib.hid (shr_any g L3 nd3 n X B S a b 0 false tr3 wr HD.out (by omega) (by omega) (by omega) (by omega) HS4.out (by omega))
       have hnE: -1022-E=(n:Int):=by omega
       have hnF:E+(n:Int)= -1022:=by omega
       have hn1:n≤80:=by omega
       have HN:=Lib.hid (show n+b+1021=a by omega)
       clear hEE hn hB1
       have hden2:decide (E< -1022)=true:=decide_eq_true hden
       clear hden hE1 hE2
       rw [hden2]
       go_wp2_with fail
       refine HSh.out.mono ?_
       rintro e w2 ⟨rfl,L4,nd4,dp4,tr4,hD4,hl4,hp4,hp5,hv4,hg4⟩
       go_wp2_with fail
       go_meet
       case rel=>
        have hB1:=HBb.out
        have hNo:=HN.out
        refine ⟨b+n,nd4,0,L4,dp4,tr4,?_,Lib.hid hD4,by omega,Lib.hid ⟨Nat.lt_of_lt_of_le HH1.out (Nat.mul_le_mul_left _ (Nat.pow_le_pow_right (by omega) (by omega))),.inl rfl⟩,by omega,by omega,by omega,by omega,hg.trans hg4⟩
        congr 1
      ·have hden2:decide (E< -1022)=false:=decide_eq_false hden
       have hEE:=Lib.hid (show-1022≤E by omega)
       clear hden hE1 hE2
       rw [hden2]
       go_wp2_with fail
       go_meet
       case rel=>
        have hB1:=HBb.out
        have hE3:=hEE.out
        have hE4:=hEe2.out
        have hBq:=HB40.out
        exact ⟨b,nd3,(E+1022).toNat,L3,0,tr3,congrArg (Value.int IntKind.i64) (by omega),HD,by omega,Lib.hid ⟨HH1.out,.inr HH2.out⟩,by omega,by omega,by omega,by omega,hg⟩
     case rest=>
      clear HD HEr HAB p0 HH1 HH2 d0 hd1 hd2 y1 y2 i0 i1 i2 hg hEe2 hE1 hE2
      obtain ⟨b2,nd4,j,L4,dp4,tr4,rfl,HD,hj,HN,hd4,hd5,hB2,hj2,hg⟩:=hcut
      have HEr:=HE.out.below (grown_below HB0.out hg hg0)
      have i0:=HEr.i0
      have i1:=HEr.i1
      have i2:=HEr.i2
      have HLC:=Lib.hid HEr.lc
      have s0:=HD.out.at_.cS
      obtain ⟨E,hE⟩:∃E:Int,(j:Int)-1022=E:=⟨_,rfl⟩
      rw [hE]
      obtain ⟨q,hq⟩:∃q:Nat,j+1=q:=⟨_,rfl⟩
      have f1:E- -1023=(q:Int):=by omega
      have f2:E+1023=(q:Int):=by omega
      have hq3:q≤2101:=by omega
      have HJ:=Lib.hid hj
      have HD5:=Lib.hid (And.intro hd4 hd5)
      have HB2:=Lib.hid hB2
      have HEQ:=Lib.hid (And.intro hE hq)
      clear HEr hj hd4 hd5 hB2 hj2 hE
      rcases Nat.lt_or_ge q 2047 with hj6 | hj6
      ·have n1:decide ((q:Int)≥2047)=false:=decide_eq_false (by omega)
       have n2:decide ((2047:Int)≤(q:Int))=false:=decide_eq_false (by omega)
       have hfin:a+54≤B+b2:=by
        have hj1:=HJ.out
        rcases HBB.out with ⟨_,h60⟩ | ⟨_,h11⟩
        ·have h1:=Nat.mul_le_mul_right (2^a) (HXB.out.2 h60)
         have h2:=Nat.lt_of_mul_lt_mul_left (Nat.lt_of_le_of_lt h1 HN.out.1)
         have h3:=(Nat.pow_lt_pow_iff_right (show 1<2 by omega)).1 h2
         omega
        ·omega
       have HSh:=Lib.hid (fun k:Nat=>shl_any g L4 nd4 53 X B S a b2 dp4 false tr4 (wc.drewN k) (HD.out.dr k) (by omega) (by omega) (by have:=HD5.out;omega) (by have:=HD5.out;omega) (lcAt_below HLC.out ⟨rfl,rfl,rfl,Nat.le_refl _,fun _ _=>rfl⟩) (by have:=HB2.out;omega))
       have HK:=Lib.hid (show ∀(k:Nat) (e:Ending) (w2:World),LPost g false X B S L4 nd4 dp4 a b2 53 (wc.drewN k) e w2→∃K:Nat,e= .returned (.tuple #[])∧Hid (Calls Tryz.prog 186 #[.pointer (some ⟨g,0,none⟩)] w2 (fun e w'=>e= .returned (.int .u64 (K:Int))∧w'=w2))∧K≤9007199254740992∧Hid (Near (X*P) (10^S) (min (j*4503599627370496+K) 9218868437227405312))∧(0<j→4503599627370496≤K)∧w.grownBy w2 (some g)∧w2.cell? ⟨g,802,none⟩=some (.bool false) from by
        rintro k e w2 ⟨he,L5,nd5,dp5,tr5,hD5,hl5,hp5,hp6,hv5,hv6,hg5⟩
        have hlow:=HD5.out
        have hv3:vl S L4 nd4 dp4<10^S:=Nat.lt_of_mul_lt_mul_right (Nat.lt_of_le_of_lt HD.out.ap.le HN.out.1)
        have hY:vl S L5 nd5 dp5<9007199254740992*10^S:=by
         have e53:(2:Nat)^53=9007199254740992:=by decide
         rw [e53] at hv6
         omega
        obtain ⟨hR,hR2⟩:=rint_half hD5 hl5 (by omega) hY
        have hdp:=pow_dp16 hD5.vl_lo hY
        obtain ⟨hN1,hN2⟩:=near_at HZ.out HP.out HN.out.1 HN.out.2 HJ.out hR
        refine ⟨rint L5 nd5 dp5 tr5,he,Lib.hid (rint_any g L5 nd5 dp5 false tr5 w2 hD5.at_ hD5.dg (by omega) (by omega) ?_),hR2,Lib.hid hN1,hN2,(grown_dr hg k).trans hg5,hD5.at_.cS⟩
        unfold rint at hR2
        split at hR2
        ·rename_i hh
         rw [show dp5.toNat=0 by omega,pre_le (Nat.zero_le _)]
         exact Nat.zero_le _
        ·omega)
       have e53:(((53:Nat)):Int)=53:=rfl
       rw [e53] at HSh
       have f3:E+1- -1023=(q:Int)+1:=by omega
       have f4:E+1+1023=(q:Int)+1:=by omega
       have HHQ:=Lib.hid hq
       clear hfin hq hj6 e53
       go_wp2_with fail
       go_quiet (fail)
       go_wp2_with fail
       refine (HSh.out _).mono ?_
       intro e2 w2 hPo
       obtain ⟨K,rfl,HRi,hK1,HNr,hK2,hg5,s0⟩:=HK.out _ _ _ hPo
       have HG5:=Lib.hid hg5
       have i0:w2.cell? ⟨8,0,none⟩=some (.int .u64 52):=(HE.out.below (grown_below HB0.out hg5 hg0)).i0
       have i1:w2.cell? ⟨8,1,none⟩=some (.int .u64 11):=(HE.out.below (grown_below HB0.out hg5 hg0)).i1
       have i2:w2.cell? ⟨8,2,none⟩=some (.int .i64 (-1023)):=(HE.out.below (grown_below HB0.out hg5 hg0)).i2
       clear hPo hg5 hg HK HSh HD HLC
       have HK1:=Lib.hid hK1
       have HK2:=Lib.hid hK2
       clear hK1 hK2
       go_wp2_with fail
       refine HRi.out.mono ?_
       rintro e3 w3 ⟨rfl,rfl⟩
       clear HRi
       have hq47:q≤2046:=by have:=of_decide_eq_false n1;omega
       rcases Nat.lt_or_ge K 9007199254740992 with hK | hK
       ·
        have k1:((K:Int)==9007199254740992)=false:=beq_false_of_ne (by omega)
        have k2:¬((K:Int)=9007199254740992):=by omega
        rcases Nat.lt_or_ge K 4503599627370496 with hK5 | hK5
        ·have hj0:j=0:=by have:=HK2.out;omega
         have hR:Near (X*P) (10^S) K:=by
          have:=HNr.out
          rw [hj0,Nat.zero_mul,Nat.zero_add,Nat.min_eq_left (by omega)] at this
          exact this
         have HR:=Lib.hid hR
         have b1:=bit52_lo K hK5
         have b2':bits .and .u64 (K:Int) 4503599627370495=(K:Int):=by
          have:=and_low K 52 (by omega) (by omega)
          rw [show (2:Nat)^52=4503599627370496 by decide,Nat.mod_eq_of_lt hK5] at this
          exact this
         have b3:bits .and .i64 0 2047=0:=and2047 0 (by omega)
         have b4:bits .or .u64 (K:Int) 0=(K:Int):=by
          have:=or_join' 0 K 52 (by omega) (by omega) (by decide) (by rw [show (2:Nat)^52=4503599627370496 by decide];exact hK5)
          simpa using this
         clear hj0 hR hK hq47 f1 f2 f3 f4
         go_wp2_with fail
         go_step3
         rw [←HQ.out]
         refine Or.inr ⟨rfl,?_⟩
         go_wp2_with fail
         go_quiet (fail)
         go_wp2_with fail
         try rw [Exit.noGoto_ret]
         refine bodyPost_ret (v:= .tuple #[.int .u64 ((K:Int)),.bool false]) (by simp [results,Tryz.results155,go_sem]) rfl ⟨K,false,?_,HR.out,grown_dr HG5.out _⟩
         rfl
        ·have b1:=bit52_hi K hK5 hK
         have b2':bits .and .u64 (K:Int) 4503599627370495=((K-4503599627370496:Nat):Int):=by
          have:=and_low K 52 (by omega) (by omega)
          rw [show (2:Nat)^52=4503599627370496 by decide,show K % 4503599627370496=K-4503599627370496 by omega] at this
          exact this
         have b3:bits .and .i64 (q:Int) 2047=(q:Int):=and2047 q (by omega)
         have b4:bits .or .u64 ((K-4503599627370496:Nat):Int) ((q:Int)*4503599627370496)=((j*4503599627370496+K:Nat):Int):=by
          have hqq:=HHQ.out
          have:=or_join' (q*4503599627370496) (K-4503599627370496) 52 (by omega) (by omega) (by rw [show (2:Nat)^52=4503599627370496 by decide,Nat.mul_mod_left]) (by rw [show (2:Nat)^52=4503599627370496 by decide];omega)
          rw [show K-4503599627370496+q*4503599627370496=j*4503599627370496+K by omega] at this
          rw [←this]
          simp
         have hR:Near (X*P) (10^S) (j*4503599627370496+K):=by
          have hqq:=HHQ.out
          have:=HNr.out
          rw [Nat.min_eq_left (by omega)] at this
          exact this
         have HR:=Lib.hid hR
         obtain ⟨R,hRe⟩:∃R,j*4503599627370496+K=R:=⟨_,rfl⟩
         obtain ⟨M,hM⟩:∃M,K-4503599627370496=M:=⟨_,rfl⟩
         rw [hRe] at HR b4
         rw [hM] at b2' b4
         clear hR hRe hM hK
         go_wp2_with fail
         go_step3
         rw [←HQ.out]
         refine Or.inr ⟨rfl,?_⟩
         go_wp2_with fail
         go_quiet (fail)
         go_wp2_with fail
         try rw [Exit.noGoto_ret]
         refine bodyPost_ret (v:= .tuple #[.int .u64 ((R:Int)),.bool false]) (by simp [results,Tryz.results155,go_sem]) rfl ⟨R,false,?_,HR.out,grown_dr HG5.out _⟩
         rfl
       ·
        have hKe:K=9007199254740992:=by have:=HK1.out;omega
        subst hKe
        have b0:((9007199254740992:Nat):Int)=9007199254740992:=rfl
        rw [b0]
        have b5:bits .and .u64 4503599627370496 4503599627370496=4503599627370496:=by decide+kernel
        have b6:bits .and .u64 4503599627370496 4503599627370495=0:=by decide+kernel
        rcases Nat.lt_or_ge q 2046 with hq6 | hq6
        ·have n3:decide ((q:Int)+1≥2047)=false:=decide_eq_false (by omega)
         have n4:decide ((2047:Int)≤(q:Int)+1)=false:=decide_eq_false (by omega)
         obtain ⟨q1,hq1⟩:∃q1:Nat,q+1=q1:=⟨_,rfl⟩
         have hqi:(q:Int)+1=(q1:Int):=by omega
         rw [hqi] at f3 f4 n3 n4
         have hq2:q1≤2046:=by omega
         have b3:bits .and .i64 (q1:Int) 2047=(q1:Int):=and2047 q1 (by omega)
         have b4:bits .or .u64 0 ((q1:Int)*4503599627370496)=((q1*4503599627370496:Nat):Int):=by
          have:=or_join' (q1*4503599627370496) 0 52 (by omega) (by omega) (by rw [show (2:Nat)^52=4503599627370496 by decide,Nat.mul_mod_left]) (by decide)
          simpa using this
         have hR:Near (X*P) (10^S) (q1*4503599627370496):=by
          have hqq:=HHQ.out
          have:=HNr.out
          rw [Nat.min_eq_left (by omega),show j*4503599627370496+9007199254740992=q1*4503599627370496 by omega] at this
          exact this
         have HR:=Lib.hid hR
         obtain ⟨R,hRe⟩:∃R,q1*4503599627370496=R:=⟨_,rfl⟩
         rw [hRe] at HR b4
         clear hR hRe hK hqi hq1 hq6 f1 f2
         go_wp2_with fail
         go_quiet (fail)
         go_wp2_with fail
         go_step3
         rw [←HQ.out]
         refine Or.inr ⟨rfl,?_⟩
         go_wp2_with fail
         go_quiet (fail)
         go_wp2_with fail
         try rw [Exit.noGoto_ret]
         refine bodyPost_ret (v:= .tuple #[.int .u64 ((R:Int)),.bool false]) (by simp [results,Tryz.results155,go_sem]) rfl ⟨R,false,?_,HR.out,grown_dr HG5.out _⟩
         rfl
        ·have hqe:q=2046:=by omega
         have n3:decide ((2047:Int)≥2047)=true:=by decide
         have hR:Near (X*P) (10^S) 9218868437227405312:=by
          have hqq:=HHQ.out
          have:=HNr.out
          rw [Nat.min_eq_right (by omega)] at this
          exact this
         have HNI:=Lib.hid hR
         have ha:bits .and .i64 2047 2047=2047:=and2047 2047 (by omega)
         subst hqe
         have f5:E+1- -1023=2047:=by omega
         have f6:E+1+1023=2047:=by omega
         clear hR hK hq6 hq47 f1 f2 f3 f4 n1 n2
         go_wp2_with fail
         go_quiet (fail)
         go_wp2_with fail
         go_step3
         rw [←HQ.out]
         refine Or.inl ⟨rfl,?_⟩
         go_wp2_with fail
         go_quiet (fail)
         go_wp2_with fail
         go_step3
         go_wp2_with fail
         go_quiet (fail)
         go_wp2_with fail
         try rw [Exit.noGoto_ret]
         refine bodyPost_ret (v:= .tuple #[.int .u64 (bits BinOp.or IntKind.u64 (bits BinOp.and IntKind.u64 0 4503599627370495) 9218868437227405312),.bool true]) (by simp [results,Tryz.results155,go_sem]) rfl ⟨9218868437227405312,true,?_,HNI.out,grown_dr HG5.out _⟩
         rw [show bits BinOp.or IntKind.u64 (bits BinOp.and IntKind.u64 0 4503599627370495) 9218868437227405312=9218868437227405312 by decide+kernel]
         rfl
      ·have n1:decide ((q:Int)≥2047)=true:=decide_eq_true (by omega)
       have n2:decide ((2047:Int)≤(q:Int))=true:=decide_eq_true (by omega)
       have HNI:=Lib.hid (near_inf HZ.out HP.out HN.out.1 HN.out.2 HJ.out (by omega))
       have ha:bits .and .i64 2047 2047=2047:=and2047 2047 (by omega)
       clear hq
       go_wp2_with fail
       go_quiet (fail)
       go_wp2_with fail
       go_step3
       rw [←HQ.out]
       refine Or.inl ⟨rfl,?_⟩
       go_wp2_with fail
       go_quiet (fail)
       go_wp2_with fail
       go_step3
       go_wp2_with fail
       go_quiet (fail)
       go_wp2_with fail
       try rw [Exit.noGoto_ret]
       refine bodyPost_ret (v:= .tuple #[.int .u64 (bits BinOp.or IntKind.u64 (bits BinOp.and IntKind.u64 0 4503599627370495) 9218868437227405312),.bool true]) (by simp [results,Tryz.results155,go_sem]) rfl ⟨9218868437227405312,true,?_,HNI.out,grown_dr hg _⟩
       rw [show bits BinOp.or IntKind.u64 (bits BinOp.and IntKind.u64 0 4503599627370495) 9218868437227405312=9218868437227405312 by decide+kernel]
       rfl
end Go.Proofs.YtjhhdnnblcbdbaaGreatDoor.dcm
end
