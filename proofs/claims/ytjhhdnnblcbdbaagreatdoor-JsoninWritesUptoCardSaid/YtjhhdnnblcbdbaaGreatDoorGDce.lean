/- The library's decimal, plain: what RoundedInteger rounds to is the nearest. The library's decimal: shouldRoundUp, RoundedInteger. The library's decimal: a scope with two labels; the tables of floatBits. The library's decimal: floatBits far off. -/
import Derived.Test.YtjhhdnnblcbdbaaGreatDoorGDca
import Derived.Test.YtjhhdnnblcbdbaaGreatDoorGDcp
import Derived.Scope
import Derived.WalkMore
section
namespace Go.Proofs.YtjhhdnnblcbdbaaGreatDoor.dcm
open Go.RowKit mem fl big us
set_option linter.unusedVariables false
def sru (L:List Nat) (nd m:Nat) (tr:Bool):Bool:=decide (m<nd)&&(if L.getD m 0=53∧m+1=nd then (tr||(decide (0<m)&&decide ((L.getD (m-1) 0-48) % 2≠0))) else decide (53≤L.getD m 0))
theorem odd_nmb {L:List Nat} {nd:Nat} (h:Dg L nd) (m:Nat) (hm:m≤nd):(decide (0<m)&&decide ((L.getD (m-1) 0-48) % 2≠0))=decide (nmb L m % 2=1):=by
 rcases m with _ | m
 ·simp [nmb]
 ·have e1:nmb L (m+1)=nmb L m*10+(L.getD m 0-48):=rfl
  rw [Nat.add_sub_cancel,e1]
  generalize L.getD m 0-48=d
  have:(nmb L m*10+d) % 2=d % 2:=by omega
  rw [this]
  rcases Nat.mod_two_eq_zero_or_one d with h1 | h1 <;> simp [h1]
theorem round_split {L:List Nat} {nd m S:Nat} (tr:Bool) (h:Dg L nd) (h0:0<nd) (hl:L.getD (nd-1) 0≠48) (hS:nd≤S+m):
  ∃F,nmb L nd*10^(S+m-nd)=pre L nd m*10^S+F∧F<10^S∧(sru L nd m tr=true↔(10^S<2*F∨(2*F=10^S∧(tr=true∨pre L nd m % 2=1)))):=by
 have hT:0<10^S:=Nat.pow_pos (by omega)
 rcases Nat.lt_or_ge m nd with hm | hm
 ·obtain ⟨j,rfl⟩:∃j,nd=m+1+j:=⟨nd-m-1,by omega⟩
  obtain ⟨u,rfl⟩:∃u,S=u+(j+1):=⟨S-(j+1),by omega⟩
  have e1:u+(j+1)+m-(m+1+j)=u:=by omega
  rw [e1,pre_le (by omega)]
  have hs1:=nmb_split L (m+1) (m+1+j) (by omega)
  have hs2:=nmb_splitU L (m+1+j) h.hi (m+1) (m+1+j) (by omega) (Nat.le_refl _)
  rw [show m+1+j-(m+1)=j by omega] at hs1 hs2
  have hd1:=h.lo m (by omega)
  have hd2:=h.hi m (by omega)
  have hn1:nmb L (m+1)=nmb L m*10+(L.getD m 0-48):=rfl
  obtain ⟨d,hd⟩:∃d,L.getD m 0=d:=⟨_,rfl⟩
  rw [hd] at hd1 hd2 hn1
  obtain ⟨e,rfl⟩:∃e,d=48+e:=⟨d-48,by omega⟩
  rw [hn1,show 48+e-48=e by omega] at hs1 hs2
  obtain ⟨Q,hQ⟩:∃Q,nmb L (m+1+j)=Q:=⟨_,rfl⟩
  obtain ⟨A,hA⟩:∃A,nmb L m=A:=⟨_,rfl⟩
  obtain ⟨G,hG⟩:∃G,(10:Nat)^j=G:=⟨_,rfl⟩
  obtain ⟨U,hU⟩:∃U,(10:Nat)^u=U:=⟨_,rfl⟩
  have hGp:0<G:=by rw [←hG];exact Nat.pow_pos (by omega)
  have hUp:0<U:=by rw [←hU];exact Nat.pow_pos (by omega)
  have hTT:(10:Nat)^(u+(j+1))=10*G*U:=by rw [Nat.pow_add,Nat.pow_succ,hG,hU];ac_rfl
  rw [hQ,hA,hG] at hs1 hs2
  rw [hQ,hA,hU,hTT]
  have x1:(A*10+e)*G=10*(A*G)+e*G:=by rw [Nat.add_mul];congr 1;ac_rfl
  have x2:(A*10+e+1)*G=10*(A*G)+e*G+G:=by rw [Nat.add_mul,x1,Nat.one_mul]
  rw [x1] at hs1
  rw [x2] at hs2
  obtain ⟨R,hR⟩:∃R,Q=10*(A*G)+R:=⟨Q-10*(A*G),by omega⟩
  have hR1:e*G≤R:=by omega
  have hR2:R<e*G+G:=by omega
  have he9:e≤9:=by omega
  have heG:e*G≤9*G:=Nat.mul_le_mul_right _ he9
  have y1:Q*U=A*(10*G*U)+R*U:=by
   rw [hR,Nat.add_mul];congr 1;ac_rfl
  refine ⟨R*U,y1,(Nat.mul_lt_mul_right hUp).2 (by omega),?_⟩
  have z1:(10*G*U<2*(R*U))↔10*G<2*R:=by
   rw [←Nat.mul_assoc];exact Nat.mul_lt_mul_right hUp
  have z2:(2*(R*U)=10*G*U)↔2*R=10*G:=by
   rw [←Nat.mul_assoc]
   exact ⟨fun hh=>Nat.eq_of_mul_eq_mul_right hUp hh,fun hh=>by rw [hh]⟩
  rw [z1,z2]
  unfold sru
  rw [odd_nmb h m (by omega),hd,hA]
  have hmn:decide (m<m+1+j)=true:=decide_eq_true (by omega)
  rw [hmn,Bool.true_and]
  rcases Nat.eq_zero_or_pos j with hj | hj
  ·subst hj
   simp only [Nat.pow_zero] at hG
   subst hG
   have hRe:R=e:=by omega
   subst hRe
   by_cases h5:R=5
   ·subst h5
    simp
   ·rw [if_neg (by omega)]
    simp only [decide_eq_true_eq]
    omega
  ·rw [if_neg (by omega)]
   simp only [decide_eq_true_eq]
   have hlast:nmb L (m+1+j)=nmb L (m+j)*10+(L.getD (m+j) 0-48):=by rw [show m+1+j=m+j+1 by omega];rfl
   have hl2:L.getD (m+j) 0≠48:=by rw [show m+1+j-1=m+j by omega] at hl;exact hl
   have hl3:=h.lo (m+j) (by omega)
   have hl4:=h.hi (m+j) (by omega)
   have hQ10:Q % 10≠0:=by rw [←hQ,hlast];omega
   obtain ⟨G',hG'⟩:∃G',G=10*G':=⟨10^(j-1),by rw [←hG,←Nat.pow_succ'];congr 1;omega⟩
   have hne:R≠5*G:=by
    intro hh
    rw [hR,hh,hG'] at hQ10
    apply hQ10
    have:10*(A*(10*G'))+5*(10*G')=10*(A*(10*G')+5*G'):=by rw [Nat.mul_add];omega
    rw [this,Nat.mul_mod_right]
   have hc:e<5∨e=5∨5<e:=by omega
   rcases hc with hc | hc | hc
   ·have:e*G≤4*G:=Nat.mul_le_mul_right _ (by omega)
    constructor
    ·intro hh;omega
    ·intro hh;omega
   ·subst hc
    constructor
    ·intro _;omega
    ·intro _;omega
   ·have:6*G≤e*G:=Nat.mul_le_mul_right _ (by omega)
    constructor
    ·intro _;omega
    ·intro _;omega
 ·refine ⟨0,?_,hT,?_⟩
  ·rw [pre_ge hm,Nat.mul_assoc,←Nat.pow_add,Nat.add_zero]
   congr 2
   omega
  ·unfold sru
   rw [decide_eq_false (by omega)]
   simp only [Bool.false_and]
   constructor
   ·intro hh;exact absurd hh (by simp)
   ·intro hh;omega
theorem half_of {N D Y T I F b:Nat} {tr u:Bool} (hD:D=T*b) (hb:0<b) (hY:Y=I*T+F) (hF:F<T)
  (hu:u=true↔(T<2*F∨(2*F=T∧(tr=true∨I % 2=1)))) (hle:Y*b≤N) (hex:tr=false→Y*b=N) (hgt:tr=true→Y*b<N)
  (h1:(2*I+1)*D≤2*N→(2*I+1)*T≤2*Y) (h3:(2*I+3)*D≤2*N→(2*I+3)*T≤2*Y):Half N D (I+u.toNat):=by
 have eT1:(2*I+1)*T=2*(I*T)+T:=by rw [Nat.add_mul,Nat.one_mul,Nat.mul_assoc]
 have eT3:(2*I+3)*T=2*(I*T)+3*T:=by rw [Nat.add_mul,Nat.mul_assoc]
 have hTb:D=T*b:=hD
 have eD0:2*I*D=2*(I*T*b):=by rw [hD,Nat.mul_assoc,Nat.mul_assoc]
 have eD1:(2*I+1)*D=2*(I*T*b)+D:=by rw [Nat.add_mul,Nat.one_mul,eD0]
 have eD3:(2*I+3)*D=2*(I*T*b)+3*D:=by rw [Nat.add_mul,eD0]
 have eY:Y*b=I*T*b+F*b:=by rw [hY,Nat.add_mul]
 have hTp:0<T:=by omega
 have hDp:0<D:=by rw [hD];exact Nat.mul_pos hTp hb
 unfold Half
 cases u with
 | false=>
   have hno:¬(T<2*F∨(2*F=T∧(tr=true∨I % 2=1))):=fun hh=>absurd (hu.2 hh) (by simp)
   simp only [Bool.toNat_false,Nat.add_zero]
   refine ⟨.inl (by omega),?_⟩
   rcases Nat.lt_or_ge (2*N) ((2*I+1)*D) with hlt | hge
   ·exact .inl hlt
   ·have h4:=h1 hge
    rw [eT1,hY] at h4
    have h5:¬T<2*F:=fun hh=>hno (.inl hh)
    have h6:2*F=T:=by omega
    have h7:tr≠true:=fun hh=>hno (.inr ⟨h6,.inl hh⟩)
    have h8:¬I % 2=1:=fun hh=>hno (.inr ⟨h6,.inr hh⟩)
    have h9:=hex (Bool.eq_false_iff.2 h7)
    refine .inr ⟨?_,by omega⟩
    have:2*(F*b)=D:=by rw [hD,←h6,Nat.mul_assoc]
    omega
 | true=>
   have hyes:=hu.1 rfl
   simp only [Bool.toNat_true]
   have e2:2*(I+1)*D=2*(I*T*b)+2*D:=by rw [Nat.mul_add,Nat.add_mul,eD0]
   have e3:(2*(I+1)+1)*D=(2*I+3)*D:=by congr 1
   rw [e2,e3]
   refine ⟨?_,?_⟩
   ·rcases hyes with hh | ⟨hh,ht⟩
    ·left
     have:D<2*(F*b):=by
      rw [hD,←Nat.mul_assoc];exact (Nat.mul_lt_mul_right hb).2 hh
     omega
    ·have h6:2*(F*b)=D:=by rw [hD,←hh,Nat.mul_assoc]
     rcases ht with ht | ht
     ·left
      have:=hgt ht
      omega
     ·rcases Nat.lt_or_ge (2*(Y*b)) (2*N) with hlt | hge
      ·left;omega
      ·right;omega
   ·left
    rcases Nat.lt_or_ge (2*N) ((2*I+3)*D) with hlt | hge
    ·exact hlt
    ·exfalso
     have h4:=h3 hge
     rw [eT3,hY] at h4
     omega
theorem Ap.half {X B S:Nat} {L:List Nat} {nd:Nat} {dp:Int} {tr:Bool} {a b:Nat} (h:Ap X B S L nd dp tr a b) (hB:a+1≤B+b) {c:Nat} (hc:c<2^55)
  (h1:c*(10^S*2^b)≤2*(X*2^a)):c*10^S≤2*vl S L nd dp:=by
 obtain ⟨p,hp⟩:∃p,a+1+p=B+b:=⟨B+b-(a+1),by omega⟩
 have h2:c*2^p*10^S≤X*2^B:=by
  refine Nat.le_of_mul_le_mul_right (c:=2^(a+1)) ?_ (Nat.two_pow_pos _)
  have e1:c*2^p*10^S*2^(a+1)=c*(10^S*2^b)*2^B:=by
   have:2^p*2^(a+1)=2^b*2^B:=by rw [←Nat.pow_add,←Nat.pow_add];congr 1;omega
   rw [show c*2^p*10^S*2^(a+1)=c*10^S*(2^p*2^(a+1)) by ac_rfl,this]
   ac_rfl
  have e2:X*2^B*2^(a+1)=2*(X*2^a)*2^B:=by rw [Nat.pow_succ];ac_rfl
  rw [e1,e2]
  exact Nat.mul_le_mul_right _ h1
 have h3:=h.cl c p hc h2
 refine Nat.le_of_mul_le_mul_right (c:=2^(p+a)) ?_ (Nat.two_pow_pos _)
 rw [show B+b=p+a+1 by omega,Nat.pow_succ] at h3
 rw [show c*10^S*2^(p+a)=c*2^(p+a)*10^S by ac_rfl,show 2*vl S L nd dp*2^(p+a)=vl S L nd dp*(2^(p+a)*2) by ac_rfl]
 exact h3
theorem Ap.lt_one {X B S:Nat} {L:List Nat} {nd:Nat} {dp:Int} {tr:Bool} {a b:Nat} (h:Ap X B S L nd dp tr a b) (hB:a≤B+b) (h1:vl S L nd dp<10^S):X*2^a<10^S*2^b:=by
 rcases Nat.lt_or_ge (X*2^a) (10^S*2^b) with hlt | hge
 ·exact hlt
 ·exfalso
  obtain ⟨p,hp⟩:∃p,a+p=B+b:=⟨B+b-a,by omega⟩
  have h2:1*2^p*10^S≤X*2^B:=by
   refine Nat.le_of_mul_le_mul_right (c:=2^a) ?_ (Nat.two_pow_pos _)
   have e1:1*2^p*10^S*2^a=10^S*2^b*2^B:=by
    have:2^p*2^a=2^b*2^B:=by rw [←Nat.pow_add,←Nat.pow_add];congr 1;omega
    rw [show 1*2^p*10^S*2^a=10^S*(2^p*2^a) by rw [Nat.one_mul];ac_rfl,this]
    ac_rfl
   rw [e1,Nat.mul_right_comm X]
   exact Nat.mul_le_mul_right _ hge
  have h3:=h.cl 1 p (by decide) h2
  rw [show B+b=p+a by omega,Nat.one_mul,Nat.mul_comm] at h3
  have:=Nat.le_of_mul_le_mul_right h3 (Nat.two_pow_pos _)
  omega
theorem Ap.far {X B S:Nat} {L:List Nat} {nd:Nat} {dp:Int} {tr:Bool} {a b n:Nat} (h:Ap X B S L nd dp tr a b) (hX:10^S≤X*2^B) (h1:vl S L nd dp*2^n<10^S):a+n<B+b:=by
 rcases Nat.lt_or_ge (a+n) (B+b) with hlt | hge
 ·exact hlt
 ·exfalso
  have h3:=h.cl 1 0 (by decide) (by simpa using hX)
  rw [Nat.zero_add,Nat.one_mul] at h3
  have h4:vl S L nd dp*2^(B+b)≤vl S L nd dp*2^n*2^a:=by
   rw [Nat.mul_assoc,←Nat.pow_add]
   exact Nat.mul_le_mul_left _ (Nat.pow_le_pow_right (by omega) (by omega))
  have h5:vl S L nd dp*2^n*2^a<10^S*2^a:=(Nat.mul_lt_mul_right (Nat.two_pow_pos _)).2 h1
  rw [Nat.mul_comm (2^a)] at h3
  omega
theorem Dst.vl_lo {W:World} {g:Nat} {neg:Bool} {X B S:Nat} {L:List Nat} {nd:Nat} {dp:Int} {tr:Bool} {a b:Nat} (h:Dst W g neg X B S L nd dp tr a b):10^((S:Int)+dp-1).toNat≤vl S L nd dp:=by
 have h1:=h.dg.pos nd h.pos (Nat.le_refl _)
 have h2:=h.ap.nat
 have h3:=h.pos
 unfold vl
 rw [show ((S:Int)+dp-1).toNat=(nd-1)+((S:Int)+dp-nd).toNat by omega,Nat.pow_add]
 exact Nat.mul_le_mul_right _ h1
theorem Dst.vl_hi {W:World} {g:Nat} {neg:Bool} {X B S:Nat} {L:List Nat} {nd:Nat} {dp:Int} {tr:Bool} {a b:Nat} (h:Dst W g neg X B S L nd dp tr a b):vl S L nd dp<10^((S:Int)+dp).toNat:=by
 have h1:=h.dg.lt nd (Nat.le_refl _)
 have h2:=h.ap.nat
 have h3:=h.pos
 unfold vl
 rw [show ((S:Int)+dp).toNat=nd+((S:Int)+dp-nd).toNat by omega,Nat.pow_add]
 exact (Nat.mul_lt_mul_right (Nat.pow_pos (by omega))).2 h1
theorem Dst.head_lo {W:World} {g:Nat} {neg:Bool} {X B S:Nat} {L:List Nat} {nd:Nat} {tr:Bool} {a b:Nat} (h:Dst W g neg X B S L nd 0 tr a b) (h5:53≤L.getD 0 0):10^S≤2*vl S L nd 0:=by
 have h2:=h.ap.nat
 have h3:=h.pos
 have hs:=nmb_split L 1 nd (by omega)
 have h1:nmb L 1=L.getD 0 0-48:=by simp [nmb]
 rw [h1] at hs
 unfold vl
 have e:(10:Nat)^S=10*10^(nd-1)*10^((S:Int)+0-nd).toNat:=by
  rw [←Nat.pow_succ',←Nat.pow_add];congr 1;omega
 rw [e,←Nat.mul_assoc]
 refine Nat.mul_le_mul_right _ ?_
 have:5*10^(nd-1)≤(L.getD 0 0-48)*10^(nd-1):=Nat.mul_le_mul_right _ (by omega)
 omega
theorem Dst.head_hi {W:World} {g:Nat} {neg:Bool} {X B S:Nat} {L:List Nat} {nd:Nat} {tr:Bool} {a b:Nat} (h:Dst W g neg X B S L nd 0 tr a b) (h5:L.getD 0 0<53):2*vl S L nd 0<10^S:=by
 have h2:=h.ap.nat
 have h3:=h.pos
 have hs:=nmb_splitU L nd h.dg.hi 1 nd (by omega) (Nat.le_refl _)
 have h1:nmb L 1=L.getD 0 0-48:=by simp [nmb]
 rw [h1] at hs
 unfold vl
 have e:(10:Nat)^S=10*10^(nd-1)*10^((S:Int)+0-nd).toNat:=by
  rw [←Nat.pow_succ',←Nat.pow_add];congr 1;omega
 rw [e,←Nat.mul_assoc]
 refine (Nat.mul_lt_mul_right (Nat.pow_pos (by omega))).2 ?_
 have:(L.getD 0 0-48+1)*10^(nd-1)≤5*10^(nd-1):=Nat.mul_le_mul_right _ (by omega)
 omega
def rint (L:List Nat) (nd:Nat) (dp:Int) (tr:Bool):Nat:=if dp<0 then 0 else pre L nd dp.toNat+(sru L nd dp.toNat tr).toNat
theorem rint_half {W:World} {g:Nat} {neg:Bool} {X B S:Nat} {L:List Nat} {nd:Nat} {dp:Int} {tr:Bool} {a b:Nat} (h:Dst W g neg X B S L nd dp tr a b) (hl:L.getD (nd-1) 0≠48) (hB:a+1≤B+b)
  (hY:vl S L nd dp<9007199254740992*10^S):Half (X*2^a) (10^S*2^b) (rint L nd dp tr)∧rint L nd dp tr≤9007199254740992:=by
 have hA:=h.ap
 have hnat:=hA.nat
 have hTp:0<10^S:=Nat.pow_pos (by omega)
 have key:∀I F (u:Bool),vl S L nd dp=I*10^S+F→F<10^S→(u=true↔(10^S<2*F∨(2*F=10^S∧(tr=true∨I % 2=1))))→Half (X*2^a) (10^S*2^b) (I+u.toNat)∧I+u.toNat≤9007199254740992:=by
  intro I F u h1 h2 h3
  have hI:I<9007199254740992:=by
   rcases Nat.lt_or_ge I 9007199254740992 with hh | hh
   ·exact hh
   ·have:=Nat.mul_le_mul_right (10^S) hh
    omega
  refine ⟨half_of (b:=2^b) rfl (Nat.two_pow_pos b) h1 h2 h3 hA.le hA.ex hA.gt ?_ ?_,by cases u <;> simp <;> omega⟩
  ·exact fun hh=>hA.half hB (by omega) hh
  ·exact fun hh=>hA.half hB (by omega) hh
 unfold rint
 by_cases hdp:dp<0
 ·rw [if_pos hdp]
  have h1:=h.vl_hi
  have h2:10*vl S L nd dp<10^S:=by
   have:10*10^((S:Int)+dp).toNat≤10^S:=by
    rw [←Nat.pow_succ']
    have hp:=h.pos
    exact Nat.pow_le_pow_right (by omega) (by omega)
   omega
  have:=key 0 (vl S L nd dp) false (by omega) (by omega) (by
   constructor
   ·intro hh;exact Bool.noConfusion hh
   ·intro hh;omega)
  simpa using this
 ·rw [if_neg hdp]
  obtain ⟨m,rfl⟩:∃m:Nat,dp=(m:Int):=⟨dp.toNat,by omega⟩
  obtain ⟨F,h1,h2,h3⟩:=round_split (S:=S) tr h.dg h.pos hl (show nd≤S+m by omega)
  rw [Int.toNat_natCast]
  refine key _ F _ ?_ h2 h3
  rw [←h1]
  unfold vl
  congr 2
  omega
theorem near_of_half {N D T K X P a b j z:Nat} (hz:z=1074) (hP:P=2^z) (hN:N=X*2^a) (hD:D=T*2^b) (hT:0<T) (hK:Half N D K) (hj:a+j=z+b) (hlo:4503599627370496*D≤N∨j=0) (hhi:N<9007199254740992*D):Near (X*P) T (min (j*4503599627370496+K) 9218868437227405312):=by
 have hDp:0<D:=by rw [hD];exact Nat.mul_pos hT (Nat.two_pow_pos b)
 have h1:=(near0_of_half hDp hK hlo hhi).near hDp
 have e:N*2^j=X*P*2^b:=by
  rw [hN,hP,Nat.mul_assoc,←Nat.pow_add,hj,Nat.pow_add,Nat.mul_assoc]
 rw [e,hD] at h1
 exact h1.unscale (Nat.two_pow_pos b)
end Go.Proofs.YtjhhdnnblcbdbaaGreatDoor.dcm
end
section
namespace Go.Proofs.YtjhhdnnblcbdbaaGreatDoor.dcm
open Go.RowKit mem fl big us
set_option linter.unusedVariables false
def sruI (L:List Nat) (nd:Nat) (dp:Int) (tr:Bool):Bool:=if dp<0 then false else sru L nd dp.toNat tr
set_option maxRecDepth 100000 in
set_option maxHeartbeats 4000000 in
theorem sru_any (g:Nat) (L:List Nat) (nd:Nat) (dp m:Int) (neg tr:Bool) (w:World) (h:DcAt w g L nd dp neg tr) (hD:Dg L nd) (hm:m≤20) (hm2: -100000≤m):
  Calls Tryz.prog 198 #[.pointer (some ⟨g,0,none⟩),.int .i64 m] w (fun e w'=>e= .returned (.bool (sruI L nd m tr))∧w'=w):=by
 have c0:=h.cN
 have ct:=h.cT
 have H:=Lib.hid h
 clear h
 by_cases hneg:m<0
 ·have hr:sruI L nd m tr=false:=if_pos hneg
  rw [hr]
  clear hr
  go_enter Tryz.func198,Tryz.ntmps198
  go_wp2_with fail
  go_ret
  exact ⟨rfl,rfl⟩
 ·obtain ⟨k,rfl⟩:∃k:Nat,m=(k:Int):=⟨m.toNat,by omega⟩
  have hr:sruI L nd k tr=sru L nd k tr:=by unfold sruI;rw [if_neg (by omega),Int.toNat_natCast]
  rw [hr]
  clear hr
  have hk8:=hD.le
  by_cases hk:nd≤k
  ·have q:sru L nd k tr=false:=by unfold sru;rw [decide_eq_false (by omega)];rfl
   have hk':(nd:Int)≤(k:Int):=by omega
   rw [q]
   clear q
   go_enter Tryz.func198,Tryz.ntmps198
   go_wp2_with fail
   go_ret
   exact ⟨rfl,rfl⟩
  ·have hk':¬((nd:Int)≤(k:Int)):=by omega
   have d0:=H.out.cD (i:=k) (by omega)
   have hki:(k:Int)<800:=by omega
   have q0:sru L nd k tr=(if L.getD k 0=53∧k+1=nd then (tr||(decide (0<k)&&decide ((L.getD (k-1) 0-48) % 2≠0))) else decide (53≤L.getD k 0)):=by unfold sru;rw [decide_eq_true (by omega),Bool.true_and]
   rw [q0]
   clear q0
   obtain ⟨c,hc⟩:∃c,L.getD k 0=c:=⟨_,rfl⟩
   rw [hc] at d0 ⊢
   clear hc
   by_cases h5:c=53
   ·subst h5
    by_cases hl:k+1=nd
    ·rw [if_pos ⟨rfl,hl⟩]
     have hli:(((k:Int)+1)==(nd:Int))=true:=by simp;omega
     have hlj:(k:Int)+1=(nd:Int):=by omega
     cases tr
     ·rcases k with _ | j
      ·simp only [Nat.lt_irrefl,decide_false,Bool.false_and,Bool.or_self]
       obtain rfl:nd=1:=by omega
       have c1:w.cell? ⟨g,800,none⟩=some (.int .i64 1):=c0
       have d1:w.cell? ⟨g,0,none⟩=some (.int .u8 53):=d0
       clear c0 d0 hli hlj hki hk' hneg hk hl hm hm2
       go_enter Tryz.func198,Tryz.ntmps198
       go_wp2_with fail
       go_ret
       exact ⟨rfl,rfl⟩
      ·have d1:=H.out.cD (i:=j) (by omega)
       have dl:=hD.lo j (by omega)
       have dh:=hD.hi j (by omega)
       rw [Nat.add_sub_cancel,decide_eq_true (Nat.succ_pos j),Bool.true_and,Bool.false_or]
       obtain ⟨e,he⟩:∃e,L.getD j 0=e:=⟨_,rfl⟩
       rw [he] at d1 dl dh ⊢
       clear he
       obtain ⟨u,rfl⟩:∃u,e=48+u:=⟨e-48,by omega⟩
       rw [show 48+u-48=u by omega]
       have hj1:((j+1:Nat):Int)-1=(j:Int):=by omega
       have hj8:(j:Int)<800:=by omega
       have hj0:(0:Int)<((j+1:Nat):Int):=by omega
       have hu1:48+(u:Int)-48=(u:Int):=by omega
       obtain ⟨b,hb⟩:∃b:Bool,decide (u % 2≠0)=b:=⟨_,rfl⟩
       have hb2:(((u:Int) % 2) !=0)=b:=by
        rw [←hb]
        rcases Nat.mod_two_eq_zero_or_one u with hh | hh
        ·have:(u:Int) % 2=0:=by omega
         simp [this,hh]
        ·have:(u:Int) % 2=1:=by omega
         simp [this,hh]
       rw [hb]
       clear hb
       go_enter Tryz.func198,Tryz.ntmps198
       go_wp2_with fail
       go_ret
       exact ⟨rfl,rfl⟩
     ·simp only [Bool.true_or]
      go_enter Tryz.func198,Tryz.ntmps198
      go_wp2_with fail
      go_ret
      exact ⟨rfl,rfl⟩
    ·rw [if_neg (fun hh=>hl hh.2)]
     have hli:(((k:Int)+1)==(nd:Int))=false:=beq_false_of_ne (by omega)
     have hlj:¬((k:Int)+1=(nd:Int)):=by omega
     rw [decide_eq_true (Nat.le_refl 53)]
     go_enter Tryz.func198,Tryz.ntmps198
     go_wp2_with fail
     go_ret
     exact ⟨rfl,rfl⟩
   ·rw [if_neg (fun hh=>h5 hh.1)]
    have hli:((c:Int)==53)=false:=beq_false_of_ne (by omega)
    have hlj:¬((c:Int)=53):=by omega
    obtain ⟨b,hb⟩:∃b:Bool,decide (53≤c)=b:=⟨_,rfl⟩
    have hb2:decide ((c:Int)≥53)=b:=by rw [←hb];simp;omega
    have hb3:decide ((53:Int)≤(c:Int))=b:=hb2
    rw [hb]
    clear hb h5
    go_enter Tryz.func198,Tryz.ntmps198
    go_wp2_with fail
    go_ret
    exact ⟨rfl,rfl⟩
set_option maxRecDepth 100000 in
set_option maxHeartbeats 4000000 in
theorem rint_any (g:Nat) (L:List Nat) (nd:Nat) (dp:Int) (neg tr:Bool) (w:World) (h:DcAt w g L nd dp neg tr) (hD:Dg L nd) (hp:dp≤20) (hp2: -100000≤dp) (hr:pre L nd dp.toNat≤9007199254740992):
  Calls Tryz.prog 186 #[.pointer (some ⟨g,0,none⟩)] w (fun e w'=>e= .returned (.int .u64 (rint L nd dp tr:Int))∧w'=w):=by
 have c0:=h.cN
 have p0:=h.cP
 have HS:=Lib.hid (sru_any g L nd dp dp neg tr w h hD hp hp2)
 have hri:rint L nd dp tr=pre L nd dp.toNat+(sruI L nd dp tr).toNat:=by
  unfold rint sruI
  split
  ·rename_i hh
   rw [show dp.toNat=0 by omega,pre_le (Nat.zero_le _)]
   rfl
  ·rfl
 have H:=Lib.hid h
 clear h
 obtain ⟨b,hb⟩:∃b,sruI L nd dp tr=b:=⟨_,rfl⟩
 rw [hb] at HS hri
 obtain ⟨R,hR⟩:∃R,rint L nd dp tr=R:=⟨_,rfl⟩
 rw [hR] at hri ⊢
 have HR:=Lib.hid hri
 have hnd8:=hD.le
 clear hb hR hri
 have hmono:∀i,i≤dp.toNat→pre L nd i≤9007199254740992:=fun i hi=>Nat.le_trans (pre_mono trivial i _ hi) hr
 have HM:=Lib.hid hmono
 clear hmono
 have hd20:¬(20<dp):=by omega
 go_enter Tryz.func186,Tryz.ntmps186
 go_wp2_with fail
 go_loop [3,4] (fun u3 u4=>∃i:Nat,u3= .int .i64 (i:Int)∧u4= .int .u64 (nmb L i:Int)∧i≤nd∧i≤dp.toNat) (fun u3 _=>nd-(intOf u3).toNat)
 case atStart=>exact ⟨0,rfl,rfl,by omega,by omega⟩
 case round=>
  obtain ⟨i,rfl,rfl,hi1,hi2⟩:=hrel
  by_cases hc:(i:Int)<dp∧i<nd
  ·obtain ⟨hc1,hc2⟩:=hc
   have hc3:(i:Int)<(nd:Int):=by omega
   have hi8:(i:Int)<800:=by omega
   have d0:=H.out.cD (i:=i) (by omega)
   have dl:=hD.lo i hc2
   have dh:=hD.hi i hc2
   have hdd:nmb L (i+1)=nmb L i*10+(L.getD i 0-48):=rfl
   have hb1:=HM.out (i+1) (by omega)
   rw [pre_le (by omega),hdd] at hb1
   obtain ⟨c,hcc⟩:∃c,L.getD i 0=c:=⟨_,rfl⟩
   obtain ⟨n,hnn⟩:∃n,nmb L i=n:=⟨_,rfl⟩
   rw [hcc] at d0 dl dh hdd hb1
   rw [hnn] at hdd hb1 ⊢
   clear hcc hnn
   go_wp2_with fail
   refine ⟨⟨i+1,by simp,?_,by omega,by omega⟩,by simp [intOf];omega⟩
   rw [hdd]
   congr 1
   try simp only [IntKind.wrap_u64]
   omega
  ·have hor:nd≤i∨dp.toNat≤i:=by omega
   have hst:nmb L i=pre L nd i:=(pre_le hi1).symm
   by_cases hc1:(i:Int)<dp
   ·have hc3:¬((i:Int)<(nd:Int)):=by omega
    go_wp2_with fail
    go_loop [3,4] (fun u3 u4=>∃i:Nat,u3= .int .i64 (i:Int)∧u4= .int .u64 (pre L nd i:Int)∧i≤dp.toNat∧nd≤i) (fun u3 _=>dp.toNat-(intOf u3).toNat)
    case atStart=>exact ⟨i,rfl,rfl,by omega,by omega⟩
    case round=>
     clear hst hor hc hc1 hc3 hi1 hi2
     obtain ⟨j,rfl,rfl,hj1,hj2⟩:=hrel
     by_cases hj:(j:Int)<dp
     ·have hb1:=HM.out (j+1) (by omega)
      rw [pre_one hj2] at hb1
      have hon:=pre_one (L:=L) hj2
      obtain ⟨n,hnn⟩:∃n,pre L nd j=n:=⟨_,rfl⟩
      rw [hnn] at hb1 hon ⊢
      clear hnn
      go_wp2_with fail
      refine ⟨⟨j+1,by simp,?_,by omega,by omega⟩,by simp [intOf];omega⟩
      rw [hon]
      congr 1
     ·have hje:j=dp.toNat:=by omega
      have hRR:=HR.out
      rw [←hje] at hRR
      have hb1:=HM.out j (by omega)
      obtain ⟨n,hnn⟩:∃n,pre L nd j=n:=⟨_,rfl⟩
      rw [hnn] at hRR hb1 ⊢
      clear hnn hje
      have HRR:=Lib.hid hRR
      clear hRR
      go_wp2_with fail
      refine HS.out.mono ?_
      rintro e w2 ⟨rfl,rfl⟩
      cases b
      ·go_wp2_with fail
       go_ret
       exact ⟨by rw [HRR.out];simp,rfl⟩
      ·go_wp2_with fail
       go_ret
       refine ⟨?_,rfl⟩
       rw [HRR.out]
       congr 1
   ·have hie:i=dp.toNat∨dp<0:=by omega
    have hRR:R=nmb L i+b.toNat:=by
     rw [hst,HR.out]
     congr 2
     omega
    have hb1:=HM.out i (by omega)
    rw [←hst] at hb1
    obtain ⟨n,hnn⟩:∃n,nmb L i=n:=⟨_,rfl⟩
    rw [hnn] at hRR hb1 ⊢
    clear hnn hie hst hor hc hi1
    have HRR:=Lib.hid hRR
    clear hRR
    go_wp2_with fail
    go_loop [3,4] (fun u3 u4=>u3= .int .i64 (i:Int)∧u4= .int .u64 (n:Int)) (fun _ _=>0)
    case atStart=>exact ⟨rfl,rfl⟩
    case round=>
     obtain ⟨rfl,rfl⟩:=hrel
     go_wp2_with fail
     refine HS.out.mono ?_
     rintro e w2 ⟨rfl,rfl⟩
     cases b
     ·go_wp2_with fail
      go_ret
      exact ⟨by rw [HRR.out];simp,rfl⟩
     ·go_wp2_with fail
      go_ret
      refine ⟨?_,rfl⟩
      rw [HRR.out]
      congr 1
end Go.Proofs.YtjhhdnnblcbdbaaGreatDoor.dcm
end
section
namespace Go.Proofs.YtjhhdnnblcbdbaaGreatDoor.dcm
open Go.RowKit mem fl big us
set_option linter.unusedVariables false
def exitTwo (P:Program) (l1 l2:Nat) (r1 r2:Code) (Q:Exit→Act→World→Prop):Exit→Act→World→Prop
 | .goto l,a,w=>(l=l1∧r1.wp P (Exit.noGoto Q) a w)∨(l=l2∧r2.wp P (Exit.noGoto Q) a w)
 | e,a,w=>Q e a w
theorem wp_scope_two {P:Program} {a:Act} {w:World} {Q:Exit→Act→World→Prop} {c r1 r2:Code} (l1 l2:Nat) (hf1:findLabel c l1=some r1) (hf2:findLabel c l2=some r2)
  (first:c.wp P (exitTwo P l1 l2 r1 r2 Q) a w):(Code.scope c).wp P Q a w:=by
 intro b k cs
 obtain ⟨e,a₁,w₁,hq,harr⟩:=first b (.inScope c :: k) cs
 cases e with
 | normal=>exact ⟨.normal,a₁,w₁,hq,.head step_scope (Steps.trans harr (.one step_inScope))⟩
 | exit id=>exact ⟨.exit id,a₁,w₁,hq,fun k' hk=> .head step_scope (harr k' (by simp [exitTo,hk]))⟩
 | goto l=>
   obtain ⟨rest,hf,hw⟩:∃rest,findLabel c l=some rest∧rest.wp P (Exit.noGoto Q) a₁ w₁:=by
    rcases hq with ⟨rfl,h⟩ | ⟨rfl,h⟩
    ·exact ⟨r1,hf1,h⟩
    ·exact ⟨r2,hf2,h⟩
   have hg:gotoIn l (.inScope c :: k)=some (.code rest :: .inScope c :: k):=by simp [gotoIn,hf]
   have start:=harr _ hg
   obtain ⟨e2,a2,w2,hq2,harr2⟩:=hw b (.inScope c :: k) cs
   cases e2 with
   | normal=>exact ⟨.normal,a2,w2,hq2,.head step_scope (Steps.trans start (Steps.trans harr2 (.one step_inScope)))⟩
   | exit id=>exact ⟨.exit id,a2,w2,hq2,fun k' hk=> .head step_scope (Steps.trans start (harr2 k' (by simp [exitTo,hk])))⟩
   | goto l=>exact hq2.elim
   | ret=>exact ⟨_,a2,w2,hq2,.of_steps (Steps.head step_scope start) harr2⟩
   | panic ch=>exact ⟨_,a2,w2,hq2,.of_steps (Steps.head step_scope start) harr2⟩
   | outgrown=>exact ⟨_,a2,w2,hq2,.of_steps (Steps.head step_scope start) harr2⟩
 | ret=>exact ⟨_,a₁,w₁,hq,.of_steps (.one step_scope) harr⟩
 | panic ch=>exact ⟨_,a₁,w₁,hq,.of_steps (.one step_scope) harr⟩
 | outgrown=>exact ⟨_,a₁,w₁,hq,.of_steps (.one step_scope) harr⟩
def ptv:List Nat:=[1,3,6,9,13,16,19,23,26]
def PtAt (w:World):Prop:=∃A c,w.cell? ⟨12,0,none⟩=some (.slice (some A) 9 c)∧A.spot=none∧A.block<w.heap.size∧∀k,k≤8→w.cell? ⟨A.block,A.off+k,none⟩=some (.int .i64 (ptv.getD k 0:Int))
structure SEnv (w:World):Prop where
 lc:LcAt w
 pt:PtAt w
 i0:w.cell? ⟨8,0,none⟩=some (.int .u64 52)
 i1:w.cell? ⟨8,1,none⟩=some (.int .u64 11)
 i2:w.cell? ⟨8,2,none⟩=some (.int .i64 (-1023))
theorem cell_kept {w w':World} (hb:Below w.heap.size w w') {p:Addr} {v:Value} (h:w.cell? p=some v):w'.cell? p=some v:=(hb.cell (World.block_lt_of_cell? w p h)).trans h
theorem ptAt_below {w w':World} (h:PtAt w) (hb:Below w.heap.size w w'):PtAt w':=by
 obtain ⟨A,c,h1,h2,h3,h4⟩:=h
 exact ⟨A,c,cell_kept hb h1,h2,Nat.lt_of_lt_of_le h3 hb.size,fun k hk=>cell_kept hb (h4 k hk)⟩
theorem lcAt_below {w w':World} (h:LcAt w) (hb:Below w.heap.size w w'):LcAt w':=by
 obtain ⟨A,c,h1,h2,h3,h4⟩:=h
 exact ⟨A,c,cell_kept hb h1,h2,Nat.lt_of_lt_of_le h3 hb.size,fun k hk=>⟨cell_kept hb (h4 k hk).1,cell_kept hb (h4 k hk).2⟩⟩
theorem SEnv.below {w w':World} (h:SEnv w) (hb:Below w.heap.size w w'):SEnv w':=
 ⟨lcAt_below h.lc hb,ptAt_below h.pt hb,cell_kept hb h.i0,cell_kept hb h.i1,cell_kept hb h.i2⟩
theorem grown_below {w0 w w':World} {g:Nat} (hb:Below w0.heap.size w0 w) (hg:w.grownBy w' (some g)) (h:w0.heap.size≤g):Below w0.heap.size w0 w':=
 ⟨hg.os.trans hb.os,hg.tape.trans hb.tape,hg.output.trans hb.output,Nat.le_trans hb.size hg.size,fun i hi=>(hg.block i (Nat.lt_of_lt_of_le hi hb.size) (by simp;omega)).trans (hb.block i hi)⟩
def pn (m:Nat):Nat:=if 9≤m then 27 else ptv.getD m 0
theorem pn_small:∀m:Nat,m<9→1≤pn m∧pn m≤27∧(0<m→2^pn m≤10^m):=by decide
theorem pn_all (m:Nat):1≤pn m∧pn m≤27∧(0<m→2^pn m≤10^m):=by
 rcases Nat.lt_or_ge m 9 with h | h
 ·exact pn_small m h
 ·have e:pn m=27:=if_pos h
  rw [e]
  refine ⟨by omega,by omega,fun _=>?_⟩
  have h1:10^9≤10^m:=Nat.pow_le_pow_right (by omega) h
  have h2:(2:Nat)^27≤10^9:=by decide
  omega
set_option maxRecDepth 100000 in
theorem and2047:∀x:Nat,x<2048→bits .and .i64 (x:Int) 2047=(x:Int):=by decide+kernel
end Go.Proofs.YtjhhdnnblcbdbaaGreatDoor.dcm
end
section
namespace Go.Proofs.YtjhhdnnblcbdbaaGreatDoor.dcm
open Go.RowKit mem fl big us
set_option linter.unusedVariables false
set_option maxRecDepth 100000 in
set_option maxHeartbeats 4000000 in
theorem fb_over (g:Nat) (L:List Nat) (nd:Nat) (dp:Int) (tr:Bool) (w:World) (h:DcAt w g L nd dp false tr) (h0:0<nd) (hdp:310<dp) (hE:SEnv w):
  Calls Tryz.prog 155 #[.pointer (some ⟨g,0,none⟩),.pointer (some ⟨8,0,none⟩)] w (fun e w'=>e= .returned (.tuple #[.int .u64 9218868437227405312,.bool true])∧∃k,w'=w.drewN k):=by
 have c0:=h.cN
 have p0:=h.cP
 have s0:=h.cS
 have i0:=hE.i0
 have i1:=hE.i1
 have i2:=hE.i2
 have hz:((nd:Int)==0)=false:=beq_false_of_ne (by omega)
 have ha:bits .and .i64 2047 2047=2047:=and2047 2047 (by omega)
 clear h hE
 go_enter Tryz.func155,Tryz.ntmps155
 go_wp2_with fail
 refine wp_scope_two 1 0 rfl rfl ?_
 go_wp2_with fail
 go_step3
 refine .inl ⟨rfl,?_⟩
 go_wp2_with fail
 go_quiet (fail)
 go_wp2_with fail
 go_step3
 go_wp2_with fail
 go_quiet (fail)
 go_wp2_with fail
 try rw [Exit.noGoto_ret]
 refine bodyPost_ret (v:= .tuple #[.int .u64 (bits BinOp.or IntKind.u64 (bits BinOp.and IntKind.u64 0 4503599627370495) 9218868437227405312),.bool true]) (by simp [results,Tryz.results155,go_sem]) rfl ⟨?_,_,rfl⟩
 rw [show bits BinOp.or IntKind.u64 (bits BinOp.and IntKind.u64 0 4503599627370495) 9218868437227405312=9218868437227405312 by decide+kernel]
set_option maxRecDepth 100000 in
set_option maxHeartbeats 4000000 in
theorem fb_under (g:Nat) (L:List Nat) (nd:Nat) (dp:Int) (tr:Bool) (w:World) (h:DcAt w g L nd dp false tr) (h0:0<nd) (hdp:dp< -330) (hE:SEnv w):
  Calls Tryz.prog 155 #[.pointer (some ⟨g,0,none⟩),.pointer (some ⟨8,0,none⟩)] w (fun e w'=>e= .returned (.tuple #[.int .u64 0,.bool false])∧∃k,w'=w.drewN k):=by
 have c0:=h.cN
 have p0:=h.cP
 have s0:=h.cS
 have i0:=hE.i0
 have i1:=hE.i1
 have i2:=hE.i2
 have hz:((nd:Int)==0)=false:=beq_false_of_ne (by omega)
 have ha:bits .and .i64 0 2047=0:=and2047 0 (by omega)
 clear h hE
 go_enter Tryz.func155,Tryz.ntmps155
 go_wp2_with fail
 refine wp_scope_two 1 0 rfl rfl ?_
 go_wp2_with fail
 go_step3
 refine .inr ⟨rfl,?_⟩
 go_wp2_with fail
 go_quiet (fail)
 go_wp2_with fail
 try rw [Exit.noGoto_ret]
 refine bodyPost_ret (v:= .tuple #[.int .u64 (bits BinOp.or IntKind.u64 (bits BinOp.and IntKind.u64 0 4503599627370495) 0),.bool false]) (by simp [results,Tryz.results155,go_sem]) rfl ⟨?_,_,rfl⟩
 rw [show bits BinOp.or IntKind.u64 (bits BinOp.and IntKind.u64 0 4503599627370495) 0=0 by decide+kernel]
end Go.Proofs.YtjhhdnnblcbdbaaGreatDoor.dcm
end
