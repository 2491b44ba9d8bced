/- PLAIN LEAN: scaling by powers of ten: what the product of a word and a rounded power says of the exact product. -/
set_option linter.unusedVariables false
namespace Go.Proofs.YtjhhdnnblcbdbaaGreatDoor.us
def odd1 (n:Nat):Nat:=n/2*2+1
def unr (Y D:Nat):Nat:=if Y % D=0 then Y/D else odd1 (Y/D)
def usc (x ph pl T:Nat):Nat:=
 if x*ph/18446744073709551616 % T≠0 then odd1 (x*ph/18446744073709551616/T)
 else if x*ph % 18446744073709551616<x*pl/18446744073709551616 then odd1 ((x*ph/18446744073709551616-1)/T)
 else if 1<x*ph % 18446744073709551616-x*pl/18446744073709551616 then odd1 (x*ph/18446744073709551616/T)
 else x*ph/18446744073709551616/T
theorem unr_of (Y D q:Nat) (hD:0<D) (h1:q*D<Y) (h2:Y<(q+1)*D):unr Y D=odd1 q:=by
 have hq:Y/D=q:=by
  apply Nat.le_antisymm
  ·exact Nat.le_of_lt_succ ((Nat.div_lt_iff_lt_mul hD).2 h2)
  ·exact (Nat.le_div_iff_mul_le hD).2 (by omega)
 unfold unr
 rw [hq,if_neg]
 intro h
 have:=Nat.div_add_mod Y D
 rw [hq,h,Nat.mul_comm] at this
 omega
theorem unr_exact (D q:Nat) (hD:0<D):unr (q*D) D=q:=by
 unfold unr
 rw [if_pos (Nat.mul_mod_left _ _),Nat.mul_div_cancel _ hD]
theorem words (x ph pl pm:Nat) (hpm:pm+pl=ph*18446744073709551616):
  x*pm+x*pl=x*ph/18446744073709551616*340282366920938463463374607431768211456+x*ph % 18446744073709551616*18446744073709551616:=by
 have h1:=Nat.div_add_mod (x*ph) 18446744073709551616
 obtain ⟨a,ha⟩:∃a,x*ph/18446744073709551616=a:=⟨_,rfl⟩
 obtain ⟨b,hb⟩:∃b,x*ph % 18446744073709551616=b:=⟨_,rfl⟩
 rw [ha,hb] at h1 ⊢
 rw [←Nat.mul_add,hpm,←Nat.mul_assoc,←h1]
 omega
theorem mulQ (a b:Nat) (h:a≤b):a*340282366920938463463374607431768211456≤b*340282366920938463463374607431768211456:=Nat.mul_le_mul_right _ h
theorem zlt1 (hi mid m2 t Z p:Nat) (hw:Z+p=hi*340282366920938463463374607431768211456+mid*18446744073709551616) (hxl:18446744073709551616*m2+t=p) (h:mid<m2):Z<hi*340282366920938463463374607431768211456:=by omega
theorem zin (hi mid m2 t Z p:Nat) (hw:Z+p=hi*340282366920938463463374607431768211456+mid*18446744073709551616) (hxl:18446744073709551616*m2+t=p) (ht:t<18446744073709551616) (h1:¬mid<m2) (h2:¬1<mid-m2):hi*340282366920938463463374607431768211456<Z+18446744073709551616∧Z≤hi*340282366920938463463374607431768211456+18446744073709551616:=by omega
theorem zle2 (hi mid m2 t x Z p:Nat) (hw:Z+p=hi*340282366920938463463374607431768211456+mid*18446744073709551616) (hxl:18446744073709551616*m2+t=p) (ht:t<18446744073709551616) (hx:x<18446744073709551616) (h:1<mid-m2):hi*340282366920938463463374607431768211456+x≤Z:=by omega
theorem usc_exact (x ph pl pm A B T:Nat) (hB:0<B) (hT:0<T) (hx0:0<x) (hx:x<18446744073709551616) (hpl:pl<18446744073709551616) (hpm:pm+pl=ph*18446744073709551616)
  (hA1:A≤pm*B) (hA2:pm*B<A+B) (hhi:0<x*ph/18446744073709551616)
  (hcert:∀h,h % T=0→h*340282366920938463463374607431768211456<x*pm+18446744073709551616→x*pm≤h*340282366920938463463374607431768211456+18446744073709551616→x*A=h*340282366920938463463374607431768211456*B):
  usc x ph pl T=unr (x*A) (T*340282366920938463463374607431768211456*B):=by
 have hw:=words x ph pl pm hpm
 have hmid:x*ph % 18446744073709551616<18446744073709551616:=Nat.mod_lt _ (by omega)
 have hxl:=Nat.div_add_mod (x*pl) 18446744073709551616
 have hxl2:x*pl % 18446744073709551616<18446744073709551616:=Nat.mod_lt _ (by omega)
 have hxb:x*pl≤18446744073709551615*18446744073709551615:=Nat.mul_le_mul (by omega) (by omega)
 have y1:x*A≤x*pm*B:=by rw [Nat.mul_assoc];exact Nat.mul_le_mul_left x hA1
 have y2:x*pm*B<x*A+x*B:=by rw [Nat.mul_assoc,←Nat.mul_add];exact (Nat.mul_lt_mul_left hx0).2 hA2
 unfold usc
 obtain ⟨Z,hZ⟩:∃Z,x*pm=Z:=⟨_,rfl⟩
 obtain ⟨Y,hY⟩:∃Y,x*A=Y:=⟨_,rfl⟩
 obtain ⟨hi,hhi'⟩:∃hi,x*ph/18446744073709551616=hi:=⟨_,rfl⟩
 obtain ⟨mid,hmid'⟩:∃mid,x*ph % 18446744073709551616=mid:=⟨_,rfl⟩
 obtain ⟨m2,hm2⟩:∃m2,x*pl/18446744073709551616=m2:=⟨_,rfl⟩
 obtain ⟨t,ht⟩:∃t,x*pl % 18446744073709551616=t:=⟨_,rfl⟩
 rw [hZ] at hw y1 y2 hcert
 rw [hY] at y1 y2 hcert ⊢
 rw [hhi',hmid'] at hw
 rw [hhi'] at hhi
 rw [hmid'] at hmid
 rw [hm2,ht] at hxl
 rw [ht] at hxl2
 rw [hhi',hmid',hm2]
 clear hZ hY hhi' hmid' hm2 ht hpm hA1 hA2 hpl
 have up:∀N,Z<N→Y<N*B:=fun N h=>Nat.lt_of_le_of_lt y1 ((Nat.mul_lt_mul_right hB).2 h)
 have upe:∀N,Z≤N→Y≤N*B:=fun N h=>Nat.le_trans y1 (Nat.mul_le_mul_right B h)
 have lo:∀N,N+x≤Z→N*B<Y:=fun N h=>by
  have h1:(N+x)*B≤Z*B:=Nat.mul_le_mul_right B h
  rw [Nat.add_mul] at h1
  omega
 have hD:0<T*340282366920938463463374607431768211456*B:=Nat.mul_pos (Nat.mul_pos hT (by omega)) hB
 have key:∀q,q*(T*340282366920938463463374607431768211456*B)=q*T*340282366920938463463374607431768211456*B:=fun q=>by rw [←Nat.mul_assoc,←Nat.mul_assoc]
 have hZlo:(hi-1)*340282366920938463463374607431768211456+x<Z:=by
  have:hi*340282366920938463463374607431768211456=(hi-1)*340282366920938463463374607431768211456+340282366920938463463374607431768211456:=by
   conv=>lhs;rw [show hi=(hi-1)+1 by omega]
   rw [Nat.add_mul,Nat.one_mul]
  omega
 have hZup:Z<(hi+1)*340282366920938463463374607431768211456:=by rw [Nat.add_mul,Nat.one_mul];omega
 have hdiv:=Nat.div_add_mod hi T
 have hmodT:=Nat.mod_lt hi hT
 obtain ⟨q,hq⟩:∃q,hi/T=q:=⟨_,rfl⟩
 obtain ⟨r,hr⟩:∃r,hi % T=r:=⟨_,rfl⟩
 rw [hq,hr] at hdiv
 rw [hr] at hmodT
 rw [hr,hq]
 have hdiv2:q*T+r=hi:=by rw [Nat.mul_comm];exact hdiv
 have hq1:(q+1)*T=q*T+T:=by rw [Nat.add_mul,Nat.one_mul]
 by_cases hr0:r≠0
 ·rw [if_pos hr0]
  refine (unr_of _ _ _ hD ?_ ?_).symm
  ·rw [key]
   have h1:=mulQ (q*T) (hi-1) (by omega)
   exact lo _ (Nat.le_of_lt (Nat.lt_of_le_of_lt (Nat.add_le_add_right h1 x) hZlo))
  ·rw [key]
   have h1:=mulQ (hi+1) ((q+1)*T) (by omega)
   exact up _ (Nat.lt_of_lt_of_le hZup h1)
 ·rw [if_neg hr0]
  have hr1:r=0:=by omega
  have hqT:q*T=hi:=by omega
  by_cases hb1:mid<m2
  ·rw [if_pos hb1]
   have hq0:0<q:=by
    rcases Nat.eq_zero_or_pos q with h | h
    ·rw [h] at hqT;omega
    ·exact h
   have hqe:q*T=(q-1)*T+T:=by
    conv=>lhs;rw [show q=(q-1)+1 by omega]
    rw [Nat.add_mul,Nat.one_mul]
   have hd1:(hi-1)/T=q-1:=by
    apply Nat.le_antisymm
    ·exact Nat.le_of_lt_succ ((Nat.div_lt_iff_lt_mul hT).2 (by rw [show (q-1).succ=q by omega];omega))
    ·exact (Nat.le_div_iff_mul_le hT).2 (by omega)
   rw [hd1]
   refine (unr_of _ _ _ hD ?_ ?_).symm
   ·rw [key]
    have h1:=mulQ ((q-1)*T) (hi-1) (by omega)
    exact lo _ (Nat.le_of_lt (Nat.lt_of_le_of_lt (Nat.add_le_add_right h1 x) hZlo))
   ·rw [key,show q-1+1=q by omega,hqT]
    exact up _ (zlt1 hi mid m2 t Z (x*pl) hw hxl hb1)
  ·rw [if_neg hb1]
   by_cases hb2:1<mid-m2
   ·rw [if_pos hb2]
    refine (unr_of _ _ _ hD ?_ ?_).symm
    ·rw [key,hqT]
     exact lo _ (zle2 hi mid m2 t x Z (x*pl) hw hxl hxl2 hx hb2)
    ·rw [key]
     have h1:=mulQ (hi+1) ((q+1)*T) (by omega)
     exact up _ (Nat.lt_of_lt_of_le hZup h1)
   ·rw [if_neg hb2]
    have hz:=zin hi mid m2 t Z (x*pl) hw hxl hxl2 hb1 hb2
    have hex:=hcert hi (by rw [hr];exact hr1) hz.1 hz.2
    rw [hex,←hqT,←key]
    exact (unr_exact _ _ hD).symm
def certOK (pm A B M W N L q1 q2:Nat):Bool:=
 let k1:=q1*pm/M
 let r1:=q1*pm % M
 let k2:=(q2*pm+(M-1))/M
 let r2:=k2*M-q2*pm
 decide (q1*k2=q2*k1+1)&&(decide (N<q1+q2)||decide (r1=0)||decide (r2=0))&&decide (q2*pm≤k2*M)&&
  ((decide (W<r2)&&(decide (N<q1)||decide (q1*A % (M*B)=0)))||
   (decide (W<r1)&&(decide (N<q2)||decide (q2*A % (M*B)=0)||decide (W<(L+q2-1)/q2*r2))))
theorem exact_of (x pm A B M W k q u:Nat) (hB:0<B) (hM:0<M) (hx:x=u*q) (hq:q*A % (M*B)=0) (hA1:A≤pm*B) (hA2:pm*B<A+B) (hx0:0<x) (hsm:W+x<M)
  (h1:k*M<x*pm+W) (h2:x*pm≤k*M+W):x*A=k*M*B:=by
 have hMB:0<M*B:=Nat.mul_pos hM hB
 obtain ⟨c,hc⟩:=Nat.dvd_of_mod_eq_zero hq
 have hY:x*A=u*c*(M*B):=by rw [hx,Nat.mul_assoc,hc,Nat.mul_comm (M*B) c,Nat.mul_assoc]
 have y1:x*A≤x*pm*B:=by rw [Nat.mul_assoc];exact Nat.mul_le_mul_left x hA1
 have y2:x*pm*B<x*A+x*B:=by rw [Nat.mul_assoc,←Nat.mul_add];exact (Nat.mul_lt_mul_left hx0).2 hA2
 rw [hY]
 obtain ⟨k',hk'⟩:∃k',u*c=k':=⟨_,rfl⟩
 rw [hk'] at hY ⊢
 rw [hY,←Nat.mul_assoc] at y1 y2
 have z1:k'*M≤x*pm:=Nat.le_of_mul_le_mul_right y1 hB
 have z2:x*pm<k'*M+x:=by
  rw [←Nat.add_mul] at y2
  exact Nat.lt_of_mul_lt_mul_right y2
 have:k'=k:=by
  by_cases hlt:k'<k
  ·exfalso
   have:(k'+1)*M≤k*M:=Nat.mul_le_mul_right M hlt
   rw [Nat.add_mul,Nat.one_mul] at this
   omega
  ·by_cases hgt:k<k'
   ·exfalso
    have:(k+1)*M≤k'*M:=Nat.mul_le_mul_right M hgt
    rw [Nat.add_mul,Nat.one_mul] at this
    omega
   ·omega
 rw [this,Nat.mul_assoc]
theorem mul_ge (a b:Int) (ha:1≤a) (hb:0≤b):b≤a*b:=by
 have:=Int.mul_le_mul_of_nonneg_right ha hb
 rwa [Int.one_mul] at this
theorem mul_nn (a b:Int) (ha:0≤a) (hb:0≤b):0≤a*b:=Int.mul_nonneg ha hb
theorem basis_x (x k k1 k2 q1 q2:Int) (hd:q1*k2=q2*k1+1):(x*k2-k*q2)*q1+(k*q1-x*k1)*q2=x:=by
 grind
theorem basis_w (x k k1 k2 q1 q2 pm M r1 r2:Int) (hd:q1*k2=q2*k1+1) (h1:q1*pm=k1*M+r1) (h2:q2*pm=k2*M-r2):
  x*pm-k*M=(x*k2-k*q2)*r1-(k*q1-x*k1)*r2:=by
 grind
set_option maxHeartbeats 1100000 in
theorem cert_sound (pm A B M W N L q1 q2 x k:Nat) (hc:certOK pm A B M W N L q1 q2=true) (hB:0<B) (hM:0<M) (hx1:L≤x) (hx0:0<x) (hx2:x≤N) (hsm:W+x<M) (hA1:A≤pm*B) (hA2:pm*B<A+B)
  (h1:k*M<x*pm+W) (h2:x*pm≤k*M+W):x*A=k*M*B:=by
 unfold certOK at hc
 obtain ⟨k1,hk1⟩:∃k1,q1*pm/M=k1:=⟨_,rfl⟩
 obtain ⟨r1,hr1⟩:∃r1,q1*pm % M=r1:=⟨_,rfl⟩
 obtain ⟨k2,hk2⟩:∃k2,(q2*pm+(M-1))/M=k2:=⟨_,rfl⟩
 have e1:=Nat.div_add_mod (q1*pm) M
 rw [hk1,hr1,Nat.mul_comm] at e1
 simp only [hk1,hr1,hk2,Bool.and_eq_true,Bool.or_eq_true,decide_eq_true_eq] at hc
 obtain ⟨⟨⟨hd,hN⟩,hle⟩,hcase⟩:=hc
 obtain ⟨r2,hr2⟩:∃r2,k2*M-q2*pm=r2:=⟨_,rfl⟩
 rw [hr2] at hcase hN
 have e2:q2*pm+r2=k2*M:=by omega
 have d:(q1:Int)*(k2:Int)=(q2:Int)*(k1:Int)+1:=by exact_mod_cast hd
 have f1:(q1:Int)*(pm:Int)=(k1:Int)*(M:Int)+(r1:Int):=by exact_mod_cast e1.symm
 have f2:(q2:Int)*(pm:Int)=(k2:Int)*(M:Int)-(r2:Int):=by
  have:(q2:Int)*(pm:Int)+(r2:Int)=(k2:Int)*(M:Int):=by exact_mod_cast e2
  omega
 have g1:(k:Int)*(M:Int)<(x:Int)*(pm:Int)+(W:Int):=by exact_mod_cast h1
 have g2:(x:Int)*(pm:Int)≤(k:Int)*(M:Int)+(W:Int):=by exact_mod_cast h2
 have bx:=basis_x (x:Int) (k:Int) k1 k2 q1 q2 d
 have bw:=basis_w (x:Int) (k:Int) k1 k2 q1 q2 pm M r1 r2 d f1 f2
 obtain ⟨u,hu⟩:∃u:Int,(x:Int)*k2-k*q2=u:=⟨_,rfl⟩
 obtain ⟨v,hv⟩:∃v:Int,(k:Int)*q1-x*k1=v:=⟨_,rfl⟩
 rw [hu,hv] at bx bw
 have hw1: -(W:Int)<u*r1-v*r2:=by omega
 have hw2:u*r1-v*r2≤(W:Int):=by omega
 have hxi:(0:Int)<(x:Int):=by omega
 have hxN:(x:Int)≤(N:Int):=by omega
 have q1n:(0:Int)≤(q1:Int):=by omega
 have q2n:(0:Int)≤(q2:Int):=by omega
 have r1n:(0:Int)≤(r1:Int):=by omega
 have r2n:(0:Int)≤(r2:Int):=by omega
 have both:¬(0<u∧0<v)∨(r1:Int)=0∨(r2:Int)=0:=by
  rcases hN with (h | h) | h
  ·left
   rintro ⟨a,b⟩
   have p1:=mul_ge u q1 a q1n
   have p2:=mul_ge v q2 b q2n
   omega
  ·right;left;omega
  ·right;right;omega
 have none':¬(u≤0∧v≤0):=fun ⟨a,b⟩=>by
  have p1:=mul_nn (-u) q1 (by omega) q1n
  have p2:=mul_nn (-v) q2 (by omega) q2n
  rw [Int.neg_mul] at p1 p2
  omega
 rcases hcase with ⟨hW,hcase⟩ | ⟨hW,hcase⟩
 ·
  have hv0:v=0:=by
   by_cases hvp:0<v
   ·exfalso
    have p2:=mul_ge v r2 hvp r2n
    have p1:u*r1≤0:=by
     rcases both with h | h | h
     ·have p1:=mul_nn (-u) r1 (by omega) r1n
      rw [Int.neg_mul] at p1
      omega
     ·rw [h,Int.mul_zero];omega
     ·omega
    omega
   ·by_cases hvn:v<0
    ·exfalso
     have hup:0<u:=by omega
     have p1:=mul_nn u r1 (by omega) r1n
     have p2:=mul_ge (-v) r2 (by omega) r2n
     rw [Int.neg_mul] at p2
     omega
    ·omega
  subst hv0
  rw [Int.zero_mul,Int.add_zero] at bx
  have hup:0<u:=by omega
  obtain ⟨n,rfl⟩:∃n:Nat,u=(n:Int):=⟨u.toNat,by omega⟩
  have hxe:x=n*q1:=by exact_mod_cast bx.symm
  rcases hcase with h | h
  ·exfalso
   have:=mul_ge (n:Int) q1 hup q1n
   omega
  ·exact exact_of x pm A B M W k q1 n hB hM hxe h hA1 hA2 hx0 hsm h1 h2
 ·have hu0:u=0:=by
   by_cases hup:0<u
   ·exfalso
    have p1:=mul_ge u r1 hup r1n
    have p2:v*r2≤0:=by
     rcases both with h | h | h
     ·have p2:=mul_nn (-v) r2 (by omega) r2n
      rw [Int.neg_mul] at p2
      omega
     ·omega
     ·rw [h,Int.mul_zero];omega
    omega
   ·by_cases hun:u<0
    ·exfalso
     have hvp:0<v:=by omega
     have p1:=mul_ge (-u) r1 (by omega) r1n
     have p2:=mul_nn v r2 (by omega) r2n
     rw [Int.neg_mul] at p1
     omega
    ·omega
  subst hu0
  rw [Int.zero_mul,Int.zero_add] at bx
  rw [Int.zero_mul,Int.zero_sub] at hw1 hw2
  have hvp:0<v:=by omega
  obtain ⟨n,rfl⟩:∃n:Nat,v=(n:Int):=⟨v.toNat,by omega⟩
  have hxe:x=n*q2:=by exact_mod_cast bx.symm
  rcases hcase with (h | h) | h
  ·exfalso
   have:=mul_ge (n:Int) q2 hvp q2n
   omega
  ·exact exact_of x pm A B M W k q2 n hB hM hxe h hA1 hA2 hx0 hsm h1 h2
  ·exfalso
   have hq2:0<q2:=by
    rcases Nat.eq_zero_or_pos q2 with hz | hz
    ·rw [hz,Nat.mul_zero] at hxe;omega
    ·exact hz
   have hn:(L+q2-1)/q2≤n:=by
    apply Nat.le_of_lt_succ
    rw [Nat.div_lt_iff_lt_mul hq2,Nat.succ_mul]
    omega
   have h3:(L+q2-1)/q2*r2≤n*r2:=Nat.mul_le_mul_right r2 hn
   have h4:((n*r2:Nat):Int)=(n:Int)*(r2:Int):=by simp
   omega
def lpN (i:Nat):Int:=((i:Int)-348)*108853/32768
def tabA (i:Nat):Nat:=10^(i-348)*2^(127-lpN i).toNat
def tabB (i:Nat):Nat:=10^(348-i)*2^(lpN i-127).toNat
def tabP (i:Nat):Nat:=(tabA i+tabB i-1)/tabB i
def tabH (i:Nat):Nat:=(tabP i+18446744073709551615)/18446744073709551616
def tabL (i:Nat):Nat:=tabH i*18446744073709551616-tabP i
def basis (N:Nat):Nat→Nat→Nat→Nat→Nat→Nat×Nat
 | 0,q1,_,q2,_=>(q1,q2)
 | f+1,q1,r1,q2,r2=>
   if N<q1+q2 then (q1,q2)
   else if r1=0 then (q1,q2)
   else if r2=0 then (q1,q2)
   else if r2≤r1 then
    let k:=if q2=0 then r1/r2 else min (r1/r2) (max 1 ((N-q1)/q2))
    basis N f (q1+k*q2) (r1-k*r2) q2 r2
   else
    let k:=if q1=0 then r2/r1 else min (r2/r1) (max 1 ((N-q2)/q1+1))
    basis N f q1 r1 (q2+k*q1) (r2-k*r1)
def certAt (M W N L i:Nat):Bool:=
 let pm:=tabP i
 let q:=basis N 400 1 (pm % M) 0 M
 certOK pm (tabA i) (tabB i) M W N L q.1 q.2||decide (tabA i % (M*tabB i)=0)
def certParse:Bool:=(List.range 696).all fun i=>certAt 87112285931760246646623899502532662132736 18446744073709551616 18446744073709551615 9223372036854775808 i
def certFormat:Bool:=(List.range 696).all fun i=>certAt 21267647932558653966460912964485513216 36028797018963968 36028797018963967 18014398509481984 i
theorem certParse_ok:certParse=true:=by decide+kernel
theorem certFormat_ok:certFormat=true:=by decide+kernel
theorem tabB_pos (i:Nat):0<tabB i:=Nat.mul_pos (Nat.pow_pos (by decide)) (Nat.two_pow_pos _)
theorem tabA_pos (i:Nat):0<tabA i:=Nat.mul_pos (Nat.pow_pos (by decide)) (Nat.two_pow_pos _)
theorem ceil_div (A B:Nat) (hB:0<B):A≤(A+B-1)/B*B∧(A+B-1)/B*B<A+B:=by
 have h1:=Nat.div_add_mod (A+B-1) B
 have h2:=Nat.mod_lt (A+B-1) hB
 rw [Nat.mul_comm] at h1
 omega
theorem tabP_ceil (i:Nat):tabA i≤tabP i*tabB i∧tabP i*tabB i<tabA i+tabB i:=ceil_div _ _ (tabB_pos i)
theorem tabHL (i:Nat):tabP i+tabL i=tabH i*18446744073709551616∧tabL i<18446744073709551616:=by
 unfold tabL tabH
 obtain ⟨P,hP⟩:∃P,tabP i=P:=⟨_,rfl⟩
 rw [hP]
 omega
theorem cert_at (M W N L i x k:Nat) (hc:certAt M W N L i=true) (hM:0<M) (hx1:L≤x) (hx0:0<x) (hx2:x≤N) (hsm:W+x<M)
  (h1:k*M<x*tabP i+W) (h2:x*tabP i≤k*M+W):x*tabA i=k*M*tabB i:=by
 obtain ⟨c1,c2⟩:=tabP_ceil i
 unfold certAt at hc
 simp only [Bool.or_eq_true,decide_eq_true_eq] at hc
 rcases hc with hc | hc
 ·exact cert_sound _ _ _ M W N L _ _ x k hc (tabB_pos i) hM hx1 hx0 hx2 hsm c1 c2 h1 h2
 ·exact exact_of x _ _ _ M W k 1 x (tabB_pos i) hM (Nat.mul_one x).symm (by rw [Nat.one_mul];exact hc) c1 c2 hx0 hsm h1 h2
theorem usc_parse (i x s:Nat) (hi:i<696) (hx1:9223372036854775808≤x) (hx2:x<18446744073709551616) (hs:8≤s) (hh:0<x*tabH i/18446744073709551616):
  usc x (tabH i) (tabL i) (2^s)=unr (x*tabA i) (2^s*340282366920938463463374607431768211456*tabB i):=by
 have hc:certAt 87112285931760246646623899502532662132736 18446744073709551616 18446744073709551615 9223372036854775808 i=true:=by
  have:=certParse_ok
  unfold certParse at this
  exact List.all_eq_true.1 this i (List.mem_range.2 hi)
 obtain ⟨c1,c2⟩:=tabP_ceil i
 obtain ⟨d1,d2⟩:=tabHL i
 refine usc_exact x _ _ (tabP i) _ _ _ (tabB_pos i) (Nat.two_pow_pos s) (by omega) hx2 d2 d1 c1 c2 hh ?_
 intro h hT h1 h2
 have h256:h % 256=0:=by
  obtain ⟨c,hc⟩:=Nat.dvd_of_mod_eq_zero hT
  have e:2^s=256*2^(s-8):=by
   rw [show (256:Nat)=2^8 by decide,←Nat.pow_add]
   congr 1
   omega
  rw [hc,e,Nat.mul_assoc]
  exact Nat.mul_mod_right _ _
 obtain ⟨k,rfl⟩:=Nat.dvd_of_mod_eq_zero h256
 have e:256*k*340282366920938463463374607431768211456=k*87112285931760246646623899502532662132736:=by omega
 rw [e] at h1 h2 ⊢
 exact cert_at _ _ _ _ i x k hc (by omega) hx1 (by omega) (by omega) (by omega) h1 h2
theorem fmt_w (k z:Nat) (h1:32*k*340282366920938463463374607431768211456<z*512+18446744073709551616) (h2:z*512≤32*k*340282366920938463463374607431768211456+18446744073709551616):
  k*21267647932558653966460912964485513216<z+36028797018963968∧z≤k*21267647932558653966460912964485513216+36028797018963968:=by omega
theorem usc_format (i y s:Nat) (hi:i<696) (hy1:18014398509481984≤y) (hy2:y<36028797018963968) (hs:5≤s) (hh:0<y*512*tabH i/18446744073709551616):
  usc (y*512) (tabH i) (tabL i) (2^s)=unr (y*512*tabA i) (2^s*340282366920938463463374607431768211456*tabB i):=by
 have hc:certAt 21267647932558653966460912964485513216 36028797018963968 36028797018963967 18014398509481984 i=true:=by
  have:=certFormat_ok
  unfold certFormat at this
  exact List.all_eq_true.1 this i (List.mem_range.2 hi)
 obtain ⟨c1,c2⟩:=tabP_ceil i
 obtain ⟨d1,d2⟩:=tabHL i
 refine usc_exact (y*512) _ _ (tabP i) _ _ _ (tabB_pos i) (Nat.two_pow_pos s) (by omega) (by omega) d2 d1 c1 c2 hh ?_
 intro h hT h1 h2
 have h32:h % 32=0:=by
  obtain ⟨c,hc⟩:=Nat.dvd_of_mod_eq_zero hT
  have e:2^s=32*2^(s-5):=by
   rw [show (32:Nat)=2^5 by decide,←Nat.pow_add]
   congr 1
   omega
  rw [hc,e,Nat.mul_assoc]
  exact Nat.mul_mod_right _ _
 obtain ⟨k,rfl⟩:=Nat.dvd_of_mod_eq_zero h32
 have e0:y*512*tabP i=y*tabP i*512:=by rw [Nat.mul_right_comm]
 rw [e0] at h1 h2
 obtain ⟨w1,w2⟩:=fmt_w k (y*tabP i) h1 h2
 have h3:=cert_at _ _ _ _ i y k hc (by omega) hy1 (by omega) (by omega) (by omega) w1 w2
 have e1:y*512*tabA i=y*tabA i*512:=by rw [Nat.mul_right_comm]
 rw [e1,h3]
 have e2:32*k*340282366920938463463374607431768211456=k*21267647932558653966460912964485513216*512:=by omega
 rw [e2,Nat.mul_right_comm]
end Go.Proofs.YtjhhdnnblcbdbaaGreatDoor.us
