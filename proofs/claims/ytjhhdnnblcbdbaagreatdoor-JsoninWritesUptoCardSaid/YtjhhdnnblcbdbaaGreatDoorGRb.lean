/- PLAIN LEAN: what cut gathers; texts too small and too great. The reference's ReadBits, walked. PLAIN LEAN: the model's floats by sign and rung: order, whole numbers. PLAIN LEAN: the model's product and quotient of floats are the nearest. -/
import Derived.Test.YtjhhdnnblcbdbaaGreatDoorGDig
import Derived.Test.YtjhhdnnblcbdbaaGreatDoorGNear
import Derived.WalkLawsBesides
import Derived.Test.YtjhhdnnblcbdbaaGreatDoorGPow
section
namespace Go.Proofs.YtjhhdnnblcbdbaaGreatDoor.big
open Go.RowKit mem fl
set_option linter.unusedVariables false
def dvn (l:List Nat):Nat:=l.foldl (fun n c=>n*10+(c-48)) 0
theorem dvn_from (l:List Nat):∀n,l.foldl (fun n c=>n*10+(c-48)) n=n*10^l.length+dvn l:=by
 unfold dvn
 induction l with
 | nil=>intro n;simp
 | cons c l ih=>
   intro n
   simp only [List.foldl_cons,List.length_cons]
   rw [ih,ih (0*10+(c-48)),Nat.pow_succ,Nat.add_mul,Nat.zero_mul,Nat.zero_add,Nat.mul_assoc,Nat.mul_comm 10]
   omega
theorem dvn_cons (c:Nat) (l:List Nat):dvn (c :: l)=(c-48)*10^l.length+dvn l:=by
 have:=dvn_from l (0*10+(c-48))
 rw [Nat.zero_mul,Nat.zero_add] at this
 unfold dvn
 rw [List.foldl_cons,Nat.zero_mul,Nat.zero_add]
 exact this
theorem dvn_app (a b:List Nat):dvn (a++b)=dvn a*10^b.length+dvn b:=by
 unfold dvn
 rw [List.foldl_append]
 exact dvn_from b _
theorem dvn_lt:∀(l:List Nat),(∀c∈l,48≤c∧c≤57)→dvn l<10^l.length
 | [],_=>by simp [dvn]
 | c :: l,h=>by
   have h1:=h c (by simp)
   have h2:=dvn_lt l fun d hd=>h d (by simp [hd])
   rw [dvn_cons,List.length_cons,Nat.pow_succ]
   have h3:(c-48)*10^l.length≤9*10^l.length:=Nat.mul_le_mul_right _ (by omega)
   omega
theorem dvn_ge {l:List Nat} (h:∀c∈l,48≤c∧c≤57) (h0:∀c,l.head? =some c→c≠48) (hne:l≠[]):10^(l.length-1)≤dvn l:=by
 cases l with
 | nil=>exact absurd rfl hne
 | cons c l=>
   have h1:=h c (by simp)
   have h2:=h0 c rfl
   rw [dvn_cons,List.length_cons,Nat.add_sub_cancel]
   have h3:1*10^l.length≤(c-48)*10^l.length:=Nat.mul_le_mul_right _ (by omega)
   omega
theorem near_zero {B:Nat} (hB:0<B) {X:Nat} (h:2*X<B):Near X B 0:=by
 refine ⟨by omega,.inl rfl,.inr (.inl ?_)⟩
 have e:V 0+V (0+1)=1:=by rw [V_small (by omega),V_small (by omega)]
 rw [e,Nat.mul_one]
 exact h
end Go.Proofs.YtjhhdnnblcbdbaaGreatDoor.big
end
section
namespace Go.Proofs.YtjhhdnnblcbdbaaGreatDoor.big
open Go.RowKit mem fl
set_option linter.unusedVariables false
def sgn (neg:Bool):Nat:=if neg then 9223372036854775808 else 0
end Go.Proofs.YtjhhdnnblcbdbaaGreatDoor.big
end
section
namespace Go.Proofs.YtjhhdnnblcbdbaaGreatDoor.big
open Go.RowKit mem fl
set_option linter.unusedVariables false
theorem read_parts (s:Bool) (a:Nat) (ha:a<9223372036854775808):(a+sgn s)/9223372036854775808 % 2=(if s then 1 else 0)∧(a+sgn s) % 9223372036854775808=a:=by
 unfold sgn
 cases s
 ·simp only [Bool.false_eq_true,if_false];omega
 ·simp only [if_true];omega
theorem read_num (s:Bool) (a:Nat) (ha:a<9218868437227405312):Ieee.double.read (a+sgn s)= .number s (spM a) (spE a):=by
 obtain ⟨h1,h2⟩:=read_parts s a (by omega)
 have e1:Ieee.double.signWeight=9223372036854775808:=by decide
 have e2:Ieee.double.binade=4503599627370496:=by decide
 have e3:Ieee.double.infRung=9218868437227405312:=by decide
 have e4:Ieee.double.leastPlace= -1074:=by decide
 unfold Ieee.Format.read
 simp only [e1,e2,e3,e4,h1,h2]
 have hs:((if s=true then 1 else 0)==1)=s:=by cases s <;> rfl
 unfold spM spE
 have e5:a/4503599627370496 % 2048=a/4503599627370496:=by omega
 rw [e5]
 by_cases hb:a<4503599627370496
 ·have e6:a/4503599627370496=0:=by omega
  have e7:a % 4503599627370496=a:=by omega
  rw [if_pos hb,if_pos e6,if_pos e6,e7,hs]
 ·have e6:¬a/4503599627370496=0:=by omega
  rw [if_neg hb,if_pos ha,if_neg e6,if_neg e6,hs,Nat.add_comm 4503599627370496]
  congr 1
  omega
theorem read_inf (s:Bool):Ieee.double.read (9218868437227405312+sgn s)= .infinity s:=by cases s <;> decide
theorem read_nan (s:Bool) (a:Nat) (ha:a<9223372036854775808) (hn:9218868437227405312<a):Ieee.double.read (a+sgn s)= .nan s (a-9218868437227405312):=by
 obtain ⟨h1,h2⟩:=read_parts s a ha
 have e1:Ieee.double.signWeight=9223372036854775808:=by decide
 have e2:Ieee.double.binade=4503599627370496:=by decide
 have e3:Ieee.double.infRung=9218868437227405312:=by decide
 unfold Ieee.Format.read
 simp only [e1,e2,e3,h1,h2]
 have hs:((if s=true then 1 else 0)==1)=s:=by cases s <;> rfl
 rw [if_neg (by omega),if_neg (by omega),if_neg (by omega),hs]
def sV (s:Bool) (a:Nat):Int:=if s then-(V a:Int) else (V a:Int)
theorem signed_mul (s:Bool) (m u p:Nat):Ieee.signed s m u*(2^p:Nat)=if s then-((m*2^(u+p):Nat):Int) else ((m*2^(u+p):Nat):Int):=by
 unfold Ieee.signed
 rw [Nat.shiftLeft_eq]
 have e:m*2^(u+p)=m*2^u*2^p:=by rw [Nat.pow_add,Nat.mul_assoc]
 rw [e]
 cases s
 ·simp [Int.natCast_mul]
 ·simp only [if_true,Int.natCast_mul,Int.neg_mul]
theorem compare_scale (x y:Int) (p:Nat):compare (x*(2^p:Nat)) (y*(2^p:Nat))=compare x y:=by
 have hp:(0:Int)<((2^p:Nat):Int):=by exact_mod_cast pow_pos' p
 simp only [compare,compareOfLessAndEq]
 have h1:(x*((2^p:Nat):Int)<y*((2^p:Nat):Int))↔x<y:=Int.mul_lt_mul_right hp
 have h2:(x*((2^p:Nat):Int)=y*((2^p:Nat):Int))↔x=y:=⟨fun h=>Int.eq_of_mul_eq_mul_right (by omega) h,fun h=>by rw [h]⟩
 simp only [h1,h2]
theorem order_num (s t:Bool) (a b:Nat) (ha:a<9218868437227405312) (hb:b<9218868437227405312):Ieee.double.order (a+sgn s) (b+sgn t)=some (compare (sV s a) (sV t b)):=by
 unfold Ieee.Format.order
 rw [read_num s a ha,read_num t b hb]
 simp only [Ieee.Datum.order]
 congr 1
 have ea:=spE_bd ha
 have eb:=spE_bd hb
 obtain ⟨base,hbase⟩:∃base,min (spE a) (spE b)=base:=⟨_,rfl⟩
 rw [hbase,←compare_scale _ _ (base+1074).toNat,signed_mul,signed_mul]
 have h1:(spE a-base).toNat+(base+1074).toNat=(spE a+1074).toNat:=by omega
 have h2:(spE b-base).toNat+(base+1074).toNat=(spE b+1074).toNat:=by omega
 rw [h1,h2,←V_sp ha,←V_sp hb]
 rfl
theorem order_inf_num (s t:Bool) (b:Nat) (hb:b<9218868437227405312):Ieee.double.order (9218868437227405312+sgn s) (b+sgn t)=some (if s then .lt else .gt):=by
 unfold Ieee.Format.order
 rw [read_inf,read_num t b hb]
 rfl
theorem order_nan (s t:Bool) (a b:Nat) (ha:a<9223372036854775808) (hn:9218868437227405312<a) (y:Nat):Ieee.double.order (a+sgn s) y=none:=by
 unfold Ieee.Format.order
 rw [read_nan s a ha hn]
 cases Ieee.double.read y <;> rfl
theorem order_self (s:Bool) (a:Nat) (ha:a≤9218868437227405312):Ieee.double.order (a+sgn s) (a+sgn s)=some .eq:=by
 by_cases h:a=9218868437227405312
 ·subst h
  unfold Ieee.Format.order
  rw [read_inf]
  cases s <;> rfl
 ·rw [order_num s s a a (by omega) (by omega)]
  congr 1
  simp [compare,compareOfLessAndEq]
theorem near_exact {X r:Nat} (h:V r=X) (hr:r≤9218868437227405312):Near X 1 r:=by
 have h2:=V_succ r
 refine ⟨hr,?_,.inr (.inl (by omega))⟩
 by_cases h0:r=0
 ·exact .inl h0
 ·have h1:=V_succ (r-1)
  rw [show r-1+1=r by omega] at h1
  exact .inr (.inl (by omega))
theorem word_sgn (s:Bool) (r:Nat):Ieee.double.word s r=r+sgn s:=by
 unfold Ieee.Format.word sgn
 have e1:Ieee.double.signWeight=9223372036854775808:=by decide
 rw [e1]
 cases s
 ·rfl
 ·simp only [if_true];omega
theorem encode_whole (s:Bool) (T:Nat):∃r,Ieee.double.write (.number s T 0)=r+sgn s∧Near (T*2^1074) 1 r:=by
 unfold Ieee.Format.write
 simp only
 by_cases h0:T=0
 ·subst h0
  refine ⟨0,?_,near_exact (by rw [V_small (by omega)];omega) (by omega)⟩
  unfold Ieee.Format.nearest
  rw [if_pos rfl,word_sgn]
 ·obtain ⟨r,h1,h2⟩:=nearest_near s T 0 h0
  refine ⟨r,by rw [h1,word_sgn],?_⟩
  have e1:((0:Int)+1074).toNat=1074:=by decide
  have e2:(-((0:Int)+1074)).toNat=0:=by decide
  rw [e1,e2,Nat.pow_zero] at h2
  exact h2
end Go.Proofs.YtjhhdnnblcbdbaaGreatDoor.big
end
section
namespace Go.Proofs.YtjhhdnnblcbdbaaGreatDoor.big
open Go.RowKit mem fl
set_option linter.unusedVariables false
theorem read_pos (a:Nat) (ha:a<9218868437227405312):Ieee.double.read a= .number false (spM a) (spE a):=by
 have h:=read_num false a ha
 have e:a+sgn false=a:=rfl
 rw [e] at h
 exact h
theorem write_near (mag:Nat) (place:Int) (hm:mag≠0):∃r,Ieee.double.write (.number false mag place)=r∧Near (mag*2^(place+1074).toNat) (2^(-(place+1074)).toNat) r:=by
 obtain ⟨r,h1,h2⟩:=nearest_near false mag place hm
 have e:Ieee.double.word false r=r:=by rw [word_sgn];rfl
 rw [e] at h1
 exact ⟨r,h1,h2⟩
theorem spM_pos {a:Nat} (h0:0<a) (ha:a<9218868437227405312):spM a≠0:=by
 intro h
 have hv:=V_sp ha
 rw [h,Nat.zero_mul] at hv
 have:=V_mono h0
 omega
theorem mul_alg (m1 m2:Nat) (x1 x2:Int) (h1: -1074≤x1) (h2: -1074≤x2):
  ∃c,0<c∧m1*m2*2^(x1+x2+1074).toNat*c=m1*2^(x1+1074).toNat*(m2*2^(x2+1074).toNat)∧2^(-(x1+x2+1074)).toNat*c=2^1074:=by
 have key:∀n:Nat,n=1074→∃c,0<c∧m1*m2*2^(x1+x2+n).toNat*c=m1*2^(x1+n).toNat*(m2*2^(x2+n).toNat)∧2^(-(x1+x2+n)).toNat*c=2^n:=by
  intro n hn
  refine ⟨2^(n-(-(x1+x2+n)).toNat),Nat.two_pow_pos _,?_,?_⟩
  ·rw [Nat.mul_assoc,←Nat.pow_add,show (x1+x2+n).toNat+(n-(-(x1+x2+n)).toNat)=(x1+n).toNat+(x2+n).toNat by omega,Nat.pow_add]
   ac_rfl
  ·rw [←Nat.pow_add]
   congr 1
   omega
 exact key 1074 rfl
theorem mul_near (a b:Nat) (ha0:0<a) (hb0:0<b) (ha:a<9218868437227405312) (hb:b<9218868437227405312):
  ∃r,Ieee.double.mul a b=some r∧Near (V a*V b) (2^1074) r:=by
 obtain ⟨r,h1,h2⟩:=write_near (spM a*spM b) (spE a+spE b) (Nat.mul_ne_zero (spM_pos ha0 ha) (spM_pos hb0 hb))
 refine ⟨r,?_,?_⟩
 ·unfold Ieee.Format.mul
  rw [read_pos a ha,read_pos b hb]
  simp only [Ieee.Datum.product,Option.map_some]
  exact congrArg some h1
 ·obtain ⟨c,hc,e1,e2⟩:=mul_alg (spM a) (spM b) (spE a) (spE b) (spE_bd ha).1 (spE_bd hb).1
  have h3:=h2.scale c hc
  rw [e1,e2] at h3
  rw [V_sp ha,V_sp hb]
  exact h3
open us in
theorem unr_unr (Y D:Nat) (hD:0<D):∀k,unr (unr Y D) (2^k)=unr Y (D*2^k)
 | 0=>by
   rw [Nat.pow_zero,Nat.mul_one]
   unfold unr
   simp [Nat.mod_one]
 | k+1=>by
   have ih:=unr_unr Y D hD k
   have h1:=unr_shift (unr Y D) (2^k) (Nat.two_pow_pos k)
   have h2:=unr_shift Y (D*2^k) (Nat.mul_pos hD (Nat.two_pow_pos k))
   rw [ih] at h1
   rw [Nat.pow_succ,←h1,h2,Nat.mul_assoc]
open us in
theorem near_sticky (Y D k j r:Nat) (p:Int) (hD:0<D) (h1:18014398509481984*2^k≤unr Y D) (h2:unr Y D<36028797018963968*2^k) (hp:(j:Int)-k-2=p)
  (h:Near (unr Y D*2^p.toNat) (2^(-p).toNat) r):Near (Y*2^p.toNat) (D*2^(-p).toNat) r:=by
 have hk:=Nat.two_pow_pos k
 have hu:=unr_unr Y D hD k
 obtain ⟨T,hT⟩:∃T,2^k=T:=⟨_,rfl⟩
 have hq:18014398509481984*T≤Y/D∧Y/D<36028797018963968*T:=by
  rw [hT] at h1 h2
  unfold unr odd1 at h1 h2
  split at h1 <;> rename_i hh <;> simp only [hh,if_true,if_false] at h2 <;> omega
 have hY1:18014398509481984*T*D≤Y:=(Nat.le_div_iff_mul_le hD).1 hq.1
 have hY2:Y<36028797018963968*T*D:=(Nat.div_lt_iff_lt_mul hD).1 hq.2
 have n1:=pf_near (unr Y D) (2^k) j hk (by rw [hT] at h1 h2 ⊢;exact .inl (by omega)) (by rw [hT] at h1 h2 ⊢;omega)
 have e0:∀a b:Nat,a*T*D=a*(D*T):=fun a _=>by rw [Nat.mul_assoc,Nat.mul_comm T D]
 rw [e0 _ 0] at hY1 hY2
 have n2:=pf_near Y (D*2^k) j (Nat.mul_pos hD hk) (by rw [hT];exact .inl (by omega)) (by rw [hT];omega)
 rw [hu] at n1
 have hj1:p.toNat+min j (k+2)=j:=by omega
 have hj2:(-p).toNat+min j (k+2)=k+2:=by omega
 have e1:∀y,y*2^j=y*2^p.toNat*2^min j (k+2):=fun y=>by rw [Nat.mul_assoc,←Nat.pow_add,hj1]
 have e2:4*2^k=2^(-p).toNat*2^min j (k+2):=by rw [←Nat.pow_add,hj2,Nat.pow_add];exact Nat.mul_comm _ _
 have e3:4*(D*2^k)=D*2^(-p).toNat*2^min j (k+2):=by rw [Nat.mul_assoc,←e2];ac_rfl
 rw [e1,e2] at n1
 rw [e1,e3] at n2
 have n3:=n1.unscale (Nat.two_pow_pos _)
 have n4:=n2.unscale (Nat.two_pow_pos _)
 have hr:=Near.unique h n3 (Nat.two_pow_pos _)
 rw [hr]
 exact n4
theorem near_move {m n s t u v r:Nat} (h:Near (m*2^s) (n*2^t) r) (e:u+t=s+v):Near (m*2^u) (n*2^v) r:=by
 have h1:=h.scale (2^u) (Nat.two_pow_pos u)
 have e1:m*2^s*2^u=m*2^u*2^s:=by ac_rfl
 have e2:n*2^t*2^u=n*2^v*2^s:=by rw [Nat.mul_assoc,Nat.mul_assoc,←Nat.pow_add,←Nat.pow_add];congr 2;omega
 rw [e1,e2] at h1
 exact h1.unscale (Nat.two_pow_pos s)
open us in
theorem sticky_unr (N n:Nat) (hn:0<n):2*(N/n)+(N % n !=0).toNat=unr (2*N) n:=by
 have hd:=Nat.div_add_mod N n
 have hm:=Nat.mod_lt N hn
 obtain ⟨q,hq⟩:∃q,N/n=q:=⟨_,rfl⟩
 obtain ⟨r,hr⟩:∃r,N % n=r:=⟨_,rfl⟩
 rw [hq,hr] at hd ⊢
 rw [hr] at hm
 obtain ⟨g,hg⟩:∃g,n*q=g:=⟨_,rfl⟩
 rw [hg] at hd
 have hg2:2*q*n=2*g:=by rw [←hg];ac_rfl
 have hg3:(2*q+1)*n=2*g+n:=by rw [Nat.add_mul,hg2,Nat.one_mul]
 have hg4:(2*q+1+1)*n=2*g+n+n:=by rw [Nat.add_mul,hg3,Nat.one_mul]
 by_cases h0:r=0
 ·have e:2*N=2*q*n:=by omega
  rw [e,unr_exact n (2*q) hn,h0]
  rfl
 ·have e1:(r !=0).toNat=1:=by simp [h0]
  rw [e1]
  by_cases h1:2*r=n
  ·have e:2*N=(2*q+1)*n:=by omega
   rw [e,unr_exact n _ hn]
  ·by_cases h2:2*r<n
   ·rw [unr_of (2*N) n (2*q) hn (by omega) (by omega)]
    unfold odd1
    omega
   ·rw [unr_of (2*N) n (2*q+1) hn (by omega) (by omega)]
    unfold odd1
    omega
theorem quo_bd (m n:Nat) (hm:m≠0) (hn:n≠0) (hml:m<9007199254740992):∃more,54+n.log2-m.log2=more∧more≤54+n.log2∧9007199254740992≤m*2^more/n∧m*2^more/n<36028797018963968:=by
 have a1:=Nat.log2_self_le hm
 have a2:m<2^(m.log2+1):=Nat.lt_log2_self
 have b1:=Nat.log2_self_le hn
 have b2:n<2^(n.log2+1):=Nat.lt_log2_self
 have hL:m.log2<53:=by
  rcases Nat.lt_or_ge m.log2 53 with h | h
  ·exact h
  ·have:=Nat.pow_le_pow_right (show 0<2 by decide) h
   rw [show (2:Nat)^53=9007199254740992 by decide] at this
   omega
 obtain ⟨lm,hlm⟩:∃lm,m.log2=lm:=⟨_,rfl⟩
 obtain ⟨ln,hln⟩:∃ln,n.log2=ln:=⟨_,rfl⟩
 rw [hlm] at a1 a2 hL ⊢
 rw [hln] at b1 b2 ⊢
 refine ⟨54+ln-lm,rfl,by omega,?_,?_⟩
 ·refine (Nat.le_div_iff_mul_le (by omega)).2 ?_
  have h1:=Nat.mul_le_mul_right (2^(54+ln-lm)) a1
  rw [←Nat.pow_add,show lm+(54+ln-lm)=53+(ln+1) by omega,Nat.pow_add,show (2:Nat)^53=9007199254740992 by decide] at h1
  have h2:=Nat.mul_le_mul_left 9007199254740992 (Nat.le_of_lt b2)
  omega
 ·refine (Nat.div_lt_iff_lt_mul (by omega)).2 ?_
  have h1:=Nat.mul_lt_mul_of_pos_right a2 (Nat.two_pow_pos (54+ln-lm))
  rw [←Nat.pow_add,show lm+1+(54+ln-lm)=55+ln by omega,Nat.pow_add,show (2:Nat)^55=36028797018963968 by decide] at h1
  have h2:=Nat.mul_le_mul_left 36028797018963968 b1
  omega
theorem div_near (a b:Nat) (ha0:0<a) (hb0:0<b) (ha:a<9218868437227405312) (hb:b<9218868437227405312) (hx: -400≤spE a) (hy:spE b≤400):
  ∃r,Ieee.double.div a b=some r∧Near (V a*2^1074) (V b) r:=by
 have hm0:=spM_pos ha0 ha
 have hn0:=spM_pos hb0 hb
 have hml:=spM_lt a
 have hnl:=spM_lt b
 have hbi:=spE_bd ha
 have hbj:=spE_bd hb
 have hva:=V_sp ha
 have hvb:=V_sp hb
 have hmul:Ieee.double.div a b=((Ieee.Datum.number false (spM a) (spE a)).quotient 54 (.number false (spM b) (spE b))).map Ieee.double.write:=by
  unfold Ieee.Format.div
  rw [read_pos a ha,read_pos b hb]
  rfl
 obtain ⟨m,hm⟩:∃m,spM a=m:=⟨_,rfl⟩
 obtain ⟨n,hn⟩:∃n,spM b=n:=⟨_,rfl⟩
 obtain ⟨i,hi⟩:∃i,spE a=i:=⟨_,rfl⟩
 obtain ⟨j,hj⟩:∃j,spE b=j:=⟨_,rfl⟩
 rw [hm,hn,hi,hj] at hmul
 rw [hm,hi] at hva
 rw [hn,hj] at hvb
 rw [hm] at hm0 hml
 rw [hn] at hn0 hnl
 rw [hi] at hx hbi
 rw [hj] at hy hbj
 obtain ⟨more,e1,e2,e3,e4⟩:=quo_bd m n hm0 hn0 hml
 have hln:n.log2≤53:=by
  rcases Nat.lt_or_ge n.log2 54 with h | h
  ·omega
  ·have h1:=Nat.pow_le_pow_right (show 0<2 by decide) h
   rw [show (2:Nat)^54=18014398509481984 by decide] at h1
   have:=Nat.log2_self_le hn0
   omega
 have hst:=sticky_unr (m*2^more) n (by omega)
 obtain ⟨q,hq⟩:∃q,m*2^more/n=q:=⟨_,rfl⟩
 obtain ⟨z,hz⟩:∃z,(m*2^more % n !=0).toNat=z:=⟨_,rfl⟩
 have hz1:z≤1:=by rw [←hz];cases (m*2^more % n !=0) <;> decide
 have hquo:((Ieee.Datum.number false m i).quotient 54 (.number false n j))=some (.number false (2*q+z) (i-j-more-1)):=by
  unfold Ieee.Datum.quotient
  simp only [if_neg hn0,e1,Nat.shiftLeft_eq,hq,hz]
  rfl
 rw [hquo,Option.map_some] at hmul
 rw [hq] at e3 e4 hst
 rw [hz] at hst
 obtain ⟨r,h1,h2⟩:=write_near (2*q+z) (i-j-more-1) (by omega)
 refine ⟨r,by rw [hmul,h1],?_⟩
 rw [hva,hvb]
 have hfin:Near (2*(m*2^more)*2^(i-j-more-1+1074).toNat) (n*2^(-(i-j-more-1+1074)).toNat) r:=by
  rw [hst] at h2
  by_cases hk:2*q+z<36028797018963968
  ·refine near_sticky (2*(m*2^more)) n 0 (i-j-more-1+1074+2).toNat r _ (by omega) ?_ ?_ (by omega) h2
   ·rw [←hst,Nat.pow_zero];omega
   ·rw [←hst,Nat.pow_zero];omega
  ·refine near_sticky (2*(m*2^more)) n 1 (i-j-more-1+1074+3).toNat r _ (by omega) ?_ ?_ (by omega) h2
   ·rw [←hst,Nat.pow_one];omega
   ·rw [←hst,Nat.pow_one];omega
 have e5:∀p:Nat,2*(m*2^more)*2^p=m*2^(more+1+p):=fun p=>by
  rw [Nat.pow_add,Nat.pow_succ];ac_rfl
 rw [e5] at hfin
 generalize hK:(1074:Nat)=K
 rw [Nat.mul_assoc,←Nat.pow_add]
 exact near_move hfin (by omega)
end Go.Proofs.YtjhhdnnblcbdbaaGreatDoor.big
end
