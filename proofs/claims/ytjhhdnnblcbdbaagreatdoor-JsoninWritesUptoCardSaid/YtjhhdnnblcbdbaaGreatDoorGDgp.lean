/- Reading floats, plain: what is cut off, and what the nearest float of the rest says of the whole. atof64, walked: any digits, any power. atof64, walked: any digits, any power. ParseFloat, walked: any digits, any power. -/
import Derived.Test.YtjhhdnnblcbdbaaGreatDoorGDcw
import Derived.Test.YtjhhdnnblcbdbaaGreatDoorGAp
import Derived.Test.YtjhhdnnblcbdbaaGreatDoorShelfE
import Derived.Test.YtjhhdnnblcbdbaaGreatDoorYTfh
section
namespace Go.Proofs.YtjhhdnnblcbdbaaGreatDoor.dcm
open Go.RowKit mem fl big us uw
set_option linter.unusedVariables false
theorem near_cross {X1 B1 X2 B2 R:Nat} (h:Near X1 B1 R) (h1:0<B1) (h2:0<B2) (he:X1*B2=X2*B1):Near X2 B2 R:=by
 have h3:=h.scale B2 h2
 rw [he,Nat.mul_comm B1 B2] at h3
 exact h3.unscale h1
theorem near_mid {X1 X X2 B R:Nat} (h1:Near X1 B R) (h2:Near X2 B R) (l1:X1≤X) (l2:X≤X2):Near X B R:=by
 obtain ⟨a1,a2,a3⟩:=h1
 obtain ⟨b1,b2,b3⟩:=h2
 refine ⟨a1,?_,?_⟩
 ·rcases a2 with a2 | a2 | ⟨a2,a4⟩
  ·exact .inl a2
  ·exact .inr (.inl (by omega))
  ·rcases Nat.lt_or_ge X1 X with h | h
   ·exact .inr (.inl (by omega))
   ·exact .inr (.inr ⟨by omega,a4⟩)
 ·rcases b3 with b3 | b3 | ⟨b3,b4⟩
  ·exact .inl b3
  ·exact .inr (.inl (by omega))
  ·rcases Nat.lt_or_ge X X2 with h | h
   ·exact .inr (.inl (by omega))
   ·exact .inr (.inr ⟨by omega,b4⟩)
theorem ten_eq (a b c d:Nat) (h:a+b=c+d):10^a*10^b=10^c*10^d:=by rw [←Nat.pow_add,←Nat.pow_add,h]
theorem dec_scale {P m R S:Nat} {e:Int} (hS:0≤(S:Int)+e):Dec P m e R↔Near (m*10^((S:Int)+e).toNat*P) (10^S) R:=by
 have ht:∀k:Nat,0<10^k:=fun k=>Nat.pow_pos (by omega)
 have e1:m*10^e.toNat*P*10^S=m*10^((S:Int)+e).toNat*P*10^(-e).toNat:=by
  have:=ten_eq e.toNat S ((S:Int)+e).toNat (-e).toNat (by omega)
  rw [Nat.mul_right_comm _ P,Nat.mul_assoc m,this,←Nat.mul_assoc,Nat.mul_right_comm _ _ P]
 unfold Dec
 exact ⟨fun h=>near_cross h (ht _) (ht _) e1,fun h=>near_cross h (ht _) (ht _) e1.symm⟩
theorem dvn_nmb {L D:List Nat}:∀m,m≤D.length→(∀u,u<m→L.getD u 0=D.getD u 0)→nmb L m=dvn (D.take m)
 | 0,_,_=>rfl
 | m+1,h1,h2=>by
   rw [dvn_take D m (by omega),←dvn_nmb m (by omega) (fun u hu=>h2 u (by omega)),←h2 m (by omega)]
   rfl
theorem dvn_cut (D:List Nat) (hD:∀c∈D,48≤c∧c≤57) (j:Nat):dvn D=dvn (D.take j)*10^(D.length-j)+dvn (D.drop j)∧dvn (D.drop j)<10^(D.length-j):=by
 have h1:=dvn_app (D.take j) (D.drop j)
 rw [List.take_append_drop,List.length_drop] at h1
 have h2:=dvn_lt (D.drop j) (fun c hc=>hD c (List.mem_of_mem_drop hc))
 rw [List.length_drop] at h2
 exact ⟨h1,h2⟩
theorem dvn_zero:∀(D:List Nat),(∀c∈D,48≤c∧c≤57)→((D.any fun c=>c !=48)=(dvn D !=0))
 | [],_=>rfl
 | c :: D,h=>by
   have ih:=dvn_zero D (fun d hd=>h d (List.mem_cons_of_mem _ hd))
   have hc:=h c (List.mem_cons_self ..)
   rw [List.any_cons,ih,dvn_cons]
   have hp:0<10^D.length:=Nat.pow_pos (by omega)
   by_cases h48:c=48
   ·subst h48
    simp
   ·have h1:1*10^D.length≤(c-48)*10^D.length:=Nat.mul_le_mul_right _ (by omega)
    have h2:((c-48)*10^D.length+dvn D !=0)=true:=bne_iff_ne.2 (by omega)
    rw [h2,bne_iff_ne.2 h48,Bool.true_or]
structure Ds (D:List Nat) (k:Nat):Prop where
 len:D.length=k
 pos:0<k
 le:k≤1100000
 dig:∀c∈D,48≤c∧c≤57
 head:D.getD 0 0≠48
theorem Ds.getD {D:List Nat} {k:Nat} (h:Ds D k) {u:Nat} (hu:u<k):48≤D.getD u 0∧D.getD u 0≤57:=by
 refine h.dig _ ?_
 rw [List.getD_eq_getElem?_getD,List.getElem?_eq_getElem (by rw [h.len];exact hu)]
 exact List.getElem_mem _
theorem Ds.lo {D:List Nat} {k:Nat} (h:Ds D k):10^(k-1)≤dvn D:=by
 have:=dvn_ge (l:=D) (fun c hc=>h.dig c hc) (fun c hc=>by
  have h3:=h.head
  rw [List.head?_eq_getElem?] at hc
  rw [List.getD_eq_getElem?_getD,hc] at h3
  exact h3) (fun h4=>by have:=h.len;have:=h.pos;rw [h4] at*;simp at*;omega)
 rwa [h.len] at this
theorem Ds.hi {D:List Nat} {k:Nat} (h:Ds D k):dvn D<10^k:=by
 have:=dvn_lt D h.dig
 rwa [h.len] at this
theorem set_start {D L:List Nat} {k S B:Nat} {E:Int} (h:Ds D k) (hl:L.length=800) (hL:∀u,u<min k 800→L.getD u 0=D.getD u 0) (hE1:E≤400) (hS:(k:Int)≤(S:Int)+E) (hB:B≤1100):
  Dg L (min k 800)∧Ap (dvn D*10^((S:Int)+E-k).toNat) B S L (min k 800) E ((D.drop 800).any fun c=>c !=48) 0 0:=by
 have hk:=h.pos
 have hdg:Dg L (min k 800):=⟨fun i hi=>by rw [hL i hi];exact (h.getD (by omega)).1,fun i hi=>by rw [hL i hi];exact (h.getD (by omega)).2,fun h0=>by rw [hL 0 h0];exact h.head,by omega⟩
 refine ⟨hdg,?_⟩
 have hcut:=dvn_cut D h.dig (min k 800)
 rw [h.len] at hcut
 have hdrop:D.drop (min k 800)=D.drop 800:=by
  rcases Nat.lt_or_ge k 800 with h8 | h8
  ·rw [show min k 800=k by omega,List.drop_of_length_le (by rw [h.len];omega),List.drop_of_length_le (by rw [h.len];omega)]
  ·rw [show min k 800=800 by omega]
 have hnm:nmb L (min k 800)=dvn (D.take (min k 800)):=dvn_nmb _ (by rw [h.len];omega) hL
 have hp:0<10^(k-min k 800):=Nat.pow_pos (by omega)
 have hc:=Ap.cut (X:=dvn D*10^((S:Int)+E-k).toNat) (B:=B) (S:=S) (a:=0) (b:=0) (Q:=dvn D) (V:=k) (E:=((S:Int)+E-k).toNat) (nd':=min k 800) (L':=L) (dpv:=E) (tr0:=false) (tr':=(D.drop 800).any fun c=>c !=48)
  (by omega) (by omega) (by omega) h.lo (Nat.le_refl _) (by
   rw [Nat.sub_self,Nat.pow_zero,Nat.mul_one,hnm,hcut.1,Nat.mul_comm,Nat.mul_add_div hp,Nat.div_eq_of_lt hcut.2,Nat.add_zero])
  (by
   rw [dvn_zero _ (fun c hc=>h.dig c (List.mem_of_mem_drop hc)),Bool.false_or,←hdrop]
   congr 1
   rw [hcut.1,Nat.mul_comm,Nat.mul_add_mod,Nat.mod_eq_of_lt hcut.2])
  (Nat.le_refl _) (fun _=>rfl) (fun hh=>Bool.noConfusion hh) (fun c p _ hh=>hh)
 exact hc.1
theorem p310 (z v:Nat) (hz:z=1025) (hv:v=310):2^z≤10^v:=by
 have h1:(2:Nat)^205≤10^62:=by decide+kernel
 obtain ⟨u,hu⟩:∃u:Nat,u=205:=⟨_,rfl⟩
 obtain ⟨y,hy⟩:∃y:Nat,y=62:=⟨_,rfl⟩
 rw [←hu,←hy] at h1
 have e1:(2:Nat)^z=(2^u)^5:=by rw [←Nat.pow_mul];congr 1;omega
 have e2:(10:Nat)^v=(10^y)^5:=by rw [←Nat.pow_mul];congr 1;omega
 rw [e1,e2]
 exact Nat.pow_le_pow_left h1 5
theorem p325 (z v:Nat) (hz:z=1075) (hv:v=325):2^z≤10^v:=by
 have h1:(2:Nat)^215≤10^65:=by decide+kernel
 obtain ⟨u,hu⟩:∃u:Nat,u=215:=⟨_,rfl⟩
 obtain ⟨y,hy⟩:∃y:Nat,y=65:=⟨_,rfl⟩
 rw [←hu,←hy] at h1
 have e1:(2:Nat)^z=(2^u)^5:=by rw [←Nat.pow_mul];congr 1;omega
 have e2:(10:Nat)^v=(10^y)^5:=by rw [←Nat.pow_mul];congr 1;omega
 rw [e1,e2]
 exact Nat.pow_le_pow_left h1 5
theorem dec_great {P z n m:Nat} {x:Int} (hz:z=1074) (hP:P=2^z) (hm:10^(n-1)≤m) (hn:0<n) (hx:310<x+n):Dec P m x 9218868437227405312:=by
 obtain ⟨y,hy⟩:∃y:Nat,y=1025:=⟨_,rfl⟩
 obtain ⟨v,hv⟩:∃v:Nat,v=310:=⟨_,rfl⟩
 refine ⟨Nat.le_refl _,.inr (.inl ?_),.inl rfl⟩
 have a1:V (9218868437227405312-1)<V 9218868437227405312:=V_mono (by omega)
 have a2:V (9218868437227405312-1)+V 9218868437227405312<2^y*P:=by
  obtain ⟨w,hw⟩:∃w:Nat,w=2046:=⟨_,rfl⟩
  have h3:=V_at w 4503599627370496 (by omega) (by omega)
  have e4:w*4503599627370496+4503599627370496=9218868437227405312:=by omega
  rw [e4] at h3
  have e5:(4503599627370496:Nat)*2^w*2=2^y*P:=by
   rw [hP,show (4503599627370496:Nat)=2^52 by decide,←Nat.pow_add,←Nat.pow_succ,←Nat.pow_add]
   exact congrArg (fun n:Nat=>2^n) (by omega)
  rw [h3] at a1 ⊢
  generalize 2^y*P=M at e5 ⊢
  generalize 4503599627370496*2^w=A at*
  clear h3 e4 hw hz hP hy hv
  omega
 have a3:10^(-x).toNat*(V (9218868437227405312-1)+V 9218868437227405312)<10^(-x).toNat*(2^y*P):=(Nat.mul_lt_mul_left (Nat.pow_pos (by decide))).2 a2
 have a4:10^(-x).toNat*10^v≤m*10^x.toNat:=by
  have h8:=p10mul (-x).toNat v (n-1) x.toNat (by omega)
  exact Nat.le_trans h8 (Nat.mul_le_mul_right _ hm)
 have a5:=great_le (10^(-x).toNat) (m*10^x.toNat) (2^y) P (10^v) (p310 y v hy hv) a4
 omega
theorem dec_tiny {P z n m:Nat} {x:Int} (hz:z=1074) (hP:P=2^z) (hm:m<10^n) (hx:x+n≤ -325):Dec P m x 0:=by
 obtain ⟨y,hy⟩:∃y:Nat,y=1075:=⟨_,rfl⟩
 obtain ⟨v,hv⟩:∃v:Nat,v=325:=⟨_,rfl⟩
 unfold Dec
 have e:x.toNat=0:=by omega
 rw [e,Nat.pow_zero,Nat.mul_one]
 refine big.near_zero (Nat.pow_pos (by decide)) ?_
 have h1:10^n*10^v≤10^(-x).toNat:=p10le n v _ (by omega)
 have h2:2*(m*P)=m*2^y:=by rw [hP,hy,show (1075:Nat)=z+1 by omega,Nat.pow_succ];ac_rfl
 rw [h2]
 have h3:m*2^y≤m*10^v:=Nat.mul_le_mul_left m (p325 y v hy hv)
 have h5:∀k:Nat,0<10^k:=fun k=>Nat.pow_pos (by decide)
 have h4:=mlt m (10^n) (10^v) hm (h5 v)
 omega
theorem dec_short {P k R:Nat} {D:List Nat} {E:Int} (h:Ds D k) (hE: -1000≤E) (ht:rfTr D=false) (hN:Dec P (rfM D) (E-(min k 19:Nat)) R):Dec P (dvn D) (E-k) R:=by
 have hcut:=dvn_cut D h.dig 19
 rw [h.len] at hcut
 have hz:dvn (D.drop 19)=0:=by
  have h1:=dvn_zero (D.drop 19) (fun c hc=>h.dig c (List.mem_of_mem_drop hc))
  unfold rfTr at ht
  rw [ht] at h1
  simpa using h1.symm
 rw [hz,Nat.add_zero] at hcut
 have e:dvn D=rfM D*10^(k-19):=hcut.1
 obtain ⟨S,hS⟩:∃S:Nat,S=2000+k:=⟨_,rfl⟩
 refine (dec_scale (S:=S) (by omega)).2 ?_
 have h2:=(dec_scale (S:=S) (by omega)).1 hN
 rw [e,Nat.mul_assoc (rfM D),←Nat.pow_add]
 rw [show ((S:Int)+(E-(min k 19:Nat))).toNat=(k-19)+((S:Int)+(E-k)).toNat by omega] at h2
 exact h2
theorem dec_mid {P k R:Nat} {D:List Nat} {E:Int} (h:Ds D k) (hk:19≤k) (hE: -1000≤E) (h1:Dec P (rfM D) (E-19) R) (h2:Dec P (rfM D+1) (E-19) R):Dec P (dvn D) (E-k) R:=by
 have hcut:=dvn_cut D h.dig 19
 rw [h.len] at hcut
 have e:dvn D=rfM D*10^(k-19)+dvn (D.drop 19):=hcut.1
 obtain ⟨S,hS⟩:∃S:Nat,S=2000+k:=⟨_,rfl⟩
 refine (dec_scale (S:=S) (by omega)).2 ?_
 have h3:=(dec_scale (S:=S) (by omega)).1 h1
 have h4:=(dec_scale (S:=S) (by omega)).1 h2
 obtain ⟨j,hj⟩:∃j,((S:Int)+(E-k)).toNat=j:=⟨_,rfl⟩
 rw [show ((S:Int)+(E-19)).toNat=(k-19)+j by omega,Nat.pow_add,←Nat.mul_assoc] at h3 h4
 rw [hj]
 refine near_mid h3 h4 (Nat.mul_le_mul_right _ (Nat.mul_le_mul_right _ (by omega))) (Nat.mul_le_mul_right _ (Nat.mul_le_mul_right _ ?_))
 rw [Nat.add_mul,Nat.one_mul]
 omega
theorem rfTr_len {D:List Nat} (h:rfTr D=true):19<D.length:=by
 rcases Nat.lt_or_ge 19 D.length with h1 | h1
 ·exact h1
 ·unfold rfTr at h
  rw [List.drop_of_length_le h1] at h
  exact absurd h (by simp)
end Go.Proofs.YtjhhdnnblcbdbaaGreatDoor.dcm
end
section
namespace Go.Proofs.YtjhhdnnblcbdbaaGreatDoor.dcm
open Go.RowKit mem fl big us uw
set_option linter.unusedVariables false
def PgPost (P:Nat) (D:List Nat) (k:Nat) (E:Int) (n:Nat) (w:World) (e:Ending) (w':World):Prop:=∃(R:Nat) (v:Value),Dec P (dvn D) (E-k) R∧(v= .nilIface∨v=erng)∧e= .returned (.tuple #[.float .f64 R,.int .i64 (n:Int),v])∧Below w.heap.size w w'
theorem rfM_bd' {D:List Nat} {k:Nat} (h:Ds D k):0<rfM D∧rfM D<10000000000000000000:=by
 constructor
 ·have h1:=Ds.lo (D:=D.take 19) (k:=min k 19) ⟨by rw [List.length_take,h.len];omega,by have:=h.pos;omega,by omega,fun c hc=>h.dig c (List.mem_of_mem_take hc),by
   have:=h.head
   have hp:=h.pos
   rw [List.getD_eq_getElem?_getD,List.getElem?_take] at*
   simpa using this⟩
  have:0<10^(min k 19-1):=Nat.pow_pos (by omega)
  unfold rfM
  omega
 ·unfold rfM
  have h1:=dvn_lt (D.take 19) (fun c hc=>h.dig c (List.mem_of_mem_take hc))
  have h2:(D.take 19).length≤19:=List.length_take_le _ _
  have h3:(10:Nat)^(D.take 19).length≤10^19:=Nat.pow_le_pow_right (by decide) h2
  have h4:(10:Nat)^19=10000000000000000000:=by decide
  omega
set_option maxRecDepth 100000 in
set_option maxHeartbeats 4000000 in
theorem atof_far (s:ByteArray) (P z k:Nat) (D:List Nat) (E:Int) (tr:Bool) (hz:z=1074) (hP:P=2^z) (w:World) (h0:0<s.size) (h1:(s[0]'h0).toNat=48) (hD:Ds D k) (hE1: -400≤E) (hE2:E≤400) (ho:OptAt w)
  (hp:310<E-(min k 19:Nat)∨E-(min k 19:Nat)< -345)
  (hr:Calls Tryz.prog 148 #[.string s] w fun e w'=>e= .returned (.tuple #[.int .u64 (rfM D:Int),.int .i64 (E-(min k 19:Nat)),.bool false,.bool tr,.bool false,.int .i64 (s.size:Int),.bool true])∧w'=w):
  Calls Tryz.prog 138 #[.string s] w (PgPost P D k E s.size w):=by
 have HS:=Lib.hid (special_any s w h0 h1)
 have HR:=Lib.hid hr
 have hm:=(rfM_bd' hD).1
 obtain ⟨d,hd⟩:∃d,rfM D=d:=⟨_,rfl⟩
 rw [hd] at HR hm
 have hdz:((d:Int)==0)=false:=beq_false_of_ne (by omega)
 obtain ⟨p,hpe⟩:∃p,E-(min k 19:Nat)=p:=⟨_,rfl⟩
 rw [hpe] at HR hp
 unfold OptAt at ho
 have HG:=Lib.hid (fun (h:310<p)=>dec_great (m:=dvn D) (n:=k) (x:=E-k) hz hP hD.lo hD.pos (by omega))
 have HT:=Lib.hid (fun (h:p< -345)=>dec_tiny (m:=dvn D) (n:=k) (x:=E-k) hz hP hD.hi (by omega))
 clear hr hz hP hD hd hm hE1 hE2 hpe
 rcases hp with hp | hp
 ·have q1:decide (p>310)=true:=decide_eq_true hp
  have q2:decide (310<p)=true:=decide_eq_true hp
  have ho2:bits .or .u64 0 9218868437227405312=9218868437227405312:=by decide
  have HN:=Lib.hid (HG.out hp)
  clear hp HG HT
  go_enter Tryz.func138,Tryz.ntmps138
  go_wp2_with fail
  refine (HS.out).mono ?_
  rintro e w2 ⟨rfl,rfl⟩
  go_wp2_with fail
  refine (HR.out).mono ?_
  rintro e w2 ⟨rfl,rfl⟩
  go_wp2_with fail
  refine (b2u_ff _).mono ?_
  rintro e w3 ⟨rfl,rfl⟩
  go_wp2_with fail
  rw [run_ffbi]
  go_wp2_with fail
  go_ret3
  exact ⟨_,_,HN.out,.inr rfl,rfl,Below.refl _ _⟩
 ·have q1:decide (p>310)=false:=decide_eq_false (by omega)
  have q2:decide (310<p)=false:=decide_eq_false (by omega)
  have q3:decide (p< -345)=true:=decide_eq_true hp
  have ho2:bits .or .u64 0 0=0:=by decide
  have HN:=Lib.hid (HT.out hp)
  clear hp HG HT
  go_enter Tryz.func138,Tryz.ntmps138
  go_wp2_with fail
  refine (HS.out).mono ?_
  rintro e w2 ⟨rfl,rfl⟩
  go_wp2_with fail
  refine (HR.out).mono ?_
  rintro e w2 ⟨rfl,rfl⟩
  go_wp2_with fail
  refine (b2u_ff _).mono ?_
  rintro e w3 ⟨rfl,rfl⟩
  go_wp2_with fail
  rw [run_ffb0]
  go_wp2_with fail
  go_ret3
  exact ⟨_,_,HN.out,.inl rfl,rfl,Below.refl _ _⟩
end Go.Proofs.YtjhhdnnblcbdbaaGreatDoor.dcm
end
section
namespace Go.Proofs.YtjhhdnnblcbdbaaGreatDoor.dcm
open Go.RowKit mem fl big us uw
set_option linter.unusedVariables false
set_option maxRecDepth 100000 in
set_option maxHeartbeats 4000000 in
theorem atof_short (s:ByteArray) (P z k:Nat) (D:List Nat) (E:Int) (hz:z=1074) (hP:P=2^z) (w:World) (h0:0<s.size) (h1:(s[0]'h0).toNat=48) (hD:Ds D k) (hE1: -400≤E) (hE2:E≤400) (ho:OptAt w) (hi:InfoAt w) (h13:P10At w) (h7:PowAt w) (hsz:14<w.heap.size)
  (hp1: -345≤E-(min k 19:Nat)) (hp2:E-(min k 19:Nat)≤310) (ht:rfTr D=false)
  (hr:Calls Tryz.prog 148 #[.string s] w fun e w'=>e= .returned (.tuple #[.int .u64 (rfM D:Int),.int .i64 (E-(min k 19:Nat)),.bool false,.bool false,.bool false,.int .i64 (s.size:Int),.bool true])∧w'=w):
  Calls Tryz.prog 138 #[.string s] w (PgPost P D k E s.size w):=by
 have HS:=Lib.hid (special_any s w h0 h1)
 have HR:=Lib.hid hr
 obtain ⟨hd,hd2⟩:=rfM_bd' hD
 have HF:=Lib.hid (fun (R:Nat) (hN:Dec P (rfM D) (E-(min k 19:Nat)) R)=>dec_short hD (by omega) ht hN)
 obtain ⟨d,hde⟩:∃d,rfM D=d:=⟨_,rfl⟩
 rw [hde] at HR hd hd2 HF
 obtain ⟨p,hpe⟩:∃p,E-(min k 19:Nat)=p:=⟨_,rfl⟩
 rw [hpe] at HR hp1 hp2 HF
 have hPz:P=2^1074:=by rw [hP,hz]
 have HX:=Lib.hid (ax_any P d hPz p w hd (by omega) hi h13)
 obtain ⟨i,hip⟩:∃i:Nat,p=(i:Int)-348:=⟨(p+348).toNat,by omega⟩
 have hpn:=parse64_any d i w hd (by omega) (by omega) h7 hsz
 rw [←hip] at hpn
 have HPN:=Lib.hid hpn
 have HFin:Hid (∀R,Near (d*10^(i-348)*2^1074) (10^(348-i)) R→Dec P (dvn D) (E-k) R):=Lib.hid fun R hR=>by
  have:=dec_p64 P d i R hPz hR
  rw [←hip] at this
  exact HF.out R this
 have hdz:((d:Int)==0)=false:=beq_false_of_ne (by omega)
 have q1:decide (p>310)=false:=decide_eq_false (by omega)
 have q2:decide (310<p)=false:=decide_eq_false (by omega)
 have q3:decide (p< -345)=false:=decide_eq_false (by omega)
 unfold OptAt at ho
 clear hr hpn hip hi h13 h7 hz hP hPz hD hE1 hE2 hp1 hp2 hd hd2 hde hpe ht
 go_enter Tryz.func138,Tryz.ntmps138
 go_wp2_with fail
 refine (HS.out).mono ?_
 rintro e w2 ⟨rfl,rfl⟩
 go_wp2_with fail
 refine (HR.out).mono ?_
 rintro e w2 ⟨rfl,rfl⟩
 go_wp2_with fail
 refine (b2u_ff _).mono ?_
 rintro e w3 ⟨rfl,rfl⟩
 go_wp2_with fail
 refine (HX.out).mono ?_
 rintro e w4 ⟨f,ok,rfl,rfl,hok⟩
 cases ok with
 | true=>
   have hN:=HF.out f (hok rfl)
   clear hok
   go_wp2_with fail
   go_ret3
   exact ⟨_,_,hN,.inl rfl,rfl,Below.refl _ _⟩
 | false=>
   clear hok
   go_wp2_with fail
   refine (HPN.out).mono ?_
   rintro e w5 ⟨R,hR,rfl,hb⟩
   have hN:=HFin.out R hR
   obtain ⟨v,hv⟩:∃v,(if R<9218868437227405312 then Value.nilIface else erng)=v:=⟨_,rfl⟩
   have HV:=Lib.hid (show v= .nilIface∨v=erng from by
    rw [←hv]
    split
    ·exact .inl rfl
    ·exact .inr rfl)
   rw [hv]
   clear hR hv
   go_wp2_with fail
   go_ret3
   exact ⟨_,_,hN,HV.out,rfl,hb⟩
theorem order_fin_inf (a:Nat) (ha:a<9218868437227405312):Ieee.double.order a 9218868437227405312=some .lt:=by
 have h1:=read_num false a ha
 have h2:=read_inf false
 simp only [sgn,Bool.false_eq_true,if_false,Nat.add_zero] at h1 h2
 unfold Ieee.Format.order
 rw [h1,h2]
 rfl
theorem order_eq_of {a b:Nat} (ha:a≤9218868437227405312) (hb:b≤9218868437227405312) (h:(FloatKind.f64.format.order a b==some .eq)=true):a=b:=by
 have h':Ieee.double.order a b=some .eq:=eq_of_beq h
 by_cases h1:a=9218868437227405312
 ·by_cases h2:b=9218868437227405312
  ·rw [h1,h2]
  ·have h3:=order_inf_num false false b (by omega)
   simp only [sgn,Bool.false_eq_true,if_false,Nat.add_zero] at h3
   rw [h1,h3] at h'
   exact absurd h' (by simp)
 ·by_cases h2:b=9218868437227405312
  ·rw [h2,order_fin_inf a (by omega)] at h'
   exact absurd h' (by simp)
  ·have h3:=order_num false false a b (by omega) (by omega)
   simp only [sgn,Bool.false_eq_true,if_false,Nat.add_zero] at h3
   rw [h3] at h'
   have h4:compare (sV false a) (sV false b)= .eq:=by simpa using h'
   have h5:sV false a=sV false b:=Std.LawfulEqCmp.eq_of_compare h4
   have h6:((V a:Nat):Int)=((V b:Nat):Int):=by simpa [sV] using h5
   exact V_inj (by omega)
theorem dc_zero:Tryz.zeroCells232=dcells (List.replicate 800 0) 0 0 false false:=by kernel_rfl
theorem dc_new (w:World):DcAt (w.alloc (.cells Tryz.zeroCells232 232)) w.heap.size (List.replicate 800 0) 0 0 false false:=
 ⟨List.length_replicate,fun c hc=>by rw [List.mem_replicate] at hc;omega,by rw [dc_zero];exact heap_alloc_new w _⟩
theorem fb_all (g:Nat) (L D:List Nat) (k P z:Nat) (E:Int) (w0 w:World) (hz:z=1074) (hP:P=2^z) (hD:Ds D k) (hE1: -400≤E) (hE2:E≤400) (hse:SEnv w0) (hg0:w0.heap.size≤g) (h:DcAt w g L (min k 800) E false ((D.drop 800).any fun c=>c !=48)) (hL:∀u,u<min k 800→L.getD u 0=D.getD u 0) (hb0:Below w0.heap.size w0 w):
  Calls Tryz.prog 155 #[.pointer (some ⟨g,0,none⟩),.pointer (some ⟨8,0,none⟩)] w (fun e w'=>∃(R:Nat) (ov:Bool),Dec P (dvn D) (E-k) R∧e= .returned (.tuple #[.int .u64 (R:Int),.bool ov])∧w.grownBy w' (some g)):=by
 have hk:=hD.pos
 by_cases h1:310<E
 ·refine (fb_over g L (min k 800) E _ w h (by omega) h1 (hse.below hb0)).mono ?_
  rintro e w' ⟨rfl,n,rfl⟩
  exact ⟨9218868437227405312,true,dec_great hz hP hD.lo hD.pos (by omega),rfl,grown_dr (grown_refl w _) n⟩
 ·by_cases h2:E< -330
  ·refine (fb_under g L (min k 800) E _ w h (by omega) h2 (hse.below hb0)).mono ?_
   rintro e w' ⟨rfl,n,rfl⟩
   exact ⟨0,false,dec_tiny hz hP hD.hi (by omega),rfl,grown_dr (grown_refl w _) n⟩
  ·obtain ⟨S,hS⟩:∃S:Nat,S=5000+k:=⟨_,rfl⟩
   obtain ⟨B,hB⟩:∃B:Nat,(0<E∧B=60)∨(E≤0∧B=1100):=by
    by_cases hE0:0<E
    ·exact ⟨60,.inl ⟨hE0,rfl⟩⟩
    ·exact ⟨1100,.inr ⟨by omega,rfl⟩⟩
   obtain ⟨hdg,hap⟩:=set_start (S:=S) (B:=B) (E:=E) hD h.len hL (by omega) (by omega) (by omega)
   have hm:=fb_main g L (min k 800) _ B S P z E _ w0 w hz hP ⟨h,hdg,by omega,hap⟩ (by omega) (by omega) (by omega) hB hse hb0 hg0
   refine hm.mono ?_
   rintro e w' ⟨R,ov,he,hN,hg⟩
   refine ⟨R,ov,(dec_scale (S:=S) (by omega)).2 ?_,he,hg⟩
   rw [show (S:Int)+(E-k)=(S:Int)+E-k by omega]
   exact hN
set_option maxRecDepth 100000 in
set_option maxHeartbeats 4000000 in
theorem atof_long (s:ByteArray) (P z k:Nat) (D:List Nat) (E:Int) (hz:z=1074) (hP:P=2^z) (w:World) (h0:0<s.size) (h1:(s[0]'h0).toNat=48) (hD:Ds D k) (hE1: -400≤E) (hE2:E≤400) (ho:OptAt w) (hi:InfoAt w) (h7:PowAt w) (hsz:14<w.heap.size) (hse:SEnv w)
  (hp1: -345≤E-19) (hp2:E-19≤310) (ht:rfTr D=true)
  (hr:Calls Tryz.prog 148 #[.string s] w fun e w'=>e= .returned (.tuple #[.int .u64 (rfM D:Int),.int .i64 (E-19),.bool false,.bool true,.bool false,.int .i64 (s.size:Int),.bool true])∧w'=w)
  (hst:∀(g:Nat) (L0:List Nat) (W:World),DcAt W g L0 0 0 false false→Calls Tryz.prog 154 #[.pointer (some ⟨g,0,none⟩),.string s] W (SetPost g D k E W)):
  Calls Tryz.prog 138 #[.string s] w (PgPost P D k E s.size w):=by
 have HS:=Lib.hid (special_any s w h0 h1)
 have HR:=Lib.hid hr
 have hk19:=rfTr_len ht
 rw [hD.len] at hk19
 obtain ⟨hd,hd2⟩:=rfM_bd' hD
 have HF:=Lib.hid (fun (R:Nat) (hN:Dec P (rfM D) (E-19) R) (hN2:Dec P (rfM D+1) (E-19) R)=>dec_mid hD (by omega) (by omega) hN hN2)
 obtain ⟨d,hde⟩:∃d,rfM D=d:=⟨_,rfl⟩
 rw [hde] at HR hd hd2 HF
 obtain ⟨p,hpe⟩:∃p,E-19=p:=⟨_,rfl⟩
 rw [hpe] at HR hp1 hp2 HF
 have hPz:P=2^1074:=by rw [hP,hz]
 obtain ⟨i,hip⟩:∃i:Nat,p=(i:Int)-348:=⟨(p+348).toNat,by omega⟩
 have hpn:∀x:Nat,0<x→x<18446744073709551616→∀W:World,Below w.heap.size w W→Calls Tryz.prog 159 #[.int .u64 (x:Int),.int .i64 p,.int .u64 0] W (fun e w'=>∃R v,Dec P x p R∧R≤9218868437227405312∧Hid (v=Value.nilIface∨v=erng)∧e= .returned (.tuple #[.float .f64 R,v])∧Below W.heap.size W w'):=fun x hx1 hx2 W hW=>by
  have hh:=parse64_any x i W hx1 hx2 (by omega) (h7.below hW hsz) (Nat.lt_of_lt_of_le hsz hW.size)
  rw [←hip] at hh
  refine hh.mono ?_
  rintro e w' ⟨R,hR,he,hb⟩
  have:=dec_p64 P x i R hPz hR
  rw [←hip] at this
  refine ⟨R,_,this,hR.1,Lib.hid ?_,he,hb⟩
  split
  ·exact .inl rfl
  ·exact .inr rfl
 have HP1:=Lib.hid (hpn d hd (by omega))
 have HP2:=Lib.hid (hpn (d+1) (by omega) (by omega))
 have hdz:((d:Int)==0)=false:=beq_false_of_ne (by omega)
 have q1:decide (p>310)=false:=decide_eq_false (by omega)
 have q2:decide (310<p)=false:=decide_eq_false (by omega)
 have q3:decide (p< -345)=false:=decide_eq_false (by omega)
 have hd3:d<10000000000000000000:=hd2
 have HST:=Lib.hid hst
 have HSE:=Lib.hid hse
 have HDs:=Lib.hid hD
 have HZ:=Lib.hid hz
 have HPp:=Lib.hid hP
 have HE:=Lib.hid (And.intro hE1 hE2)
 unfold OptAt at ho
 clear hr hpn hip hi h7 hz hP hPz hD hE1 hE2 hp1 hp2 hd hd2 hde hpe ht hst hse hk19
 go_enter Tryz.func138,Tryz.ntmps138
 go_wp2_with fail
 refine (HS.out).mono ?_
 rintro e w2 ⟨rfl,rfl⟩
 go_wp2_with fail
 refine (HR.out).mono ?_
 rintro e w2 ⟨rfl,rfl⟩
 go_wp2_with fail
 refine (b2u_ff _).mono ?_
 rintro e w3 ⟨rfl,rfl⟩
 go_wp2_with fail
 refine (HP1.out _ (Below.refl _ _)).mono ?_
 rintro e w5 ⟨R1,v1,hN1,hR1,HV1,rfl,hb1⟩
 have HB1:=Lib.hid hb1
 clear hb1
 go_wp2_with fail
 refine (HP2.out _ HB1.out).mono ?_
 rintro e w6 ⟨R2,v2,hN2,hR2,HV2,rfl,hb2⟩
 have HB2:=Lib.hid (HB1.out.trans (hb2.mono HB1.out.size))
 clear hb2
 have HEq:=Lib.hid (order_eq_of hR1 hR2)
 obtain ⟨b,hb⟩:∃b:Bool,(FloatKind.f64.format.order R1 R2==some .eq)=b:=⟨_,rfl⟩
 rw [hb] at HEq
 have HN1:=Lib.hid hN1
 have HN2:=Lib.hid hN2
 clear hN1 hN2 hR1 hR2
 cases b
 ·clear HEq
  have hDN:=dc_new w6
  have hnz:w6.heap.size<(w6.alloc (.cells Tryz.zeroCells232 232)).heap.size:=by simp
  have hb6:Below w6.heap.size w6 (w6.alloc (.cells Tryz.zeroCells232 232)):=(Below.refl _ _).alloc (Nat.le_refl _) _
  have HDN:=Lib.hid hDN
  have HB6:=Lib.hid (HB2.out.trans (hb6.mono HB2.out.size))
  have HG6:=Lib.hid HB2.out.size
  clear hDN hb6
  go_wp2_with fail
  refine (HST.out _ _ _ HDN.out).mono ?_
  rintro e w7 ⟨rfl,L',hD7,hL7,hg7⟩
  have HD7:=Lib.hid hD7
  have HL7:=Lib.hid hL7
  have HB7:=Lib.hid (grown_below HB6.out hg7 HG6.out)
  clear hD7 hL7 hg7 hnz HDN HB6 HST
  generalize w6.heap.size=g at*
  have HFB:=Lib.hid (fun W L'=>fb_all g L' D k P z E w2 W HZ.out HPp.out HDs.out HE.out.1 HE.out.2 HSE.out HG6.out)
  go_wp2_with fail
  refine (HFB.out w7 _ HD7.out HL7.out HB7.out).mono ?_
  rintro e w8 ⟨R,ov,hN,rfl,hg8⟩
  have HN8:=Lib.hid hN
  have HB8:=Lib.hid (grown_below HB7.out hg8 HG6.out)
  clear hN hg8 HFB HD7 HL7
  go_wp2_with fail
  rw [run_ffb]
  cases ov
  ·go_wp2_with fail
   go_ret3
   exact ⟨_,_,HN8.out,.inl rfl,rfl,HB8.out⟩
  ·go_wp2_with fail
   go_ret3
   exact ⟨_,_,HN8.out,.inr rfl,rfl,HB8.out⟩
 ·have hRR:=HEq.out rfl
  have hN:=HF.out R1 HN1.out (by rw [hRR];exact HN2.out)
  clear hRR HEq
  go_wp2_with fail
  go_ret3
  exact ⟨_,_,hN,HV1.out,rfl,HB2.out⟩
end Go.Proofs.YtjhhdnnblcbdbaaGreatDoor.dcm
end
section
namespace Go.Proofs.YtjhhdnnblcbdbaaGreatDoor.dcm
open Go.RowKit mem fl big us uw pg
set_option linter.unusedVariables false
def ErAt (w:World):Prop:=∃(tp:TypeId) (p:Value) (t:TypeId) (fr:Nat×Nat),w.heap[4]? =some (.cells #[.iface tp p] t fr)
theorem erAt_below {w w':World} (h:ErAt w) (hb:Below w.heap.size w w'):ErAt w':=by
 obtain ⟨tp,p,t,fr,h1⟩:=h
 exact ⟨tp,p,t,fr,(hb.block _ (Array.getElem?_eq_some_iff.1 h1).1).trans h1⟩
theorem erAt_cell {w:World} (h:ErAt w):∃ev,w.cell? ⟨4,0,none⟩=some ev∧(ev= .nilIface∨∃te pe,ev= .iface te pe):=by
 obtain ⟨tp,p,t,fr,h1⟩:=h
 exact ⟨.iface tp p,by simp [World.cell?,h1],.inr ⟨tp,p,rfl⟩⟩
theorem glob_er:Tryz.prog.globalNamed "strconv.ErrRange" =some 4:=by kernel_rfl
theorem erAt_var {w:World} (h:ErAt w):∃tp p,w.var? Tryz.prog "strconv.ErrRange" =some #[.iface tp p]:=by
 obtain ⟨tp,p,t,fr,h1⟩:=h
 exact ⟨tp,p,by simp [World.var?,glob_er,h1]⟩
structure REnv (w:World):Prop where
 ne:NEnv w
 se:SEnv w
 er:ErAt w
theorem REnv.below {w w':World} (h:REnv w) (hb:Below w.heap.size w w'):REnv w':=⟨h.ne.below hb,h.se.below hb,erAt_below h.er hb⟩
def PqPost (P:Nat) (D:List Nat) (k:Nat) (E:Int) (w:World) (e:Ending) (w':World):Prop:=∃(R:Nat) (v:Value),Dec P (dvn D) (E-k) R∧e= .returned (.tuple #[.float .f64 R,v])∧Below w.heap.size w w'
theorem prefix_all (s:ByteArray) (P k:Nat) (D:List Nat) (E:Int) (w:World) (hx:Calls Tryz.prog 138 #[.string s] w (PgPost P D k E s.size w)):
  Calls Tryz.prog 122 #[.string s,.int .i64 64] w (PgPost P D k E s.size w):=by
 have HX:=Lib.hid hx
 clear hx
 go_enter Tryz.func122,Tryz.ntmps122
 go_wp2_with fail
 refine (HX.out).mono ?_
 rintro e w2 ⟨R,v,hR,hv,rfl,hb⟩
 have HV:=Lib.hid hv
 clear hv
 go_wp2_with fail
 go_ret3
 exact ⟨R,v,hR,HV.out,rfl,hb⟩
theorem inner_all (s:ByteArray) (P k:Nat) (D:List Nat) (E:Int) (w:World) (hx:Calls Tryz.prog 138 #[.string s] w (PgPost P D k E s.size w)):
  Calls Tryz.prog 98 #[.string s,.int .i64 64] w fun e w'=>∃(R:Nat) (v:Value),Dec P (dvn D) (E-k) R∧(v= .nilIface∨v=erng)∧e= .returned (.tuple #[.float .f64 R,v])∧Below w.heap.size w w':=by
 have HX:=Lib.hid (prefix_all s P k D E w hx)
 have z:((s.size:Int) !=s.size)=false:=by simp
 clear hx
 go_enter Tryz.func98,Tryz.ntmps98
 go_wp2_with fail
 refine (HX.out).mono ?_
 rintro e w2 ⟨R,v,hR,hv,rfl,hb⟩
 have HV:=Lib.hid hv
 clear hv
 go_wp2_with fail
 go_ret2
 exact ⟨R,v,hR,HV.out,rfl,hb⟩
set_option maxRecDepth 100000 in
set_option maxHeartbeats 4000000 in
theorem parse_all (s:ByteArray) (P k:Nat) (D:List Nat) (E:Int) (w:World) (hs:s.size≤2000000) (her:ErAt w) (hx:Calls Tryz.prog 138 #[.string s] w (PgPost P D k E s.size w)):
  Calls Tryz.prog 66 #[.string s,.int .i64 64] w (PqPost P D k E w):=by
 have HX:=Lib.hid (inner_all s P k D E w hx)
 have HE:=Lib.hid her
 have HSz:=Lib.hid hs
 clear hx her hs
 go_enter Tryz.func66,Tryz.ntmps66
 go_wp2_with fail
 refine (HX.out).mono ?_
 rintro e w2 ⟨R,v,hR,hv,rfl,hb⟩
 have HB:=Lib.hid hb
 clear hb
 rcases hv with rfl | rfl
 ·go_wp2_with fail
  go_ret2
  exact ⟨R,_,hR,rfl,HB.out⟩
 ·obtain ⟨ev,h1,h2⟩:=erAt_cell (erAt_below HE.out HB.out)
  have HT:=Lib.hid (shelfe.strconv_toError_range ⟨#[80,97,114,115,101,70,108,111,97,116]⟩ s 0 64 ev w2 (by have:=HSz.out;omega) h1 h2)
  clear h1 h2
  unfold erng
  go_wp2_with fail
  refine (HT.out).mono ?_
  rintro e w3 ⟨N,rfl,hN1,hN2,hb3⟩
  have HB3:=Lib.hid (HB.out.trans (hb3.mono HB.out.size))
  clear hN1 hN2 hb3 HT
  go_wp2_with fail
  go_ret2
  exact ⟨R,_,hR,rfl,HB3.out⟩
end Go.Proofs.YtjhhdnnblcbdbaaGreatDoor.dcm
end
