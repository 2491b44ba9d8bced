/- Number texts, plain: the program's split and the reference's cut mean one number. Number texts, plain: the program's split and the reference's cut mean one number. -/
import Derived.Test.YtjhhdnnblcbdbaaGreatDoorGDgp
import Derived.Test.YtjhhdnnblcbdbaaGreatDoorGLa
section
namespace Go.Proofs.YtjhhdnnblcbdbaaGreatDoor.dcm
open Go.RowKit mem fl big us uw pg
set_option linter.unusedVariables false
set_option linter.unusedSimpArgs false
def Dig (c:Nat):Prop:=48≤c∧c≤57
def Mch (M:List Nat):Prop:=∀c∈M,c=46∨Dig c
def Esh (X:List Nat):Prop:=∃sg ds,X=sg++ds∧(sg=[]∨sg=[43]∨sg=[45])∧(∀c∈ds,Dig c)∧ds≠[]
def Rsh (R:List Nat):Prop:=R=[]∨∃e X,R=e :: X∧(e=101∨e=69)∧Esh X
theorem fm9 (T:List Nat):pfx.fm (pfx.adv 9 T)=0:=by rw [pfx.adv9];decide
theorem dig_iff (c:Nat):pfx.dig (c:Int)=true↔Dig c:=by
 unfold pfx.dig Dig
 simp only [Bool.and_eq_true,decide_eq_true_eq]
 omega
theorem dig8 (st:Int) (hs:st=7∨st=8):∀(T:List Nat),pfx.fm (pfx.adv st T)≠0→(∀c∈T,Dig c)∧(st=7→T≠[]):=by
 intro T
 induction T generalizing st with
 | nil=>
   intro h
   refine ⟨fun c hc=>absurd hc (by simp),fun h7=>?_⟩
   subst h7
   exact absurd rfl h
 | cons c T ih=>
   intro h
   rw [pfx.adv_cons] at h
   have h1:pfx.nx st (c:Int)=if pfx.dig (c:Int)=true then 8 else 9:=by
    rcases hs with rfl | rfl <;> simp [pfx.nx]
   rw [h1] at h
   split at h
   ·rename_i hd
    have:=(ih 8 (.inr rfl) h).1
    exact ⟨fun d hd2=>by rcases List.mem_cons.1 hd2 with rfl | hd2;exact (dig_iff _).1 hd;exact this d hd2,fun _=>by simp⟩
   ·exact absurd (fm9 T) h
theorem exp6 (T:List Nat) (h:pfx.fm (pfx.adv 6 T)≠0):Esh T:=by
 cases T with
 | nil=>exact absurd rfl h
 | cons c T=>
   rw [pfx.adv_cons] at h
   have h1:pfx.nx 6 (c:Int)=if pfx.dig (c:Int)=true then 8 else if (c:Int)=43∨(c:Int)=45 then 7 else 9:=by simp [pfx.nx]
   rw [h1] at h
   split at h
   ·rename_i hd
    have:=(dig8 8 (.inr rfl) T h).1
    exact ⟨[],c :: T,rfl,.inl rfl,fun d hd2=>by rcases List.mem_cons.1 hd2 with rfl | hd2;exact (dig_iff _).1 hd;exact this d hd2,by simp⟩
   ·split at h
    ·rename_i hc
     have:=dig8 7 (.inl rfl) T h
     refine ⟨[c],T,rfl,?_,this.1,this.2 rfl⟩
     rcases hc with hc | hc
     ·right;left;rw [show c=43 by omega]
     ·right;right;rw [show c=45 by omega]
    ·exact absurd (fm9 T) h
theorem shape:∀(T:List Nat) (st:Int),0≤st→st≤5→pfx.fm (pfx.adv st T)≠0→(st=0→T.head?≠some 45)→∃M R,T=M++R∧Mch M∧Rsh R:=by
 intro T
 induction T with
 | nil=>exact fun st _ _ _ _=>⟨[],[],rfl,fun c hc=>absurd hc (by simp),.inl rfl⟩
 | cons c T ih=>
   intro st hs0 hs5 h hh
   rw [pfx.adv_cons] at h
   have key:∀s':Int,pfx.nx st (c:Int)=s'→1≤s'→s'≤5→(c=46∨Dig c)→∃M R,c :: T=M++R∧Mch M∧Rsh R:=by
    intro s' h1 h2 h3 h4
    rw [h1] at h
    obtain ⟨M,R,e1,e2,e3⟩:=ih s' (by omega) h3 h (fun h0=>by omega)
    exact ⟨c :: M,R,by rw [e1];rfl,fun d hd=>by rcases List.mem_cons.1 hd with rfl | hd;exact h4;exact e2 d hd,e3⟩
   have keyE:pfx.nx st (c:Int)=6→(c=101∨c=69)→∃M R,c :: T=M++R∧Mch M∧Rsh R:=by
    intro h1 h2
    rw [h1] at h
    exact ⟨[],c :: T,rfl,fun d hd=>absurd hd (by simp),.inr ⟨c,T,rfl,h2,exp6 T h⟩⟩
   have key9:pfx.nx st (c:Int)=9→False:=fun h1=>by rw [h1] at h;exact h (fm9 T)
   obtain ⟨nv,hnv⟩:∃nv,pfx.nx st (c:Int)=nv:=⟨_,rfl⟩
   have hn:=hnv
   unfold pfx.nx at hn
   by_cases s01:st=0∨st=1
   ·rw [if_pos s01] at hn
    split at hn
    ·rename_i hc
     exact absurd (by simp;omega) (hh hc.2)
    ·split at hn
     ·exact key 2 (hnv.trans hn.symm) (by omega) (by omega) (.inr ⟨by omega,by omega⟩)
     ·split at hn
      ·rename_i hd
       exact key 3 (hnv.trans hn.symm) (by omega) (by omega) (.inr ((dig_iff c).1 hd))
      ·exact (key9 (hnv.trans hn.symm)).elim
   ·rw [if_neg s01] at hn
    by_cases s23:st=2∨st=3
    ·rw [if_pos s23] at hn
     split at hn
     ·rename_i hd
      exact key 3 (hnv.trans hn.symm) (by omega) (by omega) (.inr ((dig_iff c).1 hd.1))
     ·split at hn
      ·exact key 4 (hnv.trans hn.symm) (by omega) (by omega) (.inl (by omega))
      ·split at hn
       ·exact keyE (hnv.trans hn.symm) (by omega)
       ·exact (key9 (hnv.trans hn.symm)).elim
    ·rw [if_neg s23,if_pos (by omega)] at hn
     split at hn
     ·rename_i hd
      exact key 5 (hnv.trans hn.symm) (by omega) (by omega) (.inr ((dig_iff c).1 hd))
     ·split at hn
      ·exact keyE (hnv.trans hn.symm) (by omega)
      ·exact (key9 (hnv.trans hn.symm)).elim
theorem nt_shape {l:List Nat} (h:pfx.fm (pfx.adv 0 l)≠0):∃neg M R,l=(if neg=true then [45] else [])++(M++R)∧Mch M∧Rsh R∧decide (l.head? =some 45)=neg∧l.drop (st0 l)=M++R:=by
 by_cases hd:l.head? =some 45
 ·obtain ⟨T,rfl⟩:∃T,l=45 :: T:=by
   cases l with
   | nil=>simp at hd
   | cons c T=>simp at hd;exact ⟨T,by rw [hd]⟩
  rw [pfx.adv_sign] at h
  obtain ⟨M,R,e1,e2,e3⟩:=shape T 1 (by omega) (by omega) h (fun h0=>by omega)
  exact ⟨true,M,R,by rw [e1];rfl,e2,e3,by simp,by unfold st0;rw [if_pos hd,e1];rfl⟩
 ·obtain ⟨M,R,e1,e2,e3⟩:=shape l 0 (by omega) (by omega) h (fun _=>hd)
  exact ⟨false,M,R,by simpa using e1,e2,e3,by simp [hd],by unfold st0;rw [if_neg hd];simpa using e1⟩
theorem isE_dig {c:Nat} (h:c=46∨Dig c):isE c=false:=by
 unfold isE
 unfold Dig at h
 rw [Bool.or_eq_false_iff]
 exact ⟨beq_false_of_ne (by omega),beq_false_of_ne (by omega)⟩
theorem tw_split {M R:List Nat} (hM:Mch M) (hR:Rsh R):(M++R).takeWhile (fun c=>!isE c)=M∧(M++R).dropWhile (fun c=>!isE c)=R:=by
 induction M with
 | nil=>
   rcases hR with rfl | ⟨e,X,rfl,he,_⟩
   ·exact ⟨rfl,rfl⟩
   ·have h1:isE e=true:=by rcases he with rfl | rfl <;> rfl
    simp [h1]
 | cons c M ih=>
   have h1:=isE_dig (hM c (by simp))
   have ih:=ih (fun d hd=>hM d (by simp [hd]))
   simp only [List.cons_append,List.takeWhile_cons,List.dropWhile_cons,h1]
   simp only [Bool.not_false,if_true,ih.1,ih.2]
   exact ⟨trivial,trivial⟩
structure Rel (s:Cs) (d:pg.Ds):Prop where
 b:s.b=d.b.take 800
 more:s.more=((d.b.drop 800).any fun c=>c !=48)
 dot:s.dot=d.bh
 x:s.x=d.x-s.b.length
theorem sp_digs:∀(M:List Nat),Mch M→∀d:pg.Ds,((∀c∈d.b,Dig c)∧(d.b≠[]→d.b.getD 0 0≠48))→((∀c∈(M.foldl spStep d).b,Dig c)∧((M.foldl spStep d).b≠[]→(M.foldl spStep d).b.getD 0 0≠48))∧(M.foldl spStep d).b.length≤d.b.length+M.length∧((M.foldl spStep d).x-d.x≤M.length∧ -(M.length:Int)≤(M.foldl spStep d).x-d.x)
 | [],_,d,h=>⟨h,by simp,by simp⟩
 | c :: M,hM,d,h=>by
   have hc:=hM c (by simp)
   have hstep:((∀y∈(spStep d c).b,Dig y)∧((spStep d c).b≠[]→(spStep d c).b.getD 0 0≠48))∧(spStep d c).b.length≤d.b.length+1∧((spStep d c).x-d.x≤1∧ -1≤(spStep d c).x-d.x):=by
    by_cases h46:c=46
    ·have e:spStep d c={ d with bh:=true}:=by unfold spStep;rw [if_pos h46]
     rw [e]
     exact ⟨h,by simp,by simp⟩
    ·by_cases h48:c=48∧d.b.length=0
     ·have e:spStep d c=(if d.bh then { d with x:=d.x-1} else d):=by unfold spStep;rw [if_neg h46,if_pos h48]
      rw [e]
      cases d.bh
      ·exact ⟨h,by simp,by simp⟩
      ·exact ⟨h,by simp,by simp only [if_true];omega⟩
     ·have e:spStep d c={ d with b:=d.b++[c],x:=if d.bh then d.x else d.x+1}:=by unfold spStep;rw [if_neg h46,if_neg h48]
      rw [e]
      have hD:Dig c:=by rcases hc with hc | hc;exact absurd hc h46;exact hc
      refine ⟨⟨fun x hx=>?_,fun _=>?_⟩,by simp,?_⟩
      ·rcases List.mem_append.1 hx with hx | hx
       ·exact h.1 x hx
       ·simp at hx;rw [hx];exact hD
      ·cases hb:d.b with
       | nil=>
         simp only [List.nil_append]
         rw [hb] at h48
         simp at h48 ⊢
         exact h48
       | cons y ys=>
         have:=h.2 (by rw [hb];simp)
         rw [hb] at this
         simpa using this
      ·simp only
       split <;> omega
   obtain ⟨a1,a2,a3⟩:=hstep
   obtain ⟨b1,b2,b3⟩:=sp_digs M (fun d hd=>hM d (by simp [hd])) (spStep d c) a1
   refine ⟨b1,?_,?_⟩
   ·rw [List.foldl_cons,List.length_cons];omega
   ·rw [List.foldl_cons,List.length_cons];omega
end Go.Proofs.YtjhhdnnblcbdbaaGreatDoor.dcm
end
section
namespace Go.Proofs.YtjhhdnnblcbdbaaGreatDoor.dcm
open Go.RowKit mem fl big us uw pg
set_option linter.unusedVariables false
theorem dec_none {P x R:Nat} {e:Int} (h:x=0) (hR:Dec P x e R):R=0∧∀e',Dec P 0 e' 0:=by
 have h0:∀e',Dec P 0 e' 0:=fun e'=>by
  unfold Dec
  rw [Nat.zero_mul,Nat.zero_mul]
  exact big.near_zero (Nat.pow_pos (by decide)) (Nat.pow_pos (by decide))
 subst h
 exact ⟨dec_unique hR (h0 e),h0⟩
structure Sc (l:List Nat) (P R:Nat):Prop where
 neg:(cutF l).neg=decide (l.head? =some 45)
 dig:∀c∈spB l,48≤c∧c≤57
 head:spB l≠[]→(spB l).getD 0 0≠48
 len:(spB l).length≤l.length
 dec:Dec P (dvn (spB l)) (spX l-(spB l).length) R
end Go.Proofs.YtjhhdnnblcbdbaaGreatDoor.dcm
end
