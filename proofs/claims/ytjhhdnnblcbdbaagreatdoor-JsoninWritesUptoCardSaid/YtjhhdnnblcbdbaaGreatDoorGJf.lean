/- Four digits of base sixteen. Printed by gen_je.py. The bytes of one character. -/
import Derived.Test.YtjhhdnnblcbdbaaGreatDoorGJu
import Derived.Test.YtjhhdnnblcbdbaaGreatDoorGJc
import Derived.DataElems
import Derived.Deep.CutRange
section
namespace Go.Proofs.YtjhhdnnblcbdbaaGreatDoor.jw
open Go.RowKit mem val jp
set_option linter.unusedVariables false
set_option linter.unusedSectionVars false
section
variable {F:Nf} {w0:World} {g:Nat} {A:Option Addr} {n:Nat} {src:List Nat} (HC:Cx F w0 g A n src) {c:Nat} {o dp:Int}
include HC
set_option maxRecDepth 100000 in
set_option maxHeartbeats 1600000 in
theorem digitsL (w:World) (p:Nat) (hb:Below w0.heap.size w0 w) (hr:Rdr w g A n c (p:Int) o dp) (hp:p≤n):
  Calls Tryz.prog 109 #[.pointer (some ⟨g,0,none⟩),.func (.func 111) #[] #[]] w (Pst g A n c (fun _=>o) dp RN p (digs mayL (src.drop p)) w):=by
 have hn:=HC.le
 have HB:=Lib.hid hb
 have HR:=Lib.hid hr
 have HC':=Lib.hid HC
 have HM:=Lib.hid mayL_any
 go_enter Tryz.func109,Tryz.ntmps109
 go_wp2_with fail
 go_loopw [5,6,9] (fun v5 v6 v9 wr=>∃(i q:Nat) (a f:Int),v5= .int .i64 a∧v6= .int .i64 f∧v9= .int .i64 (i:Int)∧i≤4∧q≤n∧Hid (Rdr wr g A n c (q:Int) o dp)∧Hid (Kp g w.heap.size w wr)∧Hid (q=p+i)∧Hid (0≤a∧a<16^i)∧Hid (-1≤f∧f<16)∧Hid (digs mayL (src.drop p)=(digK mayL (4-i) a f (src.drop q)).sh i)) (fun _ _ v9 wr=>4-(intOf v9).toNat)
 case atStart=>exact ⟨0,p,0,-1,rfl,rfl,rfl,by omega,hp,HR,Lib.hid (Kp.refl _ _ _),Lib.hid rfl,Lib.hid (by decide),Lib.hid (by decide),Lib.hid (by rw [sh_zero];rfl)⟩
 case round=>
  clear HR hr hb hp
  obtain ⟨i,q,a,f,rfl,rfl,rfl,hi,hq,HRq,HK,HQ,HA,HFb,HE⟩:=hrel
  obtain ⟨c0,c1,c2,c3⟩:=HRq.out.cells
  have f1:=HRq.out.frozen 1
  have HBr:=Lib.hid (below_kp HC'.out HB.out HK.out)
  by_cases h4:i=4
  ·have HE2:Hid (digs mayL (src.drop p)= .ok a 4):=Lib.hid (by rw [HE.out,h4];rfl)
   have ha:0≤a∧a<65536:=by have:=HA.out;rw [h4] at this;simpa using this
   have hge:¬((i:Int)<4):=by omega
   have HQ2:Hid (q=p+4):=Lib.hid (by rw [←h4];exact HQ.out)
   have hlo:=ha.1
   have hhi:=ha.2
   have hw:IntKind.i32.wrap a=a:=by rw [IntKind.wrap_i32];omega
   clear h4 hi HE HA HFb HQ
   go_wp2_with fail
   go_ret
   rw [HE2.out]
   exact ⟨HK.out,_,rfl,⟨rfl,hlo,hhi⟩,by rw [←HQ2.out];exact HRq.out⟩
  ·obtain ⟨k,hk⟩:∃k,4-i=k+1:=⟨3-i,by omega⟩
   have hE:=HE.out
   rw [hk] at hE
   have hlt4:(i:Int)<4:=by omega
   have hdc:=digit_cases (fun d=>if k=3 then mayL d (-1) else if k=2 then mayL f d else true) (src.drop q)
   have HEs:=Lib.hid hE
   have hK:=fun (d:Int) (h:digit (fun d=>if k=3 then mayL d (-1) else if k=2 then mayL f d else true) (src.drop q)= .ok d 1)=>show digs mayL (src.drop p)=(digK mayL k (a*16+d) (if k=3 then d else f) (src.drop (q+1))).sh (i+1) by
    rw [HEs.out,digK,bnd_okr h,sh_sh,List.drop_drop]
   have hKe:=fun (h:digit (fun d=>if k=3 then mayL d (-1) else if k=2 then mayL f d else true) (src.drop q)= .er 0 50)=>show digs mayL (src.drop p)= .er i 50 by
    rw [HEs.out,digK,bnd_err h];rfl
   clear hE HE HEs
   rw [head_drop] at hdc
   by_cases hlt:q<n
   ·obtain ⟨ad,rfl,hab,hcp⟩:=HC'.out.at_ HBr.out hlt
    have h256:=HC'.out.lt256 q
    have hlt':(q:Int)<(n:Int):=by omega
    have hne:src.drop q≠[]:=drop_ne.2 (by rw [HC'.out.len];exact hlt)
    obtain ⟨y,hy⟩:∃y:Nat,src.getD q 0=y:=⟨_,rfl⟩
    rw [hy] at hcp hdc h256
    have hyb:=hx_lt (y:Int)
    have HH:=Lib.hid (fun w=>hex_any (y:Int) (by omega) (by omega) w)
    obtain ⟨d,hd⟩:∃d,hx (y:Int)=d:=⟨_,rfl⟩
    rw [hd] at hdc hyb HH
    have hcv:IntKind.i32.wrap (y:Int)=(y:Int):=by rw [IntKind.wrap_i32];omega
    clear hy hd
    by_cases hd0:d<0
    ·have HE2:Hid (digs mayL (src.drop p)= .er i 50):=Lib.hid (by
      rcases hdc with ⟨_,h,_⟩ | ⟨_,h⟩
      ·omega
      ·exact hKe h)
     clear hdc hK hKe hne HA HFb
     go_wp2_with fail
     go_quiet (fail)
     go_wp2_with fail
     go_quiet (first | (go_at_call 130;exact quiet_add HH.out))
     go_wp2_with fail
     refine (stop_any _ q (HRq.out.drewN _)).mono ?_
     rintro e w' ⟨rfl,rfl⟩
     unfold flt
     go_wp2_with fail
     rw [HE2.out]
     exact ⟨rfl,HK.out.sm ⟨rfl,rfl,rfl,rfl⟩,flt_at (by have:=HQ.out;omega)⟩
    ·have hdp:decide (d<0)=false:=by simpa using hd0
     have hdn:0≤d:=by omega
     have hd16:=hyb.1
     have ha:=HA.out
     rcases (show i=0∨i=1∨i=2∨i=3 by omega) with rfl | rfl | rfl | rfl
     ·obtain rfl:k=3:=by omega
      simp only [reduceIte,Nat.reduceEqDiff] at hdc hK hKe
      simp only [Int.reducePow] at ha
      cases ht:mayL d (-1) with
      | true=>
        have HT:=Lib.hid (fun w=>HM.out d (-1) w)
        rw [ht] at HT
        have HE2:Hid (digs mayL (src.drop p)=(digK mayL (4-(0+1)) (a*16+d) d (src.drop (q+1))).sh (0+1)):=Lib.hid (by
         rcases hdc with ⟨_,_,_,h⟩ | ⟨h,_⟩
         ·exact hK d h
         ·exact absurd ⟨hne,hdn,ht⟩ h)
        have HA2:Hid (0≤a*16+d∧a*16+d<16^(0+1)):=Lib.hid (by simp only [Nat.reduceAdd,Int.reducePow];omega)
        have HF2:Hid (-1≤d∧d<16):=Lib.hid (by omega)
        have HF:=Lib.hid (And.intro (HRq.out.at_ ((q:Int)+1)) (HK.out.self ⟨g,1,none⟩ rfl (.int .i64 ((q:Int)+1))))
        clear hdc hK hKe hne HA HFb ht
        go_wp2_with fail
        go_quiet (fail)
        go_wp2_with fail
        go_quiet (first | (go_at_call 130;exact quiet_add HH.out))
        go_wp2_with (go_at_call 111;refine (HT.out _).mono ?_;rintro e w' ⟨rfl,rfl⟩)
        exact ⟨⟨0+1,q+1,_,_,rfl,rfl,by simp,by omega,by omega,Lib.hid (Sm.rdr ⟨rfl,rfl,rfl,rfl⟩ HF.out.1),Lib.hid (HF.out.2.sm ⟨rfl,rfl,rfl,rfl⟩),Lib.hid (by have:=HQ.out;omega),HA2,HF2,HE2⟩,by simp [intOf]⟩
      | false=>
        have HT:=Lib.hid (fun w=>HM.out d (-1) w)
        rw [ht] at HT
        have HE2:Hid (digs mayL (src.drop p)= .er 0 50):=Lib.hid (by
         rcases hdc with ⟨_,_,h,_⟩ | ⟨_,h⟩
         ·rw [ht] at h;cases h
         ·exact hKe h)
        clear hdc hK hKe hne HA HFb ht
        go_wp2_with fail
        go_quiet (fail)
        go_wp2_with fail
        go_quiet (first | (go_at_call 130;exact quiet_add HH.out))
        go_wp2_with (go_at_call 111;refine (HT.out _).mono ?_;rintro e w' ⟨rfl,rfl⟩)
        refine (stop_any _ q (HRq.out.drewN _)).mono ?_
        rintro e w' ⟨rfl,rfl⟩
        unfold flt
        go_wp2_with fail
        rw [HE2.out]
        exact ⟨rfl,HK.out.sm ⟨rfl,rfl,rfl,rfl⟩,flt_at (by have:=HQ.out;omega)⟩
     ·obtain rfl:k=2:=by omega
      simp only [reduceIte,Nat.reduceEqDiff] at hdc hK hKe
      simp only [Int.reducePow] at ha
      cases ht:mayL f d with
      | true=>
        have HT:=Lib.hid (fun w=>HM.out f d w)
        rw [ht] at HT
        have HE2:Hid (digs mayL (src.drop p)=(digK mayL (4-(1+1)) (a*16+d) f (src.drop (q+1))).sh (1+1)):=Lib.hid (by
         rcases hdc with ⟨_,_,_,h⟩ | ⟨h,_⟩
         ·exact hK d h
         ·exact absurd ⟨hne,hdn,ht⟩ h)
        have HA2:Hid (0≤a*16+d∧a*16+d<16^(1+1)):=Lib.hid (by simp only [Nat.reduceAdd,Int.reducePow];omega)
        have HF2:Hid (-1≤f∧f<16):=HFb
        have HF:=Lib.hid (And.intro (HRq.out.at_ ((q:Int)+1)) (HK.out.self ⟨g,1,none⟩ rfl (.int .i64 ((q:Int)+1))))
        clear hdc hK hKe hne HA HFb ht
        go_wp2_with fail
        go_quiet (fail)
        go_wp2_with fail
        go_quiet (first | (go_at_call 130;exact quiet_add HH.out))
        go_wp2_with (go_at_call 111;refine (HT.out _).mono ?_;rintro e w' ⟨rfl,rfl⟩)
        exact ⟨⟨1+1,q+1,_,_,rfl,rfl,by simp,by omega,by omega,Lib.hid (Sm.rdr ⟨rfl,rfl,rfl,rfl⟩ HF.out.1),Lib.hid (HF.out.2.sm ⟨rfl,rfl,rfl,rfl⟩),Lib.hid (by have:=HQ.out;omega),HA2,HF2,HE2⟩,by simp [intOf]⟩
      | false=>
        have HT:=Lib.hid (fun w=>HM.out f d w)
        rw [ht] at HT
        have HE2:Hid (digs mayL (src.drop p)= .er 1 50):=Lib.hid (by
         rcases hdc with ⟨_,_,h,_⟩ | ⟨_,h⟩
         ·rw [ht] at h;cases h
         ·exact hKe h)
        clear hdc hK hKe hne HA HFb ht
        go_wp2_with fail
        go_quiet (fail)
        go_wp2_with fail
        go_quiet (first | (go_at_call 130;exact quiet_add HH.out))
        go_wp2_with (go_at_call 111;refine (HT.out _).mono ?_;rintro e w' ⟨rfl,rfl⟩)
        refine (stop_any _ q (HRq.out.drewN _)).mono ?_
        rintro e w' ⟨rfl,rfl⟩
        unfold flt
        go_wp2_with fail
        rw [HE2.out]
        exact ⟨rfl,HK.out.sm ⟨rfl,rfl,rfl,rfl⟩,flt_at (by have:=HQ.out;omega)⟩
     ·obtain rfl:k=1:=by omega
      simp only [reduceIte,Nat.reduceEqDiff] at hdc hK hKe
      simp only [Int.reducePow] at ha
      have HE2:Hid (digs mayL (src.drop p)=(digK mayL (4-(2+1)) (a*16+d) f (src.drop (q+1))).sh (2+1)):=Lib.hid (by
       rcases hdc with ⟨_,_,_,h⟩ | ⟨h,_⟩
       ·exact hK d h
       ·exact absurd ⟨hne,hdn,trivial⟩ h)
      have HA2:Hid (0≤a*16+d∧a*16+d<16^(2+1)):=Lib.hid (by simp only [Nat.reduceAdd,Int.reducePow];omega)
      have HF2:Hid (-1≤f∧f<16):=HFb
      have HF:=Lib.hid (And.intro (HRq.out.at_ ((q:Int)+1)) (HK.out.self ⟨g,1,none⟩ rfl (.int .i64 ((q:Int)+1))))
      clear hdc hK hKe hne HA HFb
      go_wp2_with fail
      go_quiet (fail)
      go_wp2_with fail
      go_quiet (first | (go_at_call 130;exact quiet_add HH.out))
      go_wp2_with (fail)
      exact ⟨⟨2+1,q+1,_,_,rfl,rfl,by simp,by omega,by omega,Lib.hid (Sm.rdr ⟨rfl,rfl,rfl,rfl⟩ HF.out.1),Lib.hid (HF.out.2.sm ⟨rfl,rfl,rfl,rfl⟩),Lib.hid (by have:=HQ.out;omega),HA2,HF2,HE2⟩,by simp [intOf]⟩
     ·obtain rfl:k=0:=by omega
      simp only [reduceIte,Nat.reduceEqDiff] at hdc hK hKe
      simp only [Int.reducePow] at ha
      have HE2:Hid (digs mayL (src.drop p)=(digK mayL (4-(3+1)) (a*16+d) f (src.drop (q+1))).sh (3+1)):=Lib.hid (by
       rcases hdc with ⟨_,_,_,h⟩ | ⟨h,_⟩
       ·exact hK d h
       ·exact absurd ⟨hne,hdn,trivial⟩ h)
      have HA2:Hid (0≤a*16+d∧a*16+d<16^(3+1)):=Lib.hid (by simp only [Nat.reduceAdd,Int.reducePow];omega)
      have HF2:Hid (-1≤f∧f<16):=HFb
      have HF:=Lib.hid (And.intro (HRq.out.at_ ((q:Int)+1)) (HK.out.self ⟨g,1,none⟩ rfl (.int .i64 ((q:Int)+1))))
      clear hdc hK hKe hne HA HFb
      go_wp2_with fail
      go_quiet (fail)
      go_wp2_with fail
      go_quiet (first | (go_at_call 130;exact quiet_add HH.out))
      go_wp2_with (fail)
      exact ⟨⟨3+1,q+1,_,_,rfl,rfl,by simp,by omega,by omega,Lib.hid (Sm.rdr ⟨rfl,rfl,rfl,rfl⟩ HF.out.1),Lib.hid (HF.out.2.sm ⟨rfl,rfl,rfl,rfl⟩),Lib.hid (by have:=HQ.out;omega),HA2,HF2,HE2⟩,by simp [intOf]⟩
   ·have hge:decide ((q:Int)<(n:Int))=false:=by simp;omega
    have hge':¬((q:Int)<(n:Int)):=by omega
    have HE2:Hid (digs mayL (src.drop p)= .er i 50):=Lib.hid (by
     rcases hdc with ⟨h,_⟩ | ⟨_,h⟩
     ·exact absurd (drop_ne.1 h) (by rw [HC'.out.len];exact hlt)
     ·exact hKe h)
    clear hdc hK hKe hlt HA HFb
    go_wp2_with fail
    go_quiet (fail)
    go_wp2_with fail
    refine (stop_any _ q (HRq.out.drewN _)).mono ?_
    rintro e w' ⟨rfl,rfl⟩
    unfold flt
    go_wp2_with fail
    rw [HE2.out]
    exact ⟨rfl,HK.out.sm ⟨rfl,rfl,rfl,rfl⟩,flt_at (by have:=HQ.out;omega)⟩
end
end Go.Proofs.YtjhhdnnblcbdbaaGreatDoor.jw
end
section
namespace Go.Proofs.YtjhhdnnblcbdbaaGreatDoor.jw
open Go.RowKit mem val jp
set_option linter.unusedVariables false
set_option linter.unusedSectionVars false
def cE:Nat→Nat→Nat→List Nat→Option Nat
 | 0,_,_,_=>none
 | m+1,lo,hi,l=>match l with
   | x :: r=>if lo≤x∧x≤hi then (cE m 128 191 r).map (·+1) else some 0
   | []=>some 0
theorem conts_cE:∀(m lo hi:Nat) (l:List Nat),(cE m lo hi l=none→m≤l.length)∧conts m lo hi l=(match cE m lo hi l with | none=> .ok (l.take m) m | some k=> .er k 50)
 | 0,_,_,l=>⟨fun _=>Nat.zero_le _,rfl⟩
 | m+1,lo,hi,[]=>⟨fun h=>by simp [cE] at h,rfl⟩
 | m+1,lo,hi,x :: r=>by
   obtain ⟨h0,h1⟩:=conts_cE m 128 191 r
   by_cases h:lo≤x∧x≤hi
   ·have hs:sat (fun x=>if lo≤x∧x≤hi then some x else none) (x :: r)= .ok x 1:=by simp [sat,h]
    have hc:cE (m+1) lo hi (x :: r)=(cE m 128 191 r).map (·+1):=by simp only [cE];rw [if_pos h]
    rw [hc]
    constructor
    ·intro hn
     have:=h0 (by simpa using hn)
     simp only [List.length_cons];omega
    ·simp only [conts,bnd_okr hs,List.drop_succ_cons,List.drop_zero]
     cases he:cE m 128 191 r with
     | none=>
       rw [he] at h1
       rw [bnd_okr h1]
       simp [jp.ret,Rs.sh,Nat.add_comm]
     | some k=>
       rw [he] at h1
       rw [bnd_err h1]
       simp [Rs.sh,Nat.add_comm]
   ·have hs:sat (fun x=>if lo≤x∧x≤hi then some x else none) (x :: r)= .er 0 50:=by simp [sat,h]
    have hc:cE (m+1) lo hi (x :: r)=some 0:=by simp only [cE];rw [if_neg h]
    rw [hc]
    refine ⟨fun hn=>(by cases hn),?_⟩
    simp only [conts,bnd_err hs]
def RS (l:List Nat) (v:Value) (w:World):Prop:=∃(A':Option Addr) (c':Nat),v= .slice A' l.length c'∧Rd w w.heap.size A' (us l)∧(A'=none→l.length=0)
theorem us_get (l:List Nat) (j:Nat):(us l)[j]? =(l[j]?).map fun x:Nat=>Value.int .u8 (x:Int):=by
 unfold us
 rw [List.map_map,List.getElem?_map]
 rfl
theorem group_of {src:List Nat} {p m lo hi:Nat} (hp:p<src.length) (hc:cls (src.getD p 0)=some (m,lo,hi)):
  group (src.drop p)=(match cE m lo hi (src.drop (p+1)) with | none=> .ok ((src.drop p).take (m+1)) (m+1) | some k=> .er (1+k) 50):=by
 rw [drop_one src p hp]
 have hs:sat (fun c=>(cls c).map fun t=>(c,t)) (src.getD p 0 :: src.drop (p+1))= .ok (src.getD p 0,m,lo,hi) 1:=by simp only [sat,hc];rfl
 unfold group
 rw [bnd_okr hs]
 simp only [List.drop_succ_cons,List.drop_zero]
 have h1:=(conts_cE m lo hi (src.drop (p+1))).2
 cases he:cE m lo hi (src.drop (p+1)) with
 | none=>
   rw [he] at h1
   rw [bnd_okr h1]
   simp [jp.ret,Rs.sh,Nat.add_comm]
 | some k=>
   rw [he] at h1
   rw [bnd_err h1]
   simp [Rs.sh]
theorem group_bad {src:List Nat} {p:Nat} (hp:p<src.length) (hc:cls (src.getD p 0)=none):group (src.drop p)= .er 0 50:=by
 rw [drop_one src p hp]
 have hs:sat (fun c=>(cls c).map fun t=>(c,t)) (src.getD p 0 :: src.drop (p+1))= .er 0 50:=by simp only [sat,hc];rfl
 unfold group
 rw [bnd_err hs]
section
variable {F:Nf} {w0:World} {g:Nat} {A:Option Addr} {n:Nat} {src:List Nat} (HC:Cx F w0 g A n src) {c:Nat} {o dp:Int}
include HC
theorem RS_of {w:World} {ad:Addr} (hA:A=some ad) (hb:Below w0.heap.size w0 w) {p k:Nat} (h:p+k≤n) (c':Nat):RS ((src.drop p).take k) (.slice (some (ad.add p)) k c') w:=by
 have hl:((src.drop p).take k).length=k:=by rw [List.length_take,List.length_drop,HC.len];omega
 refine ⟨some (ad.add p),c',by rw [hl],fun j u hu=>?_,fun h=>by cases h⟩
 rw [us_get] at hu
 have hj:j<k:=by
  rcases Nat.lt_or_ge j k with h | h
  ·exact h
  ·rw [List.getElem?_eq_none (by omega)] at hu;cases hu
 obtain ⟨ad',e,hbl,hcell⟩:=HC.at_ hb (p:=p+j) (by omega)
 rw [hA] at e
 obtain rfl:=Option.some.inj e
 have hx:((src.drop p).take k)[j]? =some (src.getD (p+j) 0):=by
  rw [List.getElem?_take,if_pos hj,List.getElem?_drop,List.getD_eq_getElem?_getD,List.getElem?_eq_getElem (by rw [HC.len];omega)]
  rfl
 rw [hx] at hu
 simp only [Option.map_some,Option.some.injEq] at hu
 subst hu
 refine ⟨_,rfl,?_,?_⟩
 ·rw [add_block]
  exact Nat.lt_of_lt_of_le hbl hb.size
 ·rw [show (ad.add p).add j=ad.add (p+j) from Addr.add_add _ _ _]
  exact hcell
set_option maxRecDepth 100000 in
set_option maxHeartbeats 1600000 in
theorem group_any (hnc:n≤c) (w:World) (p:Nat) (hb:Below w0.heap.size w0 w) (hr:Rdr w g A n c (p:Int) o dp) (hp:p<n):
  Calls Tryz.prog 80 #[.pointer (some ⟨g,0,none⟩)] w (Pst g A n c (fun _=>o) dp RS p (group (src.drop p)) w):=by
 have hn:=HC.le
 have HB:=Lib.hid hb
 have HR:=Lib.hid hr
 have HC':=Lib.hid HC
 obtain ⟨c0,c1,c2,c3⟩:=hr.cells
 have f1:=hr.frozen 1
 obtain ⟨ad,rfl,hab,hcp⟩:=HC.at_ hb hp
 have h256:=HC.lt256 p
 have hlt':(p:Int)<(n:Int):=by omega
 have hps:p<src.length:=by rw [HC.len];exact hp
 have HGo:=Lib.hid (fun (m lo hi:Nat) (h:cls (src.getD p 0)=some (m,lo,hi))=>group_of hps h)
 have HGb:=Lib.hid (fun (h:cls (src.getD p 0)=none)=>group_bad hps h)
 obtain ⟨y,hy⟩:∃y:Nat,src.getD p 0=y:=⟨_,rfl⟩
 rw [hy] at hcp h256 HGo HGb
 have HP:=Lib.hid hps
 clear hps hb hr hy
 go_enter Tryz.func80,Tryz.ntmps80
 go_wp2_with fail
 go_quiet (fail)
 go_upto_region 3 with (fail)
 go_cut [5,6,7] from 22 to 55 (fun u5 u6 u7 wx=>u5= .int .u8 128∧u6= .int .u8 191∧u7= .int .i64 0∧wx=w.drewN nq)
 case first=>
  go_wp2_with fail
  go_meet
  exact ⟨rfl,rfl,rfl,rfl⟩
 obtain ⟨rfl,rfl,rfl,rfl⟩:=hcut
 go_step
 go_step
 go_cut [5,6,7] from 22 to 55 (fun u5 u6 u7 wx=>∃m lo hi:Nat,u5= .int .u8 (lo:Int)∧u6= .int .u8 (hi:Int)∧u7= .int .i64 (m:Int)∧m≤3∧hi<256∧lo<256∧Hid (cls y=some (m,lo,hi))∧wx=w.drewN nq)
 case first=>
  clear HB HC' HC hcp hab HGo HP hlt' hp hnc c0 c1 c2 c3 f1
  by_cases a1:y<128
  ·have b1:((y:Int)<128):=by omega
   have HE2:Hid (cls y=some (0,128,191)):=Lib.hid (by simp only [cls];repeat' first | rw [if_pos (by omega)] | rw [if_neg (by omega)])
   clear HGb
   go_wp2_with fail
   go_meet
   exact ⟨0,128,191,rfl,rfl,rfl,by omega,by omega,by omega,HE2,rfl⟩
  ·have b1:¬((y:Int)<128):=by omega
   by_cases a2:194≤y
   ·have b2:(194:Int)≤(y:Int):=by omega
    by_cases a3:y≤223
    ·have b3:(y:Int)≤223:=by omega
     have HE2:Hid (cls y=some (1,128,191)):=Lib.hid (by simp only [cls];repeat' first | rw [if_pos (by omega)] | rw [if_neg (by omega)])
     clear HGb
     go_wp2_with fail
     go_meet
     exact ⟨1,128,191,rfl,rfl,rfl,by omega,by omega,by omega,HE2,rfl⟩
    ·have b3:¬(y:Int)≤223:=by omega
     have b4:(224:Int)≤(y:Int):=by omega
     by_cases a5:y≤239
     ·have b5:(y:Int)≤239:=by omega
      by_cases a6:y=224
      ·have b6:((y:Int)==224)=true:=by simp;omega
       have b7:((y:Int)==237)=false:=by simp;omega
       have HE2:Hid (cls y=some (2,160,191)):=Lib.hid (by simp only [cls];repeat' first | rw [if_pos (by omega)] | rw [if_neg (by omega)])
       clear HGb
       go_wp2_with fail
       rw [show (224:Int)=(y:Int) by omega]
       go_meet
       exact ⟨2,160,191,rfl,rfl,rfl,by omega,by omega,by omega,HE2,rfl⟩
      ·have b6:((y:Int)==224)=false:=by simp;omega
       by_cases a7:y=237
       ·have b7:((y:Int)==237)=true:=by simp;omega
        have HE2:Hid (cls y=some (2,128,159)):=Lib.hid (by simp only [cls];repeat' first | rw [if_pos (by omega)] | rw [if_neg (by omega)])
        clear HGb
        go_wp2_with fail
        rw [show (237:Int)=(y:Int) by omega]
        go_meet
        exact ⟨2,128,159,rfl,rfl,rfl,by omega,by omega,by omega,HE2,rfl⟩
       ·have b7:((y:Int)==237)=false:=by simp;omega
        have HE2:Hid (cls y=some (2,128,191)):=Lib.hid (by simp only [cls];repeat' first | rw [if_pos (by omega)] | rw [if_neg (by omega)])
        clear HGb
        go_wp2_with fail
        go_meet
        exact ⟨2,128,191,rfl,rfl,rfl,by omega,by omega,by omega,HE2,rfl⟩
     ·have b5:¬(y:Int)≤239:=by omega
      have b5':(240:Int)≤(y:Int):=by omega
      by_cases a6:y≤244
      ·have b6:(y:Int)≤244:=by omega
       by_cases a7:y=240
       ·have b7:((y:Int)==240)=true:=by simp;omega
        have b8:((y:Int)==244)=false:=by simp;omega
        have HE2:Hid (cls y=some (3,144,191)):=Lib.hid (by simp only [cls];repeat' first | rw [if_pos (by omega)] | rw [if_neg (by omega)])
        clear HGb
        go_wp2_with fail
        rw [show (240:Int)=(y:Int) by omega]
        go_meet
        exact ⟨3,144,191,rfl,rfl,rfl,by omega,by omega,by omega,HE2,rfl⟩
       ·have b7:((y:Int)==240)=false:=by simp;omega
        by_cases a8:y=244
        ·have b8:((y:Int)==244)=true:=by simp;omega
         have HE2:Hid (cls y=some (3,128,143)):=Lib.hid (by simp only [cls];repeat' first | rw [if_pos (by omega)] | rw [if_neg (by omega)])
         clear HGb
         go_wp2_with fail
         rw [show (244:Int)=(y:Int) by omega]
         go_meet
         exact ⟨3,128,143,rfl,rfl,rfl,by omega,by omega,by omega,HE2,rfl⟩
        ·have b8:((y:Int)==244)=false:=by simp;omega
         have HE2:Hid (cls y=some (3,128,191)):=Lib.hid (by simp only [cls];repeat' first | rw [if_pos (by omega)] | rw [if_neg (by omega)])
         clear HGb
         go_wp2_with fail
         go_meet
         exact ⟨3,128,191,rfl,rfl,rfl,by omega,by omega,by omega,HE2,rfl⟩
      ·have b6:¬(y:Int)≤244:=by omega
       have HE2:Hid (jp.group (src.drop p)= .er 0 50):=Lib.hid (HGb.out (by simp only [cls];repeat' first | rw [if_pos (by omega)] | rw [if_neg (by omega)]))
       clear HGb
       go_wp2_with fail
       refine (stop_any _ p (HR.out.drewN _)).mono ?_
       rintro e w' ⟨rfl,rfl⟩
       unfold flt
       go_wp2_with fail
       rw [HE2.out]
       exact ⟨rfl,(Kp.refl _ _ _).drewN _,rfl⟩
   ·have b2:¬(194:Int)≤(y:Int):=by omega
    have b4:¬(224:Int)≤(y:Int):=by omega
    have b5:¬(240:Int)≤(y:Int):=by omega
    have HE2:Hid (jp.group (src.drop p)= .er 0 50):=Lib.hid (HGb.out (by simp only [cls];repeat' first | rw [if_pos (by omega)] | rw [if_neg (by omega)]))
    clear HGb
    go_wp2_with fail
    refine (stop_any _ p (HR.out.drewN _)).mono ?_
    rintro e w' ⟨rfl,rfl⟩
    unfold flt
    go_wp2_with fail
    rw [HE2.out]
    exact ⟨rfl,(Kp.refl _ _ _).drewN _,rfl⟩
 obtain ⟨m,lo,hi,rfl,rfl,rfl,hm,hhi,hlo,HCls,rfl⟩:=hcut
 have HG:=Lib.hid (HGo.out m lo hi HCls.out)
 have HF:=Lib.hid (And.intro ((HR.out.drewN nq).at_ ((p:Int)+1)) (((Kp.refl g w.heap.size w).drewN nq).self ⟨g,1,none⟩ rfl (.int .i64 ((p:Int)+1))))
 clear HGo HGb HCls
 go_wp2_with fail
 generalize (w.drewN nq).setCell ⟨g,1,none⟩ (.int .i64 ((p:Int)+1))=w1 at*
 go_loopw [5,6,64] (fun v5 v6 v64 wr=>∃(i q lo' hi':Nat),v5= .int .u8 (lo':Int)∧v6= .int .u8 (hi':Int)∧v64= .int .i64 (i:Int)∧i≤m∧q≤n∧lo'<256∧hi'<256∧Hid (q=p+1+i)∧Hid (Rdr wr g (some ad) n c (q:Int) o dp)∧Hid (Kp g w.heap.size w wr)∧
  Hid (cE m lo hi (src.drop (p+1))=(cE (m-i) lo' hi' (src.drop q)).map (·+i))) (fun _ _ v64 wr=>m-(intOf v64).toNat)
 case atStart=>exact ⟨0,p+1,lo,hi,rfl,rfl,rfl,Nat.zero_le _,hp,hlo,hhi,Lib.hid rfl,Lib.hid (by simpa using HF.out.1),Lib.hid HF.out.2,Lib.hid (by cases cE m lo hi (src.drop (p+1)) <;> simp_all)⟩
 case round=>
  clear c0 c1 c2 c3 f1 HF
  obtain ⟨i,q,lo',hi',rfl,rfl,rfl,hi2,hq,hlo',hhi',HQ,HRq,HK,HE⟩:=hrel
  obtain ⟨c0,c1,c2,c3⟩:=HRq.out.cells
  have f1:=HRq.out.frozen 1
  have HBr:=Lib.hid (below_kp HC'.out HB.out HK.out)
  by_cases him:i<m
  ·have him':(i:Int)<(m:Int):=by omega
   obtain ⟨k,hk⟩:∃k,m-i=k+1:=⟨m-i-1,by omega⟩
   have hE:=HE.out
   rw [hk] at hE
   clear HE
   by_cases hlt:q<n
   ·obtain ⟨ad',e0,hab',hcq⟩:=HC'.out.at_ HBr.out hlt
    obtain rfl:=Option.some.inj e0
    clear e0
    rw [drop_one src q (by rw [HC'.out.len];exact hlt)] at hE
    have hx256:=HC'.out.lt256 q
    generalize src.getD q 0=x at*
    have hge:((q:Int)≥(n:Int))=False:=by simp;omega
    have hge':decide ((n:Int)≤(q:Int))=false:=by simp;omega
    have hlt':(q:Int)<(n:Int):=by omega
    have HEE:=Lib.hid hE
    clear hE
    by_cases h1:lo'≤x
    ·have d1:decide ((x:Int)<(lo':Int))=false:=by simp;omega
     by_cases h2:x≤hi'
     ·have d2:decide ((hi':Int)<(x:Int))=false:=by simp;omega
      have HE2:Hid (cE m lo hi (src.drop (p+1))=(cE (m-(i+1)) 128 191 (src.drop (q+1))).map (·+(i+1))):=Lib.hid (by
       rw [HEE.out]
       simp only [cE]
       rw [if_pos ⟨h1,h2⟩,show m-(i+1)=k by omega]
       cases cE k 128 191 (src.drop (q+1)) <;> simp;omega)
      have HF:=Lib.hid (And.intro (HRq.out.at_ ((q:Int)+1)) (HK.out.self ⟨g,1,none⟩ rfl (.int .i64 ((q:Int)+1))))
      clear HEE hk
      go_wp2_with fail
      go_quiet (fail)
      go_wp2_with fail
      exact ⟨⟨i+1,q+1,128,191,rfl,rfl,by simp,by omega,by omega,by omega,by omega,Lib.hid (by have:=HQ.out;omega),Lib.hid (Sm.rdr ⟨rfl,rfl,rfl,rfl⟩ HF.out.1),Lib.hid (HF.out.2.sm ⟨rfl,rfl,rfl,rfl⟩),HE2⟩,by simp [intOf];omega⟩
     ·have d2:decide ((hi':Int)<(x:Int))=true:=by simp;omega
      have HE2:Hid (cE m lo hi (src.drop (p+1))=some i):=Lib.hid (by
       rw [HEE.out]
       simp only [cE]
       rw [if_neg (fun h=>h2 h.2)]
       simp)
      clear HEE hk
      go_wp2_with fail
      go_quiet (fail)
      go_wp2_with fail
      refine (stop_any _ q (HRq.out.drewN _)).mono ?_
      rintro e w' ⟨rfl,rfl⟩
      unfold flt
      go_wp2_with fail
      rw [HG.out,HE2.out]
      exact ⟨rfl,HK.out.drewN _,flt_at (by have:=HQ.out;omega)⟩
    ·have d1:decide ((x:Int)<(lo':Int))=true:=by simp;omega
     have HE2:Hid (cE m lo hi (src.drop (p+1))=some i):=Lib.hid (by
      rw [HEE.out]
      simp only [cE]
      rw [if_neg (fun h=>h1 h.1)]
      simp)
     clear HEE hk
     go_wp2_with fail
     go_quiet (fail)
     go_wp2_with fail
     refine (stop_any _ q (HRq.out.drewN _)).mono ?_
     rintro e w' ⟨rfl,rfl⟩
     unfold flt
     go_wp2_with fail
     rw [HG.out,HE2.out]
     exact ⟨rfl,HK.out.drewN _,flt_at (by have:=HQ.out;omega)⟩
   ·have hge:((q:Int)≥(n:Int))=True:=by simp;omega
    have hge':decide ((n:Int)≤(q:Int))=true:=by simp;omega
    have HE2:Hid (cE m lo hi (src.drop (p+1))=some i):=Lib.hid (by
     rw [hE,List.drop_eq_nil_of_le (by rw [HC'.out.len];omega)]
     simp [cE])
    clear hE hk hlt
    go_wp2_with fail
    go_quiet (fail)
    go_wp2_with fail
    refine (stop_any _ q (HRq.out.drewN _)).mono ?_
    rintro e w' ⟨rfl,rfl⟩
    unfold flt
    go_wp2_with fail
    rw [HG.out,HE2.out]
    exact ⟨rfl,HK.out.drewN _,flt_at (by have:=HQ.out;omega)⟩
  ·have hie:i=m:=by omega
   have him':¬(i:Int)<(m:Int):=by omega
   have HE2:Hid (cE m lo hi (src.drop (p+1))=none):=Lib.hid (by rw [HE.out,hie,Nat.sub_self];rfl)
   have HQ2:Hid (q=p+(m+1)):=Lib.hid (by have:=HQ.out;omega)
   have hpq:(p:Int)≤(q:Int):=by have:=HQ.out;omega
   have hqc:(q:Int)≤(c:Int):=by omega
   have hpq':p≤q:=by omega
   have hqc':q≤c:=by omega
   clear HE hie him
   go_wp2_with fail
   go_quiet (fail)
   go_wp2_with fail
   go_ret
   rw [HG.out,HE2.out]
   have hqp:q-p=m+1:=by have:=HQ2.out;omega
   refine ⟨HK.out.drewN _,_,rfl,?_,?_⟩
   ·show RS _ (.slice (some (ad.add p)) (q-p) (c-p)) _
    rw [hqp]
    exact RS_of HC'.out rfl (Sm.below ⟨rfl,rfl,rfl,rfl⟩ HBr.out) (by have:=HQ2.out;omega) _
   ·rw [←HQ2.out]
    exact HRq.out.drewN _
end
end Go.Proofs.YtjhhdnnblcbdbaaGreatDoor.jw
end
