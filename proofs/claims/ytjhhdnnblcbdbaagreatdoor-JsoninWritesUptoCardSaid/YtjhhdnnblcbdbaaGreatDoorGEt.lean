/- IsNaN, Abs, IsInf, Signbit, walked, of a float by its sign and its rung. The program's noughts and WholeText, the reference's noughts, walked; the text that both lay. PLAIN LEAN: what split makes of a float's text in the form d.ddde+dd. -/
import Derived.Test.YtjhhdnnblcbdbaaGreatDoorGRb
import Derived.Test.YtjhhdnnblcbdbaaGreatDoorYUw
import Derived.Test.YtjhhdnnblcbdbaaGreatDoorGDl
import Derived.Test.YtjhhdnnblcbdbaaGreatDoorGDig
import Derived.Test.YtjhhdnnblcbdbaaGreatDoorShelf
import Derived.Test.YtjhhdnnblcbdbaaGreatDoorGSq
import Derived.Test.YtjhhdnnblcbdbaaGreatDoorGEf
section
namespace Go.Proofs.YtjhhdnnblcbdbaaGreatDoor.pg
open Go.RowKit mem fl big
set_option linter.unusedVariables false
theorem run_f64bits (x:Nat) (w:World):(callFunc 39 #[.float .f64 x]).run Tryz.prog w= .ok (.value (.int .u64 x)) w:=by kernel_rfl
theorem run_f64from (x:Nat) (w:World):(callFunc 97 #[.int .u64 (x:Int)]).run Tryz.prog w= .ok (.value (.float .f64 x)) w:=by kernel_rfl
theorem isNaN_any (s:Bool) (a:Nat) (w:World) (ha:a<9223372036854775808):Calls Tryz.prog 38 #[.float .f64 (a+sgn s)] w fun e w'=>e= .returned (.bool (decide (9218868437227405312<a)))∧w=w':=by
 have hn:(FloatKind.f64.format.order (a+sgn s) (a+sgn s) !=some Ordering.eq)=decide (9218868437227405312<a):=by
  by_cases h:9218868437227405312<a
  ·rw [show FloatKind.f64.format.order (a+sgn s) (a+sgn s)=none from order_nan s s a a ha h _,decide_eq_true h]
   rfl
  ·rw [show FloatKind.f64.format.order (a+sgn s) (a+sgn s)=some .eq from order_self s a (by omega),decide_eq_false h]
   rfl
 have HN:=Lib.hid hn
 clear hn
 generalize a+sgn s=x at*
 go_enter Tryz.func38,Tryz.ntmps38
 go_wp2_with fail
 go_ret
 exact ⟨by rw [←HN.out];rfl,rfl⟩
theorem clear_sign (s:Bool) (a:Nat) (ha:a<9223372036854775808):bits .andNot .u64 ((a+sgn s:Nat):Int) 9223372036854775808=(a:Int):=by
 have h1:=u64_andNot_nat (a+sgn s) 9223372036854775808 (by unfold sgn;split <;> omega) (by decide)
 rw [show (18446744073709551615-9223372036854775808:Nat)=2^63-1 by decide,Nat.and_two_pow_sub_one_eq_mod] at h1
 have h2:=h1
 rw [show (2:Nat)^63=9223372036854775808 by decide] at h2
 rw [show ((9223372036854775808:Nat):Int)=9223372036854775808 from rfl] at h2
 rw [h2]
 congr 1
 unfold sgn
 split <;> omega
set_option maxRecDepth 100000 in
theorem abs_any (s:Bool) (a:Nat) (w:World) (ha:a<9223372036854775808):Calls Tryz.prog 69 #[.float .f64 (a+sgn s)] w fun e w'=>e= .returned (.float .f64 a)∧w=w':=by
 have hc:=clear_sign s a ha
 generalize a+sgn s=x at*
 go_enter Tryz.func69,Tryz.ntmps69
 go_wp2_with fail
 rw [run_f64bits]
 go_wp2_with fail
 rw [run_f64from]
 go_wp2_with fail
 go_ret
 exact ⟨rfl,rfl⟩
theorem isInf_any (s:Bool) (a:Nat) (w:World) (ha:a≤9218868437227405312):Calls Tryz.prog 37 #[.float .f64 (a+sgn s),.int .i64 0] w fun e w'=>e= .returned (.bool (decide (a=9218868437227405312)))∧w=w':=by
 have ho:(FloatKind.f64.format.order a 9218868437227405311==some Ordering.gt)=decide (a=9218868437227405312):=by
  by_cases h:a=9218868437227405312
  ·subst h
   have:=order_inf_num false false 9218868437227405311 (by decide)
   rw [show FloatKind.f64.format.order 9218868437227405312 9218868437227405311=some .gt from this]
   rfl
  ·have h1:=order_num false false a 9218868437227405311 (by omega) (by decide)
   have e:sV false a≤sV false 9218868437227405311:=by
    unfold sV
    have:=V_le (show a≤9218868437227405311 by omega)
    simp
    omega
   rw [show FloatKind.f64.format.order a 9218868437227405311=some (compare (sV false a) (sV false 9218868437227405311)) from h1,decide_eq_false h]
   generalize sV false a=x at*
   generalize sV false 9218868437227405311=y at*
   by_cases hx:x<y
   ·have:compare x y= .lt:=by simp [compare,compareOfLessAndEq,hx]
    rw [this];rfl
   ·have hxy:x=y:=by omega
    subst hxy
    have:compare x x= .eq:=by simp [compare,compareOfLessAndEq]
    rw [this];rfl
 have HA:=Lib.hid (abs_any s a w (by omega))
 have HO:=Lib.hid ho
 clear ho
 generalize a+sgn s=x at*
 go_enter Tryz.func37,Tryz.ntmps37
 go_wp2_with fail
 refine HA.out.mono ?_
 rintro e w2 ⟨rfl,rfl⟩
 go_wp2_with fail
 go_ret
 exact ⟨by rw [←HO.out];rfl,rfl⟩
set_option maxRecDepth 100000 in
theorem signbit_any (s:Bool) (a:Nat) (w:World) (ha:a<9223372036854775808):Calls Tryz.prog 106 #[.float .f64 (a+sgn s)] w fun e w'=>e= .returned (.bool s)∧w=w':=by
 cases s
 ·have hw:IntKind.i64.wrap ((a+sgn false:Nat):Int)=(a:Int):=by rw [show sgn false=0 from rfl,IntKind.wrap_i64];omega
  generalize a+sgn false=x at*
  go_enter Tryz.func106,Tryz.ntmps106
  go_wp2_with fail
  rw [run_f64bits]
  go_wp2_with fail
  go_ret
  exact ⟨rfl,rfl⟩
 ·have hw:IntKind.i64.wrap ((a+sgn true:Nat):Int)=(a:Int)-9223372036854775808:=by rw [show sgn true=9223372036854775808 from rfl,IntKind.wrap_i64];omega
  have hd:decide ((a:Int)-9223372036854775808<0)=true:=decide_eq_true (by omega)
  generalize a+sgn true=x at*
  go_enter Tryz.func106,Tryz.ntmps106
  go_wp2_with fail
  rw [run_f64bits]
  go_wp2_with fail
  go_ret
  exact ⟨rfl,rfl⟩
end Go.Proofs.YtjhhdnnblcbdbaaGreatDoor.pg
end
section
namespace Go.Proofs.YtjhhdnnblcbdbaaGreatDoor.pg
open Go.RowKit mem fl big
set_option linter.unusedVariables false
theorem made_zero8 (n:Nat):(madeCells (Value.int IntKind.u8 0).cells (n*1)).toList=ns (List.replicate n 0):=by
 rw [Nat.mul_one]
 show (madeCells #[_] n).toList=_
 simp [madeCells,ns,List.eq_replicate_iff]
 intro a _
 rw [Nat.mod_one]
 rfl
def nq (i n:Nat):List Nat:=List.replicate i 48++List.replicate (n-i) 0
theorem nq_length (i n:Nat) (h:i≤n):(nq i n).length=n:=by simp [nq];omega
theorem nq_get (i n k:Nat):(nq i n).getD k 0=if k<i then 48 else 0:=by
 unfold nq
 rw [List.getD_eq_getElem?_getD,List.getElem?_append]
 simp only [List.length_replicate,List.getElem?_replicate]
 by_cases hk:k<i
 ·rw [if_pos hk,if_pos hk,if_pos hk];rfl
 ·rw [if_neg hk,if_neg hk]
  split <;> rfl
theorem nq_step (i n:Nat) (h:i<n):(nq i n).set i 48=nq (i+1) n:=by
 refine getD_ext (by rw [List.length_set,nq_length _ _ (by omega),nq_length _ _ (by omega)]) fun k hk=>?_
 rw [getD_set _ _ _ _ (by rw [nq_length _ _ (by omega)];exact h),nq_get,nq_get]
 by_cases hk:k=i
 ·rw [if_pos hk,if_pos (by omega)]
 ·rw [if_neg hk]
  by_cases hk2:k<i
  ·rw [if_pos hk2,if_pos (by omega)]
  ·rw [if_neg hk2,if_neg (by omega)]
def StPost (l:List Nat) (w:World) (e:Ending) (w':World):Prop:=e= .returned (.string (strN l))∧Below w.heap.size w w'
set_option maxRecDepth 100000 in
theorem noughts_any (n:Nat) (w:World) (hn:n≤100000):Calls Tryz.prog 129 #[.int .i64 (n:Int)] w (StPost (List.replicate n 48) w):=by
 obtain ⟨iv,hiv,hv0,hv1,hv2⟩:=info_parts infoB
 go_enter Tryz.func129,Tryz.ntmps129
 go_wp2_with (refine wpList_make_full _ rfl (.tmp 5) (.tmp 5) 22 rfl w.heap.size 5 iv _ 1 Tryz.underlying22 hiv hv0 hv1 .i64 .i64 (n:Int) (n:Int) n rfl rfl (by simp) (by simp) (by rw [hv2];omega) (by unfold maxLen;omega) (Nat.le_refl _) ?_;intro w6 hown6 hgrow6)
 rw [made_zero8] at hown6
 have hb6:Below w.heap.size w w6:=(Below.refl _ _).grown hgrow6 (Nat.le_refl _) (fun k hk=>by cases hk)
 have hlt6:=hown6.lt _ rfl
 have HO6:=Lib.hid hown6
 have HB6:=Lib.hid hb6
 clear hown6 hgrow6 hb6
 go_wp2_with fail
 go_loopw [9] (fun v9 wr=>∃i:Nat,i≤n∧v9= .int .i64 (i:Int)∧w.heap.size<wr.heap.size∧Hid (wr.ownsRow w.heap.size 5 1 (.slice (some ⟨w.heap.size,0,none⟩) n n) n (ns (nq i n))∧Below w.heap.size w wr)) (fun v9 _=>n-(intOf v9).toNat)
 case atStart=>exact ⟨0,by omega,rfl,hlt6.2,Lib.hid ⟨by simpa [nq] using HO6.out,HB6.out⟩⟩
 case round=>
  clear HO6 HB6 hlt6
  obtain ⟨i,hi,rfl,hgl,hst⟩:=hrel
  obtain ⟨hown,hb⟩:=hst.out
  have HO:=Lib.hid hown
  have HBl:=Lib.hid hb
  clear hst hown hb
  by_cases hlt:i<n
  ·have hci:∃x:Nat,wr.cell? ⟨w.heap.size,i,none⟩=some (.int .u8 (x:Int)):=by
    exact ⟨_,by rw [World.ownsRow.cellAt HO.out i (by omega),ns_get (by rw [nq_length _ _ (by omega)];exact hlt)]⟩
   obtain ⟨x,hx⟩:=hci
   have hfi:=World.ownsRow.frozenAt HO.out i
   have hnx:(wr.setCell ⟨w.heap.size,i,none⟩ (.int .u8 48)).ownsRow w.heap.size 5 1 (.slice (some ⟨w.heap.size,0,none⟩) n n) n (ns (nq (i+1) n)):=by
    have h1:=(World.ownsRow.stored HO.out i (.int .u8 48)).1
    rw [show (Value.int IntKind.u8 48)= .int .u8 ((48:Nat):Int) from rfl,ns_set,nq_step i n hlt] at h1
    exact h1
   have HNx:=Lib.hid hnx
   have HNb:=Lib.hid (HBl.out.setCell (p:=⟨w.heap.size,i,none⟩) (Nat.le_refl _) (.int .u8 48))
   have hlt2:(i:Int)<(n:Int):=by omega
   clear hnx
   go_wp2_with fail
   exact ⟨⟨i+1,by omega,by simp,by simpa using hgl,Lib.hid ⟨HNx.out,HNb.out⟩⟩,by simp [intOf];omega⟩
  ·obtain rfl:i=n:=by omega
   have hcv:=conv_bytes (w:=wr) (some ⟨w.heap.size,0,none⟩) (nq i i) i (Rd.of_own HO.out)
   rw [nq_length _ _ (by omega),show nq i i=List.replicate i 48 by simp [nq]] at hcv
   go_wp2_with fail
   go_ret
   exact ⟨rfl,HBl.out⟩
theorem itoa_eq (n:Int):(⟨(Lib.itoa n).toArray⟩:ByteArray)=strN (wtx n):=by
 have h:∀u:Nat,Lib.decDigits u=(dgs u).map UInt8.ofNat:=fun u=>by
  rw [Lib.decDigits_eq,uw.dgs_eq,List.map_map]
  rfl
 unfold strN wtx
 congr 2
 by_cases hn:n<0
 ·rw [if_pos hn]
  obtain ⟨k,rfl⟩:∃k:Nat,n= -(k:Int):=⟨(-n).toNat,by omega⟩
  rw [Lib.itoa_neg k (by omega),h]
  simp
 ·rw [if_neg hn]
  obtain ⟨k,rfl⟩:∃k:Nat,n=(k:Int):=⟨n.toNat,by omega⟩
  rw [Lib.itoa_nonneg,h]
  simp
theorem wholeT_any (n:Int) (w:World) (h1: -9223372036854775808≤n) (h2:n≤9223372036854775807) (htab:Lib.TabIs Tryz.prog w "internal/strconv.uint64pow10" .u64 Lib.pow10Tab):
  Calls Tryz.prog 23 #[.int .i64 n] w (StPost (wtx n) w):=by
 have H:=Lib.hid (shelf.strconv_FormatInt_10 n h1 h2 w htab)
 rw [itoa_eq] at H
 clear htab
 go_enter Tryz.func23,Tryz.ntmps23
 go_wp2_with fail
 refine H.out.mono ?_
 rintro e w2 ⟨rfl,k,os,rfl⟩
 have hb:=Lib.below_grow w.heap.size w (Nat.le_refl _) k os
 generalize Sort.grow (w.drewN k) os=w3 at*
 have HB:=Lib.hid hb
 clear hb
 go_wp2_with fail
 go_ret
 exact ⟨rfl,HB.out⟩
end Go.Proofs.YtjhhdnnblcbdbaaGreatDoor.pg
end
section
namespace Go.Proofs.YtjhhdnnblcbdbaaGreatDoor.pg
open Go.RowKit mem fl big uw
set_option linter.unusedVariables false
theorem dgs_head (q:Nat) (hq:0<q):∃c0 L2,dgs q=c0 :: L2∧49≤c0∧c0≤57:=by
 induction q using Nat.strongRecOn with
 | _ q ih=>
   by_cases h:q<10
   ·exact ⟨48+q % 10,[],dgs_small q h,by omega,by omega⟩
   ·obtain ⟨c0,L2,h1,h2,h3⟩:=ih (q/10) (by omega) (by omega)
    exact ⟨c0,L2++[48+q % 10],by rw [dgs_step q h,h1];rfl,h2,h3⟩
theorem sp_tail:∀(L:List Nat) (s:Ds),(∀c∈L,48≤c)→0<s.b.length→s.bh=true→L.foldl spStep s={ s with b:=s.b++L}
 | [],s,_,_,_=>by simp
 | c :: L,s,hL,hb,ht=>by
   have hc:=hL c (by simp)
   have e:spStep s c={ s with b:=s.b++[c]}:=by
    unfold spStep
    rw [if_neg (by omega),if_neg (by omega),if_pos ht]
   have h:=sp_tail L ⟨s.b++[c],s.x,s.bh⟩ (fun d hd=>hL d (by simp [hd])) (by simp) ht
   rw [List.foldl_cons,e,h]
   simp
theorem pw_exA (E sg:Nat) (hE:E<1000) (hs:sg<48):pwF (sg :: exA E)=E:=by
 have e0:pwStep 0 sg=0:=by unfold pwStep;rw [if_neg (by omega)]
 have st:∀n d,d<10→n<1000→pwStep n (48+d)=n*10+d:=fun n d h1 h2=>by
  unfold pwStep
  rw [if_pos ⟨by omega,by omega⟩]
  omega
 unfold pwF exA
 by_cases h1:E<10
 ·rw [if_pos h1]
  simp only [List.foldl_cons,List.foldl_nil]
  rw [e0,show pwStep 0 48=0 from rfl,st 0 E h1 (by omega)]
  omega
 ·rw [if_neg h1]
  by_cases h2:E<100
  ·rw [if_pos h2]
   simp only [List.foldl_cons,List.foldl_nil]
   rw [e0,st 0 (E/10) (by omega) (by omega),st _ (E % 10) (by omega) (by omega)]
   omega
  ·rw [if_neg h2]
   simp only [List.foldl_cons,List.foldl_nil]
   rw [e0,st 0 (E/100) (by omega) (by omega),st _ (E/10 % 10) (by omega) (by omega),st _ (E % 10) (by omega) (by omega)]
   omega
def eM (L:List Nat):List Nat:=L.take 1++(if 1<L.length then 46 :: L.drop 1 else [])
theorem eTxt_eq (L:List Nat) (x:Int):eTxt L x=eM L++101 :: (if x<0 then 45 else 43) :: exA x.natAbs:=by
 unfold eTxt eM
 simp
theorem eM_chars {L:List Nat} (hL:∀c∈L,48≤c∧c≤57):∀c∈eM L,46≤c∧c≤57:=by
 intro c hc
 unfold eM at hc
 rcases List.mem_append.1 hc with h | h
 ·have:=hL c (List.mem_of_mem_take h)
  omega
 ·split at h
  ·rcases List.mem_cons.1 h with h | h
   ·omega
   ·have:=hL c (List.mem_of_mem_drop h)
    omega
  ·simp at h
theorem eM_sp {c0:Nat} {L2:List Nat} (h1:49≤c0) (h2:∀c∈L2,48≤c):∃bh,spF (eM (c0 :: L2))=⟨c0 :: L2,1,bh⟩:=by
 have s1:spStep ⟨[],0,false⟩ c0=⟨[c0],1,false⟩:=by
  unfold spStep
  rw [if_neg (by omega),if_neg (by omega)]
  rfl
 unfold eM
 cases L2 with
 | nil=>
   refine ⟨false,?_⟩
   show spF [c0]=_
   unfold spF
   rw [List.foldl_cons,List.foldl_nil,s1]
 | cons d L3=>
   refine ⟨true,?_⟩
   rw [if_pos (by simp)]
   show spF (c0 :: 46 :: d :: L3)=_
   unfold spF
   rw [List.foldl_cons,s1,List.foldl_cons,show spStep ⟨[c0],1,false⟩ 46=⟨[c0],1,true⟩ from rfl,sp_tail _ _ h2 (by simp) rfl]
   rfl
theorem isE_lo {c:Nat} (h:c≤57):(!isE c)=true:=by
 unfold isE
 rw [beq_false_of_ne (by omega),beq_false_of_ne (by omega)]
 rfl
theorem exA_len (e:Nat):2≤(exA e).length∧(exA e).length≤3:=by
 unfold exA
 split
 ·simp
 ·split <;> simp
theorem et_split (q:Nat) (x:Int) (hq:0<q) (hx1: -999≤x) (hx2:x≤999):
  spB (eTxt (dgs q) x)=dgs q∧spX (eTxt (dgs q) x)=x+1∧(eTxt (dgs q) x).head?≠some 45:=by
 obtain ⟨c0,L2,hd,h1,h2⟩:=dgs_head q hq
 have hall:=dgs_bytes q
 rw [hd] at hall ⊢
 have hM:=eM_chars hall
 obtain ⟨bh,hsp⟩:=eM_sp (c0:=c0) (L2:=L2) h1 (fun c hc=>(hall c (by simp [hc])).1)
 have hh:(eTxt (c0 :: L2) x).head? =some c0:=by unfold eTxt;simp
 have hn:(eTxt (c0 :: L2) x).head?≠some 45:=by rw [hh];intro h;injection h with h;omega
 have hs:st0 (eTxt (c0 :: L2) x)=0:=by unfold st0;rw [if_neg hn]
 have hM2:spM (eTxt (c0 :: L2) x)=eM (c0 :: L2):=by
  unfold spM
  rw [hs,List.drop_zero,eTxt_eq,List.takeWhile_append_of_pos (fun c hc=>isE_lo (hM c hc).2)]
  simp [isE]
 have hR2:spR (eTxt (c0 :: L2) x)=101 :: (if x<0 then 45 else 43) :: exA x.natAbs:=by
  unfold spR
  rw [hs,List.drop_zero,eTxt_eq,List.dropWhile_append_of_pos (fun c hc=>isE_lo (hM c hc).2)]
  simp [isE]
 refine ⟨by unfold spB;rw [hM2,hsp],?_,hn⟩
 unfold spX
 rw [hM2,hsp,hR2]
 simp only [List.length_cons,List.drop_succ_cons,List.drop_zero]
 rw [if_neg (by omega)]
 unfold pwV
 by_cases h0:x<0
 ·rw [if_pos h0,pw_exA _ 45 (by omega) (by decide),List.head?_cons,if_pos rfl]
  omega
 ·rw [if_neg h0,pw_exA _ 43 (by omega) (by decide),if_neg (by simp)]
  omega
theorem exA_dig {e:Nat} (h:e<1000):∀c∈exA e,c≤57:=by
 intro c hc
 unfold exA at hc
 split at hc
 ·simp at hc;omega
 ·split at hc
  ·simp at hc;omega
  ·simp at hc;omega
theorem et_e (q:Nat) (x:Int) (hx1: -999≤x) (hx2:x≤999):∀k,k<(eTxt (dgs q) x).length→isE ((eTxt (dgs q) x).getD k 0)=true→k+1<(eTxt (dgs q) x).length:=by
 intro k hk he
 have hl:=exA_len x.natAbs
 rw [eTxt_eq] at hk he ⊢
 have hM:=eM_chars (dgs_bytes q)
 simp only [List.length_append,List.length_cons] at hk ⊢
 by_cases h1:k<(eM (dgs q)).length
 ·omega
 ·by_cases h2:k=(eM (dgs q)).length
  ·omega
  ·by_cases h3:k=(eM (dgs q)).length+1
   ·omega
   ·exfalso
    rw [List.getD_eq_getElem?_getD,List.getElem?_append_right (by omega)] at he
    obtain ⟨i,hi⟩:∃i,k-(eM (dgs q)).length=i+2:=⟨k-(eM (dgs q)).length-2,by omega⟩
    rw [hi] at he
    simp only [List.getElem?_cons_succ] at he
    have hex:∀c∈exA x.natAbs,isE c=true→False:=by
     intro c hc h9
     have h8:=isE_lo (exA_dig (by omega) c hc)
     rw [h9] at h8
     cases h8
    have hil:i<(exA x.natAbs).length:=by omega
    rw [List.getElem?_eq_getElem hil] at he
    exact hex _ (List.getElem_mem hil) he
theorem et_lt (q:Nat) (x:Int) (hx1: -999≤x) (hx2:x≤999):∀c∈eTxt (dgs q) x,c<256:=by
 intro c hc
 rw [eTxt_eq] at hc
 rcases List.mem_append.1 hc with h | h
 ·have:=eM_chars (dgs_bytes q) c h;omega
 ·rcases List.mem_cons.1 h with h | h
  ·omega
  ·rcases List.mem_cons.1 h with h | h
   ·split at h <;> omega
   ·have:=exA_dig (by omega) c h;omega
theorem et_len (q:Nat) (x:Int):(eTxt (dgs q) x).length≤(dgs q).length+10:=by
 have hl:=exA_len x.natAbs
 rw [eTxt_eq]
 unfold eM
 simp only [List.length_append,List.length_cons,List.length_take]
 split
 ·simp only [List.length_cons,List.length_drop];omega
 ·simp only [List.length_nil];omega
end Go.Proofs.YtjhhdnnblcbdbaaGreatDoor.pg
end
