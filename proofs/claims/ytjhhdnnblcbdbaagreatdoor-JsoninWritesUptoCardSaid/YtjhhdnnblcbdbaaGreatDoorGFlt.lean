/- The program's FloatText, walked: of a float above nought. The program's FloatText, walked: of any float. -/
import Derived.Test.YtjhhdnnblcbdbaaGreatDoorGEt
import Derived.Test.YtjhhdnnblcbdbaaGreatDoorGLa
import Derived.Test.YtjhhdnnblcbdbaaGreatDoorGFt
section
namespace Go.Proofs.YtjhhdnnblcbdbaaGreatDoor.pg
open Go.RowKit mem fl big uw sh
set_option linter.unusedVariables false
theorem dgs_last (q:Nat) (hq:q % 10≠0) (m:Nat) (hm:(dgs q).length=m+1):(dgs q).getD m 0≠48:=by
 by_cases h:q<10
 ·rw [dgs_small q h] at hm ⊢
  simp at hm
  subst hm
  simp
  omega
 ·rw [dgs_step q h] at hm ⊢
  rw [List.length_append] at hm
  have hm2:(dgs (q/10)).length=m:=by simpa using hm
  rw [List.getD_eq_getElem?_getD,List.getElem?_append_right (by omega),hm2]
  simp
  omega
def TxPost (a:Nat) (w:World) (e:Ending) (w':World):Prop:=∃(q:Nat) (y:Int),Cand a q y∧q % 10≠0∧Bd q y∧e= .returned (.string (strN (layT (dgs q) ((dgs q).length+y))))∧Below w.heap.size w w'
set_option maxRecDepth 100000 in
set_option maxHeartbeats 4000000 in
theorem text_pos (a:Nat) (w:World) (h0:0<a) (h1:a<9218868437227405312) (h7:PowAt w) (hsz:14<w.heap.size) (htab:Lib.TabIs Tryz.prog w "internal/strconv.uint64pow10" .u64 Lib.pow10Tab):
  Calls Tryz.prog 75 #[.float .f64 a] w (TxPost a w):=by
 have ea:a+sgn false=a:=rfl
 have H1:=Lib.hid (fun w=>isNaN_any false a w (by omega))
 have H2:=Lib.hid (fun w=>isInf_any false a w (by omega))
 have H3:=Lib.hid (fun w=>signbit_any false a w (by omega))
 rw [ea] at H1 H2 H3
 rw [decide_eq_false (show ¬9218868437227405312<a by omega)] at H1
 rw [decide_eq_false (show ¬a=9218868437227405312 by omega)] at H2
 have ho:(FloatKind.f64.format.order a 0==some Ordering.eq)=false:=by
  have h:=order_num false false a 0 h1 (by decide)
  rw [show FloatKind.f64.format.order a 0=some (compare (sV false a) (sV false 0)) from h]
  have e:sV false 0<sV false a:=by
   unfold sV
   have:=V_mono h0
   simp
   omega
  have:compare (sV false a) (sV false 0)= .gt:=by
   generalize sV false a=x at*
   generalize sV false 0=y at*
   simp [compare,compareOfLessAndEq]
   rw [if_neg (by omega),if_neg (by omega)]
  rw [this];rfl
 have HF:=Lib.hid (fun w' (hb:Below w.heap.size w w')=>fmt_any a w' h0 h1 (h7.below hb hsz) (by have:=hb.size;omega) (tab_below htab hb))
 have HT:=Lib.hid (fun w' (hb:Below w.heap.size w w')=>tab_below htab hb)
 clear h7 htab ea
 go_enter Tryz.func75,Tryz.ntmps75
 go_wp2_with fail
 refine (H1.out w).mono ?_
 rintro e w2 ⟨rfl,rfl⟩
 go_wp2_with fail
 refine (H2.out _).mono ?_
 rintro e w2 ⟨rfl,rfl⟩
 go_wp2_with fail
 refine (H3.out _).mono ?_
 rintro e w2 ⟨rfl,rfl⟩
 go_wp2_with fail
 refine (HF.out _ (Below.refl _ _)).mono ?_
 rintro e w3 ⟨q,y,hC,hq10,hbd,rfl,hb3⟩
 obtain ⟨y3,y2,y5,y6⟩:=hbd
 have HBd:Hid (Bd q y):=Lib.hid ⟨y3,y2,y5,y6⟩
 obtain ⟨x,hx⟩:∃x:Int,((dgs q).length:Int)+y-1=x:=⟨_,rfl⟩
 rw [hx]
 obtain ⟨es1,es2,es3⟩:=et_split q x y3 (by omega) (by omega)
 have hel:=et_len q x
 have hnt:nats (strN (eTxt (dgs q) x))=eTxt (dgs q) x:=nats_strN _ (fun c hc=>et_lt q x (by omega) (by omega) c hc)
 have HSp:=Lib.hid (split_pos (strN (eTxt (dgs q) x)) w3 (by rw [strN_size,eTxt_eq];simp;omega) (by rw [strN_size];omega) (by rw [hnt,strN_size];exact et_e q x (by omega) (by omega)) (by rw [hnt];exact es3))
 rw [hnt] at HSp
 unfold SpPost at HSp
 rw [es1,es2] at HSp
 have HC:=Lib.hid (And.intro hC hq10)
 have HB3:=Lib.hid hb3
 obtain ⟨T,hT⟩:∃T,strN (eTxt (dgs q) x)=T:=⟨_,rfl⟩
 rw [hT] at HSp ⊢
 have hdb:=Lib.hid (dgs_bytes q)
 have hls:=Lib.hid (dgs_last q hq10)
 have hl0:0<(dgs q).length:=by rw [dgs_length];exact Lib.nDigits_pos q
 have HX:=Lib.hid hx
 have hxb1: -600≤x:=by omega
 have hxb2:x≤600:=by omega
 obtain ⟨L,hL⟩:∃L,dgs q=L:=⟨_,rfl⟩
 rw [hL] at HSp hdb hls hl0 y2 y5 y6 HX
 have HL:=Lib.hid hL
 have hdec:decide ((eTxt L x).head? =some 45)=false:=decide_eq_false (by rw [←hL];exact es3)
 rw [hdec] at HSp
 clear hC hq10 hb3 es1 es2 es3 hel hnt hT hL hx hdec
 go_wp2_with fail
 refine HSp.out.mono ?_
 rintro e w4 ⟨A,c,rfl,hr,hb4⟩
 have hcv:(convert 22 9 (.slice A L.length c)).run Tryz.prog (w4.alloc (.cells #[.bool false,.slice A L.length c,.int .i64 (x+1)] 118))= .ok (.string (strN L)) (w4.alloc (.cells #[.bool false,.slice A L.length c,.int .i64 (x+1)] 118)):=
  conv_bytes A L c (hr.below ((Below.refl _ _).alloc (Nat.le_refl _) _))
 have hb5:Below w.heap.size w (w4.alloc (.cells #[.bool false,.slice A L.length c,.int .i64 (x+1)] 118)):=by
  have h1:=HB3.out.size
  have h2:=hb4.size
  exact (HB3.out.trans (hb4.mono h1)).alloc (by omega) _
 have hg5:=heap_alloc_new w4 (.cells #[.bool false,.slice A L.length c,.int .i64 (x+1)] 118)
 have m2:=blk_cell hg5 (i:=2) (by simp)
 simp only [List.getElem_toArray,List.getElem_cons_zero,List.getElem_cons_succ] at m2
 have hss:(strN L).size=L.length:=strN_size L
 have HLay:=Lib.hid (fun w' (hb:Below w.heap.size w w')=>lay_any L (x+1) w' hl0 (by omega) (by omega) (by omega) (HT.out w' hb))
 have hlst:∀(m:Nat) (h:m<(strN L).size),L.length=m+1→((strN L)[m]).toNat≠48:=by
  intro m h hm
  have h1:=nats_get (strN L) m h
  have h3:=nats_strN L (fun c hc=>by have:=hdb.out c hc;omega)
  have h2:=hls.out m hm
  rw [←h1]
  intro h4
  apply h2
  rw [List.getD_eq_getElem?_getD,List.getElem?_eq_getElem (by omega)]
  simp only [h3] at h4
  exact h4
 have HLst:=Lib.hid hlst
 have HB5:=Lib.hid hb5
 obtain ⟨n,hn⟩:∃n,L.length=n:=⟨_,rfl⟩
 obtain ⟨SL,hSL⟩:∃SL,strN L=SL:=⟨_,rfl⟩
 rw [hn] at hcv hg5 m2 hss hl0 y2 y5 y6 HLst HB5 HX ⊢
 rw [hSL] at hcv hss HLay HLst
 have HN:=Lib.hid hn
 clear hlst hb5 hb4 hr hn hSL hg5
 go_wp2_with fail
 obtain ⟨w6,hw6⟩:∃w6,w4.alloc (.cells #[.bool false,.slice A n c,.int .i64 (x+1)] 118)=w6:=⟨_,rfl⟩
 rw [hw6] at m2 HB5 ⊢
 clear hw6 hcv
 obtain ⟨m,hm⟩:∃m,n=m+1:=⟨n-1,by omega⟩
 subst hm
 go_loopw [5] (fun v5 wr=>v5= .string SL∧wr=w6) (fun _ _=>0)
 case atStart=>exact ⟨rfl,rfl⟩
 obtain ⟨rfl,rfl⟩:=hrel
 by_cases hm0:m=0
 ·subst hm0
  go_wp2_with fail
  refine (HLay.out _ HB5.out).mono ?_
  rintro e w7 ⟨rfl,hb7⟩
  have HB7:=Lib.hid (HB5.out.trans (hb7.mono HB5.out.size))
  clear hb7
  go_wp2_with fail
  go_ret
  refine ⟨q,y,HC.out.1,HC.out.2,HBd.out,?_,HB7.out⟩
  rw [HL.out,show ((L.length:Int)+y)=x+1 by have:=HX.out;have:=HN.out;omega]
  rfl
 ·have hge:m<SL.size:=by omega
  obtain ⟨ch,hch⟩:∃ch,(SL[m]).toNat=ch:=⟨_,rfl⟩
  have h48:((ch:Int)==48)=false:=beq_false_of_ne (by have:=HLst.out m hge rfl;omega)
  go_wp2_with fail
  refine (HLay.out _ HB5.out).mono ?_
  rintro e w7 ⟨rfl,hb7⟩
  have HB7:=Lib.hid (HB5.out.trans (hb7.mono HB5.out.size))
  clear hb7
  go_wp2_with fail
  go_ret
  refine ⟨q,y,HC.out.1,HC.out.2,HBd.out,?_,HB7.out⟩
  rw [HL.out,show ((L.length:Int)+y)=x+1 by have:=HX.out;have:=HN.out;omega]
  rfl
def TtPost (s:Bool) (a:Nat) (w:World) (e:Ending) (w':World):Prop:=Below w.heap.size w w'∧
 ((9218868437227405312≤a∧e= .returned (.string ⟨#[]⟩))∨(a=0∧e= .returned (.string (strN ((if s then [45] else [])++[48,46,48]))))∨
  (0<a∧a<9218868437227405312∧∃(q:Nat) (y:Int),Cand a q y∧q % 10≠0∧Bd q y∧e= .returned (.string (strN ((if s then [45] else [])++layT (dgs q) ((dgs q).length+y))))))
set_option maxRecDepth 100000 in
theorem text_zero (w:World):Calls Tryz.prog 75 #[.float .f64 0] w fun e w'=>e= .returned (.string ⟨#[48,46,48]⟩)∧w=w':=by
 have H1:=Lib.hid (fun w=>isNaN_any false 0 w (by omega))
 have H2:=Lib.hid (fun w=>isInf_any false 0 w (by omega))
 have H3:=Lib.hid (fun w=>signbit_any false 0 w (by omega))
 rw [show 0+sgn false=0 from rfl] at H1 H2 H3
 rw [decide_eq_false (show ¬9218868437227405312<0 by omega)] at H1
 rw [decide_eq_false (show ¬0=9218868437227405312 by omega)] at H2
 have ho:(FloatKind.f64.format.order 0 0==some Ordering.eq)=true:=by decide
 go_enter Tryz.func75,Tryz.ntmps75
 go_wp2_with fail
 refine (H1.out w).mono ?_
 rintro e w2 ⟨rfl,rfl⟩
 go_wp2_with fail
 refine (H2.out _).mono ?_
 rintro e w2 ⟨rfl,rfl⟩
 go_wp2_with fail
 refine (H3.out _).mono ?_
 rintro e w2 ⟨rfl,rfl⟩
 go_wp2_with fail
 go_ret
 exact ⟨rfl,rfl⟩
set_option maxRecDepth 100000 in
theorem text_none (s:Bool) (a:Nat) (w:World) (ha:a<9223372036854775808) (h:9218868437227405312≤a):Calls Tryz.prog 75 #[.float .f64 (a+sgn s)] w fun e w'=>e= .returned (.string ⟨#[]⟩)∧w=w':=by
 have H1:=Lib.hid (fun w=>isNaN_any s a w ha)
 by_cases hn:9218868437227405312<a
 ·rw [decide_eq_true hn] at H1
  generalize a+sgn s=x at*
  go_enter Tryz.func75,Tryz.ntmps75
  go_wp2_with fail
  refine (H1.out w).mono ?_
  rintro e w2 ⟨rfl,rfl⟩
  go_wp2_with fail
  go_ret
  exact ⟨rfl,rfl⟩
 ·rw [decide_eq_false hn] at H1
  have H2:=Lib.hid (fun w=>isInf_any s a w (by omega))
  rw [decide_eq_true (show a=9218868437227405312 by omega)] at H2
  generalize a+sgn s=x at*
  go_enter Tryz.func75,Tryz.ntmps75
  go_wp2_with fail
  refine (H1.out w).mono ?_
  rintro e w2 ⟨rfl,rfl⟩
  go_wp2_with fail
  refine (H2.out w).mono ?_
  rintro e w2 ⟨rfl,rfl⟩
  go_wp2_with fail
  go_ret
  exact ⟨rfl,rfl⟩
end Go.Proofs.YtjhhdnnblcbdbaaGreatDoor.pg
end
section
namespace Go.Proofs.YtjhhdnnblcbdbaaGreatDoor.pg
open Go.RowKit mem fl big uw sh
set_option linter.unusedVariables false
theorem xor_sign (a:Nat) (h:a<2^63):(a+2^63) ^^^ 2^63=a:=by
 have h0:=Nat.two_pow_add_eq_or_of_lt h 1
 rw [Nat.mul_one] at h0
 rw [Nat.add_comm,h0]
 apply Nat.eq_of_testBit_eq
 intro i
 rw [Nat.testBit_xor,Nat.testBit_or,Nat.testBit_two_pow]
 by_cases hi:63=i
 ·subst hi
  rw [Nat.testBit_lt_two_pow h]
  simp
 ·rw [decide_eq_false hi]
  simp
theorem run_neg (a:Nat) (w:World) (h:a<9223372036854775808):(Op.unary .neg (.float .f64 (a+sgn true))).run Tryz.prog w= .ok (.float .f64 a) w:=by
 have e:Op.negFloat .f64 (a+sgn true)=a:=xor_sign a h
 show Result.ok (Value.float .f64 (Op.negFloat .f64 (a+sgn true))) w=_
 rw [e]
set_option maxRecDepth 100000 in
theorem text_neg (a:Nat) (w:World) (h1:a<9218868437227405312) (R:ByteArray→World→Prop) (hS:∀S w',R S w'→S.size≤100000) (hT:Calls Tryz.prog 75 #[.float .f64 a] w fun e w'=>∃S,e= .returned (.string S)∧R S w'):
  Calls Tryz.prog 75 #[.float .f64 (a+sgn true)] w fun e w'=>∃S,e= .returned (.string (⟨#[45]⟩++S))∧R S w':=by
 have H1:=Lib.hid (fun w=>isNaN_any true a w (by omega))
 have H2:=Lib.hid (fun w=>isInf_any true a w (by omega))
 have H3:=Lib.hid (fun w=>signbit_any true a w (by omega))
 rw [decide_eq_false (show ¬9218868437227405312<a by omega)] at H1
 rw [decide_eq_false (show ¬a=9218868437227405312 by omega)] at H2
 have HT:=Lib.hid hT
 clear hT
 obtain ⟨x,hx⟩:∃x,a+sgn true=x:=⟨_,rfl⟩
 have HNg:=Lib.hid (fun w=>run_neg a w (by omega))
 rw [hx] at H1 H2 H3 HNg ⊢
 go_enter Tryz.func75,Tryz.ntmps75
 go_wp2_with fail
 refine (H1.out w).mono ?_
 rintro e w2 ⟨rfl,rfl⟩
 go_wp2_with fail
 refine (H2.out _).mono ?_
 rintro e w2 ⟨rfl,rfl⟩
 go_wp2_with fail
 refine (H3.out _).mono ?_
 rintro e w2 ⟨rfl,rfl⟩
 go_wp2_with fail
 rw [HNg.out]
 go_wp2_with fail
 refine (HT.out).mono ?_
 rintro e w3 ⟨S,rfl,hr⟩
 have hsz:=hS S w3 hr
 have HR:=Lib.hid hr
 clear hr
 go_wp2_with fail
 go_ret
 exact ⟨S,rfl,HR.out⟩
theorem lit45:(⟨#[45]⟩:ByteArray)=strN [45]:=rfl
theorem layT_len (q:Nat) (y:Int) (h:Bd q y):(layT (dgs q) ((dgs q).length+y)).length≤1000:=by
 obtain ⟨h1,h2,h3,h4⟩:=h
 have hw:(wtx ((dgs q).length+y-1)).length≤30:=by
  unfold wtx
  split
  ·rw [List.length_cons,uw.dgs_length]
   have:=uw.nd20 (((dgs q).length:Int)+y-1).natAbs (by omega)
   omega
  ·rw [uw.dgs_length]
   have:=uw.nd20 (((dgs q).length:Int)+y-1).natAbs (by omega)
   omega
 unfold layT
 split
 ·simp;omega
 ·split
  ·simp;omega
  ·split
   ·simp;omega
   ·split
    ·simp;omega
    ·simp;omega
theorem text_any (s:Bool) (a:Nat) (w:World) (ha:a<9223372036854775808) (h7:PowAt w) (hsz:14<w.heap.size) (htab:Lib.TabIs Tryz.prog w "internal/strconv.uint64pow10" .u64 Lib.pow10Tab):
  Calls Tryz.prog 75 #[.float .f64 (a+sgn s)] w (TtPost s a w):=by
 by_cases hi:9218868437227405312≤a
 ·refine (text_none s a w ha hi).mono ?_
  rintro e w2 ⟨rfl,rfl⟩
  exact ⟨Below.refl _ _,.inl ⟨hi,rfl⟩⟩
 ·by_cases h0:a=0
  ·subst h0
   cases s
   ·refine (text_zero w).mono ?_
    rintro e w2 ⟨rfl,rfl⟩
    exact ⟨Below.refl _ _,.inr (.inl ⟨rfl,rfl⟩)⟩
   ·refine (text_neg 0 w (by omega) (fun S w'=>S=⟨#[48,46,48]⟩∧w=w') (fun S w' h=>by rw [h.1];decide) ((text_zero w).mono fun e w' h=>⟨_,h.1,rfl,h.2⟩)).mono ?_
    rintro e w2 ⟨S,rfl,rfl,rfl⟩
    exact ⟨Below.refl _ _,.inr (.inl ⟨rfl,rfl⟩)⟩
  ·have hp:=text_pos a w (by omega) (by omega) h7 hsz htab
   cases s
   ·refine hp.mono ?_
    rintro e w2 ⟨q,y,hC,hq,hbd,rfl,hb⟩
    exact ⟨hb,.inr (.inr ⟨by omega,by omega,q,y,hC,hq,hbd,rfl⟩)⟩
   ·refine (text_neg a w (by omega) (fun S w'=>∃(q:Nat) (y:Int),Cand a q y∧q % 10≠0∧Bd q y∧S=strN (layT (dgs q) ((dgs q).length+y))∧Below w.heap.size w w')
     (fun S w' h=>by
      obtain ⟨q,y,_,_,hbd,rfl,_⟩:=h
      rw [strN_size]
      have:=layT_len q y hbd
      omega)
     (hp.mono fun e w' h=>by
      obtain ⟨q,y,hC,hq,hbd,rfl,hb⟩:=h
      exact ⟨_,rfl,q,y,hC,hq,hbd,rfl,hb⟩)).mono ?_
    rintro e w2 ⟨S,rfl,q,y,hC,hq,hbd,rfl,hb⟩
    refine ⟨hb,.inr (.inr ⟨by omega,by omega,q,y,hC,hq,hbd,?_⟩)⟩
    rw [lit45,strN_app]
    rfl
end Go.Proofs.YtjhhdnnblcbdbaaGreatDoor.pg
end
