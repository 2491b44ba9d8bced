/- toFloat, walked: of any number text. toFloat, walked: of any number text. -/
import Derived.Test.YtjhhdnnblcbdbaaGreatDoorGRq
section
namespace Go.Proofs.YtjhhdnnblcbdbaaGreatDoor.dcm
open Go.RowKit mem fl big us uw pg
set_option linter.unusedVariables false
theorem run_f64i (w:World):(callFunc 97 #[.int .u64 9218868437227405312]).run Tryz.prog w= .ok (.value (.float .f64 9218868437227405312)) w:=by kernel_rfl
set_option maxRecDepth 100000 in
theorem inf_any (w:World):Calls Tryz.prog 65 #[.int .i64 1] w fun e w'=>e= .returned (.float .f64 9218868437227405312)∧w'=w:=by
 go_enter Tryz.func65,Tryz.ntmps65
 go_wp2_with fail
 rw [run_f64i]
 go_wp2_with fail
 go_ret
 exact ⟨rfl,rfl⟩
def TlPost (P:Nat) (neg:Bool) (D:List Nat) (x:Int) (w:World) (e:Ending) (w':World):Prop:=∃R,Dec P (dvn D) (x-D.length) R∧R≤9218868437227405312∧e= .returned (.float .f64 (R+sgn neg))∧Below w.heap.size w w'
set_option maxRecDepth 100000 in
set_option maxHeartbeats 4000000 in
theorem toFloat_lo {P z k:Nat} (hz:z=1074) (hP:P=2^z) {s:ByteArray} {neg:Bool} {D:List Nat} {x:Int} (hsp:SpAt s neg D x) (hD:Ds D k) (hx:x< -400) (w:World):
  Calls Tryz.prog 36 #[.string s] w (TlPost P neg D x w):=by
 have HSp:=Lib.hid (hsp w)
 have HC:=Lib.hid (fun w=>copysign_neg 0 w (by omega))
 have HN:=Lib.hid (show Dec P (dvn D) (x-D.length) 0 from by rw [hD.len];exact dec_tiny hz hP hD.hi (by omega))
 have hk0:=hD.pos
 have hlen:=hD.len
 obtain ⟨n,hn⟩:∃n,D.length=n:=⟨_,rfl⟩
 rw [hn] at hlen
 have hk0':¬((n:Int)=0):=by omega
 have hk0'':((n:Int)==0)=false:=beq_false_of_ne hk0'
 have hk1:¬(n=0):=by omega
 have hq1:decide (x< -400)=true:=decide_eq_true hx
 rw [hn] at HSp
 clear hsp hD hz hP hx hlen hn hk0
 go_enter Tryz.func36,Tryz.ntmps36
 go_wp2_with fail
 refine HSp.out.mono ?_
 rintro e w4 ⟨A,c,rfl,hr,hb4⟩
 have hb5:Below w.heap.size w (w4.alloc (.cells #[.bool neg,.slice A n c,.int .i64 x] 118)):=hb4.alloc hb4.size _
 have hg5:=heap_alloc_new w4 (.cells #[.bool neg,.slice A n c,.int .i64 x] 118)
 have m0:=blk_cell hg5 (i:=0) (by simp)
 have m1:=blk_cell hg5 (i:=1) (by simp)
 have m2:=blk_cell hg5 (i:=2) (by simp)
 simp only [List.getElem_toArray,List.getElem_cons_zero,List.getElem_cons_succ] at m0 m1 m2
 have HB5:=Lib.hid hb5
 clear hb5 hb4 hr hg5
 cases neg with
 | true=>
   go_wp2_with fail
   refine (HC.out _).mono ?_
   rintro e8 w8 ⟨rfl,rfl⟩
   go_wp2_with fail
   go_ret
   exact ⟨0,HN.out,by omega,rfl,HB5.out⟩
 | false=>
   go_wp2_with fail
   go_ret
   exact ⟨0,HN.out,by omega,rfl,HB5.out⟩
set_option maxRecDepth 100000 in
set_option maxHeartbeats 4000000 in
theorem toFloat_hi {P z k:Nat} (hz:z=1074) (hP:P=2^z) {s:ByteArray} {neg:Bool} {D:List Nat} {x:Int} (hsp:SpAt s neg D x) (hD:Ds D k) (hx:400<x) (w:World):
  Calls Tryz.prog 36 #[.string s] w (TlPost P neg D x w):=by
 have HSp:=Lib.hid (hsp w)
 have HC:=Lib.hid (fun w=>copysign_neg 9218868437227405312 w (by omega))
 have HI:=Lib.hid inf_any
 have HN:=Lib.hid (show Dec P (dvn D) (x-D.length) 9218868437227405312 from by rw [hD.len];exact dec_great hz hP hD.lo hD.pos (by omega))
 have hk0:=hD.pos
 have hlen:=hD.len
 obtain ⟨n,hn⟩:∃n,D.length=n:=⟨_,rfl⟩
 rw [hn] at hlen
 have hk0':¬((n:Int)=0):=by omega
 have hk0'':((n:Int)==0)=false:=beq_false_of_ne hk0'
 have hk1:¬(n=0):=by omega
 have hq1:decide (x< -400)=false:=decide_eq_false (by omega)
 have hq2:decide (x>400)=true:=decide_eq_true hx
 have hq3:decide (400<x)=true:=decide_eq_true hx
 rw [hn] at HSp
 clear hsp hD hz hP hx hlen hn hk0
 go_enter Tryz.func36,Tryz.ntmps36
 go_wp2_with fail
 refine HSp.out.mono ?_
 rintro e w4 ⟨A,c,rfl,hr,hb4⟩
 have hb5:Below w.heap.size w (w4.alloc (.cells #[.bool neg,.slice A n c,.int .i64 x] 118)):=hb4.alloc hb4.size _
 have hg5:=heap_alloc_new w4 (.cells #[.bool neg,.slice A n c,.int .i64 x] 118)
 have m0:=blk_cell hg5 (i:=0) (by simp)
 have m1:=blk_cell hg5 (i:=1) (by simp)
 have m2:=blk_cell hg5 (i:=2) (by simp)
 simp only [List.getElem_toArray,List.getElem_cons_zero,List.getElem_cons_succ] at m0 m1 m2
 have HB5:=Lib.hid hb5
 clear hb5 hb4 hr hg5
 cases neg with
 | true=>
   go_wp2_with fail
   refine (HI.out _).mono ?_
   rintro e8 w8 ⟨rfl,rfl⟩
   go_wp2_with fail
   refine (HC.out _).mono ?_
   rintro e8 w8 ⟨rfl,rfl⟩
   go_wp2_with fail
   go_ret
   exact ⟨_,HN.out,by omega,rfl,HB5.out⟩
 | false=>
   go_wp2_with fail
   refine (HI.out _).mono ?_
   rintro e8 w8 ⟨rfl,rfl⟩
   go_wp2_with fail
   go_ret
   exact ⟨_,HN.out,by omega,rfl,HB5.out⟩
theorem parse_tfall {P z k:Nat} (hz:z=1074) (hP:P=2^z) {D:List Nat} {E:Int} (hD:Ds D k) (hE1: -400≤E) (hE2:E≤400) (w:World) (hR:REnv w):
  Calls Tryz.prog 66 #[.string (tfT D E),.int .i64 64] w (PqPost P D k E w):=by
 have hw:∀c∈wtx E,45≤c∧c≤57:=wtx_chars E
 have hn:nats (tfT D E)=rfT D (wtx E):=pg.nats_strN _ (by
  intro c hc
  unfold rfT at hc
  simp only [List.mem_cons,List.mem_append] at hc
  rcases hc with rfl | rfl | hc | rfl | hc
  ·omega
  ·omega
  ·have:=hD.dig c hc;omega
  ·omega
  ·have:=hw c hc;omega)
 have hszT:(tfT D E).size=D.length+(wtx E).length+3:=size_strN_rfT D (wtx E)
 have hwl:(wtx E).length≤20:=wtx_len E (by omega) (by omega)
 have h0:0<(tfT D E).size:=by omega
 have hc0:((tfT D E)[0]'h0).toNat=48:=by
  have:=nats_get (tfT D E) 0 h0
  rw [←this]
  simp [hn,rfT]
 have hlen:=hD.len
 have hle:=hD.le
 have hlt13:=hR.ne.lt
 refine parse_all _ P k D E w (by omega) hR.er ?_
 have hread:Calls Tryz.prog 148 #[.string (tfT D E)] w fun e w'=>e= .returned (.tuple #[.int .u64 (rfM D:Int),.int .i64 (E-(min k 19:Nat)),.bool false,.bool (rfTr D),.bool false,.int .i64 ((tfT D E).size:Int),.bool true])∧w'=w:=by
  by_cases hx:E<0
  ·obtain ⟨F,hF⟩:∃F:Nat,E= -(F:Int):=⟨(-E).toNat,by omega⟩
   subst hF
   exact rf_neg (tfT D (-(F:Int))) D k F w (by rw [hn,wtx_neg F (by omega)]) hlen hD.pos hle hD.dig hD.head (by omega)
  ·obtain ⟨F,hF⟩:∃F:Nat,E=(F:Int):=⟨E.toNat,by omega⟩
   subst hF
   exact rf_pos (tfT D (F:Int)) D k F w (by rw [hn,wtx_nat F]) hlen hD.pos hle hD.dig hD.head (by omega)
 have hset:∀(g:Nat) (L0:List Nat) (W:World),DcAt W g L0 0 0 false false→Calls Tryz.prog 154 #[.pointer (some ⟨g,0,none⟩),.string (tfT D E)] W (SetPost g D k E W):=by
  intro g L0 W hW
  by_cases hx:E<0
  ·obtain ⟨F,hF⟩:∃F:Nat,E= -(F:Int):=⟨(-E).toNat,by omega⟩
   subst hF
   exact set_neg g L0 (tfT D (-(F:Int))) D k F W hW (by rw [hn,wtx_neg F (by omega)]) hlen hD.pos hle hD.dig hD.head (by omega)
  ·obtain ⟨F,hF⟩:∃F:Nat,E=(F:Int):=⟨E.toNat,by omega⟩
   subst hF
   exact set_pos g L0 (tfT D (F:Int)) D k F W hW (by rw [hn,wtx_nat F]) hlen hD.pos hle hD.dig hD.head (by omega)
 by_cases hp:310<E-(min k 19:Nat)∨E-(min k 19:Nat)< -345
 ·exact atof_far _ P z k D E (rfTr D) hz hP w h0 hc0 hD hE1 hE2 hR.ne.ho hp hread
 ·cases ht:rfTr D
  ·rw [ht] at hread
   exact atof_short _ P z k D E hz hP w h0 hc0 hD hE1 hE2 hR.ne.ho hR.ne.hi hR.ne.p10 hR.ne.pow (by omega) (by omega) (by omega) ht hread
  ·have hk19:=rfTr_len ht
   rw [ht,show (min k 19:Nat)=19 by omega] at hread
   exact atof_long _ P z k D E hz hP w h0 hc0 hD hE1 hE2 hR.ne.ho hR.ne.hi hR.ne.pow (by omega) hR.se (by omega) (by omega) ht hread hset
end Go.Proofs.YtjhhdnnblcbdbaaGreatDoor.dcm
end
section
namespace Go.Proofs.YtjhhdnnblcbdbaaGreatDoor.dcm
open Go.RowKit mem fl big us uw pg
set_option linter.unusedVariables false
set_option maxRecDepth 100000 in
set_option maxHeartbeats 4000000 in
theorem toFloat_mid {P z k:Nat} (hz:z=1074) (hP:P=2^z) {s:ByteArray} {neg:Bool} {D:List Nat} {x:Int} (hsp:SpAt s neg D x) (hD:Ds D k) (hx1: -400≤x) (hx2:x≤400) (w:World) (hE:REnv w):
  Calls Tryz.prog 36 #[.string s] w (TlPost P neg D x w):=by
 have HSp:=Lib.hid (hsp w)
 have HP:=Lib.hid (fun w (hE:REnv w)=>(parse_tfall hz hP hD hx1 hx2 w hE).mono (R':=fun e w'=>∃(R:Nat) (v:Value),Hid (Dec P (dvn D) (x-D.length) R)∧e= .returned (.tuple #[.float .f64 R,v])∧Below w.heap.size w w') (fun e w' ⟨R,v,h1,h2,h3⟩=>⟨R,v,Lib.hid (by rw [hD.len];exact h1),h2,h3⟩))
 have HC:=Lib.hid (fun (r:Nat) (hr:r≤9218868437227405312) w=>copysign_neg r w (by omega))
 have HE:=Lib.hid hE
 have hk0:0<D.length:=by rw [hD.len];exact hD.pos
 have hk:D.length≤1100000:=by rw [hD.len];exact hD.le
 have hwl:(wtx x).length≤20:=wtx_len x (by omega) (by omega)
 have HIt:=Lib.hid (fun w (hE:REnv w)=>itoa_any x w (by omega) (by omega) hE.ne)
 have HTE:=Lib.hid (tfT_eq D x)
 clear hsp hE hP hz hD
 go_enter Tryz.func36,Tryz.ntmps36
 go_wp2_with fail
 refine HSp.out.mono ?_
 rintro e w4 ⟨A,c,rfl,hr,hb4⟩
 have HCV:Hid (∀W:World,Below (w4.heap.size+1) (w4.alloc (.cells #[.bool neg,.slice A D.length c,.int .i64 x] 118)) W→(convert 22 9 (.slice A D.length c)).run Tryz.prog W= .ok (.string (strN D)) W):=Lib.hid fun W hW=>
  conv_bytes (w:=W) A D c ((hr.below ((Below.refl _ _).alloc (Nat.le_refl _) (.cells #[.bool neg,.slice A D.length c,.int .i64 x] 118))).below (hW.mono (by omega)))
 have hz5:(w4.alloc (.cells #[.bool neg,.slice A D.length c,.int .i64 x] 118)).heap.size=w4.heap.size+1:=by simp
 have hb5:Below w.heap.size w (w4.alloc (.cells #[.bool neg,.slice A D.length c,.int .i64 x] 118)):=hb4.alloc hb4.size _
 have hg5:=heap_alloc_new w4 (.cells #[.bool neg,.slice A D.length c,.int .i64 x] 118)
 have m0:=blk_cell hg5 (i:=0) (by simp)
 have m1:=blk_cell hg5 (i:=1) (by simp)
 have m2:=blk_cell hg5 (i:=2) (by simp)
 simp only [List.getElem_toArray,List.getElem_cons_zero,List.getElem_cons_succ] at m0 m1 m2
 have HB5:=Lib.hid hb5
 clear hb5 hb4 hr hg5
 have hk0':¬((D.length:Int)=0):=by omega
 have hk0'':((D.length:Int)==0)=false:=beq_false_of_ne hk0'
 have hq1:¬(x< -400):=by omega
 have hq2:¬(400<x):=by omega
 go_wp2_with fail
 generalize w4.alloc (.cells #[.bool neg,.slice A D.length c,.int .i64 x] 118)=w5 at*
 have HE5:Hid (REnv w5.drew):=Lib.hid ((HE.out.below HB5.out).below ((Below.refl _ _).drew))
 rw [←hz5] at HCV
 have hdr5:Below w5.heap.size w5 w5.drew:=(Below.refl _ _).drew
 have hcv0:=HCV.out w5 (Below.refl _ _)
 have hcv1:=HCV.out w5.drew hdr5
 have hsD:(strN D).size=D.length:=strN_size D
 have hsX:(strN (wtx x)).size=(wtx x).length:=strN_size _
 obtain ⟨SX,hSX⟩:∃SX,strN (wtx x)=SX:=⟨_,rfl⟩
 obtain ⟨SD,hSD⟩:∃SD,strN D=SD:=⟨_,rfl⟩
 obtain ⟨TT,hTT⟩:∃TT,tfT D x=TT:=⟨_,rfl⟩
 rw [hSX] at HIt HTE hsX
 rw [hSD] at HTE hsD hcv0 hcv1 HCV
 rw [hTT] at HP HTE
 have hu1:∀W:World,(Op.stringOp .add ⟨#[48,46]⟩ SD).run Tryz.prog W= .ok (.string (⟨#[48,46]⟩++SD)) W:=fun W=>run_string_add_sum W _ _ (by show 2+SD.size≤_;omega)
 have hu2:∀W:World,(Op.stringOp .add (⟨#[48,46]⟩++SD) ⟨#[101]⟩).run Tryz.prog W= .ok (.string (⟨#[48,46]⟩++SD++⟨#[101]⟩)) W:=fun W=>run_string_add_sum W _ _ (by rw [ByteArray.size_append];show 2+SD.size+1≤_;omega)
 have hu3:∀W:World,(Op.stringOp .add (⟨#[48,46]⟩++SD++⟨#[101]⟩) SX).run Tryz.prog W= .ok (.string TT) W:=fun W=>by
  rw [run_string_add_sum W _ _ (by rw [ByteArray.size_append,ByteArray.size_append];show 2+SD.size+1+SX.size≤_;omega),HTE.out]
 clear hSX hSD hTT HTE HE HSp
 have M1:=Lib.hid m1
 have M2:=Lib.hid m2
 have M0:=Lib.hid m0
 go_region_law (first
  | (go_simp;go_at_call 67;go_must (refine (HIt.out _ HE5.out).mono ?_;rintro e6 w6 ⟨rfl,hb6⟩;have hb6':Below w5.heap.size w5 w6:=hdr5.trans hb6;have hcv6:=HCV.out w6 hb6';have m06:=cell_keep hb6' M0.out;have m16:=cell_keep hb6' M1.out;have m26:=cell_keep hb6' M2.out))
  | (go_simp;go_at_call 66;go_must (refine (HP.out _ (HE5.out.below hb6)).mono ?_;rintro e7 w7 ⟨R,v,hN,rfl,hb7⟩;have m07:=cell_keep hb7 m06)))
 all_goals
  have HB7:=Lib.hid (HB5.out.trans ((hb6'.trans (hb7.mono hb6'.size)).mono HB5.out.size))
  have hRi:R≤9218868437227405312:=hN.out.1
  clear hcv6 m06 m16 m26 hb6 hb7 hb6' hcv0 hcv1 HCV HIt HP HE5 M0 M1 M2 hu1 hu2 hu3
  cases neg with
  | true=>
    have HCR:=Lib.hid (HC.out R hRi)
    clear HC
    go_wp2_with fail
    refine (HCR.out _).mono ?_
    rintro e8 w8 ⟨rfl,rfl⟩
    go_wp2_with fail
    go_ret
    exact ⟨R,hN.out,hRi,rfl,HB7.out⟩
  | false=>
    go_wp2_with fail
    go_ret
    exact ⟨R,hN.out,hRi,rfl,HB7.out⟩
theorem toFloat_none {P z:Nat} {s:ByteArray} {neg:Bool} {x:Int} (hsp:SpAt s neg [] x) (w:World) (hE:NEnv w):
  Calls Tryz.prog 36 #[.string s] w (TlPost P neg [] x w):=
 (toFloat_zero hsp w hE).mono fun e w' ⟨h1,h2⟩=>⟨0,(dec_none (x:=0) (e:=0) (R:=0) rfl (by unfold Dec;rw [Nat.zero_mul,Nat.zero_mul];exact big.near_zero (Nat.pow_pos (by decide)) (Nat.pow_pos (by decide)))).2 _,by omega,h1,h2⟩
theorem toFloat_gen {P z:Nat} (hz:z=1074) (hP:P=2^z) {s:ByteArray} {neg:Bool} {D:List Nat} {x:Int} (hsp:SpAt s neg D x) (hd:∀c∈D,48≤c∧c≤57) (hh:D≠[]→D.getD 0 0≠48) (hl:D.length≤1100000) (w:World) (hE:REnv w):
  Calls Tryz.prog 36 #[.string s] w (TlPost P neg D x w):=by
 by_cases h0:D=[]
 ·subst h0
  exact toFloat_none (z:=z) hsp w hE.ne
 ·have hD:Ds D D.length:=⟨rfl,List.length_pos_iff.2 h0,hl,hd,hh h0⟩
  by_cases h1:x< -400
  ·exact toFloat_lo hz hP hsp hD h1 w
  ·by_cases h2:400<x
   ·exact toFloat_hi hz hP hsp hD h2 w
   ·exact toFloat_mid hz hP hsp hD (by omega) (by omega) w hE
end Go.Proofs.YtjhhdnnblcbdbaaGreatDoor.dcm
end
