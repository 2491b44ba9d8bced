/- Layer 1's small functions: Digit, Hex, Join, Encode of one character. Four digits of base sixteen. Printed by gen_je.py. -/
import Derived.Test.YtjhhdnnblcbdbaaGreatDoorGJm
import Derived.Test.YtjhhdnnblcbdbaaGreatDoorShelf
import Derived.OwnWalk
import Derived.LoopN
import Derived.Test.YtjhhdnnblcbdbaaGreatDoorGJc
section
namespace Go.Proofs.YtjhhdnnblcbdbaaGreatDoor.jw
open Go.RowKit mem val jp
set_option linter.unusedVariables false
set_option linter.unusedSectionVars false
theorem udigit_any (c:Int) (w:World):Calls Tryz.prog 143 #[.int .i32 c] w fun e w'=>e= .returned (.bool (pfx.dig c))∧w'=w:=by
 by_cases h:48≤c
 ·go_enter Tryz.func143,Tryz.ntmps143
  go_wp2
  go_ret
  exact ⟨ret_bool (by simp [pfx.dig,h]),rfl⟩
 ·go_enter Tryz.func143,Tryz.ntmps143
  go_wp2
  go_ret
  exact ⟨ret_bool (by simp [pfx.dig];omega),rfl⟩
set_option maxRecDepth 100000 in
set_option maxHeartbeats 400000 in
theorem hex_any (c:Int) (h0:0≤c) (h1:c<256) (w:World):Calls Tryz.prog 130 #[.int .i32 c] w fun e w'=>e= .returned (.int .i64 (hx c))∧w'=w:=by
 by_cases hd:48≤c∧c≤57
 ·have hdg:pfx.dig c=true:=by simp [pfx.dig];omega
  have e1:hx c=c-48:=by unfold hx;rw [if_pos hd]
  rw [e1]
  have H:=Lib.hid (udigit_any c w)
  rw [hdg] at H
  clear hdg e1
  go_enter Tryz.func130,Tryz.ntmps130
  go_wp2_with fail
  refine H.out.mono ?_
  rintro e w' ⟨rfl,rfl⟩
  go_wp2_with fail
  go_ret
  exact ⟨rfl,rfl⟩
 ·have hdg:pfx.dig c=false:=by simp [pfx.dig];omega
  have H:=Lib.hid (udigit_any c w)
  rw [hdg] at H
  by_cases ha:97≤c
  ·by_cases hf:c≤102
   ·have e1:hx c=c-97+10:=by unfold hx;rw [if_neg hd,if_pos ⟨ha,hf⟩]
    rw [e1]
    clear hdg e1
    go_enter Tryz.func130,Tryz.ntmps130
    go_wp2_with fail
    refine H.out.mono ?_
    rintro e w' ⟨rfl,rfl⟩
    go_wp2_with fail
    go_ret
    exact ⟨rfl,rfl⟩
   ·have e1:hx c= -1:=by unfold hx;rw [if_neg hd,if_neg (by omega),if_neg (by omega)]
    have h65:65≤c:=by omega
    have h70:¬c≤70:=by omega
    rw [e1]
    clear hdg e1
    go_enter Tryz.func130,Tryz.ntmps130
    go_wp2_with fail
    refine H.out.mono ?_
    rintro e w' ⟨rfl,rfl⟩
    go_wp2_with fail
    go_ret
    exact ⟨rfl,rfl⟩
  ·by_cases hA:65≤c
   ·by_cases hF:c≤70
    ·have e1:hx c=c-65+10:=by unfold hx;rw [if_neg hd,if_neg (by omega),if_pos ⟨hA,hF⟩]
     rw [e1]
     clear hdg e1
     go_enter Tryz.func130,Tryz.ntmps130
     go_wp2_with fail
     refine H.out.mono ?_
     rintro e w' ⟨rfl,rfl⟩
     go_wp2_with fail
     go_ret
     exact ⟨rfl,rfl⟩
    ·have e1:hx c= -1:=by unfold hx;rw [if_neg hd,if_neg (by omega),if_neg (by omega)]
     rw [e1]
     clear hdg e1
     go_enter Tryz.func130,Tryz.ntmps130
     go_wp2_with fail
     refine H.out.mono ?_
     rintro e w' ⟨rfl,rfl⟩
     go_wp2_with fail
     go_ret
     exact ⟨rfl,rfl⟩
   ·have e1:hx c= -1:=by unfold hx;rw [if_neg hd,if_neg (by omega),if_neg (by omega)]
    rw [e1]
    clear hdg e1
    go_enter Tryz.func130,Tryz.ntmps130
    go_wp2_with fail
    refine H.out.mono ?_
    rintro e w' ⟨rfl,rfl⟩
    go_wp2_with fail
    go_ret
    exact ⟨rfl,rfl⟩
set_option maxRecDepth 100000 in
set_option maxHeartbeats 400000 in
theorem join_any (n m:Int) (hn:55296≤n) (hn2:n≤56319) (hm:0≤m) (hm2:m<65536) (w:World):Calls Tryz.prog 112 #[.int .i32 n,.int .i32 m] w fun e w'=>∃b,e= .returned (.tuple #[.int .i32 (join n m),.bool b])∧w'=w:=by
 have hn3:¬n<55296:=by omega
 have hn4:¬56320≤n:=by omega
 by_cases h1:m<56320
 ·have e1:join n m=0:=by unfold join;rw [if_pos (by omega)]
  rw [e1]
  go_enter Tryz.func112,Tryz.ntmps112
  go_wp2_with fail
  go_ret2
  first | exact ⟨.inl rfl,rfl⟩ | exact ⟨.inr rfl,rfl⟩
 ·by_cases h2:57344≤m
  ·have e1:join n m=0:=by unfold join;rw [if_pos (by omega)]
   rw [e1]
   go_enter Tryz.func112,Tryz.ntmps112
   go_wp2_with fail
   go_ret2
   first | exact ⟨.inl rfl,rfl⟩ | exact ⟨.inr rfl,rfl⟩
  ·have e1:join n m=65536+(n-55296)*1024+(m-56320):=by unfold join;rw [if_neg (by omega)]
   rw [e1]
   go_enter Tryz.func112,Tryz.ntmps112
   go_wp2_with fail
   go_ret2
   first | exact ⟨.inl rfl,rfl⟩ | exact ⟨.inr rfl,rfl⟩
theorem valid_any (n:Int) (w:World):Calls Tryz.prog 131 #[.int .i32 n] w fun e w'=>e= .returned (.bool (decide ((0≤n∧n<55296)∨(57344≤n∧n≤1114111))))∧w'=w:=by
 go_enter Tryz.func131,Tryz.ntmps131
 go_wp2
 all_goals
  go_ret
  exact ⟨ret_bool (by simp;omega),rfl⟩
theorem runeCells_us {n:Int}:Lib.runeCells n=us ((Lib.encodeRuneZ n).map Int.toNat):=by
 unfold us Lib.runeCells
 rw [List.map_map,List.map_map]
 refine List.map_congr_left fun x hx=>?_
 have:=Lib.encodeRuneZ_byte n x hx
 simp only [Function.comp]
 rw [Int.toNat_of_nonneg this.1]
theorem encZ_lt (n:Int):∀x∈(Lib.encodeRuneZ n).map Int.toNat,x<256:=by
 intro x hx
 obtain ⟨y,hy,rfl⟩:=List.mem_map.1 hx
 have:=Lib.encodeRuneZ_byte n y hy
 omega
theorem enc_lt (n:Int):∀x∈enc n,x<256:=by
 unfold enc
 split
 ·exact encZ_lt n
 ·intro x hx;cases hx
set_option maxRecDepth 100000 in
set_option maxHeartbeats 800000 in
theorem encode_any (n:Int) (h0: -2147483648≤n) (h1:n≤2147483647) (g c:Nat) (w:World) (hc:w.cell? ⟨g,0,none⟩=some (.int .i32 n)):
  Calls Tryz.prog 113 #[.slice (some ⟨g,0,none⟩) 1 c] w fun e w'=>(∃b',e= .returned (.tuple #[.string (bt (enc n)),.bool b']))∧Below w.heap.size w w':=by
 have hv:=fun w=>valid_any n w
 by_cases hval:(0≤n∧n<55296)∨(57344≤n∧n≤1114111)
 ·have henc:enc n=(Lib.encodeRuneZ n).map Int.toNat:=by unfold enc;rw [if_pos hval]
  have hdec:decide ((0≤n∧n<55296)∨(57344≤n∧n≤1114111))=true:=by simpa using hval
  rw [hdec] at hv
  have HV:=Lib.hid hv
  have HA:=Lib.hid (fun w=>shelf.utf8_AppendRune_plain w.heap.size (.slice none 0 0) 0 [] n h0 h1 w (World.ownsRow_nil _ _ _ _) (by omega) (Nat.le_refl _))
  clear hv hdec hval
  rw [henc]
  go_enter Tryz.func113,Tryz.ntmps113
  go_wp2_with fail
  refine wp_loop_rounds 2 ?_
  rw [rounds_succ]
  go_wp2_with fail
  refine (HV.out w).mono ?_
  rintro e w2 ⟨rfl,rfl⟩
  go_wp2_with fail
  refine (HA.out w2).mono ?_
  rintro e w3 ⟨v',rfl,hown,ob,hg⟩
  rw [List.nil_append,Nat.zero_add] at hown
  have hb:Below w2.heap.size w2 w3:=below_app1 (Below.refl _ _) (World.ownsRow_nil w2 w2.heap.size 5 1) (Nat.le_refl _) (Nat.le_refl _) hg
  obtain ⟨A3,c3,rfl,hA3,_,_⟩:=own_form hown
  have hrd:=Rd.of_own hown
  rw [runeCells_us] at hrd
  have hcv:(convert 22 9 (.slice A3 (Lib.runeCells n).length c3)).run Tryz.prog w3= .ok (.string (bt ((Lib.encodeRuneZ n).map Int.toNat))) w3:=by
   have:=run_conv_bytes (w:=w3) 22 9 5 A3 (((Lib.encodeRuneZ n).map Int.toNat).map fun n:Nat=>(n:Int)) c3 Tryz.underlying22 Tryz.underlying5 Tryz.underlying9 hrd (fun h=>by have:=hA3 h;simpa [runeCells_us,us] using this)
   rw [runeCells_us]
   simpa [us,bt] using this
  have HF:=Lib.hid (And.intro hcv hb)
  clear hown hg hA3 hrd hb HV HA
  go_wp2_with fail
  rw [rounds_succ]
  go_wp2_with fail
  go_ret2
  first | exact ⟨⟨true,rfl⟩,HF.out.2⟩ | exact ⟨.inl rfl,HF.out.2⟩ | exact ⟨.inr rfl,HF.out.2⟩
 ·have henc:enc n=[]:=by unfold enc;rw [if_neg hval]
  have hdec:decide ((0≤n∧n<55296)∨(57344≤n∧n≤1114111))=false:=by simpa using hval
  rw [hdec] at hv
  have HV:=Lib.hid hv
  clear hv hdec hval
  rw [henc]
  go_enter Tryz.func113,Tryz.ntmps113
  go_wp2_with fail
  refine wp_loop_rounds 2 ?_
  rw [rounds_succ]
  go_wp2_with fail
  refine (HV.out w).mono ?_
  rintro e w2 ⟨rfl,rfl⟩
  go_wp2_with fail
  go_ret2
  first | exact ⟨⟨false,rfl⟩,Below.refl _ _⟩ | exact ⟨.inl rfl,Below.refl _ _⟩ | exact ⟨.inr rfl,Below.refl _ _⟩
end Go.Proofs.YtjhhdnnblcbdbaaGreatDoor.jw
end
section
namespace Go.Proofs.YtjhhdnnblcbdbaaGreatDoor.jw
open Go.RowKit mem val jp
set_option linter.unusedVariables false
set_option linter.unusedSectionVars false
theorem digit_cases (t:Int→Bool) (l:List Nat):(l≠[]∧0≤hx (l.headD 0)∧t (hx (l.headD 0))=true∧digit t l= .ok (hx (l.headD 0)) 1)∨(¬(l≠[]∧0≤hx (l.headD 0)∧t (hx (l.headD 0))=true)∧digit t l= .er 0 50):=by
 cases l with
 | nil=>exact .inr ⟨by simp,rfl⟩
 | cons y r=>
   by_cases h:0≤hx y∧t (hx y)=true
   ·exact .inl ⟨by simp,h.1,h.2,by simp [digit,sat,h]⟩
   ·exact .inr ⟨by simpa using h,by simp only [digit,sat];rw [if_neg h]⟩
theorem hx_lt (y:Int):hx y<16∧ -1≤hx y:=by unfold hx;split <;> (try split) <;> (try split) <;> omega
theorem mayH_any (f s:Int) (w:World):Calls Tryz.prog 110 #[.int .i64 f,.int .i64 s] w fun e w'=>e= .returned (.bool (mayH f s))∧w'=w:=by
 by_cases h:f=13
 ·subst h
  go_enter Tryz.func110,Tryz.ntmps110
  go_wp2
  go_ret
  exact ⟨ret_bool (by simp [mayH]),rfl⟩
 ·have hb:(f !=13)=true:=by simpa using h
  go_enter Tryz.func110,Tryz.ntmps110
  go_wp2
  go_ret
  exact ⟨ret_bool (by simp [mayH,h]),rfl⟩
theorem mayL_any (f s:Int) (w:World):Calls Tryz.prog 111 #[.int .i64 f,.int .i64 s] w fun e w'=>e= .returned (.bool (mayL f s))∧w'=w:=by
 by_cases h:f=13
 ·subst h
  by_cases h0:s<0
  ·go_enter Tryz.func111,Tryz.ntmps111
   go_wp2
   go_ret
   exact ⟨ret_bool (by simp [mayL,h0]),rfl⟩
  ·go_enter Tryz.func111,Tryz.ntmps111
   go_wp2
   go_ret
   exact ⟨ret_bool (by simp [mayL];omega),rfl⟩
 ·have hb:(f==13)=false:=by simpa using h
  go_enter Tryz.func111,Tryz.ntmps111
  go_wp2
  go_ret
  exact ⟨ret_bool (by simp [mayL,h]),rfl⟩
theorem quiet_add {P:Program} {f:FuncId} {args:Array Value} {w:World} {n m:Nat} {v:Value} (h:∀W,Calls P f args W fun e w'=>e= .returned v∧w'=W):Calls P f args (w.drewN (m+n)) fun e w''=>e= .returned v∧∃k,w''=w.drewN (m+k):=(h _).mono fun _ _ ⟨he,hm⟩=>⟨he,n,hm⟩
def RN (a:Int) (v:Value) (w:World):Prop:=v= .int .i32 a∧0≤a∧a<65536
section
variable {F:Nf} {w0:World} {g:Nat} {A:Option Addr} {n:Nat} {src:List Nat} (HC:Cx F w0 g A n src) {c:Nat} {o dp:Int}
include HC
set_option maxRecDepth 100000 in
set_option maxHeartbeats 1600000 in
theorem digitsH (w:World) (p:Nat) (hb:Below w0.heap.size w0 w) (hr:Rdr w g A n c (p:Int) o dp) (hp:p≤n):
  Calls Tryz.prog 109 #[.pointer (some ⟨g,0,none⟩),.func (.func 110) #[] #[]] w (Pst g A n c (fun _=>o) dp RN p (digs mayH (src.drop p)) w):=by
 have hn:=HC.le
 have HB:=Lib.hid hb
 have HR:=Lib.hid hr
 have HC':=Lib.hid HC
 have HM:=Lib.hid mayH_any
 go_enter Tryz.func109,Tryz.ntmps109
 go_wp2_with fail
 go_loopw [5,6,9] (fun v5 v6 v9 wr=>∃(i q:Nat) (a f:Int),v5= .int .i64 a∧v6= .int .i64 f∧v9= .int .i64 (i:Int)∧i≤4∧q≤n∧Hid (Rdr wr g A n c (q:Int) o dp)∧Hid (Kp g w.heap.size w wr)∧Hid (q=p+i)∧Hid (0≤a∧a<16^i)∧Hid (-1≤f∧f<16)∧Hid (digs mayH (src.drop p)=(digK mayH (4-i) a f (src.drop q)).sh i)) (fun _ _ v9 wr=>4-(intOf v9).toNat)
 case atStart=>exact ⟨0,p,0,-1,rfl,rfl,rfl,by omega,hp,HR,Lib.hid (Kp.refl _ _ _),Lib.hid rfl,Lib.hid (by decide),Lib.hid (by decide),Lib.hid (by rw [sh_zero];rfl)⟩
 case round=>
  clear HR hr hb hp
  obtain ⟨i,q,a,f,rfl,rfl,rfl,hi,hq,HRq,HK,HQ,HA,HFb,HE⟩:=hrel
  obtain ⟨c0,c1,c2,c3⟩:=HRq.out.cells
  have f1:=HRq.out.frozen 1
  have HBr:=Lib.hid (below_kp HC'.out HB.out HK.out)
  by_cases h4:i=4
  ·have HE2:Hid (digs mayH (src.drop p)= .ok a 4):=Lib.hid (by rw [HE.out,h4];rfl)
   have ha:0≤a∧a<65536:=by have:=HA.out;rw [h4] at this;simpa using this
   have hge:¬((i:Int)<4):=by omega
   have HQ2:Hid (q=p+4):=Lib.hid (by rw [←h4];exact HQ.out)
   have hlo:=ha.1
   have hhi:=ha.2
   have hw:IntKind.i32.wrap a=a:=by rw [IntKind.wrap_i32];omega
   clear h4 hi HE HA HFb HQ
   go_wp2_with fail
   go_ret
   rw [HE2.out]
   exact ⟨HK.out,_,rfl,⟨rfl,hlo,hhi⟩,by rw [←HQ2.out];exact HRq.out⟩
  ·obtain ⟨k,hk⟩:∃k,4-i=k+1:=⟨3-i,by omega⟩
   have hE:=HE.out
   rw [hk] at hE
   have hlt4:(i:Int)<4:=by omega
   have hdc:=digit_cases (fun d=>if k=3 then mayH d (-1) else if k=2 then mayH f d else true) (src.drop q)
   have HEs:=Lib.hid hE
   have hK:=fun (d:Int) (h:digit (fun d=>if k=3 then mayH d (-1) else if k=2 then mayH f d else true) (src.drop q)= .ok d 1)=>show digs mayH (src.drop p)=(digK mayH k (a*16+d) (if k=3 then d else f) (src.drop (q+1))).sh (i+1) by
    rw [HEs.out,digK,bnd_okr h,sh_sh,List.drop_drop]
   have hKe:=fun (h:digit (fun d=>if k=3 then mayH d (-1) else if k=2 then mayH f d else true) (src.drop q)= .er 0 50)=>show digs mayH (src.drop p)= .er i 50 by
    rw [HEs.out,digK,bnd_err h];rfl
   clear hE HE HEs
   rw [head_drop] at hdc
   by_cases hlt:q<n
   ·obtain ⟨ad,rfl,hab,hcp⟩:=HC'.out.at_ HBr.out hlt
    have h256:=HC'.out.lt256 q
    have hlt':(q:Int)<(n:Int):=by omega
    have hne:src.drop q≠[]:=drop_ne.2 (by rw [HC'.out.len];exact hlt)
    obtain ⟨y,hy⟩:∃y:Nat,src.getD q 0=y:=⟨_,rfl⟩
    rw [hy] at hcp hdc h256
    have hyb:=hx_lt (y:Int)
    have HH:=Lib.hid (fun w=>hex_any (y:Int) (by omega) (by omega) w)
    obtain ⟨d,hd⟩:∃d,hx (y:Int)=d:=⟨_,rfl⟩
    rw [hd] at hdc hyb HH
    have hcv:IntKind.i32.wrap (y:Int)=(y:Int):=by rw [IntKind.wrap_i32];omega
    clear hy hd
    by_cases hd0:d<0
    ·have HE2:Hid (digs mayH (src.drop p)= .er i 50):=Lib.hid (by
      rcases hdc with ⟨_,h,_⟩ | ⟨_,h⟩
      ·omega
      ·exact hKe h)
     clear hdc hK hKe hne HA HFb
     go_wp2_with fail
     go_quiet (fail)
     go_wp2_with fail
     go_quiet (first | (go_at_call 130;exact quiet_add HH.out))
     go_wp2_with fail
     refine (stop_any _ q (HRq.out.drewN _)).mono ?_
     rintro e w' ⟨rfl,rfl⟩
     unfold flt
     go_wp2_with fail
     rw [HE2.out]
     exact ⟨rfl,HK.out.sm ⟨rfl,rfl,rfl,rfl⟩,flt_at (by have:=HQ.out;omega)⟩
    ·have hdp:decide (d<0)=false:=by simpa using hd0
     have hdn:0≤d:=by omega
     have hd16:=hyb.1
     have ha:=HA.out
     rcases (show i=0∨i=1∨i=2∨i=3 by omega) with rfl | rfl | rfl | rfl
     ·obtain rfl:k=3:=by omega
      simp only [reduceIte,Nat.reduceEqDiff] at hdc hK hKe
      simp only [Int.reducePow] at ha
      cases ht:mayH d (-1) with
      | true=>
        have HT:=Lib.hid (fun w=>HM.out d (-1) w)
        rw [ht] at HT
        have HE2:Hid (digs mayH (src.drop p)=(digK mayH (4-(0+1)) (a*16+d) d (src.drop (q+1))).sh (0+1)):=Lib.hid (by
         rcases hdc with ⟨_,_,_,h⟩ | ⟨h,_⟩
         ·exact hK d h
         ·exact absurd ⟨hne,hdn,ht⟩ h)
        have HA2:Hid (0≤a*16+d∧a*16+d<16^(0+1)):=Lib.hid (by simp only [Nat.reduceAdd,Int.reducePow];omega)
        have HF2:Hid (-1≤d∧d<16):=Lib.hid (by omega)
        have HF:=Lib.hid (And.intro (HRq.out.at_ ((q:Int)+1)) (HK.out.self ⟨g,1,none⟩ rfl (.int .i64 ((q:Int)+1))))
        clear hdc hK hKe hne HA HFb ht
        go_wp2_with fail
        go_quiet (fail)
        go_wp2_with fail
        go_quiet (first | (go_at_call 130;exact quiet_add HH.out))
        go_wp2_with (go_at_call 110;refine (HT.out _).mono ?_;rintro e w' ⟨rfl,rfl⟩)
        exact ⟨⟨0+1,q+1,_,_,rfl,rfl,by simp,by omega,by omega,Lib.hid (Sm.rdr ⟨rfl,rfl,rfl,rfl⟩ HF.out.1),Lib.hid (HF.out.2.sm ⟨rfl,rfl,rfl,rfl⟩),Lib.hid (by have:=HQ.out;omega),HA2,HF2,HE2⟩,by simp [intOf]⟩
      | false=>
        have HT:=Lib.hid (fun w=>HM.out d (-1) w)
        rw [ht] at HT
        have HE2:Hid (digs mayH (src.drop p)= .er 0 50):=Lib.hid (by
         rcases hdc with ⟨_,_,h,_⟩ | ⟨_,h⟩
         ·rw [ht] at h;cases h
         ·exact hKe h)
        clear hdc hK hKe hne HA HFb ht
        go_wp2_with fail
        go_quiet (fail)
        go_wp2_with fail
        go_quiet (first | (go_at_call 130;exact quiet_add HH.out))
        go_wp2_with (go_at_call 110;refine (HT.out _).mono ?_;rintro e w' ⟨rfl,rfl⟩)
        refine (stop_any _ q (HRq.out.drewN _)).mono ?_
        rintro e w' ⟨rfl,rfl⟩
        unfold flt
        go_wp2_with fail
        rw [HE2.out]
        exact ⟨rfl,HK.out.sm ⟨rfl,rfl,rfl,rfl⟩,flt_at (by have:=HQ.out;omega)⟩
     ·obtain rfl:k=2:=by omega
      simp only [reduceIte,Nat.reduceEqDiff] at hdc hK hKe
      simp only [Int.reducePow] at ha
      cases ht:mayH f d with
      | true=>
        have HT:=Lib.hid (fun w=>HM.out f d w)
        rw [ht] at HT
        have HE2:Hid (digs mayH (src.drop p)=(digK mayH (4-(1+1)) (a*16+d) f (src.drop (q+1))).sh (1+1)):=Lib.hid (by
         rcases hdc with ⟨_,_,_,h⟩ | ⟨h,_⟩
         ·exact hK d h
         ·exact absurd ⟨hne,hdn,ht⟩ h)
        have HA2:Hid (0≤a*16+d∧a*16+d<16^(1+1)):=Lib.hid (by simp only [Nat.reduceAdd,Int.reducePow];omega)
        have HF2:Hid (-1≤f∧f<16):=HFb
        have HF:=Lib.hid (And.intro (HRq.out.at_ ((q:Int)+1)) (HK.out.self ⟨g,1,none⟩ rfl (.int .i64 ((q:Int)+1))))
        clear hdc hK hKe hne HA HFb ht
        go_wp2_with fail
        go_quiet (fail)
        go_wp2_with fail
        go_quiet (first | (go_at_call 130;exact quiet_add HH.out))
        go_wp2_with (go_at_call 110;refine (HT.out _).mono ?_;rintro e w' ⟨rfl,rfl⟩)
        exact ⟨⟨1+1,q+1,_,_,rfl,rfl,by simp,by omega,by omega,Lib.hid (Sm.rdr ⟨rfl,rfl,rfl,rfl⟩ HF.out.1),Lib.hid (HF.out.2.sm ⟨rfl,rfl,rfl,rfl⟩),Lib.hid (by have:=HQ.out;omega),HA2,HF2,HE2⟩,by simp [intOf]⟩
      | false=>
        have HT:=Lib.hid (fun w=>HM.out f d w)
        rw [ht] at HT
        have HE2:Hid (digs mayH (src.drop p)= .er 1 50):=Lib.hid (by
         rcases hdc with ⟨_,_,h,_⟩ | ⟨_,h⟩
         ·rw [ht] at h;cases h
         ·exact hKe h)
        clear hdc hK hKe hne HA HFb ht
        go_wp2_with fail
        go_quiet (fail)
        go_wp2_with fail
        go_quiet (first | (go_at_call 130;exact quiet_add HH.out))
        go_wp2_with (go_at_call 110;refine (HT.out _).mono ?_;rintro e w' ⟨rfl,rfl⟩)
        refine (stop_any _ q (HRq.out.drewN _)).mono ?_
        rintro e w' ⟨rfl,rfl⟩
        unfold flt
        go_wp2_with fail
        rw [HE2.out]
        exact ⟨rfl,HK.out.sm ⟨rfl,rfl,rfl,rfl⟩,flt_at (by have:=HQ.out;omega)⟩
     ·obtain rfl:k=1:=by omega
      simp only [reduceIte,Nat.reduceEqDiff] at hdc hK hKe
      simp only [Int.reducePow] at ha
      have HE2:Hid (digs mayH (src.drop p)=(digK mayH (4-(2+1)) (a*16+d) f (src.drop (q+1))).sh (2+1)):=Lib.hid (by
       rcases hdc with ⟨_,_,_,h⟩ | ⟨h,_⟩
       ·exact hK d h
       ·exact absurd ⟨hne,hdn,trivial⟩ h)
      have HA2:Hid (0≤a*16+d∧a*16+d<16^(2+1)):=Lib.hid (by simp only [Nat.reduceAdd,Int.reducePow];omega)
      have HF2:Hid (-1≤f∧f<16):=HFb
      have HF:=Lib.hid (And.intro (HRq.out.at_ ((q:Int)+1)) (HK.out.self ⟨g,1,none⟩ rfl (.int .i64 ((q:Int)+1))))
      clear hdc hK hKe hne HA HFb
      go_wp2_with fail
      go_quiet (fail)
      go_wp2_with fail
      go_quiet (first | (go_at_call 130;exact quiet_add HH.out))
      go_wp2_with (fail)
      exact ⟨⟨2+1,q+1,_,_,rfl,rfl,by simp,by omega,by omega,Lib.hid (Sm.rdr ⟨rfl,rfl,rfl,rfl⟩ HF.out.1),Lib.hid (HF.out.2.sm ⟨rfl,rfl,rfl,rfl⟩),Lib.hid (by have:=HQ.out;omega),HA2,HF2,HE2⟩,by simp [intOf]⟩
     ·obtain rfl:k=0:=by omega
      simp only [reduceIte,Nat.reduceEqDiff] at hdc hK hKe
      simp only [Int.reducePow] at ha
      have HE2:Hid (digs mayH (src.drop p)=(digK mayH (4-(3+1)) (a*16+d) f (src.drop (q+1))).sh (3+1)):=Lib.hid (by
       rcases hdc with ⟨_,_,_,h⟩ | ⟨h,_⟩
       ·exact hK d h
       ·exact absurd ⟨hne,hdn,trivial⟩ h)
      have HA2:Hid (0≤a*16+d∧a*16+d<16^(3+1)):=Lib.hid (by simp only [Nat.reduceAdd,Int.reducePow];omega)
      have HF2:Hid (-1≤f∧f<16):=HFb
      have HF:=Lib.hid (And.intro (HRq.out.at_ ((q:Int)+1)) (HK.out.self ⟨g,1,none⟩ rfl (.int .i64 ((q:Int)+1))))
      clear hdc hK hKe hne HA HFb
      go_wp2_with fail
      go_quiet (fail)
      go_wp2_with fail
      go_quiet (first | (go_at_call 130;exact quiet_add HH.out))
      go_wp2_with (fail)
      exact ⟨⟨3+1,q+1,_,_,rfl,rfl,by simp,by omega,by omega,Lib.hid (Sm.rdr ⟨rfl,rfl,rfl,rfl⟩ HF.out.1),Lib.hid (HF.out.2.sm ⟨rfl,rfl,rfl,rfl⟩),Lib.hid (by have:=HQ.out;omega),HA2,HF2,HE2⟩,by simp [intOf]⟩
   ·have hge:decide ((q:Int)<(n:Int))=false:=by simp;omega
    have hge':¬((q:Int)<(n:Int)):=by omega
    have HE2:Hid (digs mayH (src.drop p)= .er i 50):=Lib.hid (by
     rcases hdc with ⟨h,_⟩ | ⟨_,h⟩
     ·exact absurd (drop_ne.1 h) (by rw [HC'.out.len];exact hlt)
     ·exact hKe h)
    clear hdc hK hKe hlt HA HFb
    go_wp2_with fail
    go_quiet (fail)
    go_wp2_with fail
    refine (stop_any _ q (HRq.out.drewN _)).mono ?_
    rintro e w' ⟨rfl,rfl⟩
    unfold flt
    go_wp2_with fail
    rw [HE2.out]
    exact ⟨rfl,HK.out.sm ⟨rfl,rfl,rfl,rfl⟩,flt_at (by have:=HQ.out;omega)⟩
end
end Go.Proofs.YtjhhdnnblcbdbaaGreatDoor.jw
end
