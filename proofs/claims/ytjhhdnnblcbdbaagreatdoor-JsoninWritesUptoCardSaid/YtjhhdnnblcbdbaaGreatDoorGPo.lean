/- The program's power, walked: an exponent's digits, told off up to 2^40. The library's decimal (800 digits in memory): its cells, read and written; trim. The library's decimal: rightShift. -/
import Derived.Test.YtjhhdnnblcbdbaaGreatDoorGDig
import Derived.Handy
import Derived.WalkSpells
import Derived.WalkLawsBesides
import Derived.Deep.RegionHeld3
import Derived.Deep.RegionLaw
import Derived.Deep.DeepCutAuto
import Derived.Deep.QuietTactic
import Derived.BigQuiet
import Derived.Test.YtjhhdnnblcbdbaaGreatDoorYUw
import Derived.Deep.CutBlock
import Derived.Deep.CutRange
import Derived.Deep.LoopGhost
section
namespace Go.Proofs.YtjhhdnnblcbdbaaGreatDoor.pg
open Go.RowKit mem fl big
set_option linter.unusedVariables false
theorem digit_any (c:Nat) (w:World) (hc:c<256):Calls Tryz.prog 90 #[.int .i32 (c:Int)] w fun e w'=>e= .returned (.bool (decide (48≤c∧c≤57)))∧w=w':=by
 by_cases h1:48≤c
 ·by_cases h2:c≤57
  ·have e:decide (48≤c∧c≤57)=true:=decide_eq_true ⟨h1,h2⟩
   rw [e]
   have d1:decide ((c:Int)≥48)=true:=decide_eq_true (by omega)
   have d2:decide ((c:Int)≤57)=true:=decide_eq_true (by omega)
   go_enter Tryz.func90,Tryz.ntmps90
   go_wp2_with fail
   go_ret
   exact ⟨rfl,rfl⟩
  ·have e:decide (48≤c∧c≤57)=false:=decide_eq_false (by omega)
   rw [e]
   have d1:decide ((c:Int)≥48)=true:=decide_eq_true (by omega)
   have d2:decide ((c:Int)≤57)=false:=decide_eq_false (by omega)
   go_enter Tryz.func90,Tryz.ntmps90
   go_wp2_with fail
   go_ret
   exact ⟨rfl,rfl⟩
 ·have e:decide (48≤c∧c≤57)=false:=decide_eq_false (by omega)
  rw [e]
  have d1:decide ((c:Int)≥48)=false:=decide_eq_false (by omega)
  go_enter Tryz.func90,Tryz.ntmps90
  go_wp2_with fail
  go_ret
  exact ⟨rfl,rfl⟩
def pwStep (n c:Nat):Nat:=if (48≤c∧c≤57)∧n<1099511627776 then n*10+(c-48) else n
def pwF (l:List Nat):Nat:=l.foldl pwStep 0
def pwV (l:List Nat):Int:=if l.head? =some 45 then-((min (pwF l) 1099511627776:Nat):Int) else ((min (pwF l) 1099511627776:Nat):Int)
theorem pwF_snoc (l:List Nat) (c:Nat):pwF (l++[c])=pwStep (pwF l) c:=by unfold pwF;rw [List.foldl_append];rfl
set_option maxRecDepth 100000 in
set_option maxHeartbeats 2000000 in
theorem power_any (s:ByteArray) (w:World) (h0:0<s.size) (hn:s.size≤1100000):
  Calls Tryz.prog 96 #[.string s] w fun e w'=>e= .returned (.int .i64 (pwV (nats s)))∧w'=w:=by
 have HSn:=Lib.hid (nats_snoc s)
 have HLn:=Lib.hid (nats_length s)
 obtain ⟨c0,hc0⟩:∃c0,(s[0]'h0).toNat=c0:=⟨_,rfl⟩
 have hhd:(nats s).head? =some c0:=by
  have:=nats_get s 0 h0
  rw [hc0] at this
  rw [List.head?_eq_getElem?,List.getElem?_eq_getElem (by rw [nats_length];exact h0),this]
 have HPV:Hid (pwV (nats s)=if (c0==45)=true then-((min (pwF (nats s)) 1099511627776:Nat):Int) else ((min (pwF (nats s)) 1099511627776:Nat):Int)):=Lib.hid (by
  unfold pwV
  rw [hhd]
  by_cases h:c0=45
  ·subst h;simp
  ·simp [h])
 obtain ⟨b0,hb0⟩:∃b0,(c0==45)=b0:=⟨_,rfl⟩
 have hb1:((c0:Int)==45)=b0:=by rw [←hb0];rw [Bool.eq_iff_iff];simp;omega
 rw [hb0] at HPV
 obtain ⟨PV,hPV⟩:∃PV,pwV (nats s)=PV:=⟨_,rfl⟩
 rw [hPV] at HPV ⊢
 have HD:=Lib.hid digit_any
 generalize nats s=l at*
 clear hhd hb0 hPV
 go_enter Tryz.func96,Tryz.ntmps96
 go_wp2_with fail
 go_loopw [4,5] (fun v4 v5 wr=>∃(n i:Nat),i≤s.size∧n≤10995116277769∧v4= .int .i64 (n:Int)∧v5= .int .i64 (i:Int)∧wr=w∧Hid (pwF (l.take i)=n)) (fun _ v5 _=>s.size-(intOf v5).toNat)
 case atStart=>exact ⟨0,0,by omega,by omega,rfl,rfl,rfl,Lib.hid rfl⟩
 case round=>
  obtain ⟨n,i,hi,hnb,rfl,rfl,rfl,hst⟩:=hrel
  by_cases hlt:i<s.size
  ·have hsn:=HSn.out i hlt
   obtain ⟨c,hch⟩:∃c,(s[i]).toNat=c:=⟨_,rfl⟩
   have hcb:c<256:=by rw [←hch];exact UInt8.toNat_lt _
   rw [hch] at hsn
   have hstep:pwF (l.take (i+1))=pwStep n c:=by rw [hsn,pwF_snoc,hst.out]
   have HS:=Lib.hid hstep
   clear hsn hstep hst
   go_wp2_with fail
   refine (HD.out c _ hcb).mono ?_
   rintro e w2 ⟨rfl,rfl⟩
   by_cases hd:48≤c∧c≤57
   ·have e1:decide (48≤c∧c≤57)=true:=decide_eq_true hd
    rw [e1]
    by_cases hf:n<1099511627776
    ·have hs2:pwStep n c=n*10+(c-48):=by unfold pwStep;rw [if_pos ⟨hd,hf⟩]
     have d2:decide ((n:Int)<1099511627776)=true:=decide_eq_true (by omega)
     have HS2:=Lib.hid (HS.out.trans hs2)
     have hd1:=hd.1
     have hd2:=hd.2
     clear HS hs2 hd e1
     go_wp2_with fail
     exact ⟨⟨n*10+(c-48),i+1,by omega,by omega,congrArg (Value.int .i64) (by omega),rfl,trivial,HS2⟩,by simp [intOf];omega⟩
    ·have hs2:pwStep n c=n:=by unfold pwStep;rw [if_neg (by omega)]
     have d2:decide ((n:Int)<1099511627776)=false:=decide_eq_false (by omega)
     have HS2:=Lib.hid (HS.out.trans hs2)
     clear HS hs2 hd e1
     go_wp2_with fail
     exact ⟨⟨n,i+1,by omega,by omega,rfl,rfl,trivial,HS2⟩,by simp [intOf];omega⟩
   ·have e1:decide (48≤c∧c≤57)=false:=decide_eq_false hd
    rw [e1]
    have hs2:pwStep n c=n:=by unfold pwStep;rw [if_neg (by omega)]
    have HS2:=Lib.hid (HS.out.trans hs2)
    clear HS hs2 hd e1
    go_wp2_with fail
    exact ⟨⟨n,i+1,by omega,by omega,rfl,rfl,trivial,HS2⟩,by simp [intOf];omega⟩
  ·have hil:i=s.size:=by omega
   subst hil
   have hfin:pwF l=n:=by have:=hst.out;rw [←HLn.out,List.take_length] at this;exact this
   have HF:=Lib.hid hfin
   clear hfin hst
   cases b0
   ·have HP2:=Lib.hid (HPV.out.trans (if_neg (by decide)))
    go_wp2_with fail
    all_goals
     go_ret
     refine ⟨ret_int ?_,rfl⟩
     rw [HP2.out,HF.out]
     omega
   ·have HP2:=Lib.hid (HPV.out.trans (if_pos rfl))
    go_wp2_with fail
    all_goals
     go_ret
     refine ⟨ret_int ?_,rfl⟩
     rw [HP2.out,HF.out]
     omega
end Go.Proofs.YtjhhdnnblcbdbaaGreatDoor.pg
end
section
namespace Go.Proofs.YtjhhdnnblcbdbaaGreatDoor.dcm
open Go.RowKit mem
set_option linter.unusedVariables false
def dcells (L:List Nat) (nd:Nat) (dp:Int) (neg tr:Bool):Array Value:=((L.map fun n:Nat=>Value.int .u8 (n:Int))++([.int .i64 (nd:Int),.int .i64 dp,.bool neg,.bool tr]:List Value)).toArray
structure DcAt (W:World) (g:Nat) (L:List Nat) (nd:Nat) (dp:Int) (neg tr:Bool):Prop where
 len:L.length=800
 by8:∀c∈L,c<256
 blk:W.heap[g]? =some (.cells (dcells L nd dp neg tr) 232 (0,0))
theorem cell_blk {w:World} {g:Nat} {cs:Array Value} {t:TypeId} (h:w.heap[g]? =some (.cells cs t (0,0))) (o:Nat):w.cell? ⟨g,o,none⟩=cs[o]? :=by simp [World.cell?,h]
theorem dc_d {L:List Nat} {nd:Nat} {dp:Int} {neg tr:Bool} (hl:L.length=800) {i:Nat} (hi:i<800):(dcells L nd dp neg tr)[i]? =some (.int .u8 (L.getD i 0:Int)):=by
 unfold dcells
 rw [List.getElem?_toArray,List.getElem?_append_left (by simp;omega),List.getElem?_map,List.getElem?_eq_getElem (by omega),List.getD_eq_getElem?_getD,List.getElem?_eq_getElem (by omega)]
 rfl
theorem dc_hi {L:List Nat} {nd:Nat} {dp:Int} {neg tr:Bool} (hl:L.length=800) (i:Nat):(dcells L nd dp neg tr)[800+i]? =([.int .i64 (nd:Int),.int .i64 dp,.bool neg,.bool tr]:List Value)[i]? :=by
 unfold dcells
 rw [List.getElem?_toArray,List.getElem?_append_right (by simp;omega)]
 congr 1
 simp
 omega
section
variable {W:World} {g:Nat} {L:List Nat} {nd:Nat} {dp:Int} {neg tr:Bool}
theorem DcAt.cD (h:DcAt W g L nd dp neg tr) {i:Nat} (hi:i<800):W.cell? ⟨g,i,none⟩=some (.int .u8 (L.getD i 0:Int)):=(cell_blk h.blk i).trans (dc_d h.len hi)
theorem DcAt.cN (h:DcAt W g L nd dp neg tr):W.cell? ⟨g,800,none⟩=some (.int .i64 (nd:Int)):=(cell_blk h.blk 800).trans (dc_hi h.len 0)
theorem DcAt.cP (h:DcAt W g L nd dp neg tr):W.cell? ⟨g,801,none⟩=some (.int .i64 dp):=(cell_blk h.blk 801).trans (dc_hi h.len 1)
theorem DcAt.cS (h:DcAt W g L nd dp neg tr):W.cell? ⟨g,802,none⟩=some (.bool neg):=(cell_blk h.blk 802).trans (dc_hi h.len 2)
theorem DcAt.cT (h:DcAt W g L nd dp neg tr):W.cell? ⟨g,803,none⟩=some (.bool tr):=(cell_blk h.blk 803).trans (dc_hi h.len 3)
theorem DcAt.fz (h:DcAt W g L nd dp neg tr) (i:Nat):W.frozen? ⟨g,i,none⟩=false:=blk_frozen h.blk i
theorem DcAt.lt (h:DcAt W g L nd dp neg tr):g<W.heap.size:=(Array.getElem?_eq_some_iff.1 h.blk).1
theorem DcAt.setD (h:DcAt W g L nd dp neg tr) {i c:Nat} (hi:i<800) (hc:c<256):DcAt (W.setCell ⟨g,i,none⟩ (.int .u8 (c:Int))) g (L.set i c) nd dp neg tr:=by
 refine ⟨by simpa using h.len,fun x hx=>?_,(blk_set h.blk i _).trans ?_⟩
 ·rcases List.mem_or_eq_of_mem_set hx with hx | rfl
  ·exact h.by8 x hx
  ·exact hc
 ·congr 2
  apply Array.ext_getElem?
  intro j
  unfold dcells
  rw [Array.getElem?_setIfInBounds]
  have hl:=h.len
  simp only [List.size_toArray,List.length_append,List.length_map,hl,List.length_cons,List.length_nil,List.getElem?_toArray,List.map_set]
  rw [List.set_append_left _ _ (by simp;omega) |>.symm,List.getElem?_set]
  simp [hl]
theorem DcAt.setN (h:DcAt W g L nd dp neg tr) (n:Nat):DcAt (W.setCell ⟨g,800,none⟩ (.int .i64 (n:Int))) g L n dp neg tr:=by
 refine ⟨h.len,h.by8,(blk_set h.blk 800 _).trans ?_⟩
 congr 2
 apply Array.ext_getElem?
 intro j
 have hl:=h.len
 rw [Array.getElem?_setIfInBounds]
 have hs:(dcells L nd dp neg tr).size=804:=by simp [dcells,hl]
 rcases Nat.lt_or_ge j 800 with hj | hj
 ·rw [if_neg (by omega),dc_d hl hj,dc_d hl hj]
 ·obtain ⟨t,rfl⟩:∃t,j=800+t:=⟨j-800,by omega⟩
  rw [dc_hi hl,dc_hi hl]
  rcases t with _ | t
  ·simp [hs]
  ·rw [if_neg (by omega)]
   rfl
theorem DcAt.setP (h:DcAt W g L nd dp neg tr) (p:Int):DcAt (W.setCell ⟨g,801,none⟩ (.int .i64 p)) g L nd p neg tr:=by
 refine ⟨h.len,h.by8,(blk_set h.blk 801 _).trans ?_⟩
 congr 2
 apply Array.ext_getElem?
 intro j
 have hl:=h.len
 rw [Array.getElem?_setIfInBounds]
 have hs:(dcells L nd dp neg tr).size=804:=by simp [dcells,hl]
 rcases Nat.lt_or_ge j 800 with hj | hj
 ·rw [if_neg (by omega),dc_d hl hj,dc_d hl hj]
 ·obtain ⟨t,rfl⟩:∃t,j=800+t:=⟨j-800,by omega⟩
  rw [dc_hi hl,dc_hi hl]
  rcases t with _ | _ | t
  ·rw [if_neg (by omega)];rfl
  ·simp [hs]
  ·rw [if_neg (by omega)];rfl
theorem DcAt.setT (h:DcAt W g L nd dp neg tr) (b:Bool):DcAt (W.setCell ⟨g,803,none⟩ (.bool b)) g L nd dp neg b:=by
 refine ⟨h.len,h.by8,(blk_set h.blk 803 _).trans ?_⟩
 congr 2
 apply Array.ext_getElem?
 intro j
 have hl:=h.len
 rw [Array.getElem?_setIfInBounds]
 have hs:(dcells L nd dp neg tr).size=804:=by simp [dcells,hl]
 rcases Nat.lt_or_ge j 800 with hj | hj
 ·rw [if_neg (by omega),dc_d hl hj,dc_d hl hj]
 ·obtain ⟨t,rfl⟩:∃t,j=800+t:=⟨j-800,by omega⟩
  rw [dc_hi hl,dc_hi hl]
  rcases t with _ | _ | _ | _ | t
  ·rw [if_neg (by omega)];rfl
  ·rw [if_neg (by omega)];rfl
  ·rw [if_neg (by omega)];rfl
  ·simp [hs]
  ·rw [if_neg (by omega)];rfl
end
theorem DcAt.as {W W':World} {g:Nat} {L:List Nat} {nd:Nat} {dp:Int} {neg tr:Bool} (h:DcAt W g L nd dp neg tr) (hh:W'.heap=W.heap):DcAt W' g L nd dp neg tr:=⟨h.len,h.by8,by rw [hh];exact h.blk⟩
theorem grown_as {a w w':World} {g:Nat} (h:a.grownBy w (some g)) (hh:w'.heap=w.heap) (ho:w'.os=w.os) (ht:w'.tape=w.tape) (hp:w'.output=w.output):a.grownBy w' (some g):=
 ⟨by rw [ho];exact h.os,by rw [ht];exact h.tape,by rw [hp];exact h.output,by rw [hh];exact h.size,fun k hk hne=>by rw [hh];exact h.block k hk hne⟩
theorem grown_dr {a w:World} {g:Nat} (h:a.grownBy w (some g)) (n:Nat):a.grownBy (w.drewN n) (some g):=grown_as h rfl rfl rfl rfl
def trimN (L:List Nat):Nat→Nat
 | 0=>0
 | n+1=>if L.getD n 0=48 then trimN L n else n+1
theorem trimN_le (L:List Nat):∀n,trimN L n≤n
 | 0=>Nat.le_refl _
 | n+1=>by
   unfold trimN
   split
   ·have:=trimN_le L n;omega
   ·omega
def ndOf (W:World) (g:Nat):Nat:=match W.cell? ⟨g,800,none⟩ with | some (.int _ n)=>n.toNat | _=>0
def TmPost (g:Nat) (L:List Nat) (nd:Nat) (dp:Int) (neg tr:Bool) (w:World) (e:Ending) (w':World):Prop:=
 e= .returned (.tuple #[])∧DcAt w' g L (trimN L nd) (if trimN L nd=0 then 0 else dp) neg tr∧w.grownBy w' (some g)
set_option maxRecDepth 100000 in
set_option maxHeartbeats 4000000 in
theorem trim_any (g:Nat) (L:List Nat) (nd:Nat) (dp:Int) (neg tr:Bool) (w:World) (h:DcAt w g L nd dp neg tr) (hn:nd≤800):
  Calls Tryz.prog 195 #[.pointer (some ⟨g,0,none⟩)] w (TmPost g L nd dp neg tr w):=by
 have H0:=Lib.hid h
 clear h
 go_enter Tryz.func195,Tryz.ntmps195
 go_wp2_with fail
 go_loopw [] (fun W=>∃n,n≤nd∧trimN L n=trimN L nd∧Hid (DcAt W g L n dp neg tr)∧w.grownBy W (some g)) (fun W=>ndOf W g)
 case atStart=>exact ⟨nd,Nat.le_refl _,rfl,H0,grown_refl w _⟩
 case round=>
  obtain ⟨n,hn1,hn2,H1,hg⟩:=hrel
  clear H0
  have c0:=H1.out.cN
  have p0:=H1.out.cP
  have z0:=H1.out.fz 800
  have z1:=H1.out.fz 801
  have hm:ndOf wr g=n:=by unfold ndOf;rw [c0];simp
  rcases n with _ | m
  ·have q0:trimN L nd=0:=by rw [←hn2];rfl
   have hd:=H1.out.setP 0
   have c1:wr.cell? ⟨g,800,none⟩=some (.int .i64 0):=c0
   clear c0
   go_wp2_with fail
   go_quiet (fail)
   go_wp2_with fail
   refine bodyPost_end (results_none rfl _ _ _) rfl ?_
   refine ⟨rfl,by rw [q0,if_pos rfl];exact ⟨hd.len,hd.by8,hd.blk⟩,?_⟩
   exact grown_set (grown_dr hg nq) _ _
  ·have d0:=H1.out.cD (i:=m) (by omega)
   have c1:wr.cell? ⟨g,800,none⟩=some (.int .i64 ((m:Int)+1)):=by rw [c0];simp
   have hi8:(m:Int)<800:=by omega
   have hi9:(0:Int)≤(m:Int):=by omega
   have hi7:(0:Int)<(m:Int)+1:=by omega
   have hi6:((m:Int)+1==0)=false:=beq_false_of_ne (by omega)
   clear c0
   obtain ⟨c,hc⟩:∃c,L.getD m 0=c:=⟨_,rfl⟩
   rw [hc] at d0
   by_cases h48:c=48
   ·subst h48
    have hd:=H1.out.setN m
    go_wp2_with fail
    go_quiet (fail)
    go_wp2_with fail
    refine ⟨⟨m,by omega,?_,?_,?_⟩,?_⟩
    ·rw [←hn2];show trimN L m=if L.getD m 0=48 then trimN L m else m+1;rw [if_pos hc]
    ·exact Lib.hid (hd.as rfl)
    ·exact grown_set (grown_dr hg nq) _ _
    ·rw [hm]
     have:ndOf ((wr.drewN nq).setCell ⟨g,800,none⟩ (.int .i64 (m:Int))) g=m:=by
      unfold ndOf
      rw [(hd.as (W':=(wr.drewN nq).setCell ⟨g,800,none⟩ (.int .i64 (m:Int))) rfl).cN]
      simp
     rw [this]
     omega
   ·have hne:((c:Nat):Int)≠48:=by omega
    have hne2:(((c:Nat):Int)==48)=false:=beq_false_of_ne hne
    have q0:trimN L nd=m+1:=by rw [←hn2];unfold trimN;rw [hc,if_neg h48]
    go_wp2_with fail
    go_quiet (fail)
    go_wp2_with fail
    refine bodyPost_end (results_none rfl _ _ _) rfl ?_
    refine ⟨rfl,?_,?_⟩
    ·rw [q0,if_neg (by omega)]
     exact ⟨H1.out.len,H1.out.by8,H1.out.blk⟩
    ·exact grown_dr hg nq
end Go.Proofs.YtjhhdnnblcbdbaaGreatDoor.dcm
end
section
namespace Go.Proofs.YtjhhdnnblcbdbaaGreatDoor.dcm
open Go.RowKit mem fl big us
set_option linter.unusedVariables false
def nmb (L:List Nat):Nat→Nat
 | 0=>0
 | i+1=>nmb L i*10+(L.getD i 0-48)
def pre (L:List Nat) (nd r:Nat):Nat:=if r≤nd then nmb L r else nmb L nd*10^(r-nd)
theorem pre_le {L:List Nat} {nd r:Nat} (h:r≤nd):pre L nd r=nmb L r:=if_pos h
theorem pre_ge {L:List Nat} {nd r:Nat} (h:nd≤r):pre L nd r=nmb L nd*10^(r-nd):=by
 unfold pre
 split
 ·have:r=nd:=by omega
  subst this;simp
 ·rfl
theorem pre_one {L:List Nat} {nd r:Nat} (h:nd≤r):pre L nd (r+1)=pre L nd r*10:=by
 rw [pre_ge h,pre_ge (by omega),show r+1-nd=(r-nd)+1 by omega,Nat.pow_succ,Nat.mul_assoc]
theorem pre_mono {L:List Nat} {nd:Nat} (hD:True):∀a b:Nat,a≤b→pre L nd a≤pre L nd b:=by
 intro a b h
 induction b with
 | zero=>rw [show a=0 by omega];exact Nat.le_refl _
 | succ b ih=>
   rcases Nat.lt_or_ge b a with h1 | h1
   ·rw [show a=b+1 by omega];exact Nat.le_refl _
   ·refine Nat.le_trans (ih h1) ?_
    rcases Nat.lt_or_ge b nd with h2 | h2
    ·rw [pre_le (by omega),pre_le (by omega)]
     simp only [nmb]
     omega
    ·rw [pre_one h2]
     omega
structure Dg (L:List Nat) (nd:Nat):Prop where
 lo:∀i,i<nd→48≤L.getD i 0
 hi:∀i,i<nd→L.getD i 0≤57
 ne:0<nd→L.getD 0 0≠48
 le:nd≤800
theorem Dg.pos {L:List Nat} {nd:Nat} (h:Dg L nd):∀i,0<i→i≤nd→10^(i-1)≤nmb L i
 | 0,h0,_=>absurd h0 (by omega)
 | 1,_,h1=>by
   have:=h.lo 0 (by omega)
   have:=h.ne (by omega)
   simp only [nmb]
   omega
 | i+2,_,h1=>by
   have:=Dg.pos h (i+1) (by omega) (by omega)
   simp only [nmb]
   rw [show i+2-1=(i+1-1)+1 by omega,Nat.pow_succ]
   simp only [nmb] at this
   omega
theorem Dg.lt {L:List Nat} {nd:Nat} (h:Dg L nd):∀i,i≤nd→nmb L i<10^i
 | 0,_=>by simp [nmb]
 | i+1,h1=>by
   have:=Dg.lt h i (by omega)
   have:=h.hi i (by omega)
   simp only [nmb]
   rw [Nat.pow_succ]
   omega
theorem few_of {e n:Nat} (h:10^e≤n) (hn:n<11529215046068469760):e<20:=by
 rcases Nat.lt_or_ge e 20 with h1 | h1
 ·exact h1
 ·have:=Nat.pow_le_pow_right (show 0<10 by omega) h1
  omega
theorem pre_few {L:List Nat} {nd r:Nat} (h:Dg L nd) (h0:0<nd) (hr:nd≤r) (hn:pre L nd r<11529215046068469760):r<nd+20:=by
 have h1:=h.pos nd h0 (Nat.le_refl _)
 rw [pre_ge hr] at hn
 have h2:10^(r-nd)≤nmb L nd*10^(r-nd):=Nat.le_mul_of_pos_left _ (by have:=Nat.pow_pos (n:=nd-1) (show 0<10 by omega);omega)
 have:=few_of h2 hn
 omega
theorem nmb_set (L:List Nat) (i c:Nat):∀j,j≤i→nmb (L.set i c) j=nmb L j
 | 0,_=>rfl
 | j+1,h=>by
   simp only [nmb]
   rw [nmb_set L i c j (by omega)]
   congr 2
   rw [List.getD_eq_getElem?_getD,List.getD_eq_getElem?_getD,List.getElem?_set_ne (by omega)]
theorem getD_set_eq {L:List Nat} {i c:Nat} (h:i<L.length):(L.set i c).getD i 0=c:=by
 rw [List.getD_eq_getElem?_getD,List.getElem?_set_self h];rfl
theorem getD_set_ne {L:List Nat} {i j c:Nat} (h:i≠j):(L.set i c).getD j 0=L.getD j 0:=by
 rw [List.getD_eq_getElem?_getD,List.getD_eq_getElem?_getD,List.getElem?_set_ne h]
structure RI (L:List Nat) (nd r T:Nat) (tr:Bool) (Lw:List Nat) (v n Q:Nat) (tr':Bool):Prop where
 eq:pre L nd (r+v)=10*Q*T+n
 lt:n<10*T
 ge:v=0→T≤n
 lo:∀x,x<min v 800→48≤Lw.getD x 0
 hi:∀x,x<min v 800→Lw.getD x 0≤57
 ne:0<v→Lw.getD 0 0≠48
 num:nmb Lw (min v 800)=Q/10^(v-min v 800)
 tr:tr'=(tr||(Q % 10^(v-min v 800) !=0))
 ql:0<v→10^(v-1)≤Q
 qh:Q<10^v
theorem RI.start {L Lw:List Nat} {nd r T n:Nat} {tr:Bool} (h1:T≤n) (h2:n<10*T) (h3:n=pre L nd r):RI L nd r T tr Lw 0 n 0 tr:=
 ⟨by simp [h3],h2,fun _=>h1,fun x hx=>absurd hx (by omega),fun x hx=>absurd hx (by omega),fun h=>absurd h (by omega),by simp [nmb],by simp,fun h=>absurd h (by omega),by simp⟩
theorem q_bounds {T n Q v:Nat} (hT:0<T) (hn:n<10*T) (hge:v=0→T≤n) (hl:0<v→10^(v-1)≤Q) (hh:Q<10^v):n/T≤9∧10^v≤10*Q+n/T∧10*Q+n/T<10^(v+1):=by
 have h9:n/T<10:=Nat.div_lt_of_lt_mul (by rw [Nat.mul_comm];exact hn)
 refine ⟨by omega,?_,by rw [Nat.pow_succ];omega⟩
 rcases Nat.eq_zero_or_pos v with rfl | hv
 ·have:=(Nat.le_div_iff_mul_le hT).2 (show 1*T≤n by have:=hge rfl;omega)
  simp
  omega
 ·have:=hl hv
  obtain ⟨u,rfl⟩:∃u,v=u+1:=⟨v-1,by omega⟩
  simp only [Nat.add_sub_cancel] at this
  rw [Nat.pow_succ]
  generalize n/T=q at*
  omega
theorem RI.lowstep {L Lw:List Nat} {nd r T v n Q:Nat} {tr tr':Bool} (h:RI L nd r T tr Lw v n Q tr') (hT:0<T) (hv:v<800) (hl:Lw.length=800) {c:Nat} (hc:c≤9) (hp:pre L nd (r+(v+1))=pre L nd (r+v)*10+c):
  RI L nd r T tr (Lw.set v (n/T+48)) (v+1) (n % T*10+c) (10*Q+n/T) tr':=by
 obtain ⟨h9,hb1,hb2⟩:=q_bounds hT h.lt h.ge h.ql h.qh
 have hm1:min v 800=v:=by omega
 have hm2:min (v+1) 800=v+1:=by omega
 have hml:=Nat.mod_lt n hT
 have hdm:=Nat.div_add_mod n T
 have hnum:=h.num
 have htr:=h.tr
 rw [hm1,Nat.sub_self] at hnum htr
 have hfirst:v=0→1≤n/T:=fun hv0=>(Nat.le_div_iff_mul_le hT).2 (by have:=h.ge hv0;omega)
 have heq:=h.eq
 have hlo:=h.lo
 have hhi:=h.hi
 have hne:=h.ne
 clear h
 generalize n/T=q at*
 generalize n % T=m at*
 refine ⟨?_,by omega,fun h=>absurd h (by omega),?_,?_,?_,?_,?_,fun _=>by rw [Nat.add_sub_cancel];exact hb1,hb2⟩
 ·rw [hp,heq]
  have e1:10*(10*Q+q)*T=10*(10*Q*T)+10*(T*q):=by
   rw [Nat.mul_assoc,Nat.add_mul,Nat.mul_add,Nat.mul_comm T]
  rw [e1]
  omega
 ·intro x hx
  rw [hm2] at hx
  by_cases hxv:x=v
  ·subst hxv;rw [getD_set_eq (by omega)];omega
  ·rw [getD_set_ne (by omega)];exact hlo x (by omega)
 ·intro x hx
  rw [hm2] at hx
  by_cases hxv:x=v
  ·subst hxv;rw [getD_set_eq (by omega)];omega
  ·rw [getD_set_ne (by omega)];exact hhi x (by omega)
 ·intro _
  by_cases hv0:v=0
  ·subst hv0
   rw [getD_set_eq (by omega)]
   have:=hfirst rfl
   omega
  ·rw [getD_set_ne (by omega)];exact hne (by omega)
 ·rw [hm2,Nat.sub_self,Nat.pow_zero,Nat.div_one]
  simp only [nmb]
  rw [nmb_set _ _ _ v (Nat.le_refl _),getD_set_eq (by omega),hnum]
  simp
  omega
 ·rw [hm2,Nat.sub_self,htr]
  simp [Nat.mod_one]
theorem RI.highstep {L Lw:List Nat} {nd r T v n Q:Nat} {tr tr':Bool} (h:RI L nd r T tr Lw v n Q tr') (hT:0<T) (hv:800≤v) {c:Nat} (hc:c≤9) (hp:pre L nd (r+(v+1))=pre L nd (r+v)*10+c):
  RI L nd r T tr Lw (v+1) (n % T*10+c) (10*Q+n/T) (tr'||(n/T !=0)):=by
 obtain ⟨h9,hb1,hb2⟩:=q_bounds hT h.lt h.ge h.ql h.qh
 have hm1:min v 800=800:=by omega
 have hm2:min (v+1) 800=800:=by omega
 have hml:=Nat.mod_lt n hT
 have hdm:=Nat.div_add_mod n T
 have hnum:=h.num
 have htr:=h.tr
 rw [hm1] at hnum htr
 obtain ⟨u,rfl⟩:∃u,v=800+u:=⟨v-800,by omega⟩
 rw [show 800+u-800=u by omega] at hnum htr
 have hpu:=Nat.pow_pos (n:=u) (show 0<10 by omega)
 have heq:=h.eq
 have hlo:=h.lo
 have hhi:=h.hi
 have hne:=h.ne
 clear h
 generalize n/T=q at*
 generalize n % T=m at*
 have ed:(10*Q+q)/10^(u+1)=Q/10^u:=by
  rw [Nat.pow_succ,Nat.mul_comm (10^u),←Nat.div_div_eq_div_mul]
  congr 1
  omega
 refine ⟨?_,by omega,fun h=>absurd h (by omega),?_,?_,?_,?_,?_,fun _=>by rw [Nat.add_sub_cancel];exact hb1,hb2⟩
 ·rw [hp,heq]
  have e1:10*(10*Q+q)*T=10*(10*Q*T)+10*(T*q):=by
   rw [Nat.mul_assoc,Nat.add_mul,Nat.mul_add,Nat.mul_comm T]
  rw [e1]
  omega
 ·intro x hx;exact hlo x (by omega)
 ·intro x hx;exact hhi x (by omega)
 ·intro _;exact hne (by omega)
 ·rw [hm2,show 800+u+1-800=u+1 by omega,ed,hnum]
 ·rw [hm2,show 800+u+1-800=u+1 by omega,htr,Bool.or_assoc]
  congr 1
  have em:(10*Q+q) % 10^(u+1)=10*(Q % 10^u)+q:=by
   have h1:=Nat.div_add_mod (10*Q+q) (10^(u+1))
   rw [ed] at h1
   have h2:=Nat.div_add_mod Q (10^u)
   have h3:10^(u+1)*(Q/10^u)=10*(10^u*(Q/10^u)):=by rw [Nat.pow_succ,Nat.mul_comm (10^u) 10,Nat.mul_assoc]
   omega
  rw [em]
  generalize Q % 10^u=a
  generalize q=b
  rw [Bool.eq_iff_iff]
  simp
  omega
theorem RI.done {L Lw:List Nat} {nd r k v n Q:Nat} {tr tr':Bool} (h:RI L nd r (2^k) tr Lw v n Q tr') (hv:nd+k+1≤r+v):n=0:=by
 have h1:=h.eq
 have h2:=h.lt
 rw [pre_ge (by omega)] at h1
 have h3:r+v-nd=(k+1)+(r+v-nd-(k+1)):=by omega
 have h4:10^(k+1)=10*2^k*5^k:=by
  rw [Nat.pow_succ,Nat.mul_comm,Nat.mul_assoc,←Nat.mul_pow]
 have h5:nmb L nd*10^(r+v-nd)=(10*2^k)*(5^k*10^(r+v-nd-(k+1))*nmb L nd):=by
  have h8:10^(r+v-nd)=10^(k+1)*10^(r+v-nd-(k+1)):=by rw [←Nat.pow_add];congr 1
  rw [h8,h4]
  ac_rfl
 rw [h5] at h1
 have h6:10*Q*2^k=(10*2^k)*Q:=by ac_rfl
 rw [h6] at h1
 have h7:n % (10*2^k)=0:=by
  have:=congrArg (·% (10*2^k)) h1
  simp only [Nat.mul_mod_right,Nat.mul_add_mod] at this
  exact this.symm
 rw [Nat.mod_eq_of_lt h2] at h7
 exact h7
theorem trim_nmb (L:List Nat):∀n,nmb L (trimN L n)*10^(n-trimN L n)=nmb L n
 | 0=>by simp [trimN]
 | n+1=>by
   simp only [trimN]
   split
   ·have h1:=trim_nmb L n
    have h2:=trimN_le L n
    rename_i h3
    rw [show n+1-trimN L n=(n-trimN L n)+1 by omega,Nat.pow_succ,←Nat.mul_assoc,h1]
    simp only [nmb,h3]
    omega
   ·simp
theorem trim_pos (L:List Nat) (h:L.getD 0 0≠48):∀n,0<n→0<trimN L n
 | 0,h0=>absurd h0 (by omega)
 | n+1,_=>by
   simp only [trimN]
   split
   ·rcases Nat.eq_zero_or_pos n with rfl | hn
    ·rename_i h3;exact absurd h3 h
    ·exact trim_pos L h n hn
   ·omega
theorem trim_last (L:List Nat):∀n,0<trimN L n→L.getD (trimN L n-1) 0≠48
 | 0,h0=>absurd h0 (by simp [trimN])
 | n+1,h=>by
   by_cases h3:L.getD n 0=48
   ·have e:trimN L (n+1)=trimN L n:=by simp only [trimN];rw [if_pos h3]
    rw [e] at h ⊢
    exact trim_last L n h
   ·have e:trimN L (n+1)=n+1:=by simp only [trimN];rw [if_neg h3]
    rw [e]
    simpa using h3
def ShPost (g:Nat) (neg tr:Bool) (Q v:Nat) (dpv:Int) (w:World) (e:Ending) (w':World):Prop:=
 e= .returned (.tuple #[])∧∃L' nd' tr',DcAt w' g L' nd' dpv neg tr'∧Dg L' nd'∧0<nd'∧L'.getD (nd'-1) 0≠48∧nd'≤v∧
  nmb L' nd'*10^(min v 800-nd')=Q/10^(v-min v 800)∧tr'=(tr||(Q % 10^(v-min v 800) !=0))∧w.grownBy w' (some g)
set_option maxRecDepth 100000 in
set_option maxHeartbeats 4000000 in
theorem rsh_any (g:Nat) (L:List Nat) (nd k:Nat) (dp:Int) (neg tr:Bool) (w:World) (h:DcAt w g L nd dp neg tr) (hD:Dg L nd) (h0:0<nd) (hk1:1≤k) (hk:k≤60) (hp1: -100000≤dp) (hp2:dp≤100000):
  Calls Tryz.prog 197 #[.pointer (some ⟨g,0,none⟩),.int .u64 (k:Int)] w (fun e w'=>∃r v Q,2^k≤pre L nd r∧(∀j,j<r→pre L nd j<2^k)∧nd≤v+r∧v+r≤nd+k+20∧pre L nd (v+r)=10*Q*2^k∧0<v∧10^(v-1)≤Q∧Q<10^v∧
   ShPost g neg tr Q v (dp-(r:Int)+1) w e w'):=by
 have H0:=Lib.hid h
 have c0:=h.cN
 have z0:=h.fz 800
 have z1:=h.fz 801
 have p0:=h.cP
 clear h
 have hTb:(2:Nat)^k≤2^60:=Nat.pow_le_pow_right (by omega) hk
 have hTe:(2:Nat)^60=1152921504606846976:=by decide
 have hTp:=Nat.two_pow_pos k
 have hT:((2:Int)^k)=((2^k:Nat):Int):=by simp
 have hT2:2≤2^k:=by
  have:=Nat.pow_le_pow_right (show 0<2 by omega) hk1
  omega
 obtain ⟨T,hTd⟩:∃T,2^k=T:=⟨_,rfl⟩
 have hTd':=Lib.hid hTd
 simp only [hTd] at hTb hTp hT hT2 ⊢
 have hT60:T≤1152921504606846976:=by omega
 clear hTb hTe
 go_enter Tryz.func197,Tryz.ntmps197
 go_upto_block 0 with (fail)
 go_cut [4,6] (fun u4 u6 wc=>∃r:Nat,∃n:Nat,u4= .int .i64 (r:Int)∧u6= .int .u64 (n:Int)∧T≤n∧n<10*T∧r<nd+20∧0<r∧n=pre L nd r∧pre L nd (r-1)<T∧wc=w)
 case first=>
  go_wp2_with fail
  go_loop [4,6] (fun u4 u6=>∃r:Nat,u4= .int .i64 (r:Int)∧u6= .int .u64 (nmb L r:Int)∧r≤nd∧nmb L r<10*T∧(0<r→nmb L (r-1)<T)) (fun u4 _=>nd-(intOf u4).toNat)
  case atStart=>exact ⟨0,rfl,rfl,by omega,by simp [nmb];omega,fun h=>absurd h (by omega)⟩
  case round=>
   obtain ⟨r,rfl,rfl,hr1,hr2,hr3⟩:=hrel
   have c1:=c0
   rcases Nat.lt_or_ge (nmb L r) T with hn | hn
   ·have e1:(nmb L r:Int)/(T:Int)=0:=by
     have:nmb L r/T=0:=Nat.div_eq_of_lt hn
     have h2:(nmb L r:Int)/(T:Int)=((nmb L r/T:Nat):Int):=by simp
     rw [h2,this];rfl
    rcases Nat.lt_or_ge r nd with hrn | hrn
    ·have d0:=H0.out.cD (i:=r) (by have:=hD.le;omega)
     have dl:=hD.lo r hrn
     have dh:=hD.hi r hrn
     have hrl:(r:Int)<(nd:Int):=by omega
     have hr8:(r:Int)<800:=by have:=hD.le;omega
     have hdd:nmb L (r+1)=nmb L r*10+(L.getD r 0-48):=rfl
     obtain ⟨c,hc⟩:∃c,L.getD r 0=c:=⟨_,rfl⟩
     obtain ⟨n,hnn⟩:∃n,nmb L r=n:=⟨_,rfl⟩
     rw [hc] at d0 dl dh hdd
     rw [hnn] at hdd hn e1 hr2
     rw [hnn]
     go_wp2_with fail
     refine ⟨⟨r+1,by simp,?_,by omega,by omega,fun _=>by rw [Nat.add_sub_cancel,hnn];exact hn⟩,by simp [intOf];omega⟩
     rw [hdd]
     congr 1
     try simp only [IntKind.wrap_u64]
     omega
    ·have hre:r=nd:=by omega
     subst hre
     have hnp:=hD.pos r h0 (Nat.le_refl _)
     have hpp:=Nat.pow_pos (n:=r-1) (show 0<10 by omega)
     have hz:((nmb L r:Int)==0)=false:=beq_false_of_ne (by omega)
     go_wp2_with fail
     go_loop [4,6] (fun u4 u6=>∃i:Nat,u4= .int .i64 (i:Int)∧u6= .int .u64 (pre L r i:Int)∧r≤i∧pre L r i<10*T∧0<pre L r i∧(pre L r (i-1)<T)) (fun _ u6=>T-(intOf u6).toNat)
     case atStart=>exact ⟨r,rfl,by rw [pre_le (Nat.le_refl _)],Nat.le_refl _,by rw [pre_le (Nat.le_refl _)];exact hr2,by rw [pre_le (Nat.le_refl _)];omega,by rw [pre_le (by omega)];exact hr3 h0⟩
     case round=>
      obtain ⟨i,rfl,rfl,hi1,hi2,hi4,hi3⟩:=hrel
      have hfew:=pre_few hD h0 hi1 (by omega)
      have hone:=pre_one (L:=L) hi1
      obtain ⟨n,hnn⟩:∃n,pre L r i=n:=⟨_,rfl⟩
      rw [hnn] at hi2 hi4 hone
      rw [hnn]
      have hr8:=hD.le
      rcases Nat.lt_or_ge n T with hn2 | hn2
      ·have e2:(n:Int)/(T:Int)=0:=by
        have:n/T=0:=Nat.div_eq_of_lt hn2
        have h2:(n:Int)/(T:Int)=((n/T:Nat):Int):=by simp
        rw [h2,this];rfl
       clear e1 hz hnp hpp
       go_wp2_with fail
       refine ⟨⟨i+1,by simp,by rw [hone];congr 1;try simp only [IntKind.wrap_u64];omega,by omega,by omega,by omega,by rw [Nat.add_sub_cancel,hnn];exact hn2⟩,by simp [intOf];omega⟩
      ·obtain ⟨q,hq⟩:∃q,n/T=q:=⟨_,rfl⟩
       have hq1:1≤q:=by rw [←hq];exact (Nat.le_div_iff_mul_le hTp).2 (by omega)
       have e2:(n:Int)/(T:Int)=(q:Int):=by rw [←hq];simp
       have hz2:((q:Int)==0)=false:=beq_false_of_ne (by omega)
       clear e1 hz hnp hpp
       go_wp2_with fail
       go_meet
       case rel=>exact ⟨i,n,rfl,rfl,hn2,hi2,by omega,by omega,hnn.symm,hi3,rfl⟩
   ·obtain ⟨q,hq⟩:∃q,nmb L r/T=q:=⟨_,rfl⟩
    have hq1:1≤q:=by rw [←hq];exact (Nat.le_div_iff_mul_le hTp).2 (by omega)
    have e2:(nmb L r:Int)/(T:Int)=(q:Int):=by rw [←hq];simp
    have hz2:((q:Int)==0)=false:=beq_false_of_ne (by omega)
    have hr0:0<r:=by
     rcases Nat.eq_zero_or_pos r with rfl | h1
     ·simp [nmb] at hn;omega
     ·exact h1
    go_wp2_with fail
    go_meet
    case rel=>exact ⟨r,nmb L r,rfl,rfl,hn,hr2,by omega,hr0,(pre_le hr1).symm,by rw [pre_le (by omega)];exact hr3 hr0,rfl⟩
 case rest=>
  obtain ⟨r,n,rfl,rfl,hn1,hn2,hrb,hr0,hnp,hr3,rfl⟩:=hcut
  have hr8:=hD.le
  have hmask:bits .and .u64 (n:Int) ((T:Int)-1)=((n % T:Nat):Int):=by
   have:=and_low n k (by omega) (by omega)
   rw [hTd'.out,Int.ofNat_sub (by omega)] at this
   exact this
  obtain ⟨P,hP⟩:∃P,dp-((r:Int)-1)=P:=⟨_,rfl⟩
  have hdp:=Lib.hid (H0.out.setP P)
  have HM:=Lib.hid (fun n:Nat=>fun hn:n<10*T=>(by
   have:=and_low n k (by omega) (by omega)
   rw [hTd'.out,Int.ofNat_sub (by omega)] at this
   exact this:bits .and .u64 (n:Int) ((T:Int)-1)=((n % T:Nat):Int)))
  have HN:=Lib.hid (show T≤pre L nd r∧∀j,j<r→pre L nd j<T from ⟨hnp▸hn1,fun j hj=>Nat.lt_of_le_of_lt (pre_mono trivial j (r-1) (by omega)) hr3⟩)
  clear hmask hr3
  have hrI:=RI.start (Lw:=L) (tr:=tr) hn1 hn2 hnp
  have hgs:wc.grownBy (wc.setCell ⟨g,801,none⟩ (.int .i64 P)) (some g):=grown_set (grown_refl wc _) _ _
  go_wp2_with fail
  go_loopw [4,5,6] (fun u4 u5 u6 wr=>∃i v n Q:Nat,∃Lw:List Nat,u4= .int .i64 (i:Int)∧u5= .int .i64 (v:Int)∧u6= .int .u64 (n:Int)∧i=r+v∧(0<v→i≤nd)∧RI L nd r T tr Lw v n Q tr∧(∀x,v≤x→Lw.getD x 0=L.getD x 0)∧Hid (DcAt wr g Lw nd P neg tr)∧wc.grownBy wr (some g)) (fun u4 _ _ _=>nd-(intOf u4).toNat)
  case atStart=>exact ⟨r,0,n,0,L,rfl,rfl,rfl,rfl,fun h=>absurd h (by omega),hrI,fun _ _=>rfl,hdp,hgs⟩
  case round=>
   clear hrI hgs hdp hn1 hn2 hnp c0 p0 z0 z1
   obtain ⟨i,v,n,Q,Lw,rfl,rfl,rfl,hiv,hvn,hR,hLw,HD,hg⟩:=hrel
   have c0:=HD.out.cN
   rcases Nat.lt_or_ge i nd with hin | hin
   ·have d0:=HD.out.cD (i:=i) (by omega)
    rw [hLw i (by omega)] at d0
    have dl:=hD.lo i hin
    have dh:=hD.hi i hin
    have zv:=HD.out.fz v
    have dv:=HD.out.cD (i:=v) (by omega)
    have hil:(i:Int)<(nd:Int):=by omega
    have hi8:(i:Int)<800:=by omega
    have hv8:(v:Int)<800:=by omega
    have hdd:nmb L (i+1)=nmb L i*10+(L.getD i 0-48):=rfl
    have hlt:=hR.lt
    have hand:=HM.out n hlt
    have hml:=Nat.mod_lt n hTp
    have hq9:n/T<10:=Nat.div_lt_of_lt_mul (by rw [Nat.mul_comm];exact hlt)
    have hpp:pre L nd (r+(v+1))=pre L nd (r+v)*10+(L.getD i 0-48):=by
     rw [←Nat.add_assoc,←hiv,pre_le (by omega),pre_le (by omega),hdd]
    have hst:=hR.lowstep hTp (by omega) HD.out.len (c:=L.getD i 0-48) (by omega) hpp
    have hsd:=HD.out.setD (i:=v) (c:=n/T+48) (by omega) (by omega)
    obtain ⟨c,hc⟩:∃c,L.getD i 0=c:=⟨_,rfl⟩
    obtain ⟨q,hq⟩:∃q,n/T=q:=⟨_,rfl⟩
    obtain ⟨m,hm⟩:∃m,n % T=m:=⟨_,rfl⟩
    have e2:(n:Int)/(T:Int)=(q:Int):=by rw [←hq];simp
    rw [hc] at d0 dl dh hst
    rw [hq] at hst hsd hq9
    rw [hm] at hst hand hml
    have hcast:(((q+48:Nat)):Int)=(q:Int)+48:=by simp
    rw [hcast] at hsd
    have HS:=Lib.hid hsd
    have HST:=Lib.hid hst
    have HIV:=Lib.hid hiv
    clear hsd hst hdd hpp hcast hc hq hm hR hiv
    go_wp2_with fail
    refine ⟨⟨i+1,v+1,m*10+(c-48),10*Q+q,Lw.set v (q+48),by simp,by simp,by congr 1;omega,by have:=HIV.out;omega,fun _=>hin,HST.out,fun x hx=>by rw [getD_set_ne (by omega)];exact hLw x (by omega),HS,grown_set hg _ _⟩,by simp [intOf];omega⟩
   ·have hil:¬((i:Int)<(nd:Int)):=by omega
    have hv8:v≤800:=by
     rcases Nat.eq_zero_or_pos v with h1 | h1
     ·omega
     ·have:=hvn h1;omega
    have hm8:min v 800=v:=by omega
    have HIV:=Lib.hid hiv
    have hvn8:=Lib.hid hvn
    clear hiv hvn hLw
    go_wp2_with fail
    go_loopg [5,6] (nd+k+1-(r+v)) (fun gk u5 u6 wx=>∃v n Q:Nat,∃Lw:List Nat,∃tr2:Bool,u5= .int .i64 ((min v 800:Nat):Int)∧u6= .int .u64 (n:Int)∧nd≤r+v∧r+v≤nd+k+20∧gk=nd+k+1-(r+v)∧RI L nd r T tr Lw v n Q tr2∧Hid (DcAt wx g Lw nd P neg tr2)∧wc.grownBy wx (some g))
    case atStart=>exact ⟨v,n,Q,Lw,tr,by rw [hm8],rfl,by have:=HIV.out;omega,by have:=HIV.out;have:=hvn8.out;omega,rfl,hR,HD,hg⟩
    case round=>
     clear hR HD hg HIV hm8 hv8 hil hin c0
     obtain ⟨v,n,Q,Lw,tr2,rfl,rfl,hnv,hnv2,hgk,hR,HD,hg⟩:=hrel
     have z0:=HD.out.fz 800
     have z3:=HD.out.fz 803
     have c3:=HD.out.cT
     have c0:=HD.out.cN
     have hlt:=hR.lt
     rcases Nat.eq_zero_or_pos n with rfl | hn0
     ·obtain ⟨m8,hm8⟩:∃m8,min v 800=m8:=⟨_,rfl⟩
      rw [hm8]
      have hsN:=HD.out.setN m8
      have HT:=Lib.hid (trim_any g Lw m8 P neg tr2 _ hsN (by omega))
      clear hsN
      go_wp2_with fail
      refine HT.out.mono ?_
      rintro e w2 ⟨rfl,hd2,hg2⟩
      go_wp2_with fail
      refine bodyPost_end (results_none rfl _ _ _) rfl ?_
      have hv0:0<v:=by
       rcases Nat.eq_zero_or_pos v with h1 | h1
       ·have:=hR.ge h1;omega
       ·exact h1
      have hm80:0<m8:=by omega
      have hne:=hR.ne hv0
      have htp:=trim_pos Lw hne m8 hm80
      have htl:=trimN_le Lw m8
      have hlo:=hR.lo
      have hhi:=hR.hi
      have hnum:=hR.num
      have htr:=hR.tr
      rw [hm8] at hlo hhi hnum htr
      rw [if_neg (by omega)] at hd2
      refine ⟨r,v,Q,HN.out.1,HN.out.2,by omega,by omega,by rw [Nat.add_comm v r,hR.eq];rfl,hv0,hR.ql hv0,hR.qh,rfl,Lw,trimN Lw m8,tr2,?_,⟨fun x hx=>hlo x (by omega),fun x hx=>hhi x (by omega),fun _=>hne,by omega⟩,htp,trim_last Lw m8 htp,by omega,?_,?_,?_⟩
      ·rw [show dp-(r:Int)+1=P by omega];exact hd2
      ·rw [hm8,trim_nmb];exact hnum
      ·rw [hm8];exact htr
      ·exact (grown_set hg _ _).trans hg2
     ·have hgk1:r+v<nd+k+1:=by
       rcases Nat.lt_or_ge (r+v) (nd+k+1) with h1 | h1
       ·exact h1
       ·subst hTd
        have:=hR.done h1
        omega
      have hand:=HM.out n hlt
      have hml:=Nat.mod_lt n hTp
      have hq9:n/T<10:=Nat.div_lt_of_lt_mul (by rw [Nat.mul_comm];exact hlt)
      have hpp:pre L nd (r+(v+1))=pre L nd (r+v)*10+0:=by rw [←Nat.add_assoc,pre_one hnv,Nat.add_zero]
      have hn0i:(0:Int)<(n:Int):=by omega
      by_cases hv:v<800
      ·have hm1:min v 800=v:=by omega
       have hm2:min (v+1) 800=v+1:=by omega
       have hst:=hR.lowstep hTp hv HD.out.len (c:=0) (by omega) hpp
       have hsd:=HD.out.setD (i:=v) (c:=n/T+48) (by omega) (by omega)
       have zv:=HD.out.fz v
       have dv:=HD.out.cD (i:=v) (by omega)
       have hv8:(v:Int)<800:=by omega
       obtain ⟨q,hq⟩:∃q,n/T=q:=⟨_,rfl⟩
       obtain ⟨m,hm⟩:∃m,n % T=m:=⟨_,rfl⟩
       have e2:(n:Int)/(T:Int)=(q:Int):=by rw [←hq];simp
       rw [hq] at hst hsd hq9
       rw [hm] at hst hand hml
       have hcast:(((q+48:Nat)):Int)=(q:Int)+48:=by simp
       rw [hcast] at hsd
       rw [hm1]
       have HS:=Lib.hid hsd
       have HST:=Lib.hid hst
       clear hsd hst hpp hcast hq hm hR
       go_wp2_with fail
       go_roundg (gk-1)
       case rel=>exact ⟨v+1,m*10+0,10*Q+q,Lw.set v (q+48),tr2,by rw [hm2];simp,by congr 1,by omega,by omega,by omega,HST.out,HS,grown_set hg _ _⟩
       case measure=>omega
      ·have hm1:min v 800=800:=by omega
       have hm2:min (v+1) 800=800:=by omega
       have hst:=hR.highstep hTp (by omega) (c:=0) (by omega) hpp
       obtain ⟨q,hq⟩:∃q,n/T=q:=⟨_,rfl⟩
       obtain ⟨m,hm⟩:∃m,n % T=m:=⟨_,rfl⟩
       have e2:(n:Int)/(T:Int)=(q:Int):=by rw [←hq];simp
       rw [hq] at hst hq9
       rw [hm] at hst hand hml
       rw [hm1]
       have hc8:((800:Nat):Int)=800:=rfl
       rw [hc8]
       rcases Nat.eq_zero_or_pos q with rfl | hq0
       ·have HST:=Lib.hid hst
        clear hst hpp hq hm hR
        go_wp2_with fail
        go_roundg (gk-1)
        case rel=>exact ⟨v+1,m*10+0,10*Q+0,Lw,tr2,by rw [hm2];rfl,by congr 1,by omega,by omega,by omega,by simpa using HST.out,HD,hg⟩
        case measure=>omega
       ·have hsT:=Lib.hid (HD.out.setT true)
        have hq0i:(0:Int)<(q:Int):=by omega
        have HST:=Lib.hid hst
        clear hst hpp hq hm hR
        go_wp2_with fail
        go_roundg (gk-1)
        case rel=>exact ⟨v+1,m*10+0,10*Q+q,Lw,true,by rw [hm2];rfl,by congr 1,by omega,by omega,by omega,by have:=HST.out;rwa [show (tr2||(q !=0))=true by simp;omega] at this,hsT,grown_set hg _ _⟩
        case measure=>omega
end Go.Proofs.YtjhhdnnblcbdbaaGreatDoor.dcm
end
