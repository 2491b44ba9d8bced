/- The plain law of number prefixes: the program's table of states and the document's answer read every list of characters alike. No condition: plain lists and numbers. What the program's and the document's readers of number prefixes compute: contracts of digit, next, formAt, step, form and of the five forms of Prefix. -/
import Derived.Test.YtjhhdnnblcbdbaaGreatDoorProg
import Derived.Test.YtjhhdnnblcbdbaaGreatDoorGMem
import Derived.Handy
import Derived.WalkKit
import Derived.WalkLawsBesides
import Derived.Lib.Hide
section
set_option linter.unusedVariables false
namespace Go.Proofs.YtjhhdnnblcbdbaaGreatDoor.pfx
def dig (c:Int):Bool:=decide (48≤c)&&decide (c≤57)
def nx (s c:Int):Int:=
 if s=0∨s=1 then
  if c=45∧s=0 then 1 else if c=48 then 2 else if dig c then 3 else 9
 else if s=2∨s=3 then
  if dig c∧s=3 then 3 else if c=46 then 4 else if c=101∨c=69 then 6 else 9
 else if s=4∨s=5 then
  if dig c then 5 else if s=5∧(c=101∨c=69) then 6 else 9
 else if s=6∨s=7∨s=8 then
  if dig c then 8 else if s=6∧(c=43∨c=45) then 7 else 9
 else 9
def fm (s:Int):Int:=if s=2∨s=3 then 1 else if s=5∨s=8 then 2 else 0
theorem nx_range (s c:Int):0≤nx s c∧nx s c≤9:=by
 unfold nx
 repeat' split
 all_goals omega
def run (st e f:Int) (i:Nat):List Int→Int×Int×Int
 | []=>(e,(i:Int),f)
 | c :: r=>if nx st c=9 then (e,(i:Int),f) else if fm (nx st c)=0 then run (nx st c) e f (i+1) r else run (nx st c) ((i:Int)+1) (fm (nx st c)) (i+1) r
def pf (cs:List Int) (at_:Int):Int×Int×Int:=
 if at_<0∨(cs.length:Int)<at_ then (0,0,0) else run 0 at_ 0 at_.toNat (cs.drop at_.toNat)
theorem run_step (st e f:Int) (i:Nat) (cs:List Int) (h:i<cs.length):
  run st e f i (cs.drop i)=if nx st (cs.getD i 0)=9 then (e,(i:Int),f) else if fm (nx st (cs.getD i 0))=0 then run (nx st (cs.getD i 0)) e f (i+1) (cs.drop (i+1))
   else run (nx st (cs.getD i 0)) ((i:Int)+1) (fm (nx st (cs.getD i 0))) (i+1) (cs.drop (i+1)):=by
 rw [List.drop_eq_getElem_cons h]
 have:cs.getD i 0=cs[i]:=by simp [h]
 rw [this]
 rfl
theorem run_end (st e f:Int) (cs:List Int) (i:Nat) (h:i=cs.length):run st e f i (cs.drop i)=(e,(i:Int),f):=by
 subst h
 simp [run]
end Go.Proofs.YtjhhdnnblcbdbaaGreatDoor.pfx
end
section
set_option linter.unusedVariables false
namespace Go.Proofs.YtjhhdnnblcbdbaaGreatDoor.pfx
open Go.RowKit mem
theorem digit_any (c:Int) (w:World):Calls Tryz.prog 90 #[.int .i32 c] w fun e w'=>e= .returned (.bool (dig c))∧w=w':=by
 by_cases h:48≤c
 ·go_enter Tryz.func90,Tryz.ntmps90
  go_wp2
  go_ret
  exact ⟨ret_bool (by simp [dig,h]),rfl⟩
 ·go_enter Tryz.func90,Tryz.ntmps90
  go_wp2
  go_ret
  exact ⟨ret_bool (by simp [dig];omega),rfl⟩
theorem next_any (s c:Int) (w:World):Calls Tryz.prog 60 #[.int .i64 s,.int .i32 c] w fun e w'=>e= .returned (.int .i64 (nx s c))∧w=w':=by
 go_enter Tryz.func60,Tryz.ntmps60
 go_wp2_with (go_at_call 90;refine (digit_any _ _).mono ?_;rintro e w' ⟨rfl,rfl⟩)
 all_goals
  go_ret
  exact ⟨ret_int (by simp_all [nx]),rfl⟩
theorem formAt_any (s:Int) (w:World):Calls Tryz.prog 61 #[.int .i64 s] w fun e w'=>e= .returned (.int .i64 (fm s))∧w=w':=by
 go_enter Tryz.func61,Tryz.ntmps61
 go_wp2
 all_goals
  go_ret
  exact ⟨ret_int (by simp_all [fm]),rfl⟩
theorem prefix_any (A:Option Addr) (c:Nat) (xs:List Int) (p:Int) (B:Nat) (w:World) (hr:Rd w B A (xs.map (.int .u8))) (hn:xs.length≤140737488351232) (hx:∀x∈xs,0≤x∧x≤255)
  (hp: -9223372036854775808≤p∧p≤9223372036854775807):
  Calls Tryz.prog 34 #[.slice A xs.length c,.int .i64 p] w fun e w'=>e= .returned (.tuple #[.int .i64 (pf xs p).1,.int .i64 (pf xs p).2.1,.int .i64 (pf xs p).2.2])∧w=w':=by
 by_cases h0:p<0
 ·go_enter Tryz.func34,Tryz.ntmps34
  go_wp2
  go_ret3
  exact ⟨ret_3 (by simp [pf,h0]) (by simp [pf,h0]) (by simp [pf,h0]),rfl⟩
 ·by_cases h1:(xs.length:Int)<p
  ·go_enter Tryz.func34,Tryz.ntmps34
   go_wp2
   go_ret3
   exact ⟨ret_3 (by simp [pf,h1]) (by simp [pf,h1]) (by simp [pf,h1]),rfl⟩
  ·have hpf:pf xs p=run 0 p 0 p.toNat (xs.drop p.toNat):=by unfold pf;rw [if_neg (by omega)]
   have HP:=Lib.hid hpf
   clear hpf
   go_enter Tryz.func34,Tryz.ntmps34
   go_wp2
   go_loop [4,5,6,7,8] (fun v4 v5 v6 v7 v8=>∃(k:Nat) (st e f:Int),k≤xs.length∧0≤st∧st≤8∧v4= .int .i64 e∧v5= .int .i64 (k:Int)∧v6= .int .i64 f∧v7= .int .i64 st∧v8= .int .i64 (k:Int)∧Hid (pf xs p=run st e f k (xs.drop k)))
    (fun _ _ _ _ i=>xs.length-(intOf i).toNat)
   case atStart=>
    have hk:((p.toNat:Nat):Int)=p:=by omega
    refine ⟨p.toNat,0,p,0,by omega,by omega,by omega,rfl,by rw [hk],rfl,rfl,by rw [hk],HP.out⟩
   case round=>
    obtain ⟨k,st,e,f,hk,hs0,hs8,rfl,rfl,rfl,rfl,rfl,HR⟩:=hrel
    by_cases hlt:k<xs.length
    ·obtain ⟨ad,rfl,_,hc⟩:=hr.at_ (k:=k) (by simpa using hlt)
     have hxk:=hx (xs[k]) (List.getElem_mem hlt)
     simp only [List.getElem_map] at hc
     have hrs:=run_step st e f k xs hlt
     rw [show xs.getD k 0=xs[k] from by simp [hlt]] at hrs
     generalize xs[k]=x at hc hxk hrs
     have Hrs:=Lib.hid hrs
     have hnr:=nx_range st x
     clear hrs hx
     by_cases h9:nx st x=9
     ·have hn9:(nx st x==9)=true:=by simp [h9]
      have Hfin:=Lib.hid (show pf xs p=(e,(k:Int),f) by rw [HR.out,Hrs.out,if_pos h9])
      clear h9 HR Hrs
      go_wp2_with (first | (go_at_call 60;refine (next_any _ _ _).mono ?_;rintro e w' ⟨rfl,rfl⟩) | (go_at_call 61;refine (formAt_any _ _).mono ?_;rintro e w' ⟨rfl,rfl⟩))
      go_ret3
      exact ⟨ret_3 (by rw [Hfin.out]) (by rw [Hfin.out]) (by rw [Hfin.out]),rfl⟩
     ·have hn9:(nx st x==9)=false:=by simp [h9]
      by_cases h0:fm (nx st x)=0
      ·have hf0:(fm (nx st x) !=0)=false:=by simp [h0]
       have Hfin:=Lib.hid (show pf xs p=run (nx st x) e f (k+1) (xs.drop (k+1)) by rw [HR.out,Hrs.out,if_neg h9,if_pos h0])
       have hns:nx st x≤8:=by omega
       clear h9 h0 HR Hrs
       go_wp2_with (first | (go_at_call 60;refine (next_any _ _ _).mono ?_;rintro e w' ⟨rfl,rfl⟩) | (go_at_call 61;refine (formAt_any _ _).mono ?_;rintro e w' ⟨rfl,rfl⟩))
       go_round
       case rel=>exact ⟨k+1,_,_,_,by omega,hnr.1,hns,rfl,by go_num,rfl,rfl,by go_num,Hfin⟩
       case measure=>simp [intOf];omega
      ·have hf0:(fm (nx st x) !=0)=true:=by simp [h0]
       have Hfin:=Lib.hid (show pf xs p=run (nx st x) ((k:Int)+1) (fm (nx st x)) (k+1) (xs.drop (k+1)) by rw [HR.out,Hrs.out,if_neg h9,if_neg h0])
       have hns:nx st x≤8:=by omega
       clear h9 h0 HR Hrs
       go_wp2_with (first | (go_at_call 60;refine (next_any _ _ _).mono ?_;rintro e w' ⟨rfl,rfl⟩) | (go_at_call 61;refine (formAt_any _ _).mono ?_;rintro e w' ⟨rfl,rfl⟩))
       go_round
       case rel=>exact ⟨k+1,_,_,_,by omega,hnr.1,hns,rfl,by go_num,rfl,rfl,by go_num,Hfin⟩
       case measure=>simp [intOf];omega
    ·obtain rfl:k=xs.length:=by omega
     have Hfin:=Lib.hid (show pf xs p=(e,(xs.length:Int),f) by rw [HR.out,run_end _ _ _ _ _ rfl])
     clear HR
     go_wp2
     go_ret3
     exact ⟨ret_3 (by rw [Hfin.out]) (by rw [Hfin.out]) (by rw [Hfin.out]),rfl⟩
end Go.Proofs.YtjhhdnnblcbdbaaGreatDoor.pfx
end
