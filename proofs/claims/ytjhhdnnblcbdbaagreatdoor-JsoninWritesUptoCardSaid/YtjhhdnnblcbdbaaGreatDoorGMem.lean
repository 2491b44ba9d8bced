/- Small words on memory: a slice value that reads as a list of cells. PLAIN LEAN: whole numbers as words of 32 bits, the lowest first, none of them 0 at the end. The reference's whole numbers of any size: trim, times. The reference's whole numbers: up, plus, wide, order. The reference's whole numbers: wide, order, ofDigits, ten. -/
import Derived.WalkKit
import Derived.Below
import Derived.Laws.OwnMore
import Derived.Deep.Draws
import Derived.Lib.Hide
import Derived.Maps.AppendAt
import Derived.OwnWalk
import Derived.Laws.BytesString
import Derived.Laws.Entries
import Derived.Test.YtjhhdnnblcbdbaaGreatDoorChecked
import Derived.KernelRfl
import Derived.Deep.DeepMust
import Derived.Deep.QuietTactic
import Derived.BigQuiet
import Derived.Outline
import Derived.WalkLawsBesides
import Derived.WalkSpells
section
set_option linter.unusedVariables false
namespace Go.Proofs.YtjhhdnnblcbdbaaGreatDoor.mem
open Go.RowKit
theorem ret_int {k:IntKind} {a b:Int} (h:a=b):Ending.returned (.int k a)= .returned (.int k b):=by rw [h]
theorem ret_bool {a b:Bool} (h:a=b):Ending.returned (.bool a)= .returned (.bool b):=by rw [h]
theorem ret_3 {a b c a' b' c':Int} (h:a=a') (h2:b=b') (h3:c=c'):Ending.returned (.tuple #[.int .i64 a,.int .i64 b,.int .i64 c])= .returned (.tuple #[.int .i64 a',.int .i64 b',.int .i64 c']):=by rw [h,h2,h3]
theorem add_block (a:Addr) (n:Nat):(a.add n).block=a.block:=by unfold Addr.add;split <;> rfl
def Rd (w:World) (B:Nat) (A:Option Addr) (xs:List Value):Prop:=∀j u,xs[j]? =some u→∃ad,A=some ad∧ad.block<B∧w.cell? (ad.add j)=some u
theorem Rd.at_ {w:World} {B:Nat} {A:Option Addr} {xs:List Value} (h:Rd w B A xs) {k:Nat} (hk:k<xs.length):∃ad,A=some ad∧ad.block<B∧w.cell? (ad.add k)=some xs[k]:=
 h k _ (List.getElem?_eq_getElem hk)
theorem Rd.keep {w w':World} {B:Nat} {A:Option Addr} {xs:List Value} (h:Rd w B A xs) (hk:∀p:Addr,p.block<B→w'.cell? p=w.cell? p):Rd w' B A xs:=
 fun j u hu=>by
  obtain ⟨ad,e,hb,hc⟩:=h j u hu
  exact ⟨ad,e,hb,(hk _ (by rw [add_block];exact hb)).trans hc⟩
theorem Rd.below {w w':World} {B:Nat} {A:Option Addr} {xs:List Value} (h:Rd w B A xs) (hb:Below B w w'):Rd w' B A xs:=h.keep fun _ hp=>hb.cell hp
theorem Rd.more {w:World} {B B':Nat} {A:Option Addr} {xs:List Value} (h:Rd w B A xs) (hB:B≤B'):Rd w B' A xs:=
 fun j u hu=>by
  obtain ⟨ad,e,hb,hc⟩:=h j u hu
  exact ⟨ad,e,by omega,hc⟩
theorem Rd.nil {w:World} {B:Nat} {A:Option Addr}:Rd w B A []:=fun j u hu=>by simp at hu
theorem Rd.of_own {w:World} {base:Nat} {e:TypeId} {size n c:Nat} {A:Option Addr} {xs:List Value} (h:w.ownsRow base e size (.slice A n c) n xs):Rd w w.heap.size A xs:=by
 intro j u hu
 cases A with
 | none=>
   rcases h.2 with ⟨_,rfl⟩ | ⟨g,cap,cur,hv,_⟩
   ·have:=h.1
    have hx:xs=[]:=List.eq_nil_of_length_eq_zero (by simpa using this)
    subst hx
    simp at hu
   ·injection hv with h1
    cases h1
 | some ad=>
   have hl:=h.lt ad.block rfl
   have had:ad=⟨ad.block,0,none⟩:=by
    rcases h.2 with ⟨hv,_⟩ | ⟨g,cap,cur,hv,_⟩
    ·injection hv with h1
     cases h1
    ·injection hv with h1
     injection h1 with h1
     rw [h1]
   refine ⟨ad,rfl,hl.2,?_⟩
   have:=h.cells (g:=ad.block) rfl j u hu
   rw [had]
   exact this
section
variable {P:Program} (w:World)
theorem run_app_nil (base:Nat) (t ty e:TypeId) (i:TypeInfo) (size:Nat) (ht:P.underlying t=some (.slice e)) (hi:P.info? e=some i)
  (v:Value) (n:Nat) (xs:List Value) (hown:w.ownsRow base e size v n xs) (c:Nat):(Builtin.append_ #[t,t] ty #[v,.slice none 0 c]).run P w= .ok v w:=by
 rcases hown.2 with ⟨rfl,rfl⟩ | ⟨g,cap,cur,rfl,_,_,hnc,_⟩
 ·simp [Builtin.append_,run_underlying ht,sizeOf,typeInfo,hi,Builtin.lenOf,Builtin.firstCells]
 ·simp [Builtin.append_,run_underlying ht,sizeOf,typeInfo,hi,Builtin.lenOf,Builtin.firstCells,hnc,storeCells]
theorem run_app (base:Nat) (t ty e:TypeId) (i:TypeInfo) (z:Value) (size bytes:Nat) (ht:P.underlying t=some (.slice e)) (hi:P.info? e=some i) (hz:i.zero=some z)
  (hsize:i.size=size) (hby:i.bytes=bytes) (hzs:z.cells.size=size) (hsz:0<size)
  (v:Value) (n:Nat) (xs:List Value) (hown:w.ownsRow base e size v n xs)
  (B:Nat) (A:Option Addr) (m c:Nat) (news:List Value) (hl:news.length=m*size) (hr:Rd w B A news) (hnz:A=none→m=0) (h1:∀u∈news,u.oneCell'=true)
  (h63:n+m≤maxLen) (hbytes:(n+m)*bytes≤140737488355328) (hbase:base≤w.heap.size):
  ∃v' w',(Builtin.append_ #[t,t] ty #[v,.slice A m c]).run P w= .ok v' w'∧w'.ownsRow base e size v' (n+m) (xs++news)∧w.grownBy w' v.ownBlock∧
   (v'.ownBlock=v.ownBlock∨v'.ownBlock=some w.heap.size):=by
 rcases A with _ | ad
 ·have hm:m=0:=hnz rfl
  subst hm
  have hn:news=[]:=List.eq_nil_of_length_eq_zero (by simpa using hl)
  subst hn
  exact ⟨v,w,run_app_nil w base t ty e i size ht hi v n xs hown c,by simpa using hown,⟨rfl,rfl,rfl,Nat.le_refl _,fun _ _ _=>rfl⟩,.inl rfl⟩
 ·have hcells:∀j u,news[j]? =some u→w.cell? (ad.add j)=some u:=by
   intro j u hu
   obtain ⟨ad',e',_,hc⟩:=hr j u hu
   injection e' with e'
   subst e'
   exact hc
  obtain ⟨v',w',hrun,h2,h3,_,h5⟩:=run_append_own_at (P:=P) w base t ty e i z size bytes ht hi hz hsize hby hzs hsz v n xs hown ad m c news hl hcells h1 h63 hbytes hbase
  exact ⟨v',w',hrun,h2,h3,h5⟩
theorem wp_app {o:Oper} {a:Act} {K:Act→World→Prop} {Q:Exit→Act→World→Prop} (s x:Operand) (t:TypeId)
  (ho:o.op= .call { callee:= .builtin .append,args:= #[s,x],argTypes:= #[t,t]})
  (base:Nat) (e:TypeId) (i:TypeInfo) (z:Value) (size bytes:Nat) (ht:P.underlying t=some (.slice e)) (hi:P.info? e=some i) (hz:i.zero=some z)
  (hsize:i.size=size) (hby:i.bytes=bytes) (hzs:z.cells.size=size) (hsz:0<size)
  (v:Value) (n:Nat) (xs:List Value) (hs:a.eval s=v) (hown:w.ownsRow base e size v n xs)
  (B:Nat) (A:Option Addr) (m c:Nat) (news:List Value) (hx:a.eval x= .slice A m c) (hl:news.length=m*size) (hr:Rd w B A news) (hnz:A=none→m=0) (h1:∀u∈news,u.oneCell'=true)
  (h63:n+m≤maxLen) (hbytes:(n+m)*bytes≤140737488355328) (hbase:base≤w.heap.size)
  (h:∀v' w',w'.ownsRow base e size v' (n+m) (xs++news)→w.grownBy w' v.ownBlock→(v'.ownBlock=v.ownBlock∨v'.ownBlock=some w.heap.size)→K (a.put o.dst v') w'):o.wp P a w K Q:=by
 obtain ⟨v',w',hrun,h2,h3,h4⟩:=run_app (P:=P) w base t o.type e i z size bytes ht hi hz hsize hby hzs hsz v n xs hown B A m c news hl hr hnz h1 h63 hbytes hbase
 unfold Oper.wp execOp
 simp only [ho,resolve,invoke,builtin,Sem.run_bind,Sem.run_pure,Result.andThen_ok,List.map_toArray,List.map_cons,List.map_nil,hs,hx,hrun]
 exact h v' w' h2 h3 h4
theorem wpList_app {ops:Array Oper} {rest:List Oper} {o:Oper} {a:Act} {Q:Exit→Act→World→Prop} (hgd:o.guard=none) (s x:Operand) (t:TypeId)
  (ho:o.op= .call { callee:= .builtin .append,args:= #[s,x],argTypes:= #[t,t]})
  (base:Nat) (e:TypeId) (i:TypeInfo) (z:Value) (size bytes:Nat) (ht:P.underlying t=some (.slice e)) (hi:P.info? e=some i) (hz:i.zero=some z)
  (hsize:i.size=size) (hby:i.bytes=bytes) (hzs:z.cells.size=size) (hsz:0<size)
  (v:Value) (n:Nat) (xs:List Value) (hs:a.eval s=v) (hown:w.ownsRow base e size v n xs)
  (B:Nat) (A:Option Addr) (m c:Nat) (news:List Value) (hx:a.eval x= .slice A m c) (hl:news.length=m*size) (hr:Rd w B A news) (hnz:A=none→m=0) (h1:∀u∈news,u.oneCell'=true)
  (h63:n+m≤maxLen) (hbytes:(n+m)*bytes≤140737488355328) (hbase:base≤w.heap.size)
  (h:∀v' w',w'.ownsRow base e size v' (n+m) (xs++news)→w.grownBy w' v.ownBlock→(v'.ownBlock=v.ownBlock∨v'.ownBlock=some w.heap.size)→wpList P ops Q rest (a.put o.dst v') w'):wpList P ops Q (o :: rest) a w:=
 wpList_plain hgd fun _ hK=>wp_app w s x t ho base e i z size bytes ht hi hz hsize hby hzs hsz v n xs hs hown B A m c news hx hl hr hnz h1 h63 hbytes hbase fun v' w' h2 h3 h4=>hK _ _ (h v' w' h2 h3 h4)
end
theorem Rd.one (w:World) (x:Value) (t:TypeId):Rd (w.alloc (.cells #[x] t)) (w.heap.size+1) (some ⟨w.heap.size,0,none⟩) [x]:=by
 intro j u hu
 exact ⟨_,rfl,by simp,cell_one_new w x t j u hu⟩
theorem own_form {w:World} {base:Nat} {e:TypeId} {size n:Nat} {v:Value} {xs:List Value} (h:w.ownsRow base e size v n xs):∃A c,v= .slice A n c∧(A=none→n=0)∧n≤c∧c≤maxLen:=by
 rcases h.2 with ⟨rfl,rfl⟩ | ⟨g,cap,cur,rfl,_,_,h1,h2,_⟩
 ·exact ⟨none,0,rfl,fun _=>rfl,Nat.le_refl _,Nat.zero_le _⟩
 ·exact ⟨_,cap,rfl,(fun h=>by cases h),h1,h2⟩
theorem below_app1 {B base:Nat} {e:TypeId} {size n:Nat} {w wr w1:World} {v:Value} {xs:List Value} {o:Obj} (hb:Below B w wr) (hown:wr.ownsRow base e size v n xs) (hB:B≤base) (hBs:B≤wr.heap.size)
  (hg:(wr.alloc o).grownBy w1 v.ownBlock):Below B w w1:=
 (hb.alloc hBs o).grown hg (by simp;omega) fun k hk=>Nat.le_trans hB (hown.lt k hk).1
theorem below_app {B base:Nat} {e:TypeId} {size n:Nat} {w wr w1:World} {v:Value} {xs:List Value} (hb:Below B w wr) (hown:wr.ownsRow base e size v n xs) (hB:B≤base) (hBs:B≤wr.heap.size)
  (hg:wr.grownBy w1 v.ownBlock):Below B w w1:=
 hb.grown hg hBs fun k hk=>Nat.le_trans hB (hown.lt k hk).1
theorem add_zero_off (g j:Nat):(⟨g,0,none⟩:Addr).add j=⟨g,j,none⟩:=by unfold Addr.add;split <;> simp_all
theorem Rd.new (w:World) (cs:List Value) (t:TypeId):Rd (w.alloc (.cells cs.toArray t)) (w.heap.size+1) (some ⟨w.heap.size,0,none⟩) cs:=by
 intro j u hu
 refine ⟨_,rfl,by simp,?_⟩
 rw [add_zero_off,cell_of_row (w.alloc (.cells cs.toArray t)) w.heap.size j cs.toArray t (0,0) (heap_alloc_new w _)]
 simpa using hu
theorem own_block {w:World} {base:Nat} {e:TypeId} {size n:Nat} {v:Value} {xs:List Value} (h:w.ownsRow base e size v n xs) (hn:0<n):
  ∃g c cur,v= .slice (some ⟨g,0,none⟩) n c∧base≤g∧g<w.heap.size∧n≤c∧c≤maxLen∧w.heap[g]? =some (.cells cur e (0,0))∧cur.size=c*size∧cur.toList.take (n*size)=xs:=by
 rcases h.2 with ⟨_,h0⟩ | ⟨g,cap,cur,hv,hb,hg,h1,h2,h3,h4⟩
 ·omega
 ·exact ⟨g,cap,cur,hv,hb,(Array.getElem?_eq_some_iff.1 hg).1,h1,h2,hg,h3,h4⟩
def strOf (xs:List Int):ByteArray:=⟨(xs.map fun n=>UInt8.ofNat n.toNat).toArray⟩
theorem strOf_size (xs:List Int):(strOf xs).size=xs.length:=by simp [strOf,ByteArray.size]
theorem strOf_foldl (xs:List Int) (s:ByteArray):xs.foldl (fun r n=>r.push (UInt8.ofNat n.toNat)) s=⟨s.data++(xs.map fun n=>UInt8.ofNat n.toNat).toArray⟩:=by
 induction xs generalizing s with
 | nil=>simp
 | cons x xs ih=>
   rw [List.foldl_cons,ih]
   congr 1
   apply Array.toList_inj.1
   simp [ByteArray.push]
theorem run_conv_bytes {P:Program} {w:World} {B:Nat} (src dst e:TypeId) (A:Option Addr) (xs:List Int) (c:Nat) (hs:P.underlying src=some (.slice e)) (he:P.underlying e=some (.int .u8)) (hd:P.underlying dst=some .string)
  (hr:Rd w B A (xs.map (.int .u8))) (hn:A=none→xs.length=0):(convert src dst (.slice A xs.length c)).run P w= .ok (.string (strOf xs)) w:=by
 rw [run_convert_bytes_string w src dst e A xs.length c hs he hd]
 cases A with
 | none=>
   have hx:xs=[]:=List.eq_nil_of_length_eq_zero (hn rfl)
   subst hx
   simp [Conv.bytesToString,strOf,Sem.run_pure]
   rfl
 | some ad=>
   have hl:(loadCells ad xs.length).run P w= .ok (xs.map (Value.int .u8)).toArray w:=by
    have h1:=run_loadCells_list (P:=P) (w:=w) ad (xs.map (.int .u8)) (fun j v hv=>by
     obtain ⟨ad',e',_,hc⟩:=hr j v hv
     injection e' with e'
     subst e'
     exact hc)
    simpa using h1
   rw [run_bytesToString w ad xs.length c xs hl,strOf_foldl]
   simp [strOf]
theorem blk_set {w:World} {g:Nat} {cs:Array Value} {t:TypeId} (h:w.heap[g]? =some (.cells cs t (0,0))) (i:Nat) (u:Value):(w.setCell ⟨g,i,none⟩ u).heap[g]? =some (.cells (cs.setIfInBounds i u) t (0,0)):=by
 simp [World.setCell,Array.getElem?_modify,h]
theorem blk_cell {w:World} {g:Nat} {cs:Array Value} {t:TypeId} (h:w.heap[g]? =some (.cells cs t (0,0))) {i:Nat} (hi:i<cs.size):w.cell? ⟨g,i,none⟩=some cs[i]:=by
 rw [cell_of_row w g i cs t (0,0) h]
 simp [hi]
theorem blk_frozen {w:World} {g:Nat} {cs:Array Value} {t:TypeId} (h:w.heap[g]? =some (.cells cs t (0,0))) (i:Nat):w.frozen? ⟨g,i,none⟩=false:=by
 simp [World.frozen?,h]
theorem grown_set {a w:World} {g:Nat} (h:a.grownBy w (some g)) (i:Nat) (u:Value):a.grownBy (w.setCell ⟨g,i,none⟩ u) (some g):=
 ⟨h.os,h.tape,h.output,by simpa [World.setCell] using h.size,fun k hk hne=>(Below.heap_setCell w _ u k (by rintro rfl;exact hne rfl)).trans (h.block k hk hne)⟩
theorem grown_refl (w:World) (row:Option Nat):w.grownBy w row:=⟨rfl,rfl,rfl,Nat.le_refl _,fun _ _ _=>rfl⟩
theorem grown_below {a w:World} {g B:Nat} (h:a.grownBy w (some g)) (hB:B≤g) (hs:B≤a.heap.size):Below B a w:=
 ⟨h.os,h.tape,h.output,h.size,fun k hk=>h.block k (by omega) (by simp;omega)⟩
theorem run_store_float (P:Program) (w:World) (a:Addr) (m:Mode) (k:FloatKind) (b:Nat):(store a (.float k b) m).run P w=stored P w a (.float k b) m:=run_store P w a _ m rfl
theorem step_app {P:Program} (w:World) {ops:Array Oper} {o:Oper} {a:Act} {K:Act→World→Prop} {Q:Exit→Act→World→Prop} {E:Prop} (hgd:o.guard=none) (s x:Operand) (t:TypeId)
  (ho:o.op= .call { callee:= .builtin .append,args:= #[s,x],argTypes:= #[t,t]})
  (base:Nat) (e:TypeId) (i:TypeInfo) (z:Value) (size bytes:Nat) (ht:P.underlying t=some (.slice e)) (hi:P.info? e=some i) (hz:i.zero=some z)
  (hsize:i.size=size) (hby:i.bytes=bytes) (hzs:z.cells.size=size) (hsz:0<size)
  (v:Value) (n:Nat) (xs:List Value) (hs:a.eval s=v) (hown:w.ownsRow base e size v n xs)
  (B:Nat) (A:Option Addr) (m c:Nat) (news:List Value) (hx:a.eval x= .slice A m c) (hl:news.length=m*size) (hr:Rd w B A news) (hnz:A=none→m=0) (h1:∀u∈news,u.oneCell'=true)
  (h63:n+m≤maxLen) (hbytes:(n+m)*bytes≤140737488355328) (hbase:base≤w.heap.size)
  (h:∀v' w',w'.ownsRow base e size v' (n+m) (xs++news)→w.grownBy w' v.ownBlock→(v'.ownBlock=v.ownBlock∨v'.ownBlock=some w.heap.size)→K (a.put o.dst v') w'):
  if Region.wanted o (yielded ops a.tmps)=true then Oper.wp P o a w K Q else E:=by
 have hw:Region.wanted o (yielded ops a.tmps)=true:=by simp [Region.wanted,hgd]
 rw [if_pos hw]
 exact wp_app w s x t ho base e i z size bytes ht hi hz hsize hby hzs hsz v n xs hs hown B A m c news hx hl hr hnz h1 h63 hbytes hbase h
end Go.Proofs.YtjhhdnnblcbdbaaGreatDoor.mem
end
section
set_option linter.unusedVariables false
namespace Go.Proofs.YtjhhdnnblcbdbaaGreatDoor.fl
def val:List Nat→Nat
 | []=>0
 | x :: l=>x+4294967296*val l
def wdF:Nat→Nat→List Nat
 | 0,_=>[]
 | f+1,N=>if N=0 then [] else N % 4294967296 :: wdF f (N/4294967296)
def wd (N:Nat):List Nat:=wdF N N
def Wds (l:List Nat):Prop:=∀x∈l,x<4294967296
theorem wdF_fuel:∀(f g N:Nat),N≤f→N≤g→wdF f N=wdF g N
 | 0,g,N,h,_=>by
   obtain rfl:N=0:=by omega
   cases g <;> simp [wdF]
 | f+1,0,N,_,h=>by
   obtain rfl:N=0:=by omega
   simp [wdF]
 | f+1,g+1,N,h1,h2=>by
   unfold wdF
   by_cases h:N=0
   ·simp [h]
   ·rw [if_neg h,if_neg h,wdF_fuel f g _ (by omega) (by omega)]
theorem wd_zero:wd 0=[]:=rfl
theorem wd_pos {N:Nat} (h:N≠0):wd N=N % 4294967296 :: wd (N/4294967296):=by
 unfold wd
 obtain ⟨k,hk⟩:∃k,N=k+1:=⟨N-1,by omega⟩
 rw [wdF_fuel N (k+1) N (by omega) (by omega)]
 show (if N=0 then _ else _)=_
 rw [if_neg h,wdF_fuel k (N/4294967296) _ (by omega) (Nat.le_refl _)]
theorem val_app:∀(a b:List Nat),val (a++b)=val a+4294967296^a.length*val b
 | [],b=>by simp [val]
 | x :: a,b=>by
   simp only [List.cons_append,val,List.length_cons]
   rw [val_app a b,Nat.pow_succ,Nat.mul_add,Nat.add_assoc,←Nat.mul_assoc,Nat.mul_comm (4294967296^a.length)]
theorem Wds.app {a b:List Nat} (ha:Wds a) (hb:Wds b):Wds (a++b):=fun x hx=>by
 rcases List.mem_append.1 hx with h | h
 ·exact ha x h
 ·exact hb x h
theorem Wds.take {a:List Nat} (ha:Wds a) (k:Nat):Wds (a.take k):=fun x hx=>ha x (List.mem_of_mem_take hx)
theorem wd_val:∀(a:List Nat),Wds a→(∀x,a.getLast? =some x→x≠0)→wd (val a)=a
 | [],_,_=>rfl
 | x :: a,h,hl=>by
   have hx:=h x (by simp)
   have hz:val (x :: a)≠0:=by
    intro h0
    simp only [val] at h0
    have h1:val a=0:=by omega
    have h2:x=0:=by omega
    cases a with
    | nil=>exact hl x (by simp) h2
    | cons y b=>
      have ih:=wd_val (y :: b) (fun z hz=>h z (by simp [hz])) (fun z hz=>hl z (by simpa using hz))
      rw [h1] at ih
      exact absurd ih.symm (by simp [wd_zero])
   rw [wd_pos hz]
   have e1:val (x :: a) % 4294967296=x:=by simp only [val];omega
   have e2:val (x :: a)/4294967296=val a:=by simp only [val];omega
   rw [e1,e2]
   cases a with
   | nil=>rfl
   | cons y b=>rw [wd_val (y :: b) (fun z hz=>h z (by simp [hz])) (fun z hz=>hl z (by simpa using hz))]
theorem val_snoc_zero (a:List Nat):val (a++[0])=val a:=by rw [val_app];simp [val]
theorem val_take_zero {a:List Nat} {n:Nat} (h:a[n]? =some 0):val (a.take (n+1))=val (a.take n):=by
 obtain ⟨h1,h2⟩:=List.getElem?_eq_some_iff.1 h
 rw [List.take_succ_eq_append_getElem h1,h2,val_snoc_zero]
theorem wd_take {a:List Nat} {n:Nat} (ha:Wds a) (h:n=0∨∃x,a[n-1]? =some x∧x≠0):wd (val (a.take n))=a.take n:=by
 refine wd_val _ (ha.take n) fun x hx=>?_
 rcases h with rfl | ⟨y,hy,hy0⟩
 ·simp at hx
 ·obtain ⟨h1,h2⟩:=List.getElem?_eq_some_iff.1 hy
  by_cases hn:n=0
  ·subst hn;simp at hx
  ·rw [List.getLast?_eq_getElem?,List.length_take,List.getElem?_take] at hx
   rw [Nat.min_eq_left (by omega),if_pos (by omega),hy] at hx
   injection hx with hx
   subst hx
   exact hy0
end Go.Proofs.YtjhhdnnblcbdbaaGreatDoor.fl
end
section
namespace Go.Proofs.YtjhhdnnblcbdbaaGreatDoor.big
open Go.RowKit mem fl
set_option linter.unusedVariables false
theorem info_parts {P:Program} {t:TypeId} {z:Option Value} {s b:Nat} (h:(P.info? t).map (fun i=>(i.zero,i.size,i.bytes))=some (z,s,b)):∃i,P.info? t=some i∧i.zero=z∧i.size=s∧i.bytes=b:=by
 cases hi:P.info? t with
 | none=>rw [hi] at h;simp at h
 | some i=>
   rw [hi] at h
   simp at h
   exact ⟨i,rfl,h.1,h.2.1,h.2.2⟩
def us (l:List Nat):List Value:=l.map fun x:Nat=> .int .u32 (x:Int)
theorem us_app (a b:List Nat):us (a++b)=us a++us b:=by simp [us]
theorem us_get {l:List Nat} {k:Nat} (h:k<l.length):(us l)[k]? =some (.int .u32 (l.getD k 0:Int)):=by
 unfold us
 rw [List.getElem?_map,List.getElem?_eq_getElem h,List.getD_eq_getElem?_getD,List.getElem?_eq_getElem h]
 rfl
theorem Rd.take {w:World} {B:Nat} {A:Option Addr} {xs:List Value} (h:Rd w B A xs) (n:Nat):Rd w B A (xs.take n):=fun j u hu=>by
 rw [List.getElem?_take] at hu
 by_cases hj:j<n
 ·rw [if_pos hj] at hu
  exact h j u hu
 ·rw [if_neg hj] at hu
  cases hu
def Bn (w:World) (B:Nat) (v:Value) (N:Nat):Prop:=∃A c,v= .slice A (wd N).length c∧Rd w B A (us (wd N))∧(wd N).length≤c
theorem Bn.below {w w':World} {B:Nat} {v:Value} {N:Nat} (h:Bn w B v N) (hb:Below B w w'):Bn w' B v N:=by
 obtain ⟨A,c,rfl,hr,hc⟩:=h
 exact ⟨A,c,rfl,hr.below hb,hc⟩
theorem Bn.more {w:World} {B B':Nat} {v:Value} {N:Nat} (h:Bn w B v N) (hB:B≤B'):Bn w B' v N:=by
 obtain ⟨A,c,rfl,hr,hc⟩:=h
 exact ⟨A,c,rfl,hr.more hB,hc⟩
def TrimPost (A:Option Addr) (N:Nat) (w:World) (e:Ending) (w':World):Prop:=∃c,e= .returned (.slice A (wd N).length c)∧(wd N).length≤c∧w=w'
theorem pre_eq {l:List Nat} {n:Nat} (hl:Wds l) (h:n=0∨∃x,l[n-1]? =some x∧x≠0) (hn:n≤l.length) (hv:val (l.take n)=val l):(wd (val l)).length=n∧wd (val l)=l.take n:=by
 have h1:=wd_take hl h
 rw [hv] at h1
 exact ⟨by rw [h1,List.length_take];omega,h1⟩
set_option maxRecDepth 100000 in
set_option maxHeartbeats 400000 in
theorem trim_any (A:Option Addr) (c n0:Nat) (l:List Nat) (w:World) (B:Nat) (hr:Rd w B A (us l)) (hl:Wds l) (hn0:l.length=n0) (hn:n0≤1100000) (hcap:n0≤c):
  Calls Tryz.prog 201 #[.slice A n0 c] w (TrimPost A (val l) w):=by
 have HR:=Lib.hid hr
 have HL:=Lib.hid hl
 have HN:=Lib.hid hn0
 clear hr hl hn0
 go_enter Tryz.func201,Tryz.ntmps201
 go_wp2_with fail
 go_loop [0] (fun v=>∃(n cc:Nat),n≤n0∧n≤cc∧v= .slice A n cc∧Hid (val (l.take n)=val l)) (fun v=>match v with | .slice _ n _=>n | _=>0)
 case atStart=>exact ⟨n0,c,Nat.le_refl _,hcap,rfl,Lib.hid (by rw [←HN.out,List.take_length])⟩
 case round=>
  obtain ⟨n,cc,hnl,hncc,rfl,hv⟩:=hrel
  by_cases hz:n=0
  ·subst hz
   go_wp2_with fail
   go_ret
   have h1:=pre_eq HL.out (.inl rfl) (Nat.zero_le _) hv.out
   exact ⟨cc,(by rw [h1.1];rfl),by omega,rfl⟩
  ·obtain ⟨m,rfl⟩:∃m,n=m+1:=⟨n-1,by omega⟩
   obtain ⟨x,hx⟩:∃x,l.getD m 0=x:=⟨_,rfl⟩
   have hget:=us_get (l:=l) (k:=m) (by rw [HN.out];omega)
   rw [hx] at hget
   obtain ⟨ad,rfl,hb,hc⟩:=HR.out m _ hget
   have HX:=Lib.hid hx
   clear hget hx
   by_cases hx0:x=0
   ·subst hx0
    have hcc:(m:Int)≤(cc:Int):=by omega
    go_wp2_with fail
    go_round
    case rel=>exact ⟨m,cc,by omega,by omega,by simp,Lib.hid (by
     rw [←hv.out,val_take_zero]
     have:=HX.out
     have hm:m<l.length:=by rw [HN.out];omega
     rw [List.getD_eq_getElem?_getD,List.getElem?_eq_getElem hm] at this
     rw [List.getElem?_eq_getElem hm]
     simpa using this)⟩
    case measure=>simp
   ·have hx1:((x:Int)==0)=false:=by simp;omega
    go_wp2_with fail
    go_ret
    have h1:=pre_eq (n:=m+1) HL.out (.inr ⟨x,by
     have:=HX.out
     have hm:m<l.length:=by rw [HN.out];omega
     rw [List.getD_eq_getElem?_getD,List.getElem?_eq_getElem hm] at this
     simp only [Nat.add_sub_cancel]
     rw [List.getElem?_eq_getElem hm]
     simpa using this,hx0⟩) (by rw [HN.out];omega) hv.out
    exact ⟨cc,(by rw [h1.1];rfl),(by rw [h1.1];omega),rfl⟩
end Go.Proofs.YtjhhdnnblcbdbaaGreatDoor.big
end
section
namespace Go.Proofs.YtjhhdnnblcbdbaaGreatDoor.big
open Go.RowKit mem fl
set_option linter.unusedVariables false
theorem Bn.zero (w:World) (B:Nat):Bn w B (.slice none 0 0) 0:=⟨none,0,rfl,Rd.nil,Nat.le_refl _⟩
theorem us_one (l:List Nat):∀u∈us l,u.oneCell'=true:=by
 intro u hu
 simp only [us,List.mem_map] at hu
 obtain ⟨x,_,rfl⟩:=hu
 rfl
def PlSt (a b:List Nat) (w:World) (v:Value) (carry i:Nat) (wr:World):Prop:=
 ∃r:List Nat,wr.ownsRow w.heap.size 161 1 v i (us r)∧Below w.heap.size w wr∧r.length=i∧Wds r∧val r+4294967296^i*carry=val (a.take i)+val (b.take i)
theorem PlSt.step {a b r:List Nat} {w w5:World} {v':Value} {i s carry x y:Nat} (ho:w5.ownsRow w.heap.size 161 1 v' (i+1) (us r++[.int .u32 ((s % 4294967296:Nat):Int)])) (hs:s=carry+x+y) (hb:Below w.heap.size w w5) (hl:r.length=i) (hw:Wds r)
  (h:val (r++[(carry+x+y) % 4294967296])+4294967296^(i+1)*((carry+x+y)/4294967296)=val (a.take (i+1))+val (b.take (i+1))):PlSt a b w v' (s/4294967296) (i+1) w5:=by
 subst hs
 refine ⟨r++[(carry+x+y) % 4294967296],?_,hb,by rw [List.length_append,hl];rfl,hw.app (by intro z hz;simp at hz;omega),h⟩
 rw [us_app]
 exact ho
end Go.Proofs.YtjhhdnnblcbdbaaGreatDoor.big
end
section
namespace Go.Proofs.YtjhhdnnblcbdbaaGreatDoor.big
open Go.RowKit mem fl
set_option linter.unusedVariables false
theorem drop_one {l:List Nat} {k:Nat} (h:k<l.length):l.drop k=l.getD k 0 :: l.drop (k+1):=by
 rw [List.getD_eq_getElem?_getD,List.getElem?_eq_getElem h]
 exact List.drop_eq_getElem_cons h
theorem Below.drewN {B:Nat} {a w:World} (h:Below B a w) (n:Nat):Below B a (w.drewN n):=⟨h.os,h.tape,h.output,h.size,h.block⟩
def dv (l:List UInt8):Nat:=l.foldl (fun n c=>n*10+(c.toNat-48)) 0
def Digs (l:List UInt8):Prop:=∀c∈l,48≤c.toNat∧c.toNat≤57
theorem Digs.take {l:List UInt8} (h:Digs l) (k:Nat):Digs (l.take k):=fun c hc=>h c (List.mem_of_mem_take hc)
theorem Digs.drop {l:List UInt8} (h:Digs l) (k:Nat):Digs (l.drop k):=fun c hc=>h c (List.mem_of_mem_drop hc)
end Go.Proofs.YtjhhdnnblcbdbaaGreatDoor.big
end
