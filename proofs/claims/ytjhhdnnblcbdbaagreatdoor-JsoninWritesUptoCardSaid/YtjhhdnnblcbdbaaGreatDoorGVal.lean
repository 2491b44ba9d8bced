/- Trees of values: a plain type, its size, and how such a tree lies in memory. PLAIN LEAN: what the reader of JSON computes: small parsers over lists of bytes, each tells how many bytes it takes, or the fault and its place. PLAIN LEAN: what a parser answers hangs on the bytes up to the place that it tells, and on the one there. Lists of records in a row of the call's own: what an append does to them; from such a row to a value's lists. A map from strings to ints that the call made: which keys it has. PLAIN LEAN: the two answers that the document fixes, read. -/
import Derived.Test.YtjhhdnnblcbdbaaGreatDoorGMem
import Derived.Test.YtjhhdnnblcbdbaaGreatDoorGPfp
import Derived.Lib.RuneBytes
import Derived.Test.YtjhhdnnblcbdbaaGreatDoorProg
import Derived.Maps.Own
import Derived.Maps.OwnOps
import Derived.Maps.OwnSet
import Derived.Maps.Views
import Derived.DeepKeys4
import Derived.StringKeys
import Derived.KernelRfl
section
set_option linter.unusedVariables false
namespace Go.Proofs.YtjhhdnnblcbdbaaGreatDoor.val
open Go.RowKit mem
inductive V where
 | mk (k:Int) (b:Bool) (i:Int) (f:Nat) (t y:ByteArray) (items:List V) (fields:List (ByteArray×V))
def CellsAt (w:World) (a:Addr) (cs:List Value):Prop:=∀o u,cs[o]? =some u→w.cell? (a.add o)=some u
mutual
def IsV (w:World) (S:Nat→Prop):V→List Value→Prop
 | .mk k b i f t y is fs,cs=>∃(A:Option Addr) (c:Nat) (A':Option Addr) (c':Nat),
   cs=[.int .i64 k,.bool b,.int .i64 i,.float .f64 f,.string t,.string y,.slice A is.length c,.slice A' fs.length c']∧
   (A=none→is.length=0)∧(A'=none→fs.length=0)∧IsVs w S is A 0∧IsFs w S fs A' 0
def IsVs (w:World) (S:Nat→Prop):List V→Option Addr→Nat→Prop
 | [],_,_=>True
 | v :: r,A,j=>(∃(ad:Addr) (cs:List Value),A=some ad∧S ad.block∧CellsAt w (ad.add (j*8)) cs∧IsV w S v cs)∧IsVs w S r A (j+1)
def IsFs (w:World) (S:Nat→Prop):List (ByteArray×V)→Option Addr→Nat→Prop
 | [],_,_=>True
 | (s,v) :: r,A,j=>(∃(ad:Addr) (cs:List Value),A=some ad∧S ad.block∧CellsAt w (ad.add (j*9)) (.string s :: cs)∧IsV w S v cs)∧IsFs w S r A (j+1)
end
theorem CellsAt.keep {w w':World} {a:Addr} {cs:List Value} {S:Nat→Prop} (h:CellsAt w a cs) (ha:S a.block) (hk:∀p:Addr,S p.block→w'.cell? p=w.cell? p):CellsAt w' a cs:=
 fun o u hu=>(hk _ (by rw [add_block];exact ha)).trans (h o u hu)
mutual
theorem IsV.keep {w w':World} {S S':Nat→Prop} (hk:∀p:Addr,S p.block→w'.cell? p=w.cell? p) (hS:∀b,S b→S' b):∀(v:V) (cs:List Value),IsV w S v cs→IsV w' S' v cs
 | .mk _ _ _ _ _ _ is fs,cs,h=>by
   simp only [IsV] at h ⊢
   obtain ⟨A,c,A',c',h1,h2,h3,h4,h5⟩:=h
   exact ⟨A,c,A',c',h1,h2,h3,IsVs.keep hk hS is A 0 h4,IsFs.keep hk hS fs A' 0 h5⟩
theorem IsVs.keep {w w':World} {S S':Nat→Prop} (hk:∀p:Addr,S p.block→w'.cell? p=w.cell? p) (hS:∀b,S b→S' b):∀(l:List V) (A:Option Addr) (j:Nat),IsVs w S l A j→IsVs w' S' l A j
 | [],_,_,_=>by simp only [IsVs]
 | v :: r,A,j,h=>by
   simp only [IsVs] at h ⊢
   obtain ⟨⟨ad,cs,h1,h2,h3,h4⟩,h5⟩:=h
   exact ⟨⟨ad,cs,h1,hS _ h2,h3.keep (S:=S) (by rw [add_block];exact h2) hk,IsV.keep hk hS v cs h4⟩,IsVs.keep hk hS r A (j+1) h5⟩
theorem IsFs.keep {w w':World} {S S':Nat→Prop} (hk:∀p:Addr,S p.block→w'.cell? p=w.cell? p) (hS:∀b,S b→S' b):∀(l:List (ByteArray×V)) (A:Option Addr) (j:Nat),IsFs w S l A j→IsFs w' S' l A j
 | [],_,_,_=>by simp only [IsFs]
 | (s,v) :: r,A,j,h=>by
   simp only [IsFs] at h ⊢
   obtain ⟨⟨ad,cs,h1,h2,h3,h4⟩,h5⟩:=h
   exact ⟨⟨ad,cs,h1,hS _ h2,h3.keep (S:=S) (by rw [add_block];exact h2) hk,IsV.keep hk hS v cs h4⟩,IsFs.keep hk hS r A (j+1) h5⟩
end
def Bel (S:Nat→Prop) (B:Nat):Prop:=∀b,S b→b<B
theorem Bel.mono {S:Nat→Prop} {B B':Nat} (h:Bel S B) (hB:B≤B'):Bel S B':=fun b hb=>Nat.lt_of_lt_of_le (h b hb) hB
theorem IsV.below {w w':World} {S:Nat→Prop} {B:Nat} {v:V} {cs:List Value} (h:IsV w S v cs) (hS:Bel S B) (hb:Below B w w'):IsV w' S v cs:=h.keep (fun _ hp=>hb.cell (hS _ hp)) (fun _ h=>h)
theorem IsVs.below {w w':World} {S:Nat→Prop} {B:Nat} {l:List V} {A:Option Addr} {j:Nat} (h:IsVs w S l A j) (hS:Bel S B) (hb:Below B w w'):IsVs w' S l A j:=h.keep (fun _ hp=>hb.cell (hS _ hp)) (fun _ h=>h)
theorem IsFs.below {w w':World} {S:Nat→Prop} {B:Nat} {l:List (ByteArray×V)} {A:Option Addr} {j:Nat} (h:IsFs w S l A j) (hS:Bel S B) (hb:Below B w w'):IsFs w' S l A j:=h.keep (fun _ hp=>hb.cell (hS _ hp)) (fun _ h=>h)
theorem IsV.more {w:World} {S S':Nat→Prop} {v:V} {cs:List Value} (h:IsV w S v cs) (hS:∀b,S b→S' b):IsV w S' v cs:=h.keep (fun _ _=>rfl) hS
theorem IsVs.at_ {w:World} {S:Nat→Prop} {A:Option Addr}:∀{l:List V} {j:Nat},IsVs w S l A j→∀{i:Nat} {v:V},l[i]? =some v→
  ∃(ad:Addr) (cs:List Value),A=some ad∧S ad.block∧CellsAt w (ad.add ((j+i)*8)) cs∧IsV w S v cs
 | [],_,_,_,_,hv=>by simp at hv
 | x :: r,j,h,i,v,hv=>by
   simp only [IsVs] at h
   cases i with
   | zero=>simp at hv;subst hv;exact h.1
   | succ i=>
     have:=IsVs.at_ h.2 (i:=i) (v:=v) (by simpa using hv)
     rw [show j+1+i=j+(i+1) from by omega] at this
     exact this
theorem IsFs.at_ {w:World} {S:Nat→Prop} {A:Option Addr}:∀{l:List (ByteArray×V)} {j:Nat},IsFs w S l A j→∀{i:Nat} {p:ByteArray×V},l[i]? =some p→
  ∃(ad:Addr) (cs:List Value),A=some ad∧S ad.block∧CellsAt w (ad.add ((j+i)*9)) (.string p.1 :: cs)∧IsV w S p.2 cs
 | [],_,_,_,_,hv=>by simp at hv
 | (s,x) :: r,j,h,i,p,hv=>by
   simp only [IsFs] at h
   cases i with
   | zero=>simp at hv;subst hv;exact h.1
   | succ i=>
     have:=IsFs.at_ h.2 (i:=i) (p:=p) (by simpa using hv)
     rw [show j+1+i=j+(i+1) from by omega] at this
     exact this
theorem IsVs.of {w:World} {S:Nat→Prop} {A:Option Addr}:∀{l:List V} {j:Nat},(∀(i:Nat) (v:V),l[i]? =some v→
  ∃(ad:Addr) (cs:List Value),A=some ad∧S ad.block∧CellsAt w (ad.add ((j+i)*8)) cs∧IsV w S v cs)→IsVs w S l A j
 | [],_,_=>by simp only [IsVs]
 | x :: r,j,h=>by
   simp only [IsVs]
   refine ⟨h 0 x (by simp),IsVs.of fun i v hv=>?_⟩
   have:=h (i+1) v (by simpa using hv)
   rw [show j+(i+1)=j+1+i from by omega] at this
   exact this
theorem IsFs.of {w:World} {S:Nat→Prop} {A:Option Addr}:∀{l:List (ByteArray×V)} {j:Nat},(∀(i:Nat) (p:ByteArray×V),l[i]? =some p→
  ∃(ad:Addr) (cs:List Value),A=some ad∧S ad.block∧CellsAt w (ad.add ((j+i)*9)) (.string p.1 :: cs)∧IsV w S p.2 cs)→IsFs w S l A j
 | [],_,_=>by simp only [IsFs]
 | (s,x) :: r,j,h=>by
   simp only [IsFs]
   refine ⟨h 0 (s,x) (by simp),IsFs.of fun i p hp=>?_⟩
   have:=h (i+1) p (by simpa using hp)
   rw [show j+(i+1)=j+1+i from by omega] at this
   exact this
theorem CellsAt.eight {w:World} {a:Addr} {c0 c1 c2 c3 c4 c5 c6 c7:Value} (h:CellsAt w a [c0,c1,c2,c3,c4,c5,c6,c7]):
  w.cell? a=some c0∧w.cell? ⟨a.block,a.off+1,none⟩=some c1∧w.cell? ⟨a.block,a.off+2,none⟩=some c2∧w.cell? ⟨a.block,a.off+3,none⟩=some c3∧
  w.cell? ⟨a.block,a.off+4,none⟩=some c4∧w.cell? ⟨a.block,a.off+5,none⟩=some c5∧w.cell? ⟨a.block,a.off+6,none⟩=some c6∧w.cell? ⟨a.block,a.off+7,none⟩=some c7:=
 ⟨by simpa [Addr.add] using h 0 c0 rfl,h 1 c1 rfl,h 2 c2 rfl,h 3 c3 rfl,h 4 c4 rfl,h 5 c5 rfl,h 6 c6 rfl,h 7 c7 rfl⟩
theorem CellsAt.nine {w:World} {a:Addr} {s c0 c1 c2 c3 c4 c5 c6 c7:Value} (h:CellsAt w a [s,c0,c1,c2,c3,c4,c5,c6,c7]):
  w.cell? a=some s∧w.cell? ⟨a.block,a.off+1,none⟩=some c0∧w.cell? ⟨a.block,a.off+2,none⟩=some c1∧w.cell? ⟨a.block,a.off+3,none⟩=some c2∧w.cell? ⟨a.block,a.off+4,none⟩=some c3∧
  w.cell? ⟨a.block,a.off+5,none⟩=some c4∧w.cell? ⟨a.block,a.off+6,none⟩=some c5∧w.cell? ⟨a.block,a.off+7,none⟩=some c6∧w.cell? ⟨a.block,a.off+8,none⟩=some c7:=
 ⟨by simpa [Addr.add] using h 0 s rfl,h 1 c0 rfl,h 2 c1 rfl,h 3 c2 rfl,h 4 c3 rfl,h 5 c4 rfl,h 6 c5 rfl,h 7 c6 rfl,h 8 c7 rfl⟩
mutual
def pt:V→Int→Int
 | .mk _ _ _ _ _ _ is fs,m=>ptf fs m (pts is m 1)
def pts:List V→Int→Int→Int
 | [],_,n=>n
 | v :: r,m,n=>if m≤n then n else pts r m (n+pt v (m-n))
def ptf:List (ByteArray×V)→Int→Int→Int
 | [],_,n=>n
 | (_,v) :: r,m,n=>if m≤n then n else ptf r m (n+pt v (m-n))
end
end Go.Proofs.YtjhhdnnblcbdbaaGreatDoor.val
end
section
namespace Go.Proofs.YtjhhdnnblcbdbaaGreatDoor.jp
open Go.RowKit val
set_option linter.unusedVariables false
inductive Rs (α:Type) where
 | ok (a:α) (k:Nat)
 | er (k:Nat) (e:Int)
def Rs.sh {α:Type} (j:Nat):Rs α→Rs α
 | .ok a k=> .ok a (j+k)
 | .er k e=> .er (j+k) e
abbrev Ps (α:Type):=List Nat→Rs α
def ret {α:Type} (a:α):Ps α:=fun _=> .ok a 0
def bnd {α β:Type} (f:Ps α) (g:α→Ps β):Ps β:=fun l=>match f l with
 | .ok a j=>(g a (l.drop j)).sh j
 | .er k e=> .er k e
def sat {α:Type} (t:Nat→Option α):Ps α:=fun l=>match l with
 | x :: _=>(match t x with
   | some a=> .ok a 1
   | none=> .er 0 50)
 | []=> .er 0 50
def want (c:Nat):Ps Unit:=sat fun x=>if x=c then some () else none
def bl (x:Nat):Bool:=x==32||x==9||x==10||x==13
def cnt:List Nat→Nat
 | x :: r=>if bl x then cnt r+1 else 0
 | []=>0
def blanks:Ps Unit:=fun l=> .ok () (cnt l)
def one:Ps Unit:=sat fun _=>some ()
def opn (d:Nat):Ps Unit:=fun l=>match l with
 | _ :: _=>if d=0 then .er 0 71 else .ok () 1
 | []=> .er 0 50
def chk {α β:Type} (f:Ps α) (p:α→Bool) (g:α→Ps β):Ps β:=fun l=>match f l with
 | .ok a j=>if p a=true then .er 0 5 else (g a (l.drop j)).sh j
 | .er k e=> .er k e
def word:List Nat→Ps Unit
 | []=>ret ()
 | c :: r=>bnd (want c) fun _=>word r
def hx (x:Int):Int:=if 48≤x∧x≤57 then x-48 else if 97≤x∧x≤102 then x-97+10 else if 65≤x∧x≤70 then x-65+10 else-1
def digit (t:Int→Bool):Ps Int:=sat fun x=>if 0≤hx x∧t (hx x)=true then some (hx x) else none
def digK (m:Int→Int→Bool):Nat→Int→Int→Ps Int
 | 0,a,_=>ret a
 | k+1,a,f=>bnd (digit fun d=>if k=3 then m d (-1) else if k=2 then m f d else true) fun d=>digK m k (a*16+d) (if k=3 then d else f)
def digs (m:Int→Int→Bool):Ps Int:=digK m 4 0 (-1)
def mayH (f s:Int):Bool:=f !=13||decide (s<12)
def mayL (f s:Int):Bool:=f==13&&(decide (s<0)||decide (12≤s))
def mean (x:Nat):Option Nat:=
 if x=34 then some 34 else if x=92 then some 92 else if x=47 then some 47 else if x=98 then some 8 else if x=102 then some 12 else if x=110 then some 10 else if x=114 then some 13 else if x=116 then some 9 else none
def enc (n:Int):List Nat:=if (0≤n∧n<55296)∨(57344≤n∧n≤1114111) then (Lib.encodeRuneZ n).map Int.toNat else []
def join (n m:Int):Int:=if n<55296∨56320≤n∨m<56320∨57344≤m then 0 else 65536+(n-55296)*1024+(m-56320)
def escU:Ps (List Nat):=bnd (want 117) fun _=>bnd (digs mayH) fun n=>
 if 55296≤n∧n≤56319 then bnd (want 92) fun _=>bnd (want 117) fun _=>bnd (digs mayL) fun m=>ret (enc (join n m)) else ret (enc n)
def escP:Ps (List Nat):=fun l=>(match mean (l.headD 0) with
 | some b=>bnd one fun _=>ret [b]
 | none=>escU) l
def cls (c:Nat):Option (Nat×Nat×Nat):=
 if c<128 then some (0,128,191) else if 194≤c∧c≤223 then some (1,128,191) else if 224≤c∧c≤239 then some (2,if c=224 then 160 else 128,if c=237 then 159 else 191)
 else if 240≤c∧c≤244 then some (3,if c=240 then 144 else 128,if c=244 then 143 else 191) else none
def conts:Nat→Nat→Nat→Ps (List Nat)
 | 0,_,_=>ret []
 | m+1,lo,hi=>bnd (sat fun x=>if lo≤x∧x≤hi then some x else none) fun x=>bnd (conts m 128 191) fun r=>ret (x :: r)
def group:Ps (List Nat):=bnd (sat fun c=>(cls c).map fun t=>(c,t)) fun p=>bnd (conts p.2.1 p.2.2.1 p.2.2.2) fun r=>ret (p.1 :: r)
def pieces:Nat→List Nat→Ps (List Nat)
 | 0,_=>fun _=> .er 0 99
 | m+1,acc=>fun l=>if l.headD 0<32 then .er 0 50 else if l.headD 0=34 then (bnd one fun _=>ret acc) l else if l.headD 0=92 then (bnd one fun _=>bnd escP fun b=>pieces m (acc++b)) l else (bnd group fun b=>pieces m (acc++b)) l
def text (m:Nat):Ps (List Nat):=bnd (want 34) fun _=>pieces m []
def bt (l:List Nat):ByteArray:=mem.strOf (l.map fun n:Nat=>(n:Int))
def nullV:V:= .mk 0 false 0 0 ByteArray.empty ByteArray.empty [] []
def boolV (b:Bool):V:= .mk 1 b 0 0 ByteArray.empty ByteArray.empty [] []
def strV (l:List Nat):V:= .mk 4 false 0 0 (bt l) ByteArray.empty [] []
def numV (k v:Int) (b:Nat):V:= .mk k false v b ByteArray.empty ByteArray.empty [] []
def listV (is:List V):V:= .mk 5 false 0 0 ByteArray.empty ByteArray.empty is []
def objV (fs:List (ByteArray×V)):V:= .mk 6 false 0 0 ByteArray.empty ByteArray.empty [] fs
def pE (l:List Nat):Nat:=(pfx.pf (l.map fun n:Nat=>(n:Int)) 0).1.toNat
def pS (l:List Nat):Nat:=(pfx.pf (l.map fun n:Nat=>(n:Int)) 0).2.1.toNat
abbrev Nf:=List Nat→Int×Int×Nat×Int
def numP (F:Nf):Ps V:=fun l=>
 if pS l=0∨pE l<pS l then .er (pS l) 50 else if (F (l.take (pE l))).2.2.2=0 then .ok (numV (F (l.take (pE l))).1 (F (l.take (pE l))).2.1 (F (l.take (pE l))).2.2.1) (pE l) else .er 0 (F (l.take (pE l))).2.2.2
def more (c:Nat):Ps Bool:=bnd blanks fun _ l=>if l.headD 0=c then (bnd one fun _=>ret false) l else (bnd (want 44) fun _=>bnd blanks fun _=>ret true) l
def twice (acc:List (ByteArray×V)) (key:List Nat):Bool:=acc.any fun p=>p.1.data.toList==(bt key).data.toList
mutual
def value (F:Nf):Nat→Nat→Ps V
 | 0,_=>fun _=> .er 0 99
 | n+1,d=>fun l=>
   if l.headD 0=110 then (bnd (word [110,117,108,108]) fun _=>ret nullV) l
   else if l.headD 0=116 then (bnd (word [116,114,117,101]) fun _=>ret (boolV true)) l
   else if l.headD 0=102 then (bnd (word [102,97,108,115,101]) fun _=>ret (boolV false)) l
   else if l.headD 0=34 then (bnd (text n) fun b=>ret (strV b)) l
   else if l.headD 0=91 then (bnd (opn d) fun _=>bnd blanks fun _ l=>if l.headD 0=93 then (bnd one fun _=>ret (listV [])) l else items F n (d-1) [] l) l
   else if l.headD 0=123 then (bnd (opn d) fun _=>bnd blanks fun _ l=>if l.headD 0=125 then (bnd one fun _=>ret (objV [])) l else members F n (d-1) [] l) l
   else numP F l
def items (F:Nf):Nat→Nat→List V→Ps V
 | 0,_,_=>fun _=> .er 0 99
 | n+1,d,acc=>bnd (value F n d) fun v=>bnd (more 93) fun b=>if b=true then items F n d (acc++[v]) else ret (listV (acc++[v]))
def members (F:Nf):Nat→Nat→List (ByteArray×V)→Ps V
 | 0,_,_=>fun _=> .er 0 99
 | n+1,d,acc=>chk (text n) (twice acc) fun key=>bnd blanks fun _=>bnd (want 58) fun _=>bnd blanks fun _=>bnd (value F n d) fun v=>bnd (more 125) fun b=>
    if b=true then members F n d (acc++[(bt key,v)]) else ret (objV (acc++[(bt key,v)]))
end
def rd (F:Nf) (n d:Nat):Ps V:=bnd blanks fun _=>bnd (value F n d) fun v=>bnd blanks fun _ l=>if l=[] then .ok v 0 else .er 0 50
end Go.Proofs.YtjhhdnnblcbdbaaGreatDoor.jp
end
section
namespace Go.Proofs.YtjhhdnnblcbdbaaGreatDoor.jp
open Go.RowKit val
set_option linter.unusedVariables false
structure Loc {α:Type} (f:Ps α):Prop where
 okl:∀l v j,f l= .ok v j→j≤l.length
 erl:∀l k e,f l= .er k e→k≤l.length
 deep:∀l k,f l= .er k 71→k<l.length
 oka:∀l v j,f l= .ok v j→j<l.length→∀l',l'.take (j+1)=l.take (j+1)→f l'= .ok v j
 okt:∀l v j,f l= .ok v j→f (l.take j)= .ok v j
 era:∀l k e,f l= .er k e→(e=50∨e=71)→k<l.length→∀l',l'.take (k+1)=l.take (k+1)→f l'= .er k e
 ert:∀l k e,f l= .er k e→(e=50∨e=71)→f (l.take k)= .er k 50
theorem take_less {l l':List Nat} {a b:Nat} (h:l'.take b=l.take b) (hab:a≤b):l'.take a=l.take a:=by
 have:=congrArg (List.take a) h
 rwa [List.take_take,List.take_take,Nat.min_eq_left hab] at this
theorem drop_agree {l l':List Nat} {a b:Nat} (h:l'.take (a+b)=l.take (a+b)):(l'.drop a).take b=(l.drop a).take b:=by
 have:=congrArg (List.drop a) h
 rwa [List.drop_take,List.drop_take,Nat.add_sub_cancel_left] at this
theorem drop_cut (l:List Nat) (a b:Nat):(l.take (a+b)).drop a=(l.drop a).take b:=by
 rw [List.drop_take,Nat.add_sub_cancel_left]
theorem head_agree {l l':List Nat} {b:Nat} (h:l'.take (b+1)=l.take (b+1)):l'.headD 0=l.headD 0:=by
 cases l <;> cases l' <;> simp_all
theorem head_cut (l:List Nat) (b:Nat) (h:0<b):(l.take b).headD 0=l.headD 0:=by
 obtain ⟨c,rfl⟩:∃c,b=c+1:=⟨b-1,by omega⟩
 cases l <;> simp
section
variable {α β:Type}
theorem Loc.ret (a:α):Loc (ret a) where
 okl:=by intro l v j h;simp only [jp.ret,Rs.ok.injEq] at h;omega
 erl:=by intro l k e h;simp [jp.ret] at h
 deep:=by intro l k h;simp [jp.ret] at h
 oka:=by intro l v j h _ l' _;exact h
 okt:=by intro l v j h;exact h
 era:=by intro l k e h;simp [jp.ret] at h
 ert:=by intro l k e h;simp [jp.ret] at h
theorem Loc.none (e0:Int) (h5:e0≠50) (h7:e0≠71):Loc (fun _=>(.er 0 e0:Rs α)) where
 okl:=by intro l v j h;simp at h
 erl:=by intro l k e h;simp only [Rs.er.injEq] at h;omega
 deep:=by intro l k h;simp only [Rs.er.injEq] at h;omega
 oka:=by intro l v j h;simp at h
 okt:=by intro l v j h;simp at h
 era:=by intro l k e h he;simp only [Rs.er.injEq] at h;omega
 ert:=by intro l k e h he;simp only [Rs.er.injEq] at h;omega
theorem Loc.stop:Loc (fun _=>(.er 0 50:Rs α)) where
 okl:=by intro l v j h;simp at h
 erl:=by intro l k e h;simp only [Rs.er.injEq] at h;omega
 deep:=by intro l k h;simp only [Rs.er.injEq] at h;omega
 oka:=by intro l v j h;simp at h
 okt:=by intro l v j h;simp at h
 era:=by intro l k e h he hk l' _;exact h
 ert:=by intro l k e h he;simp only [Rs.er.injEq] at h;obtain ⟨rfl,rfl⟩:=h;rfl
theorem sat_cases (t:Nat→Option α) (l:List Nat):(∃x r a,l=x :: r∧t x=some a∧sat t l= .ok a 1)∨(sat t l= .er 0 50∧(l=[]∨∃x r,l=x :: r∧t x=Option.none)):=by
 cases l with
 | nil=>exact .inr ⟨rfl,.inl rfl⟩
 | cons x r=>
   cases ht:t x with
   | none=>exact .inr ⟨by simp [sat,ht],.inr ⟨x,r,rfl,ht⟩⟩
   | some a=>exact .inl ⟨x,r,a,rfl,ht,by simp [sat,ht]⟩
theorem Loc.sat (t:Nat→Option α):Loc (sat t) where
 okl:=by
  intro l v j h
  rcases sat_cases t l with ⟨x,r,a,rfl,_,h2⟩ | ⟨h2,_⟩ <;> rw [h2] at h
  ·simp only [Rs.ok.injEq] at h;simp;omega
  ·cases h
 erl:=by
  intro l k e h
  rcases sat_cases t l with ⟨x,r,a,rfl,_,h2⟩ | ⟨h2,_⟩ <;> rw [h2] at h
  ·cases h
  ·simp only [Rs.er.injEq] at h;omega
 deep:=by
  intro l k h
  rcases sat_cases t l with ⟨x,r,a,rfl,_,h2⟩ | ⟨h2,_⟩ <;> rw [h2] at h
  ·cases h
  ·simp only [Rs.er.injEq] at h;omega
 oka:=by
  intro l v j h hj l' hl
  rcases sat_cases t l with ⟨x,r,a,rfl,h1,h2⟩ | ⟨h2,_⟩ <;> rw [h2] at h
  ·simp only [Rs.ok.injEq] at h
   obtain ⟨rfl,rfl⟩:=h
   cases l' with
   | nil=>simp at hl
   | cons y s=>
     simp at hl
     simp [jp.sat,hl.1,h1]
  ·cases h
 okt:=by
  intro l v j h
  rcases sat_cases t l with ⟨x,r,a,rfl,h1,h2⟩ | ⟨h2,_⟩ <;> rw [h2] at h
  ·simp only [Rs.ok.injEq] at h
   obtain ⟨rfl,rfl⟩:=h
   simp [jp.sat,h1]
  ·cases h
 era:=by
  intro l k e h he hk l' hl
  rcases sat_cases t l with ⟨x,r,a,rfl,h1,h2⟩ | ⟨h2,h3⟩ <;> rw [h2] at h
  ·cases h
  ·simp only [Rs.er.injEq] at h
   obtain ⟨rfl,rfl⟩:=h
   rcases h3 with rfl | ⟨x,r,rfl,hx⟩
   ·simp at hk
   ·cases l' with
    | nil=>simp at hl
    | cons y s=>
      simp at hl
      simp [jp.sat,hl,hx]
 ert:=by
  intro l k e h he
  rcases sat_cases t l with ⟨x,r,a,rfl,h1,h2⟩ | ⟨h2,h3⟩ <;> rw [h2] at h
  ·cases h
  ·simp only [Rs.er.injEq] at h
   obtain ⟨rfl,rfl⟩:=h
   rfl
theorem Loc.opn (d:Nat):Loc (opn d) where
 okl:=by intro l v j h;cases l <;> simp only [jp.opn] at h <;> (try split at h) <;> simp_all <;> omega
 erl:=by intro l k e h;cases l <;> simp only [jp.opn] at h <;> (try split at h) <;> simp_all <;> omega
 deep:=by intro l k h;cases l <;> simp only [jp.opn] at h <;> (try split at h) <;> simp_all <;> omega
 oka:=by
  intro l v j h hj l' hl
  cases l with
  | nil=>simp at hj
  | cons x r=>
    cases l' with
    | nil=>simp at hl
    | cons y s=>exact h
 okt:=by
  intro l v j h
  cases l with
  | nil=>simp [jp.opn] at h
  | cons x r=>
    simp only [jp.opn] at h
    split at h
    ·cases h
    ·rename_i hd
     simp only [Rs.ok.injEq] at h
     obtain ⟨_,rfl⟩:=h
     simp [jp.opn,hd]
 era:=by
  intro l k e h he hk l' hl
  cases l with
  | nil=>simp at hk
  | cons x r=>
    cases l' with
    | nil=>simp at hl
    | cons y s=>exact h
 ert:=by
  intro l k e h he
  cases l with
  | nil=>
    simp only [jp.opn,Rs.er.injEq] at h
    obtain ⟨rfl,rfl⟩:=h
    rfl
  | cons x r=>
    simp only [jp.opn] at h
    split at h
    ·simp only [Rs.er.injEq] at h
     obtain ⟨rfl,rfl⟩:=h
     rfl
    ·cases h
theorem cnt_le:∀l,cnt l≤l.length
 | []=>Nat.le_refl _
 | x :: r=>by
   have:=cnt_le r
   simp only [cnt]
   split <;> simp <;> omega
theorem cnt_agree:∀(l l':List Nat),cnt l<l.length→l'.take (cnt l+1)=l.take (cnt l+1)→cnt l'=cnt l
 | [],_,h,_=>by simp at h
 | x :: r,l',h,hl=>by
   cases l' with
   | nil=>simp at hl
   | cons y s=>
     simp at hl
     obtain ⟨rfl,hl⟩:=hl
     simp only [cnt] at h hl ⊢
     by_cases hb:bl y=true
     ·simp only [hb,if_true,List.length_cons] at h hl ⊢
      rw [cnt_agree r s (by omega) hl]
     ·simp only [hb]
      rfl
theorem cnt_cut:∀l:List Nat,cnt (l.take (cnt l))=cnt l
 | []=>rfl
 | x :: r=>by
   simp only [cnt]
   by_cases hb:bl x=true
   ·simp only [hb,if_true,List.take_succ_cons,cnt]
    rw [cnt_cut r]
   ·simp [hb,cnt]
theorem Loc.blanks:Loc blanks where
 okl:=by intro l v j h;simp only [jp.blanks,Rs.ok.injEq] at h;have:=cnt_le l;omega
 erl:=by intro l k e h;simp [jp.blanks] at h
 deep:=by intro l k h;simp [jp.blanks] at h
 oka:=by
  intro l v j h hj l' hl
  simp only [jp.blanks,Rs.ok.injEq] at h ⊢
  obtain ⟨_,rfl⟩:=h
  exact ⟨trivial,cnt_agree l l' hj hl⟩
 okt:=by
  intro l v j h
  simp only [jp.blanks,Rs.ok.injEq] at h ⊢
  obtain ⟨_,rfl⟩:=h
  exact ⟨trivial,cnt_cut l⟩
 era:=by intro l k e h;simp [jp.blanks] at h
 ert:=by intro l k e h;simp [jp.blanks] at h
theorem chk_cases (f:Ps α) (p:α→Bool) (g:α→Ps β) (l:List Nat):
  (∃k e,f l= .er k e∧chk f p g l= .er k e)∨(∃a j,f l= .ok a j∧p a=true∧chk f p g l= .er 0 5)∨
  (∃a j b i,f l= .ok a j∧p a=false∧g a (l.drop j)= .ok b i∧chk f p g l= .ok b (j+i))∨(∃a j i e,f l= .ok a j∧p a=false∧g a (l.drop j)= .er i e∧chk f p g l= .er (j+i) e):=by
 cases hf:f l with
 | er k e=>exact .inl ⟨k,e,rfl,by simp [chk,hf]⟩
 | ok a j=>
   cases hp:p a with
   | true=>exact .inr (.inl ⟨a,j,rfl,hp,by simp [chk,hf,hp]⟩)
   | false=>
     cases hg:g a (l.drop j) with
     | ok b i=>exact .inr (.inr (.inl ⟨a,j,b,i,rfl,hp,hg,by simp [chk,hf,hp,hg,Rs.sh]⟩))
     | er i e=>exact .inr (.inr (.inr ⟨a,j,i,e,rfl,hp,hg,by simp [chk,hf,hp,hg,Rs.sh]⟩))
theorem chk_ok {f:Ps α} {p:α→Bool} {g:α→Ps β} {l:List Nat} {a:α} {j:Nat} (hf:f l= .ok a j) (hp:p a=false):chk f p g l=(g a (l.drop j)).sh j:=by simp [chk,hf,hp]
theorem Loc.chk {f:Ps α} {p:α→Bool} {g:α→Ps β} (hf:Loc f) (hg:∀a,Loc (g a)):Loc (chk f p g) where
 okl:=by
  intro l v j h
  rcases chk_cases f p g l with ⟨k,e,h1,h2⟩ | ⟨a,i,h1,h2,h3⟩ | ⟨a,i,b,i2,h1,h2,h3,h4⟩ | ⟨a,i,i2,e,h1,h2,h3,h4⟩
  ·rw [h2] at h;cases h
  ·rw [h3] at h;cases h
  ·rw [h4] at h
   simp only [Rs.ok.injEq] at h
   have:=hf.okl _ _ _ h1
   have:=(hg a).okl _ _ _ h3
   rw [List.length_drop] at this
   omega
  ·rw [h4] at h;cases h
 erl:=by
  intro l k e h
  rcases chk_cases f p g l with ⟨k,e,h1,h2⟩ | ⟨a,i,h1,h2,h3⟩ | ⟨a,i,b,i2,h1,h2,h3,h4⟩ | ⟨a,i,i2,e,h1,h2,h3,h4⟩
  ·rw [h2] at h
   simp only [Rs.er.injEq] at h
   have:=hf.erl _ _ _ h1
   omega
  ·rw [h3] at h
   simp only [Rs.er.injEq] at h
   omega
  ·rw [h4] at h;cases h
  ·rw [h4] at h
   simp only [Rs.er.injEq] at h
   have:=hf.okl _ _ _ h1
   have:=(hg a).erl _ _ _ h3
   rw [List.length_drop] at this
   omega
 deep:=by
  intro l k h
  rcases chk_cases f p g l with ⟨k,e,h1,h2⟩ | ⟨a,i,h1,h2,h3⟩ | ⟨a,i,b,i2,h1,h2,h3,h4⟩ | ⟨a,i,i2,e,h1,h2,h3,h4⟩
  ·rw [h2] at h
   simp only [Rs.er.injEq] at h
   obtain ⟨rfl,rfl⟩:=h
   exact hf.deep _ _ h1
  ·rw [h3] at h
   simp only [Rs.er.injEq] at h
   omega
  ·rw [h4] at h;cases h
  ·rw [h4] at h
   simp only [Rs.er.injEq] at h
   obtain ⟨rfl,rfl⟩:=h
   have:=hf.okl _ _ _ h1
   have:=(hg a).deep _ _ h3
   rw [List.length_drop] at this
   omega
 oka:=by
  intro l v j h hj l' hl
  rcases chk_cases f p g l with ⟨k,e,h1,h2⟩ | ⟨a,i,h1,h2,h3⟩ | ⟨a,i,b,i2,h1,h2,h3,h4⟩ | ⟨a,i,i2,e,h1,h2,h3,h4⟩
  ·rw [h2] at h;cases h
  ·rw [h3] at h;cases h
  ·rw [h4] at h
   simp only [Rs.ok.injEq] at h
   obtain ⟨rfl,rfl⟩:=h
   have e1:=hf.oka _ _ _ h1 (by omega) l' (take_less hl (by omega))
   have e2:=(hg a).oka _ _ _ h3 (by rw [List.length_drop];omega) (l'.drop i) (drop_agree (by rw [←Nat.add_assoc];exact hl))
   rw [chk_ok e1 h2,e2]
   rfl
  ·rw [h4] at h;cases h
 okt:=by
  intro l v j h
  rcases chk_cases f p g l with ⟨k,e,h1,h2⟩ | ⟨a,i,h1,h2,h3⟩ | ⟨a,i,b,i2,h1,h2,h3,h4⟩ | ⟨a,i,i2,e,h1,h2,h3,h4⟩
  ·rw [h2] at h;cases h
  ·rw [h3] at h;cases h
  ·rw [h4] at h
   simp only [Rs.ok.injEq] at h
   obtain ⟨rfl,rfl⟩:=h
   have e2:=(hg a).okt _ _ _ h3
   have e1:f (l.take (i+i2))= .ok a i:=by
    rcases Nat.eq_zero_or_pos i2 with h0 | h0
    ·subst h0
     exact hf.okt _ _ _ h1
    ·have hl2:=(hg a).okl _ _ _ h3
     rw [List.length_drop] at hl2
     refine hf.oka _ _ _ h1 (by omega) _ ?_
     rw [List.take_take,Nat.min_eq_left (by omega)]
   rw [chk_ok e1 h2,drop_cut,e2]
   rfl
  ·rw [h4] at h;cases h
 era:=by
  intro l k e h he hk l' hl
  rcases chk_cases f p g l with ⟨k,e,h1,h2⟩ | ⟨a,i,h1,h2,h3⟩ | ⟨a,i,b,i2,h1,h2,h3,h4⟩ | ⟨a,i,i2,e,h1,h2,h3,h4⟩
  ·rw [h2] at h
   simp only [Rs.er.injEq] at h
   obtain ⟨rfl,rfl⟩:=h
   have:=hf.era _ _ _ h1 he hk l' hl
   simp [jp.chk,this]
  ·rw [h3] at h
   simp only [Rs.er.injEq] at h
   omega
  ·rw [h4] at h;cases h
  ·rw [h4] at h
   simp only [Rs.er.injEq] at h
   obtain ⟨rfl,rfl⟩:=h
   have e1:=hf.oka _ _ _ h1 (by omega) l' (take_less hl (by omega))
   have e2:=(hg a).era _ _ _ h3 he (by rw [List.length_drop];omega) (l'.drop i) (drop_agree (by rw [←Nat.add_assoc];exact hl))
   rw [chk_ok e1 h2,e2]
   rfl
 ert:=by
  intro l k e h he
  rcases chk_cases f p g l with ⟨k,e,h1,h2⟩ | ⟨a,i,h1,h2,h3⟩ | ⟨a,i,b,i2,h1,h2,h3,h4⟩ | ⟨a,i,i2,e,h1,h2,h3,h4⟩
  ·rw [h2] at h
   simp only [Rs.er.injEq] at h
   obtain ⟨rfl,rfl⟩:=h
   have:=hf.ert _ _ _ h1 he
   simp [jp.chk,this]
  ·rw [h3] at h
   simp only [Rs.er.injEq] at h
   omega
  ·rw [h4] at h;cases h
  ·rw [h4] at h
   simp only [Rs.er.injEq] at h
   obtain ⟨rfl,rfl⟩:=h
   have e2:=(hg a).ert _ _ _ h3 he
   have e1:f (l.take (i+i2))= .ok a i:=by
    rcases Nat.eq_zero_or_pos i2 with h0 | h0
    ·subst h0
     exact hf.okt _ _ _ h1
    ·have hl2:=(hg a).erl _ _ _ h3
     rw [List.length_drop] at hl2
     refine hf.oka _ _ _ h1 (by omega) _ ?_
     rw [List.take_take,Nat.min_eq_left (by omega)]
   rw [chk_ok e1 h2,drop_cut,e2]
   rfl
theorem bnd_chk (f:Ps α) (g:α→Ps β):bnd f g=chk f (fun _=>false) g:=by
 funext l
 unfold bnd chk
 cases f l <;> rfl
theorem Loc.bnd {f:Ps α} {g:α→Ps β} (hf:Loc f) (hg:∀a,Loc (g a)):Loc (bnd f g):=by
 rw [bnd_chk]
 exact Loc.chk hf hg
theorem Loc.head {f:Ps α} (g:Nat→Ps α) (h:∀l,f l=g (l.headD 0) l) (hg:∀c,Loc (g c)) (h0:∀l v,f l≠.ok v 0) (he:∀l e,f l= .er 0 e→(e=50∨e=71)→f []= .er 0 50):Loc f where
 okl:=by intro l v j hh;rw [h] at hh;exact (hg _).okl _ _ _ hh
 erl:=by intro l k e hh;rw [h] at hh;exact (hg _).erl _ _ _ hh
 deep:=by intro l k hh;rw [h] at hh;exact (hg _).deep _ _ hh
 oka:=by intro l v j hh hj l' hl;rw [h,head_agree hl];rw [h] at hh;exact (hg _).oka _ _ _ hh hj l' hl
 okt:=by
  intro l v j hh
  have hj:0<j:=Nat.pos_of_ne_zero fun e=>h0 l v (by rw [hh,e])
  rw [h,head_cut l j hj]
  rw [h] at hh
  exact (hg _).okt _ _ _ hh
 era:=by intro l k e hh he hk l' hl;rw [h,head_agree hl];rw [h] at hh;exact (hg _).era _ _ _ hh he hk l' hl
 ert:=by
  intro l k e hh hee
  rcases Nat.eq_zero_or_pos k with h1 | h1
  ·subst h1
   exact he l e hh hee
  ·rw [h,head_cut l k h1]
   rw [h] at hh
   exact (hg _).ert _ _ _ hh hee
def Eats (f:Ps α):Prop:=∀l v,f l≠.ok v 0
theorem Eats.sat (t:Nat→Option α):Eats (sat t):=by
 intro l v h
 rcases sat_cases t l with ⟨x,r,a,rfl,_,h2⟩ | ⟨h2,_⟩ <;> rw [h2] at h
 ·simp at h
 ·cases h
theorem Eats.opn (d:Nat):Eats (opn d):=by
 intro l v h
 cases l <;> simp only [jp.opn] at h <;> (try split at h) <;> simp at h
theorem bnd_cases (f:Ps α) (g:α→Ps β) (l:List Nat):(∃k e,f l= .er k e∧bnd f g l= .er k e)∨
  (∃a j b i,f l= .ok a j∧g a (l.drop j)= .ok b i∧bnd f g l= .ok b (j+i))∨(∃a j i e,f l= .ok a j∧g a (l.drop j)= .er i e∧bnd f g l= .er (j+i) e):=by
 cases hf:f l with
 | er k e=>exact .inl ⟨k,e,rfl,by simp [bnd,hf]⟩
 | ok a j=>
   cases hg:g a (l.drop j) with
   | ok b i=>exact .inr (.inl ⟨a,j,b,i,rfl,hg,by simp [bnd,hf,hg,Rs.sh]⟩)
   | er i e=>exact .inr (.inr ⟨a,j,i,e,rfl,hg,by simp [bnd,hf,hg,Rs.sh]⟩)
theorem Eats.bnd {f:Ps α} {g:α→Ps β} (hf:Eats f):Eats (bnd f g):=by
 intro l v h
 rcases bnd_cases f g l with ⟨k,e,h1,h2⟩ | ⟨a,j,b,i,h1,h2,h3⟩ | ⟨a,j,i,e,h1,h2,h3⟩
 ·rw [h2] at h;cases h
 ·rw [h3] at h
  simp only [Rs.ok.injEq] at h
  obtain rfl:j=0:=by omega
  exact hf _ _ h1
 ·rw [h3] at h;cases h
end
theorem Loc.want (c:Nat):Loc (want c):=Loc.sat _
theorem Loc.one:Loc one:=Loc.sat _
theorem Loc.word:∀ws,Loc (word ws)
 | []=>Loc.ret _
 | c :: r=>Loc.bnd (Loc.want c) fun _=>Loc.word r
theorem Loc.digK (m:Int→Int→Bool):∀k a f,Loc (digK m k a f)
 | 0,_,_=>Loc.ret _
 | k+1,_,_=>Loc.bnd (Loc.sat _) fun _=>Loc.digK m k _ _
theorem Loc.digs (m:Int→Int→Bool):Loc (digs m):=Loc.digK m 4 0 (-1)
theorem Loc.escU:Loc escU:=Loc.bnd (Loc.want _) fun _=>Loc.bnd (Loc.digs _) fun n=>by
 by_cases h:55296≤n∧n≤56319
 ·rw [if_pos h]
  exact Loc.bnd (Loc.want _) fun _=>Loc.bnd (Loc.want _) fun _=>Loc.bnd (Loc.digs _) fun _=>Loc.ret _
 ·rw [if_neg h]
  exact Loc.ret _
theorem Eats.one:Eats one:=Eats.sat _
theorem Eats.want (c:Nat):Eats (want c):=Eats.sat _
theorem Eats.escU:Eats escU:=Eats.bnd (Eats.want _)
theorem Loc.escP:Loc escP:=by
 refine Loc.head (fun c l=>(match mean c with
  | some b=>jp.bnd jp.one fun _=>jp.ret [b]
  | Option.none=>jp.escU) l) (fun l=>rfl) (fun c=>?_) (fun l v=>?_) (fun l e h1 h2=>rfl)
 ·cases mean c with
  | none=>exact Loc.escU
  | some b=>exact Loc.bnd Loc.one fun _=>Loc.ret _
 ·unfold jp.escP
  cases mean (l.headD 0) with
  | none=>exact Eats.escU l v
  | some b=>exact Eats.bnd Eats.one l v
theorem Loc.conts:∀m lo hi,Loc (jp.conts m lo hi)
 | 0,_,_=>Loc.ret _
 | m+1,_,_=>Loc.bnd (Loc.sat _) fun _=>Loc.bnd (Loc.conts m _ _) fun _=>Loc.ret _
theorem Loc.group:Loc jp.group:=Loc.bnd (Loc.sat _) fun _=>Loc.bnd (Loc.conts _ _ _) fun _=>Loc.ret _
theorem Eats.group:Eats jp.group:=Eats.bnd (Eats.sat _)
theorem Loc.pieces:∀m acc,Loc (jp.pieces m acc)
 | 0,_=>Loc.none 99 (by decide) (by decide)
 | m+1,acc=>by
   refine Loc.head (fun c l=>(if c<32 then fun _=> .er 0 50 else if c=34 then (jp.bnd jp.one fun _=>jp.ret acc) else if c=92 then (jp.bnd jp.one fun _=>jp.bnd jp.escP fun b=>jp.pieces m (acc++b)) else (jp.bnd jp.group fun b=>jp.pieces m (acc++b))) l) (fun l=>?_) (fun c=>?_) (fun l v=>?_) (fun l e h1 h2=>rfl)
   ·simp only [jp.pieces]
    repeat' split
    all_goals rfl
   ·show Loc (if c<32 then _ else _)
    split
    ·exact Loc.stop
    ·split
     ·exact Loc.bnd Loc.one fun _=>Loc.ret _
     ·split
      ·exact Loc.bnd Loc.one fun _=>Loc.bnd Loc.escP fun _=>Loc.pieces m _
      ·exact Loc.bnd Loc.group fun _=>Loc.pieces m _
   ·simp only [jp.pieces]
    split
    ·simp
    ·split
     ·exact Eats.bnd Eats.one l v
     ·split
      ·exact Eats.bnd Eats.one l v
      ·exact Eats.bnd Eats.group l v
theorem Loc.text (m:Nat):Loc (jp.text m):=Loc.bnd (Loc.want _) fun _=>Loc.pieces m _
theorem run_at (M:List Nat):∀(st e f:Int) (i:Nat),∃u t:Nat,pfx.run st e f i (M.map fun n:Nat=>(n:Int))=((pfx.run st e f i (M.map fun n:Nat=>(n:Int))).1,((i+t:Nat):Int),(pfx.run st e f i (M.map fun n:Nat=>(n:Int))).2.2)∧t≤M.length∧
  (e=(i:Int)-u∨True)∧((pfx.run st e f i (M.map fun n:Nat=>(n:Int))).1=e∨∃s:Nat,s≤i+t∧(pfx.run st e f i (M.map fun n:Nat=>(n:Int))).1=(s:Int))∧
  (∀M':List Nat,t<M.length→M'.take (t+1)=M.take (t+1)→pfx.run st e f i (M'.map fun n:Nat=>(n:Int))=pfx.run st e f i (M.map fun n:Nat=>(n:Int)))∧
  pfx.run st e f i ((M.take t).map fun n:Nat=>(n:Int))=pfx.run st e f i (M.map fun n:Nat=>(n:Int)):=by
 induction M with
 | nil=>intro st e f i;exact ⟨0,0,by simp [pfx.run],Nat.le_refl _,.inr trivial,.inl (by simp [pfx.run]),fun M' h=>by simp at h,rfl⟩
 | cons c r ih=>
   intro st e f i
   by_cases h9:pfx.nx st (c:Int)=9
   ·refine ⟨0,0,by simp [pfx.run,h9],Nat.zero_le _,.inr trivial,.inl (by simp [pfx.run,h9]),fun M' h hM=>?_,by simp [pfx.run,h9]⟩
    cases M' with
    | nil=>simp at hM
    | cons y s=>
      simp at hM
      subst hM
      simp [pfx.run,h9]
   ·have step:∀(e' f':Int) (R:List Nat),(e'=e∧f'=f∧pfx.fm (pfx.nx st (c:Int))=0∨e'=((i:Int)+1)∧f'=pfx.fm (pfx.nx st (c:Int))∧pfx.fm (pfx.nx st (c:Int))≠0)→
      pfx.run st e f i ((c :: R).map fun n:Nat=>(n:Int))=pfx.run (pfx.nx st (c:Int)) e' f' (i+1) (R.map fun n:Nat=>(n:Int)):=by
     intro e' f' R h
     rcases h with ⟨rfl,rfl,h⟩ | ⟨rfl,rfl,h⟩ <;> simp [pfx.run,h9,h]
    obtain ⟨e',f',hef⟩:∃e' f':Int,(e'=e∧f'=f∧pfx.fm (pfx.nx st (c:Int))=0∨e'=((i:Int)+1)∧f'=pfx.fm (pfx.nx st (c:Int))∧pfx.fm (pfx.nx st (c:Int))≠0):=by
     by_cases h:pfx.fm (pfx.nx st (c:Int))=0
     ·exact ⟨e,f,.inl ⟨rfl,rfl,h⟩⟩
     ·exact ⟨_,_,.inr ⟨rfl,rfl,h⟩⟩
    obtain ⟨u,t,h1,h2,_,h3,h4,h5⟩:=ih (pfx.nx st (c:Int)) e' f' (i+1)
    refine ⟨0,t+1,?_,by simp;omega,.inr trivial,?_,fun M' hlt hM=>?_,?_⟩
    ·rw [step e' f' r hef]
     rw [show i+(t+1)=i+1+t by omega]
     exact h1
    ·rw [step e' f' r hef]
     rcases h3 with h3 | ⟨s,hs,h3⟩
     ·rcases hef with ⟨rfl,_⟩ | ⟨he,_⟩
      ·exact .inl h3
      ·exact .inr ⟨i+1,by omega,by rw [h3,he];simp⟩
     ·exact .inr ⟨s,by omega,h3⟩
    ·cases M' with
     | nil=>simp at hM
     | cons y s=>
       simp at hM
       obtain ⟨rfl,hM⟩:=hM
       rw [step e' f' r hef,step e' f' s hef]
       exact h4 s (by simpa using hlt) hM
    ·rw [step e' f' r hef,List.take_succ_cons,step e' f' (r.take t) hef]
     exact h5
theorem pf_run (l:List Nat):pfx.pf (l.map fun n:Nat=>(n:Int)) 0=pfx.run 0 0 0 0 (l.map fun n:Nat=>(n:Int)):=by
 unfold pfx.pf
 rw [if_neg (by omega)]
 simp
theorem pf_at (l:List Nat):pS l≤l.length∧pE l≤pS l∧(∀l':List Nat,pS l<l.length→l'.take (pS l+1)=l.take (pS l+1)→pS l'=pS l∧pE l'=pE l)∧pS (l.take (pS l))=pS l∧pE (l.take (pS l))=pE l:=by
 obtain ⟨u,t,h1,h2,_,h3,h4,h5⟩:=run_at l 0 0 0 0
 have hS:pS l=t:=by
  unfold pS
  rw [pf_run,h1]
  simp
 rw [hS]
 refine ⟨h2,?_,fun l' hlt hl=>?_,?_,?_⟩
 ·unfold pE
  rw [pf_run]
  rcases h3 with h3 | ⟨s,hs,h3⟩ <;> rw [h3] <;> simp;omega
 ·have:=h4 l' hlt hl
  rw [←hS]
  unfold pS pE
  rw [pf_run,pf_run,this]
  exact ⟨rfl,rfl⟩
 ·rw [←hS]
  unfold pS at hS ⊢
  rw [hS]
  rw [pf_run,h5,←pf_run,hS]
 ·unfold pE
  rw [pf_run,h5,←pf_run]
theorem Loc.numP {F:Nf} (hF:∀l,(F l).2.2.2≠50∧(F l).2.2.2≠71):Loc (jp.numP F):=by
 have hc:∀l,((pS l=0∨pE l<pS l)∧jp.numP F l= .er (pS l) 50)∨(0<pS l∧pE l=pS l∧(F (l.take (pE l))).2.2.2=0∧jp.numP F l= .ok (numV (F (l.take (pE l))).1 (F (l.take (pE l))).2.1 (F (l.take (pE l))).2.2.1) (pE l))∨
   (0<pS l∧pE l=pS l∧(F (l.take (pE l))).2.2.2≠0∧jp.numP F l= .er 0 (F (l.take (pE l))).2.2.2):=by
  intro l
  unfold jp.numP
  have:=(pf_at l).2.1
  by_cases h:pS l=0∨pE l<pS l
  ·exact .inl ⟨h,by rw [if_pos h]⟩
  ·rw [if_neg h]
   by_cases h2:(F (l.take (pE l))).2.2.2=0
   ·exact .inr (.inl ⟨by omega,by omega,h2,by rw [if_pos h2]⟩)
   ·exact .inr (.inr ⟨by omega,by omega,h2,by rw [if_neg h2]⟩)
 have same:∀l l',pS l'=pS l→pE l'=pE l→l'.take (pE l)=l.take (pE l)→jp.numP F l'=jp.numP F l:=by
  intro l l' h1 h2 h3
  unfold jp.numP
  rw [h1,h2,h3]
 constructor
 ·intro l v j h
  rcases hc l with ⟨_,h2⟩ | ⟨_,h1,_,h2⟩ | ⟨_,_,_,h2⟩ <;> rw [h2] at h
  ·cases h
  ·simp only [Rs.ok.injEq] at h
   have:=(pf_at l).1
   omega
  ·cases h
 ·intro l k e h
  rcases hc l with ⟨_,h2⟩ | ⟨_,h1,_,h2⟩ | ⟨_,_,_,h2⟩ <;> rw [h2] at h
  ·simp only [Rs.er.injEq] at h
   have:=(pf_at l).1
   omega
  ·cases h
  ·simp only [Rs.er.injEq] at h
   omega
 ·intro l k h
  rcases hc l with ⟨_,h2⟩ | ⟨_,h1,_,h2⟩ | ⟨_,_,_,h2⟩ <;> rw [h2] at h
  ·simp only [Rs.er.injEq] at h
   omega
  ·cases h
  ·simp only [Rs.er.injEq] at h
   exact absurd h.2 (hF _).2
 ·intro l v j h hj l' hl
  rcases hc l with ⟨_,h2⟩ | ⟨_,h1,_,h2⟩ | ⟨_,_,_,h2⟩
  ·rw [h2] at h;cases h
  ·have h':=h
   rw [h2] at h
   simp only [Rs.ok.injEq] at h
   obtain ⟨_,rfl⟩:=h
   obtain ⟨e1,e2⟩:=(pf_at l).2.2.1 l' (by omega) (by rw [←h1];exact hl)
   rw [same l l' e1 e2 (take_less hl (by omega))]
   exact h'
  ·rw [h2] at h;cases h
 ·intro l v j h
  rcases hc l with ⟨_,h2⟩ | ⟨_,h1,_,h2⟩ | ⟨_,_,_,h2⟩
  ·rw [h2] at h;cases h
  ·have h':=h
   rw [h2] at h
   simp only [Rs.ok.injEq] at h
   obtain ⟨_,rfl⟩:=h
   obtain ⟨_,_,_,e1,e2⟩:=pf_at l
   rw [←h1] at e1 e2
   rw [same l _ (e1.trans h1) e2 (by rw [List.take_take,Nat.min_self])]
   exact h'
  ·rw [h2] at h;cases h
 ·intro l k e h he hk l' hl
  rcases hc l with ⟨_,h2⟩ | ⟨_,h1,_,h2⟩ | ⟨_,_,_,h2⟩
  ·have h':=h
   rw [h2] at h
   simp only [Rs.er.injEq] at h
   obtain ⟨rfl,rfl⟩:=h
   obtain ⟨e1,e2⟩:=(pf_at l).2.2.1 l' hk hl
   have:=(pf_at l).2.1
   rw [same l l' e1 e2 (take_less hl (by omega))]
   exact h'
  ·rw [h2] at h;cases h
  ·rw [h2] at h
   simp only [Rs.er.injEq] at h
   have:=hF (l.take (pE l))
   omega
 ·intro l k e h he
  rcases hc l with ⟨_,h2⟩ | ⟨_,h1,_,h2⟩ | ⟨_,_,_,h2⟩
  ·have h':=h
   rw [h2] at h
   simp only [Rs.er.injEq] at h
   obtain ⟨rfl,rfl⟩:=h
   obtain ⟨_,h4,_,e1,e2⟩:=pf_at l
   rw [same l _ e1 e2 (by rw [List.take_take,Nat.min_eq_left h4])]
   exact h'
  ·rw [h2] at h;cases h
  ·rw [h2] at h
   simp only [Rs.er.injEq] at h
   have:=hF (l.take (pE l))
   omega
theorem Eats.numP (F:Nf):Eats (jp.numP F):=by
 intro l v h
 unfold jp.numP at h
 have:=(pf_at l).2.1
 split at h
 ·cases h
 ·split at h
  ·simp only [Rs.ok.injEq] at h
   omega
  ·cases h
theorem Loc.more (c:Nat):Loc (more c):=Loc.bnd Loc.blanks fun _=>by
 refine Loc.head (fun x l=>(if x=c then (jp.bnd jp.one fun _=>jp.ret false) else (jp.bnd (jp.want 44) fun _=>jp.bnd jp.blanks fun _=>jp.ret true)) l) (fun l=>?_) (fun x=>?_) (fun l v=>?_) (fun l e h1 h2=>?_)
 ·show (if _ then _ else _)=_
  split <;> rfl
 ·show Loc (if x=c then _ else _)
  split
  ·exact Loc.bnd Loc.one fun _=>Loc.ret _
  ·exact Loc.bnd (Loc.want _) fun _=>Loc.bnd Loc.blanks fun _=>Loc.ret _
 ·show (if _ then _ else _)≠_
  split
  ·exact Eats.bnd Eats.one l v
  ·exact Eats.bnd (Eats.want _) l v
 ·show (if _ then _ else _)=_
  split <;> rfl
theorem Eats.word {c:Nat} {r:List Nat}:Eats (jp.word (c :: r)):=Eats.bnd (Eats.want c)
def Start {α:Type} (f:Ps α):Prop:=∀l e,f l= .er 0 e→(e=50∨e=71)→f []= .er 0 50
theorem Loc.inner {c:Nat} {a:V} {f:Ps V} (hc:c≠0) (hf:Loc f) (h0:Eats f) (he:Start f):Loc (fun l:List Nat=>if l.headD 0=c then (jp.bnd jp.one fun _=>jp.ret a) l else f l):=by
 refine Loc.head (fun x l=>(if x=c then (jp.bnd jp.one fun _=>jp.ret a) else f) l) (fun l=>?_) (fun x=>?_) (fun l v=>?_) (fun l e h1 h2=>?_)
 ·show (if _ then _ else _)=_
  split <;> rfl
 ·show Loc (if x=c then _ else _)
  split
  ·exact Loc.bnd Loc.one fun _=>Loc.ret _
  ·exact hf
 ·show (if _ then _ else _)≠_
  split
  ·exact Eats.bnd Eats.one l v
  ·exact h0 l v
 ·have hn:¬((([]:List Nat).headD 0)=c):=by simpa using fun e=>hc e.symm
  show (if _ then _ else _)=_
  rw [if_neg hn]
  by_cases hh:l.headD 0=c
  ·have h3:(if l.headD 0=c then (jp.bnd jp.one fun _=>jp.ret a) l else f l)= .er 0 e:=h1
   rw [if_pos hh] at h3
   cases l with
   | nil=>exact absurd hh hn
   | cons x r=>simp [jp.bnd,jp.one,jp.sat,jp.ret,Rs.sh] at h3
  ·have h3:(if l.headD 0=c then (jp.bnd jp.one fun _=>jp.ret a) l else f l)= .er 0 e:=h1
   rw [if_neg hh] at h3
   exact he l e h3 h2
theorem Eats.value (F:Nf):∀n d,Eats (jp.value F n d)
 | 0,_=>fun l v h=>by simp [jp.value] at h
 | n+1,d=>fun l v=>by
   simp only [jp.value]
   repeat' split
   ·exact Eats.bnd Eats.word l v
   ·exact Eats.bnd Eats.word l v
   ·exact Eats.bnd Eats.word l v
   ·exact Eats.bnd (Eats.bnd (Eats.want _)) l v
   ·exact Eats.bnd (Eats.opn _) l v
   ·exact Eats.bnd (Eats.opn _) l v
   ·exact Eats.numP F l v
theorem Eats.items (F:Nf) (n d:Nat) (acc:List V):Eats (jp.items F n d acc):=by
 cases n with
 | zero=>intro l v h;simp [jp.items] at h
 | succ n=>intro l v;simp only [jp.items];exact Eats.bnd (Eats.value F n d) l v
theorem Eats.members (F:Nf) (n d:Nat) (acc:List (ByteArray×V)):Eats (jp.members F n d acc):=by
 cases n with
 | zero=>intro l v h;simp [jp.members] at h
 | succ n=>
   intro l v h
   simp only [jp.members] at h
   rcases chk_cases (jp.text n) (twice acc) _ l with ⟨k,e,h1,h2⟩ | ⟨a,i,h1,h2,h3⟩ | ⟨a,i,b,i2,h1,h2,h3,h4⟩ | ⟨a,i,i2,e,h1,h2,h3,h4⟩
   ·rw [h2] at h;cases h
   ·rw [h3] at h;cases h
   ·rw [h4] at h
    simp only [Rs.ok.injEq] at h
    obtain rfl:i=0:=by omega
    exact (Eats.bnd (Eats.want _)) _ _ h1
   ·rw [h4] at h;cases h
theorem Start.value (F:Nf):∀n d,Start (jp.value F n d)
 | 0,_=>fun l e h he=>by simp only [jp.value,Rs.er.injEq] at h;omega
 | n+1,d=>fun l e h he=>rfl
theorem bnd_er {α β:Type} {f:Ps α} {g:α→Ps β} {l:List Nat} {k:Nat} {e:Int} (h:f l= .er k e):jp.bnd f g l= .er k e:=by simp [jp.bnd,h]
theorem Start.items (F:Nf) (n d:Nat) (acc:List V):Start (jp.items F n d acc):=by
 intro l e h he
 rcases n with _ | _ | n
 ·simp only [jp.items,Rs.er.injEq] at h;omega
 ·simp only [jp.items] at h
  rw [bnd_er (k:=0) (e:=99) rfl] at h
  simp only [Rs.er.injEq] at h
  omega
 ·simp only [jp.items]
  exact bnd_er rfl
theorem Start.members (F:Nf) (n d:Nat) (acc:List (ByteArray×V)):Start (jp.members F n d acc):=by
 intro l e h he
 cases n with
 | zero=>simp only [jp.members,Rs.er.injEq] at h;omega
 | succ n=>simp only [jp.members];rfl
theorem Loc.all {F:Nf} (hF:∀l,(F l).2.2.2≠50∧(F l).2.2.2≠71):∀n,(∀d,Loc (jp.value F n d))∧(∀d acc,Loc (jp.items F n d acc))∧∀d acc,Loc (jp.members F n d acc)
 | 0=>⟨fun _=>Loc.none 99 (by decide) (by decide),fun _ _=>Loc.none 99 (by decide) (by decide),fun _ _=>Loc.none 99 (by decide) (by decide)⟩
 | n+1=>by
   obtain ⟨hv,hi,hm⟩:=Loc.all hF n
   refine ⟨fun d=>?_,fun d acc=>?_,fun d acc=>?_⟩
   ·refine Loc.head (fun c l=>(if c=110 then (jp.bnd (jp.word [110,117,108,108]) fun _=>jp.ret nullV)
     else if c=116 then (jp.bnd (jp.word [116,114,117,101]) fun _=>jp.ret (boolV true))
     else if c=102 then (jp.bnd (jp.word [102,97,108,115,101]) fun _=>jp.ret (boolV false))
     else if c=34 then (jp.bnd (jp.text n) fun b=>jp.ret (strV b))
     else if c=91 then (jp.bnd (jp.opn d) fun _=>jp.bnd jp.blanks fun _ l=>if l.headD 0=93 then (jp.bnd jp.one fun _=>jp.ret (listV [])) l else jp.items F n (d-1) [] l)
     else if c=123 then (jp.bnd (jp.opn d) fun _=>jp.bnd jp.blanks fun _ l=>if l.headD 0=125 then (jp.bnd jp.one fun _=>jp.ret (objV [])) l else jp.members F n (d-1) [] l)
     else jp.numP F) l) (fun l=>?_) (fun c=>?_) (Eats.value F (n+1) d) (Start.value F (n+1) d)
    ·simp only [jp.value]
     repeat' split
     all_goals rfl
    ·show Loc (if c=110 then _ else _)
     split
     ·exact Loc.bnd (Loc.word _) fun _=>Loc.ret _
     ·split
      ·exact Loc.bnd (Loc.word _) fun _=>Loc.ret _
      ·split
       ·exact Loc.bnd (Loc.word _) fun _=>Loc.ret _
       ·split
        ·exact Loc.bnd (Loc.text _) fun _=>Loc.ret _
        ·split
         ·exact Loc.bnd (Loc.opn _) fun _=>Loc.bnd Loc.blanks fun _=>Loc.inner (by decide) (hi _ _) (Eats.items F _ _ _) (Start.items F _ _ _)
         ·split
          ·exact Loc.bnd (Loc.opn _) fun _=>Loc.bnd Loc.blanks fun _=>Loc.inner (by decide) (hm _ _) (Eats.members F _ _ _) (Start.members F _ _ _)
          ·exact Loc.numP hF
   ·simp only [jp.items]
    refine Loc.bnd (hv d) fun v=>Loc.bnd (Loc.more _) fun b=>?_
    split
    ·exact hi _ _
    ·exact Loc.ret _
   ·simp only [jp.members]
    refine Loc.chk (Loc.text n) fun key=>Loc.bnd Loc.blanks fun _=>Loc.bnd (Loc.want _) fun _=>Loc.bnd Loc.blanks fun _=>Loc.bnd (hv d) fun v=>Loc.bnd (Loc.more _) fun b=>?_
    split
    ·exact hm _ _
    ·exact Loc.ret _
end Go.Proofs.YtjhhdnnblcbdbaaGreatDoor.jp
end
section
set_option linter.unusedVariables false
namespace Go.Proofs.YtjhhdnnblcbdbaaGreatDoor.val
open Go.RowKit mem
structure Rec {α:Type} (size:Nat) (R:World→(Nat→Prop)→α→List Value→Prop):Prop where
 len:∀{w:World} {S:Nat→Prop} {x:α} {cs:List Value},R w S x cs→cs.length=size
 one:∀{w:World} {S:Nat→Prop} {x:α} {cs:List Value},R w S x cs→∀u∈cs,u.oneCell'=true
 keep:∀{w w':World} {S S':Nat→Prop} {x:α} {cs:List Value},(∀p:Addr,S p.block→w'.cell? p=w.cell? p)→(∀b,S b→S' b)→R w S x cs→R w' S' x cs
def Kids (w:World) (base:Nat) (v:Value) (b:Nat):Prop:=base≤b∧b<w.heap.size∧v.ownBlock≠some b
def Elems {α:Type} (R:World→(Nat→Prop)→α→List Value→Prop) (w:World) (S:Nat→Prop) (l:List α) (css:List (List Value)):Prop:=
 css.length=l.length∧∀(j:Nat) (x:α) (cs:List Value),l[j]? =some x→css[j]? =some cs→R w S x cs
theorem Elems.nil {α:Type} {R:World→(Nat→Prop)→α→List Value→Prop} {w:World} {S:Nat→Prop}:Elems R w S [] []:=⟨rfl,fun j x cs h=>by simp at h⟩
theorem Elems.keep {α:Type} {size:Nat} {R:World→(Nat→Prop)→α→List Value→Prop} (hR:Rec size R) {w w':World} {S S':Nat→Prop} {l:List α} {css:List (List Value)} (h:Elems R w S l css)
  (hk:∀p:Addr,S p.block→w'.cell? p=w.cell? p) (hS:∀b,S b→S' b):Elems R w' S' l css:=⟨h.1,fun j x cs h1 h2=>hR.keep hk hS (h.2 j x cs h1 h2)⟩
theorem Elems.snoc {α:Type} {R:World→(Nat→Prop)→α→List Value→Prop} {w:World} {S:Nat→Prop} {l:List α} {css:List (List Value)} (h:Elems R w S l css) {x:α} {cs:List Value} (hx:R w S x cs):Elems R w S (l++[x]) (css++[cs]):=by
 refine ⟨by simp [h.1],fun j y ds h1 h2=>?_⟩
 by_cases hj:j<l.length
 ·rw [List.getElem?_append_left hj] at h1
  rw [List.getElem?_append_left (by rw [h.1];exact hj)] at h2
  exact h.2 j y ds h1 h2
 ·rw [List.getElem?_append_right (by omega)] at h1
  rw [List.getElem?_append_right (by rw [h.1];omega),h.1] at h2
  have hj0:j-l.length=0:=by
   have:=(List.getElem?_eq_some_iff.1 h1).1
   simp at this
   omega
  rw [hj0] at h1 h2
  simp at h1 h2
  subst h1 h2
  exact hx
theorem Elems.below {α:Type} {size:Nat} {R:World→(Nat→Prop)→α→List Value→Prop} (hR:Rec size R) {w w':World} {base:Nat} {v:Value} {l:List α} {css:List (List Value)} (h:Elems R w (Kids w base v) l css)
  (hb:Below w.heap.size w w'):Elems R w' (Kids w' base v) l css:=
 h.keep hR (fun _ hp=>hb.cell hp.2.1) (fun _ hp=>⟨hp.1,Nat.lt_of_lt_of_le hp.2.1 hb.size,hp.2.2⟩)
theorem Elems.low {α:Type} {size:Nat} {R:World→(Nat→Prop)→α→List Value→Prop} (hR:Rec size R) {w:World} {base:Nat} {v:Value} {l:List α} {css:List (List Value)} (h:Elems R w (Kids w base v) l css)
  {a:Addr} (ha:a.block<base) (u:Value):Elems R (w.setCell a u) (Kids (w.setCell a u) base v) l css:=
 h.keep hR (fun p hp=>World.cell?_of_block (Below.heap_setCell w a u p.block (by have:=hp.1;omega))) (fun b hp=>⟨hp.1,by simpa [World.setCell] using hp.2.1,hp.2.2⟩)
theorem Elems.app {α:Type} {size:Nat} {R:World→(Nat→Prop)→α→List Value→Prop} (hR:Rec size R) {w w2:World} {o:Obj} {base:Nat} {v v':Value} {l:List α} {css:List (List Value)} (h:Elems R w (Kids w base v) l css)
  {x:α} {cs:List Value} (hx:R w (Kids w base v) x cs) (hg:(w.alloc o).grownBy w2 v.ownBlock) (hat:v'.ownBlock=v.ownBlock∨v'.ownBlock=some (w.alloc o).heap.size):Elems R w2 (Kids w2 base v') (l++[x]) (css++[cs]):=by
 refine (h.snoc hx).keep hR (fun p hp=>?_) (fun b hp=>?_)
 ·rw [World.cell?_of_block (hg.block p.block (by have:=hp.2.1;simp;omega) (fun e=>hp.2.2 e.symm))]
  exact World.cell?_of_block (Below.heap_alloc w o p.block hp.2.1)
 ·refine ⟨hp.1,?_,?_⟩
  ·have h1:=hg.size
   have h2:=hp.2.1
   simp at h1
   omega
  ·rcases hat with e | e
   ·rw [e]
    exact hp.2.2
   ·rw [e]
    have h2:=hp.2.1
    simp
    omega
theorem flat_get {size:Nat}:∀{css:List (List Value)},(∀cs∈css,cs.length=size)→∀{j o:Nat} {cs:List Value} {u:Value},css[j]? =some cs→cs[o]? =some u→css.flatten[j*size+o]? =some u
 | [],_,j,o,cs,u,h,_=>by simp at h
 | c :: r,hl,j,o,cs,u,h,hu=>by
   have hc:c.length=size:=hl c (by simp)
   rw [List.flatten_cons]
   cases j with
   | zero=>
     simp at h
     subst h
     rw [Nat.zero_mul,Nat.zero_add,List.getElem?_append_left (List.getElem?_eq_some_iff.1 hu).1]
     exact hu
   | succ j=>
     rw [List.getElem?_append_right (by rw [hc,Nat.succ_mul];omega),hc,show (j+1)*size+o-size=j*size+o from by rw [Nat.succ_mul];omega]
     exact flat_get (fun x hx=>hl x (by simp [hx])) (by simpa using h) hu
theorem elems_len {α:Type} {size:Nat} {R:World→(Nat→Prop)→α→List Value→Prop} (hR:Rec size R) {w:World} {S:Nat→Prop} {l:List α} {css:List (List Value)} (h:Elems R w S l css):∀cs∈css,cs.length=size:=by
 intro cs hcs
 obtain ⟨j,hj,rfl⟩:=List.getElem_of_mem hcs
 have hj':j<l.length:=by rw [←h.1];exact hj
 exact hR.len (h.2 j (l[j]) _ (List.getElem?_eq_getElem hj') (List.getElem?_eq_getElem hj))
theorem add_add (a:Addr) (i j:Nat):(a.add i).add j=a.add (i+j):=by
 unfold Addr.add
 by_cases hi:i=0 <;> by_cases hj:j=0 <;> simp [hi,hj,Nat.add_assoc]
theorem own_elem {α:Type} {size:Nat} {R:World→(Nat→Prop)→α→List Value→Prop} (hR:Rec size R) {w:World} {base:Nat} {e:TypeId} {v:Value} {l:List α} {css:List (List Value)}
  (hown:w.ownsRow base e size v l.length css.flatten) (h:Elems R w (Kids w base v) l css) {j:Nat} {x:α} (hx:l[j]? =some x):
  ∃(g c:Nat) (cs:List Value),v= .slice (some ⟨g,0,none⟩) l.length c∧base≤g∧g<w.heap.size∧CellsAt w ((⟨g,0,none⟩:Addr).add (j*size)) cs∧R w (Kids w base v) x cs:=by
 have hj:j<l.length:=(List.getElem?_eq_some_iff.1 hx).1
 obtain ⟨g,c,cur,rfl,hbg,hlt,_,_,_,_,_⟩:=own_block hown (by omega)
 have hcs:css[j]? =some (css[j]'(by rw [h.1];exact hj)):=List.getElem?_eq_getElem _
 refine ⟨g,c,_,rfl,hbg,hlt,fun o u hu=>?_,h.2 j x _ hx hcs⟩
 rw [add_add]
 exact hown.cells (g:=g) rfl _ u (flat_get (elems_len hR h) hcs hu)
theorem isV_len {w:World} {S:Nat→Prop} {v:V} {cs:List Value} (h:IsV w S v cs):cs.length=8:=by
 cases v
 simp only [IsV] at h
 obtain ⟨_,_,_,_,rfl,_⟩:=h
 rfl
theorem isV_one {w:World} {S:Nat→Prop} {v:V} {cs:List Value} (h:IsV w S v cs):∀u∈cs,u.oneCell'=true:=by
 cases v
 simp only [IsV] at h
 obtain ⟨_,_,_,_,rfl,_⟩:=h
 intro u hu
 simp at hu
 rcases hu with rfl | rfl | rfl | rfl | rfl | rfl | rfl | rfl <;> rfl
theorem recV:Rec 8 IsV:=⟨fun h=>isV_len h,fun h=>isV_one h,fun hk hS h=>h.keep hk hS⟩
def IsF (w:World) (S:Nat→Prop) (p:ByteArray×V) (cs:List Value):Prop:=∃ds,cs= .string p.1 :: ds∧IsV w S p.2 ds
theorem recF:Rec 9 IsF:=by
 refine ⟨fun h=>?_,fun h=>?_,fun hk hS h=>?_⟩
 ·obtain ⟨ds,rfl,h⟩:=h
  simp [isV_len h]
 ·obtain ⟨ds,rfl,h⟩:=h
  intro u hu
  rcases List.mem_cons.1 hu with rfl | hu
  ·rfl
  ·exact isV_one h u hu
 ·obtain ⟨ds,rfl,h⟩:=h
  exact ⟨ds,rfl,h.keep hk hS⟩
def New (base:Nat) (w:World) (b:Nat):Prop:=base≤b∧b<w.heap.size
theorem own_isVs {w:World} {base:Nat} {e:TypeId} {A:Option Addr} {n c:Nat} {l:List V} {css:List (List Value)} (hown:w.ownsRow base e 8 (.slice A n c) l.length css.flatten) (h:Elems IsV w (Kids w base (.slice A n c)) l css):
  IsVs w (New base w) l A 0:=by
 refine IsVs.of fun i x hx=>?_
 obtain ⟨g,c',cs,hv,hbg,hlt,hc,hR⟩:=own_elem recV hown h hx
 injection hv with hA _ _
 subst hA
 rw [Nat.zero_add]
 exact ⟨_,cs,rfl,⟨hbg,hlt⟩,hc,hR.more fun b hb=>⟨hb.1,hb.2.1⟩⟩
theorem own_isFs {w:World} {base:Nat} {e:TypeId} {A:Option Addr} {n c:Nat} {l:List (ByteArray×V)} {css:List (List Value)} (hown:w.ownsRow base e 9 (.slice A n c) l.length css.flatten) (h:Elems IsF w (Kids w base (.slice A n c)) l css):
  IsFs w (New base w) l A 0:=by
 refine IsFs.of fun i x hx=>?_
 obtain ⟨g,c',cs,hv,hbg,hlt,hc,ds,rfl,hR⟩:=own_elem recF hown h hx
 injection hv with hA _ _
 subst hA
 rw [Nat.zero_add]
 exact ⟨_,ds,rfl,⟨hbg,hlt⟩,hc,hR.more fun b hb=>⟨hb.1,hb.2.1⟩⟩
theorem blk8 {w:World} {g:Nat} {t:TypeId} {c0 c1 c2 c3 c4 c5 c6 c7:Value} (h:w.heap[g]? =some (.cells #[c0,c1,c2,c3,c4,c5,c6,c7] t (0,0))):
  w.cell? ⟨g,0,none⟩=some c0∧w.cell? ⟨g,1,none⟩=some c1∧w.cell? ⟨g,2,none⟩=some c2∧w.cell? ⟨g,3,none⟩=some c3∧w.cell? ⟨g,4,none⟩=some c4∧w.cell? ⟨g,5,none⟩=some c5∧w.cell? ⟨g,6,none⟩=some c6∧w.cell? ⟨g,7,none⟩=some c7:=
 ⟨cell_of_row w g 0 _ t (0,0) h,cell_of_row w g 1 _ t (0,0) h,cell_of_row w g 2 _ t (0,0) h,cell_of_row w g 3 _ t (0,0) h,cell_of_row w g 4 _ t (0,0) h,cell_of_row w g 5 _ t (0,0) h,cell_of_row w g 6 _ t (0,0) h,cell_of_row w g 7 _ t (0,0) h⟩
theorem blk_lt {w:World} {g:Nat} {o:Obj} (h:w.heap[g]? =some o):g<w.heap.size:=(Array.getElem?_eq_some_iff.1 h).1
theorem blk_alloc {w:World} {g:Nat} {o:Obj} (h:w.heap[g]? =some o) (x:Obj):(w.alloc x).heap[g]? =some o:=(Below.heap_alloc w x g (blk_lt h)).trans h
theorem blk_grown {w w':World} {g:Nat} {o:Obj} {row:Option Nat} (h:w.heap[g]? =some o) (hb:w.grownBy w' row) (hg:some g≠row):w'.heap[g]? =some o:=(hb.block g (blk_lt h) hg).trans h
theorem blk_far {w:World} {g:Nat} {o:Obj} (h:w.heap[g]? =some o) {a:Addr} (ha:g≠a.block) (u:Value):(w.setCell a u).heap[g]? =some o:=(Below.heap_setCell w a u g ha).trans h
theorem kid_new {w w0 w':World} {base:Nat} {e:TypeId} {size n:Nat} {v:Value} {xs:List Value} (h:w.ownsRow base e size v n xs) (hw:w.heap.size≤w0.heap.size) (hB:base≤w.heap.size):∀b,New w0.heap.size w' b→Kids w' base v b:=by
 intro b hb
 refine ⟨by have:=hb.1;omega,hb.2,fun e=>?_⟩
 have h1:=(h.lt b e).2
 have h2:=hb.1
 omega
theorem own_ne {w:World} {base:Nat} {e:TypeId} {size n:Nat} {v:Value} {xs:List Value} (h:w.ownsRow base e size v n xs) {g:Nat} (hg:g<base):some g≠v.ownBlock:=fun e=>by
 have:=(h.lt g e.symm).1
 omega
def Mid (lo hi:Nat) (w w':World):Prop:=∀b,lo≤b→b<hi→w'.heap[b]? =w.heap[b]?
theorem Mid.refl (lo hi:Nat) (w:World):Mid lo hi w w:=fun _ _ _=>rfl
theorem Mid.below {lo hi B:Nat} {w a b:World} (h:Mid lo hi w a) (hb:Below B a b) (hB:hi≤B):Mid lo hi w b:=fun k h1 h2=>(hb.block k (by omega)).trans (h k h1 h2)
theorem Mid.alloc {lo hi:Nat} {w a:World} (h:Mid lo hi w a) (hs:hi≤a.heap.size) (o:Obj):Mid lo hi w (a.alloc o):=fun k h1 h2=>(Below.heap_alloc a o k (by omega)).trans (h k h1 h2)
theorem Mid.grown {lo hi:Nat} {w a b:World} {row:Option Nat} (h:Mid lo hi w a) (hg:a.grownBy b row) (hs:hi≤a.heap.size) (hr:∀k,row=some k→hi≤k):Mid lo hi w b:=fun k h1 h2=>(hg.block k (by omega) (fun e=>by have:=hr k e.symm;omega)).trans (h k h1 h2)
theorem Mid.set {lo hi:Nat} {w a:World} (h:Mid lo hi w a) {p:Addr} (hp:p.block<lo∨hi≤p.block) (u:Value):Mid lo hi w (a.setCell p u):=fun k h1 h2=>(Below.heap_setCell a p u k (by omega)).trans (h k h1 h2)
theorem isF_one {w:World} {S:Nat→Prop} {s:ByteArray} {v:V} {cs:List Value} (h:IsV w S v cs):∀u∈(Value.string s :: cs),u.oneCell'=true:=by
 intro u hu
 rcases List.mem_cons.1 hu with rfl | hu
 ·rfl
 ·exact isV_one h u hu
end Go.Proofs.YtjhhdnnblcbdbaaGreatDoor.val
end
section
set_option linter.unusedVariables false
namespace Go.Proofs.YtjhhdnnblcbdbaaGreatDoor.smap
open Go.RowKit mem
theorem keyedS:Maps.Keyed Tryz.prog 9:=Maps.string_keyed Tryz.underlying9
theorem key_some (s:ByteArray) (h:s.size≤maxLen):∃l,keyOf Tryz.prog 9 (.string s)=some l:=⟨_,WideMaps.keyOf_string_mk Tryz.underlying9 h⟩
theorem zeroInt (w:World):(zeroValue 3).run Tryz.prog w= .ok (.int .i64 0) w:=by kernel_rfl
def MapS (w:World) (m n:Nat) (l:List ByteArray):Prop:=∃D:DataW Unit,w.ownsMap Tryz.prog 9 (plainElem Tryz.prog 3) m n D∧
 ∀(s:ByteArray) (k:Lit),keyOf Tryz.prog 9 (.string s)=some k→(Maps.has D k=true↔s∈l)
theorem MapS.made (w:World):MapS (w.alloc (.map #[] 0)) w.heap.size 0 []:=⟨.map [],World.ownsMap_made _ _ _ _,fun _ _ _=>by constructor <;> intro h <;> simp_all [Maps.has]⟩
theorem MapS.lt {w:World} {m n:Nat} {l:List ByteArray} (h:MapS w m n l):m<w.heap.size:=by
 obtain ⟨D,h,_⟩:=h
 exact h.lt
theorem MapS.heap {w w':World} {m n:Nat} {l:List ByteArray} (h:MapS w m n l) (he:w'.heap[m]? =w.heap[m]?):MapS w' m n l:=by
 obtain ⟨D,⟨es,clock,hb,F,hs,hD⟩,h2⟩:=h
 exact ⟨D,⟨es,clock,he.trans hb,F,hs,hD⟩,h2⟩
theorem MapS.look {w:World} {m n:Nat} {l:List ByteArray} (h:MapS w m n l) {s:ByteArray} (hc:s.size≤maxLen) (hn:s∉l):
  ∃x,(Instr.lookup 137 (.map (some m)) (.string s) true).run Tryz.prog w= .ok (.tuple #[.int .i64 x,.bool false]) w:=by
 obtain ⟨D,h,h2⟩:=h
 obtain ⟨k,hl⟩:=key_some s hc
 have e1:=h2 s k hl
 obtain ⟨v,ps,hrun,hv⟩:=h.look_ok keyedS Tryz.underlying137 (zeroInt w) (plainElem_int Tryz.underlying3 (by decide)) hl
 obtain ⟨q,rfl,_⟩:=plainElem_int_inv Tryz.underlying3 hv
 have:Maps.has D k=false:=by
  cases hh:Maps.has D k with
  | false=>rfl
  | true=>exact absurd (e1.1 hh) hn
 rw [this] at hrun
 exact ⟨q,hrun⟩
theorem MapS.put {w:World} {m n:Nat} {l:List ByteArray} (h:MapS w m n l) {s:ByteArray} (hc:s.size≤maxLen) (hn:n<maxLen) {i:Int} (hi:(Lit.int .i64 i).wf=true):
  ∃w',(Instr.mapUpdate 137 (.map (some m)) (.string s) (.int .i64 i)).run Tryz.prog w= .ok () w'∧MapS w' m (n+1) (s :: l)∧w.grownBy w' (some m):=by
 obtain ⟨D,h,h2⟩:=h
 obtain ⟨k,hl⟩:=key_some s hc
 obtain ⟨w',hrun,ho,hg⟩:=h.update keyedS Tryz.underlying137 hn hl (plainElem_int Tryz.underlying3 hi)
 refine ⟨w',hrun,⟨_,ho,fun d q hk=>?_⟩,hg⟩
 have hm:=h.isMap
 have hkl:=keyedS.key hl
 by_cases hd:d=s
 ·subst hd
  obtain rfl:k=q:=by rw [hl] at hk;injection hk
  rw [Maps.has_put_same hm hkl]
  simp
 ·have hne:q≠k:=fun e=>hd (by
   have:=keyedS.inj (l:=q) hk (by rw [e];exact hl)
   injection this)
  rw [Maps.has_put_other hne]
  simpa [hd] using h2 d q hk
theorem MapS.look_in {w:World} {m n:Nat} {l:List ByteArray} (h:MapS w m n l) {s:ByteArray} (hc:s.size≤maxLen) (hn:s∈l):
  ∃x,(Instr.lookup 137 (.map (some m)) (.string s) true).run Tryz.prog w= .ok (.tuple #[.int .i64 x,.bool true]) w:=by
 obtain ⟨D,h,h2⟩:=h
 obtain ⟨k,hl⟩:=key_some s hc
 have e1:=h2 s k hl
 obtain ⟨v,ps,hrun,hv⟩:=h.look_ok keyedS Tryz.underlying137 (zeroInt w) (plainElem_int Tryz.underlying3 (by decide)) hl
 obtain ⟨q,rfl,_⟩:=plainElem_int_inv Tryz.underlying3 hv
 rw [e1.2 hn] at hrun
 exact ⟨q,hrun⟩
end Go.Proofs.YtjhhdnnblcbdbaaGreatDoor.smap
end
section
namespace Go.Proofs.YtjhhdnnblcbdbaaGreatDoor.jp
open Go.RowKit val
set_option linter.unusedVariables false
def L1:List Nat:=[32,91,110,117,108,108,44,32,123,34,97,34,58,49,46,53,125,93]
def L2:List Nat:=[91,49,44,93]
def V1:V:=listV [nullV,objV [(bt [97],numV 3 0 4609434218613702656)]]
theorem numP_of {F:Nf} {l:List Nat} {s e:Nat} {k v:Int} {b:Nat} (hs:pS l=s) (he:pE l=e) (h0:s≠0) (hse:s=e) (hF:F (l.take e)=(k,v,b,0)):numP F l= .ok (numV k v b) e:=by
 unfold numP
 rw [hs,he,hF,if_neg (by omega)]
 rfl
theorem bnd_ok {α β:Type} {f:Ps α} {g:α→Ps β} {l:List Nat} {a:α} {j:Nat} {r:Rs β} (hf:f l= .ok a j) (hg:g a (l.drop j)=r):bnd f g l=r.sh j:=by simp [bnd,hf,hg]
theorem bnd_er' {α β:Type} {f:Ps α} {g:α→Ps β} {l:List Nat} {k:Nat} {e:Int} (h:f l= .er k e):bnd f g l= .er k e:=by simp [bnd,h]
theorem val_num {F:Nf} (n d:Nat) {l:List Nat} {r:Rs V} (h:numP F l=r) (h1:l.headD 0≠110) (h2:l.headD 0≠116) (h3:l.headD 0≠102) (h4:l.headD 0≠34) (h5:l.headD 0≠91) (h6:l.headD 0≠123):value F (n+1) d l=r:=by
 simp only [value]
 rw [if_neg h1,if_neg h2,if_neg h3,if_neg h4,if_neg h5,if_neg h6,h]
theorem val15 {F:Nf} (hF:F [49,46,53]=(3,0,4609434218613702656,0)) (n d:Nat):value F (n+1) d [49,46,53,125,93]= .ok (numV 3 0 4609434218613702656) 3:=
 val_num n d (numP_of (s:=3) (e:=3) (by decide) (by decide) (by decide) rfl hF) (by decide) (by decide) (by decide) (by decide) (by decide) (by decide)
theorem val1 {F:Nf} (hF:F [49]=(2,1,0,0)) (n d:Nat):value F (n+1) d [49,44,93]= .ok (numV 2 1 0) 1:=
 val_num n d (numP_of (s:=1) (e:=1) (by decide) (by decide) (by decide) rfl hF) (by decide) (by decide) (by decide) (by decide) (by decide) (by decide)
theorem fixed1 {F:Nf} (hF:F [49,46,53]=(3,0,4609434218613702656,0)) (m:Nat):rd F (m+20) 2 L1= .ok V1 18:=by
 have h:=val15 hF (m+14) 0
 have h1:members F (m+16) 0 [] [34,97,34,58,49,46,53,125,93]= .ok (objV [(bt [97],numV 3 0 4609434218613702656)]) 8:=by
  simp only [members]
  have ht:text (m+15) [34,97,34,58,49,46,53,125,93]= .ok [97] 3:=rfl
  simp only [chk,ht]
  rw [if_neg (by simp [twice])]
  show Rs.sh 3 (bnd blanks _ [58,49,46,53,125,93])=_
  rw [bnd_ok (a:=()) (j:=0) rfl (bnd_ok (a:=()) (j:=1) rfl (bnd_ok (a:=()) (j:=0) rfl (bnd_ok h rfl)))]
  rfl
 have h2:value F (m+17) 1 [123,34,97,34,58,49,46,53,125,93]= .ok (objV [(bt [97],numV 3 0 4609434218613702656)]) 9:=by
  simp only [value]
  rw [if_neg (by decide),if_neg (by decide),if_neg (by decide),if_neg (by decide),if_neg (by decide),if_pos (by decide)]
  rw [bnd_ok (a:=()) (j:=1) rfl (bnd_ok (a:=()) (j:=0) (r:=(.ok (objV [(bt [97],numV 3 0 4609434218613702656)]) 8)) rfl (by
   show (if _ then _ else _)=_
   rw [if_neg (by decide)]
   exact h1))]
  rfl
 have h3:items F (m+18) 1 [nullV] [123,34,97,34,58,49,46,53,125,93]= .ok V1 10:=by
  simp only [items]
  rw [bnd_ok h2 rfl]
  rfl
 have h4:items F (m+19) 1 [] [110,117,108,108,44,32,123,34,97,34,58,49,46,53,125,93]= .ok V1 16:=by
  have hv:value F (m+18) 1 [110,117,108,108,44,32,123,34,97,34,58,49,46,53,125,93]= .ok nullV 4:=rfl
  simp only [items]
  rw [bnd_ok hv (bnd_ok (a:=true) (j:=2) rfl h3)]
  rfl
 have h5:value F (m+20) 2 [91,110,117,108,108,44,32,123,34,97,34,58,49,46,53,125,93]= .ok V1 17:=by
  simp only [value]
  rw [if_neg (by decide),if_neg (by decide),if_neg (by decide),if_neg (by decide),if_pos (by decide)]
  rw [bnd_ok (a:=()) (j:=1) rfl (bnd_ok (a:=()) (j:=0) (r:=(.ok V1 16)) rfl (by
   show (if _ then _ else _)=_
   rw [if_neg (by decide)]
   exact h4))]
  rfl
 unfold rd L1
 rw [bnd_ok (a:=()) (j:=1) rfl (bnd_ok h5 rfl)]
 rfl
theorem fixed2 {F:Nf} (hF:F [49]=(2,1,0,0)) (m:Nat):rd F (m+20) 2 L2= .er 3 50:=by
 have h:=val1 hF (m+17) 1
 have h1:items F (m+19) 1 [] [49,44,93]= .er 2 50:=by
  simp only [items]
  rw [bnd_ok h (bnd_ok (a:=true) (j:=1) rfl rfl)]
  rfl
 have h2:value F (m+20) 2 [91,49,44,93]= .er 3 50:=by
  simp only [value]
  rw [if_neg (by decide),if_neg (by decide),if_neg (by decide),if_neg (by decide),if_pos (by decide)]
  rw [bnd_ok (a:=()) (j:=1) rfl (bnd_ok (a:=()) (j:=0) (r:=(.er 2 50)) rfl (by
   show (if _ then _ else _)=_
   rw [if_neg (by decide)]
   exact h1))]
  rfl
 unfold rd L2
 rw [bnd_ok (a:=()) (j:=0) rfl (bnd_er' h2)]
 rfl
end Go.Proofs.YtjhhdnnblcbdbaaGreatDoor.jp
end
