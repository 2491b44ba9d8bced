/- What the joined texts lack of Mem Val Own. PLAIN LEAN: small laws of the parsers: an answer taken apart; the kind of what was read. PLAIN LEAN: no fault has the number nought; what is read is no longer than the text. PLAIN LEAN: more fuel turns no answer; what stands behind a value's end turns none, if it is a blank, a comma or a closing bracket. PLAIN LEAN: how the layer writes a text: character by character; and the laws on it. PLAIN LEAN: what is between the quotes of a text is read back, piece by piece. PLAIN LEAN: JsoninTexts' law: a text that layer 4 writes is read as that text. PLAIN LEAN: in a text that layer 4 writes no number's text is long. PLAIN LEAN: what a number's prefix tells, by the forms of whole texts alone. PLAIN LEAN: JsoninNumbers' law: a text without blanks at its ends is read as a number just if layer 2 reads it. PLAIN LEAN: JsoninKeys' law: an object of these keys is read with them in this order; where one comes again it is refused there. PLAIN LEAN: in the object that JsoninKeys lays no number's text is long. PLAIN LEAN: what the reader makes: texts that are valid, numbers as layer 2 reads them, keys that come once. PLAIN LEAN: JsoninDepths' law: what is read at some depth is read alike at every depth from its own on, and at none below. What the joined texts lack of Shp. FloatText's answers at one float are one text. A float's one text, as a function of its bits. PLAIN LEAN: the text of a value, and its first fault. PLAIN LEAN: what layer 4 writes of a good value is read as that value. PLAIN LEAN: what is read weighs no more than its bytes. What layer 2 answers: its kinds, and how wide its floats are. What the joined texts lack of Pff Ls. What layer 2 reads of a number's own text, as the function Fn; a good value's fault, and that it fits. What layer 2 reads of a finite float's own text, of a whole number's own text (plain); so: what is asked of the numbers of a good value. -/
import Derived.Test.YtjhhdnnblcbdbaaGreatDoorGVal
import Derived.Lib.RuneBytes
import Derived.Lib.MapLaws
import Derived.Lib.ValidLaws
import Derived.Lib.TrimUEq
import Derived.Test.YtjhhdnnblcbdbaaGreatDoorYNr
import Derived.Test.YtjhhdnnblcbdbaaGreatDoorGJq
import Derived.Test.YtjhhdnnblcbdbaaGreatDoorGShp
import Derived.Test.YtjhhdnnblcbdbaaGreatDoorGFlt
import Derived.Test.YtjhhdnnblcbdbaaGreatDoorGJw
import Derived.Test.YtjhhdnnblcbdbaaGreatDoorGLa
import Derived.Test.YtjhhdnnblcbdbaaGreatDoorGEt
import Derived.Test.YtjhhdnnblcbdbaaGreatDoorGRe
section
set_option linter.unusedVariables false
section
namespace Go.Proofs.YtjhhdnnblcbdbaaGreatDoor.mem
open Go.RowKit
section
variable {P:Program} (w:World)
end
end Go.Proofs.YtjhhdnnblcbdbaaGreatDoor.mem
end
section
namespace Go.Proofs.YtjhhdnnblcbdbaaGreatDoor.val
open Go.RowKit mem
mutual
def sz:V→Nat
 | .mk _ _ _ _ _ _ is fs=>1+szs is+szf fs
def szs:List V→Nat
 | []=>0
 | v :: r=>sz v+szs r
def szf:List (ByteArray×V)→Nat
 | []=>0
 | (_,v) :: r=>sz v+szf r
end
theorem sz_pos (v:V):0<sz v:=by cases v;simp only [sz];omega
theorem szs_get {l:List V} {j:Nat} {v:V} (h:l[j]? =some v):sz v≤szs l:=by
 induction l generalizing j with
 | nil=>simp at h
 | cons x r ih=>
   simp only [szs]
   cases j with
   | zero=>simp at h;subst h;omega
   | succ j=>have:=ih (j:=j) (by simpa using h);omega
theorem szf_get {l:List (ByteArray×V)} {j:Nat} {p:ByteArray×V} (h:l[j]? =some p):sz p.2≤szf l:=by
 induction l generalizing j with
 | nil=>simp at h
 | cons x r ih=>
   obtain ⟨s,x⟩:=x
   simp only [szf]
   cases j with
   | zero=>simp at h;subst h;show sz x≤_;omega
   | succ j=>have:=ih (j:=j) (by simpa using h);omega
theorem szs_len (l:List V):l.length≤szs l:=by
 induction l with
 | nil=>simp [szs]
 | cons x r ih=>have:=sz_pos x;simp only [szs,List.length_cons];omega
theorem szf_len (l:List (ByteArray×V)):l.length≤szf l:=by
 induction l with
 | nil=>simp [szf]
 | cons x r ih=>obtain ⟨s,x⟩:=x;have:=sz_pos x;simp only [szf,List.length_cons];omega
end Go.Proofs.YtjhhdnnblcbdbaaGreatDoor.val
end
section
namespace Go.Proofs.YtjhhdnnblcbdbaaGreatDoor.val
open Go.RowKit mem
theorem blk_below {w w':World} {B g:Nat} {o:Obj} (h:w.heap[g]? =some o) (hb:Below B w w') (hg:g<B):w'.heap[g]? =some o:=(hb.block g hg).trans h
theorem own_below {w w':World} {base:Nat} {e:TypeId} {size n:Nat} {v:Value} {xs:List Value} (h:w.ownsRow base e size v n xs) (hb:Below w.heap.size w w'):w'.ownsRow base e size v n xs:=
 h.kept (row:=none) ⟨hb.os,hb.tape,hb.output,hb.size,fun k hk _=>hb.block k hk⟩ (by cases hv:v.ownBlock <;> simp)
theorem blk9 {w:World} {g:Nat} {t:TypeId} {s c0 c1 c2 c3 c4 c5 c6 c7:Value} (h:w.heap[g]? =some (.cells #[s,c0,c1,c2,c3,c4,c5,c6,c7] t (0,0))):
  w.cell? ⟨g,0,none⟩=some s∧w.cell? ⟨g,1,none⟩=some c0∧w.cell? ⟨g,2,none⟩=some c1∧w.cell? ⟨g,3,none⟩=some c2∧w.cell? ⟨g,4,none⟩=some c3∧w.cell? ⟨g,5,none⟩=some c4∧w.cell? ⟨g,6,none⟩=some c5∧w.cell? ⟨g,7,none⟩=some c6∧w.cell? ⟨g,8,none⟩=some c7:=
 ⟨cell_of_row w g 0 _ t (0,0) h,cell_of_row w g 1 _ t (0,0) h,cell_of_row w g 2 _ t (0,0) h,cell_of_row w g 3 _ t (0,0) h,cell_of_row w g 4 _ t (0,0) h,cell_of_row w g 5 _ t (0,0) h,cell_of_row w g 6 _ t (0,0) h,cell_of_row w g 7 _ t (0,0) h,cell_of_row w g 8 _ t (0,0) h⟩
end Go.Proofs.YtjhhdnnblcbdbaaGreatDoor.val
end
end
section
namespace Go.Proofs.YtjhhdnnblcbdbaaGreatDoor.jp
open Go.RowKit val
set_option linter.unusedVariables false
theorem bnd_inv {α β:Type} {f:Ps α} {g:α→Ps β} {l:List Nat} {b:β} {k:Nat} (h:bnd f g l= .ok b k):∃a j i,f l= .ok a j∧g a (l.drop j)= .ok b i∧k=j+i:=by
 unfold bnd at h
 cases hf:f l with
 | er k e=>rw [hf] at h;cases h
 | ok a j=>
   rw [hf] at h
   simp only at h
   cases hg:g a (l.drop j) with
   | er k e=>rw [hg] at h;cases h
   | ok b' i=>
     rw [hg] at h
     simp only [Rs.sh,Rs.ok.injEq] at h
     exact ⟨a,j,i,rfl,by rw [hg,h.1],h.2.symm⟩
theorem ret_inv {α:Type} {a b:α} {l:List Nat} {k:Nat} (h:ret a l= .ok b k):b=a:=by
 unfold ret at h
 injection h with h1 h2
 exact h1.symm
theorem bnd_ret {α β:Type} {f:Ps α} {c:α→β} {l:List Nat} {b:β} {k:Nat} (h:bnd f (fun a=>ret (c a)) l= .ok b k):∃a,b=c a:=by
 obtain ⟨a,j,i,_,h2,_⟩:=bnd_inv h
 exact ⟨a,ret_inv h2⟩
theorem chk_inv {α β:Type} {f:Ps α} {p:α→Bool} {g:α→Ps β} {l:List Nat} {b:β} {k:Nat} (h:chk f p g l= .ok b k):∃a j i,f l= .ok a j∧p a=false∧g a (l.drop j)= .ok b i∧k=j+i:=by
 unfold chk at h
 cases hf:f l with
 | er k e=>rw [hf] at h;cases h
 | ok a j=>
   rw [hf] at h
   simp only at h
   cases hp:p a with
   | true=>rw [hp] at h;cases h
   | false=>
     rw [hp] at h
     cases hg:g a (l.drop j) with
     | er k e=>rw [hg] at h;cases h
     | ok b' i=>
       rw [hg] at h
       simp [Rs.sh] at h
       exact ⟨a,j,i,rfl,hp,by rw [hg,h.1],h.2.symm⟩
theorem cnt_head {l:List Nat} (h:bl (l.headD 0)=false):cnt l=0:=by
 cases l with
 | nil=>rfl
 | cons x r=>simp only [List.headD_cons] at h;simp [cnt,h]
theorem bl_num {x:Nat} (h:x=45∨(48≤x∧x≤57)):bl x=false:=by
 unfold bl
 simp
 omega
end Go.Proofs.YtjhhdnnblcbdbaaGreatDoor.jp
end
section
namespace Go.Proofs.YtjhhdnnblcbdbaaGreatDoor.jp
open Go.RowKit val
set_option linter.unusedVariables false
def NZ {α:Type} (f:Ps α):Prop:=∀l k e,f l= .er k e→e≠0
section
variable {α β:Type}
theorem NZ.ret (a:α):NZ (jp.ret a):=fun l k e h=>by cases h
theorem NZ.er (k:Nat) {e:Int} (h:e≠0):NZ (fun _=>(.er k e:Rs α)):=fun l k' e' h'=>by injection h' with _ h2;omega
theorem NZ.sat (t:Nat→Option α):NZ (jp.sat t):=by
 intro l k e h
 rcases sat_cases t l with ⟨x,r,a,_,_,h1⟩ | ⟨h1,_⟩
 ·rw [h1] at h;cases h
 ·rw [h1] at h;injection h with _ h2;omega
theorem NZ.bnd {f:Ps α} {g:α→Ps β} (hf:NZ f) (hg:∀a,NZ (g a)):NZ (jp.bnd f g):=by
 intro l k e h
 unfold jp.bnd at h
 cases hf1:f l with
 | er k1 e1=>rw [hf1] at h;injection h with _ h2;exact h2▸hf l k1 e1 hf1
 | ok a j=>
   rw [hf1] at h
   simp only at h
   cases hg1:g a (l.drop j) with
   | ok b i=>rw [hg1] at h;cases h
   | er k1 e1=>rw [hg1] at h;injection h with _ h2;exact h2▸hg a _ k1 e1 hg1
theorem NZ.chk {f:Ps α} {p:α→Bool} {g:α→Ps β} (hf:NZ f) (hg:∀a,NZ (g a)):NZ (jp.chk f p g):=by
 intro l k e h
 unfold jp.chk at h
 cases hf1:f l with
 | er k1 e1=>rw [hf1] at h;injection h with _ h2;exact h2▸hf l k1 e1 hf1
 | ok a j=>
   rw [hf1] at h
   simp only at h
   split at h
   ·injection h with _ h2;omega
   ·cases hg1:g a (l.drop j) with
    | ok b i=>rw [hg1] at h;cases h
    | er k1 e1=>rw [hg1] at h;injection h with _ h2;exact h2▸hg a _ k1 e1 hg1
theorem NZ.at_ {f:Ps α} (g:List Nat→Ps α) (h:∀l,f l=g l l) (hg:∀l,NZ (g l)):NZ f:=fun l k e h1=>hg l l k e (by rw [←h];exact h1)
end
theorem NZ.blanks:NZ blanks:=fun l k e h=>by cases h
theorem NZ.opn (d:Nat):NZ (opn d):=by
 intro l k e h
 unfold jp.opn at h
 cases l with
 | nil=>injection h with _ h2;omega
 | cons x r=>
   simp only at h
   split at h
   ·injection h with _ h2;omega
   ·cases h
theorem NZ.word:∀ws,NZ (word ws)
 | []=>NZ.ret ()
 | c :: r=>NZ.bnd (NZ.sat _) fun _=>NZ.word r
theorem NZ.digK (m:Int→Int→Bool):∀k a f,NZ (digK m k a f)
 | 0,a,_=>NZ.ret a
 | k+1,a,f=>NZ.bnd (NZ.sat _) fun _=>NZ.digK m k _ _
theorem NZ.escU:NZ escU:=NZ.bnd (NZ.sat _) fun _=>NZ.bnd (NZ.digK _ 4 0 (-1)) fun n=>by
 split
 ·exact NZ.bnd (NZ.sat _) fun _=>NZ.bnd (NZ.sat _) fun _=>NZ.bnd (NZ.digK _ 4 0 (-1)) fun _=>NZ.ret _
 ·exact NZ.ret _
theorem NZ.escP:NZ escP:=by
 refine NZ.at_ (fun l=>match mean (l.headD 0) with | some b=>jp.bnd one fun _=>jp.ret [b] | none=>jp.escU) (fun l=>rfl) fun l=>?_
 cases mean (l.headD 0) with
 | some b=>exact NZ.bnd (NZ.sat _) fun _=>NZ.ret _
 | none=>exact NZ.escU
theorem NZ.conts:∀m lo hi,NZ (conts m lo hi)
 | 0,_,_=>NZ.ret _
 | m+1,lo,hi=>NZ.bnd (NZ.sat _) fun _=>NZ.bnd (NZ.conts m _ _) fun _=>NZ.ret _
theorem NZ.group:NZ group:=NZ.bnd (NZ.sat _) fun _=>NZ.bnd (NZ.conts _ _ _) fun _=>NZ.ret _
theorem NZ.pieces:∀m acc,NZ (pieces m acc)
 | 0,acc=>NZ.er 0 (by decide)
 | m+1,acc=>by
   intro l k e h
   unfold jp.pieces at h
   split at h
   ·injection h with _ h2;omega
   ·split at h
    ·exact NZ.bnd (NZ.sat _) (fun _=>NZ.ret _) l k e h
    ·split at h
     ·exact NZ.bnd (NZ.sat _) (fun _=>NZ.bnd NZ.escP fun _=>NZ.pieces m _) l k e h
     ·exact NZ.bnd NZ.group (fun _=>NZ.pieces m _) l k e h
theorem NZ.text (m:Nat):NZ (text m):=NZ.bnd (NZ.sat _) fun _=>NZ.pieces m _
theorem NZ.numP (F:Nf):NZ (numP F):=by
 intro l k e h
 unfold jp.numP at h
 split at h
 ·injection h with _ h2;omega
 ·split at h
  ·cases h
  ·rename_i h0
   injection h with _ h2
   exact h2▸h0
theorem NZ.more (c:Nat):NZ (more c):=NZ.bnd NZ.blanks fun _ l k e h=>by
 split at h
 ·exact NZ.bnd (NZ.sat _) (fun _=>NZ.ret _) l k e h
 ·exact NZ.bnd (NZ.sat _) (fun _=>NZ.bnd NZ.blanks fun _=>NZ.ret _) l k e h
theorem nz_all (F:Nf):∀n,(∀d,NZ (value F n d))∧(∀d acc,NZ (items F n d acc))∧∀d acc,NZ (members F n d acc)
 | 0=>⟨fun d=>NZ.er 0 (by decide),fun d acc=>NZ.er 0 (by decide),fun d acc=>NZ.er 0 (by decide)⟩
 | n+1=>by
   obtain ⟨hv,hi,hm⟩:=nz_all F n
   refine ⟨fun d l k e h=>?_,fun d acc l k e h=>?_,fun d acc l k e h=>?_⟩
   ·unfold value at h
    by_cases h1:l.headD 0=110
    ·rw [if_pos h1] at h;exact NZ.bnd (NZ.word _) (fun _=>NZ.ret _) l k e h
    rw [if_neg h1] at h
    by_cases h1:l.headD 0=116
    ·rw [if_pos h1] at h;exact NZ.bnd (NZ.word _) (fun _=>NZ.ret _) l k e h
    rw [if_neg h1] at h
    by_cases h1:l.headD 0=102
    ·rw [if_pos h1] at h;exact NZ.bnd (NZ.word _) (fun _=>NZ.ret _) l k e h
    rw [if_neg h1] at h
    by_cases h1:l.headD 0=34
    ·rw [if_pos h1] at h;exact NZ.bnd (NZ.text _) (fun _=>NZ.ret _) l k e h
    rw [if_neg h1] at h
    by_cases h1:l.headD 0=91
    ·rw [if_pos h1] at h
     refine NZ.bnd (NZ.opn d) (fun _=>NZ.bnd NZ.blanks fun _ l k e h=>?_) l k e h
     split at h
     ·exact NZ.bnd (NZ.sat _) (fun _=>NZ.ret _) l k e h
     ·exact hi _ _ l k e h
    rw [if_neg h1] at h
    by_cases h1:l.headD 0=123
    ·rw [if_pos h1] at h
     refine NZ.bnd (NZ.opn d) (fun _=>NZ.bnd NZ.blanks fun _ l k e h=>?_) l k e h
     split at h
     ·exact NZ.bnd (NZ.sat _) (fun _=>NZ.ret _) l k e h
     ·exact hm _ _ l k e h
    rw [if_neg h1] at h
    exact NZ.numP F l k e h
   ·unfold items at h
    refine NZ.bnd (hv d) (fun v=>NZ.bnd (NZ.more _) fun b=>?_) l k e h
    cases b
    ·exact NZ.ret _
    ·exact hi _ _
   ·unfold members at h
    refine NZ.chk (NZ.text _) (fun key=>NZ.bnd NZ.blanks fun _=>NZ.bnd (NZ.sat _) fun _=>NZ.bnd NZ.blanks fun _=>NZ.bnd (hv d) fun v=>NZ.bnd (NZ.more _) fun b=>?_) l k e h
    cases b
    ·exact NZ.ret _
    ·exact hm _ _
theorem rd_nz {F:Nf} {n d:Nat} {l:List Nat} {k:Nat} {e:Int} (h:rd F n d l= .er k e):e≠0:=by
 refine NZ.bnd NZ.blanks (fun _=>NZ.bnd ((nz_all F n).1 d) fun v=>NZ.bnd NZ.blanks fun _ l k e h=>?_) l k e h
 split at h
 ·cases h
 ·injection h with _ h2;omega
theorem rd_len {F:Nf} (hF:∀l,(F l).2.2.2≠50∧(F l).2.2.2≠71) {n d:Nat} {l:List Nat} {v:V} {k:Nat} (h:rd F n d l= .ok v k):k≤l.length:=by
 unfold rd at h
 obtain ⟨_,j,i,h1,h2,rfl⟩:=bnd_inv h
 obtain ⟨x,j2,i2,h3,h22,rfl⟩:=bnd_inv h2
 obtain ⟨_,j3,i3,h4,h5,rfl⟩:=bnd_inv h22
 have e1:=Loc.blanks.okl _ _ _ h1
 have e2:=((Loc.all hF n).1 d).okl _ _ _ h3
 have e3:=Loc.blanks.okl _ _ _ h4
 rw [List.length_drop] at e2 e3
 rw [List.length_drop] at e3
 split at h5
 ·injection h5 with _ h6;omega
 ·cases h5
theorem tok_le {src:List Nat} (h:src.length≤1100000) (p:Nat):pE (src.drop p)≤1100000:=by
 have h1:=(pf_at (src.drop p)).1
 have h2:=(pf_at (src.drop p)).2.1
 rw [List.length_drop] at h1
 omega
end Go.Proofs.YtjhhdnnblcbdbaaGreatDoor.jp
end
section
namespace Go.Proofs.YtjhhdnnblcbdbaaGreatDoor.jp
open Go.RowKit val
set_option linter.unusedVariables false
def Up {α:Type} (f g:Ps α):Prop:=∀l a k,f l= .ok a k→g l= .ok a k
section
variable {α β:Type}
theorem Up.refl (f:Ps α):Up f f:=fun _ _ _ h=>h
theorem Up.bnd {f f':Ps α} {g g':α→Ps β} (hf:Up f f') (hg:∀a,Up (g a) (g' a)):Up (jp.bnd f g) (jp.bnd f' g'):=by
 intro l b k h
 obtain ⟨a,j,i,h1,h2,rfl⟩:=bnd_inv h
 exact bnd_ok (hf _ _ _ h1) (hg a _ _ _ h2)
theorem Up.chk {f f':Ps α} {p:α→Bool} {g g':α→Ps β} (hf:Up f f') (hg:∀a,Up (g a) (g' a)):Up (jp.chk f p g) (jp.chk f' p g'):=by
 intro l b k h
 obtain ⟨a,j,i,h1,hp,h2,rfl⟩:=chk_inv h
 rw [chk_ok (hf _ _ _ h1) hp,hg a _ _ _ h2]
 rfl
theorem Up.ite {c:Nat} {a:Ps α} {f f':Ps α} (hf:Up f f'):Up (fun l=>if l.headD 0=c then a l else f l) (fun l=>if l.headD 0=c then a l else f' l):=by
 intro l b k h
 simp only at h ⊢
 by_cases h1:l.headD 0=c
 ·rw [if_pos h1] at h ⊢;exact h
 ·rw [if_neg h1] at h ⊢;exact hf _ _ _ h
end
def sep (t:List Nat):Prop:=t=[]∨∃c r,t=c :: r∧(bl c=true∨c=44∨c=93∨c=125)
def EndAt {α:Type} (f:Ps α) (a:α):Prop:=∀l,f l= .ok a l.length→∀t,sep t→f (l++t)= .ok a l.length
def End {α:Type} (f:Ps α):Prop:=∀a,EndAt f a
section
variable {α β:Type}
theorem take_app {l t:List Nat} {j:Nat} (h:j<l.length):(l++t).take (j+1)=l.take (j+1):=List.take_append_of_le_length (by omega)
theorem End.ret (a:α):End (jp.ret a):=by
 intro b l h t _
 unfold jp.ret at h ⊢
 injection h with h1 h2
 rw [h1,h2]
theorem End.sat (f:Nat→Option α):End (jp.sat f):=by
 intro b l h t _
 cases l with
 | nil=>simp [jp.sat] at h
 | cons x r=>
   simp only [jp.sat,List.cons_append] at h ⊢
   exact h
theorem EndAt.bnd {f:Ps α} {g:α→Ps β} {b:β} (hf:Loc f) (hgl:∀a,Loc (g a)) (hg:∀a,EndAt (g a) b) (h:∀a,Eats (g a)∨EndAt f a):EndAt (jp.bnd f g) b:=by
 intro l h0 t ht
 obtain ⟨a,j,i,h1,h2,h3⟩:=bnd_inv h0
 have hj:=hf.okl _ _ _ h1
 have hi:i=(l.drop j).length:=by rw [List.length_drop];omega
 subst hi
 have h4:=hg a _ h2 t ht
 have h5:f (l++t)= .ok a j:=by
  by_cases hlt:j<l.length
  ·exact hf.oka l a j h1 hlt _ (take_app hlt)
  ·obtain rfl:j=l.length:=by omega
   rcases h a with h | h
   ·rw [List.drop_length] at h2
    exact absurd h2 (h [] b)
   ·exact h l h1 t ht
 rw [bnd_ok (g:=g) h5 (r:= .ok b (l.drop j).length) (by rw [List.drop_append_of_le_length hj];exact h4),h3]
 rfl
theorem End.bnd {f:Ps α} {g:α→Ps β} (hf:Loc f) (hgl:∀a,Loc (g a)) (hg:∀a,End (g a)) (h:∀a,Eats (g a)∨EndAt f a):End (jp.bnd f g):=fun b=>EndAt.bnd hf hgl (fun a=>hg a b) h
theorem EndAt.chk {f:Ps α} {p:α→Bool} {g:α→Ps β} {b:β} (hf:Loc f) (hgl:∀a,Loc (g a)) (hg:∀a,EndAt (g a) b) (h:∀a,Eats (g a)∨EndAt f a):EndAt (jp.chk f p g) b:=by
 intro l h0 t ht
 obtain ⟨a,j,i,h1,hp,h2,h3⟩:=chk_inv h0
 have hj:=hf.okl _ _ _ h1
 have hi:i=(l.drop j).length:=by rw [List.length_drop];omega
 subst hi
 have h4:=hg a _ h2 t ht
 have h5:f (l++t)= .ok a j:=by
  by_cases hlt:j<l.length
  ·exact hf.oka l a j h1 hlt _ (take_app hlt)
  ·obtain rfl:j=l.length:=by omega
   rcases h a with h | h
   ·rw [List.drop_length] at h2
    exact absurd h2 (h [] b)
   ·exact h l h1 t ht
 rw [chk_ok h5 hp,List.drop_append_of_le_length hj,h4,h3]
 rfl
end
theorem nx_sep (st:Int) {c:Nat} (h:bl c=true∨c=44∨c=93∨c=125):pfx.nx st (c:Int)=9:=by
 have hc:(c:Int)≠45∧(c:Int)≠48∧(c:Int)≠46∧(c:Int)≠101∧(c:Int)≠69∧(c:Int)≠43∧pfx.dig (c:Int)=false:=by
  have:c=32∨c=9∨c=10∨c=13∨c=44∨c=93∨c=125:=by
   rcases h with h | h
   ·unfold bl at h
    simp at h
    omega
   ·omega
  rcases this with rfl | rfl | rfl | rfl | rfl | rfl | rfl <;> decide
 obtain ⟨c1,c2,c3,c4,c5,c6,c7⟩:=hc
 unfold pfx.nx
 simp [c1,c2,c3,c4,c5,c6,c7]
theorem run_sep {t:List Nat} (ht:sep t):∀(l:List Nat) (st e f:Int) (i:Nat),pfx.run st e f i ((l++t).map fun n:Nat=>(n:Int))=pfx.run st e f i (l.map fun n:Nat=>(n:Int))
 | [],st,e,f,i=>by
   rcases ht with rfl | ⟨c,r,rfl,h⟩
   ·rfl
   ·simp only [List.nil_append,List.map_cons,List.map_nil,pfx.run]
    rw [if_pos (nx_sep st h)]
 | x :: l,st,e,f,i=>by
   simp only [List.cons_append,List.map_cons,pfx.run]
   rw [run_sep ht l,run_sep ht l]
theorem End.numP {F:Nf}:End (jp.numP F):=by
 intro a l h t ht
 have hS:pS (l++t)=pS l:=by unfold pS;rw [pf_run,pf_run,run_sep ht]
 have hE:pE (l++t)=pE l:=by unfold pE;rw [pf_run,pf_run,run_sep ht]
 have hle:pE l≤l.length:=Nat.le_trans (pf_at l).2.1 (pf_at l).1
 unfold jp.numP at h ⊢
 rw [hS,hE,List.take_append_of_le_length hle]
 exact h
theorem End.one:End one:=End.sat _
theorem End.want (c:Nat):End (want c):=End.sat _
theorem End.word:∀ws,End (word ws)
 | []=>End.ret ()
 | c :: r=>End.bnd (Loc.want c) (fun _=>Loc.word r) (fun _=>End.word r) fun _=> .inr (End.want c _)
theorem End.head {α:Type} {f:Ps α} (g:Nat→Ps α) (h:∀l,f l=g (l.headD 0) l) (hg:∀c,End (g c)) (h0:Eats f):End f:=by
 intro a l h1 t ht
 have hne:l≠[]:=by rintro rfl;exact h0 _ _ h1
 have hh:(l++t).headD 0=l.headD 0:=by
  cases l with
  | nil=>exact absurd rfl hne
  | cons x r=>rfl
 rw [h] at h1 ⊢
 rw [hh]
 exact hg _ a l h1 t ht
theorem End.er {α:Type} (k:Nat) (e:Int):End (fun _=>(.er k e:Rs α)):=fun a l h=>by cases h
theorem End.digK (m:Int→Int→Bool):∀k a f,End (digK m k a f)
 | 0,a,f=>End.ret a
 | k+1,a,f=>End.bnd (Loc.sat _) (fun _=>Loc.digK m k _ _) (fun _=>End.digK m k _ _) fun _=> .inr (End.sat _ _)
theorem End.escU:End escU:=by
 refine End.bnd (Loc.want _) (fun _=>Loc.bnd (Loc.digs _) fun n=>?_) (fun _=>End.bnd (Loc.digs _) (fun n=>?_) (fun n=>?_) fun _=> .inr (End.digK _ 4 0 (-1) _)) fun _=> .inr (End.want _ _)
 ·split
  ·exact Loc.bnd (Loc.want _) fun _=>Loc.bnd (Loc.want _) fun _=>Loc.bnd (Loc.digs _) fun _=>Loc.ret _
  ·exact Loc.ret _
 ·split
  ·exact Loc.bnd (Loc.want _) fun _=>Loc.bnd (Loc.want _) fun _=>Loc.bnd (Loc.digs _) fun _=>Loc.ret _
  ·exact Loc.ret _
 ·split
  ·exact End.bnd (Loc.want _) (fun _=>Loc.bnd (Loc.want _) fun _=>Loc.bnd (Loc.digs _) fun _=>Loc.ret _) (fun _=>End.bnd (Loc.want _) (fun _=>Loc.bnd (Loc.digs _) fun _=>Loc.ret _) (fun _=>End.bnd (Loc.digs _) (fun _=>Loc.ret _) (fun _=>End.ret _) fun _=> .inr (End.digK _ 4 0 (-1) _)) fun _=> .inr (End.want _ _)) fun _=> .inr (End.want _ _)
  ·exact End.ret _
theorem Eats.escP:Eats jp.escP:=by
 intro l v
 unfold jp.escP
 cases h:mean (l.headD 0) with
 | some b=>exact Eats.bnd Eats.one l v
 | none=>exact Eats.escU l v
theorem End.escP:End jp.escP:=by
 refine End.head (fun c=>match mean c with | some b=>jp.bnd jp.one fun _=>jp.ret [b] | none=>jp.escU) (fun l=>rfl) (fun c=>?_) Eats.escP
 cases mean c with
 | some b=>exact End.bnd Loc.one (fun _=>Loc.ret _) (fun _=>End.ret _) fun _=> .inr (End.one _)
 | none=>exact End.escU
theorem End.conts:∀m lo hi,End (jp.conts m lo hi)
 | 0,lo,hi=>End.ret []
 | m+1,lo,hi=>End.bnd (Loc.sat _) (fun _=>Loc.bnd (Loc.conts _ _ _) fun _=>Loc.ret _) (fun _=>End.bnd (Loc.conts _ _ _) (fun _=>Loc.ret _) (fun _=>End.ret _) fun _=> .inr (End.conts m _ _ _)) fun _=> .inr (End.sat _ _)
theorem End.group:End jp.group:=End.bnd (Loc.sat _) (fun _=>Loc.bnd (Loc.conts _ _ _) fun _=>Loc.ret _) (fun _=>End.bnd (Loc.conts _ _ _) (fun _=>Loc.ret _) (fun _=>End.ret _) fun _=> .inr (End.conts _ _ _ _)) fun _=> .inr (End.sat _ _)
theorem Eats.pieces:∀m acc,Eats (pieces m acc)
 | 0,acc=>fun l v h=>by unfold jp.pieces at h;cases h
 | m+1,acc=>by
   intro l v h
   unfold jp.pieces at h
   split at h
   ·cases h
   ·split at h
    ·exact Eats.bnd Eats.one l v h
    ·split at h
     ·exact Eats.bnd Eats.one l v h
     ·exact Eats.bnd Eats.group l v h
theorem End.pieces:∀m acc,End (pieces m acc)
 | 0,acc=>End.er 0 99
 | m+1,acc=>by
   refine End.head (fun c=>if c<32 then (fun _=> .er 0 50) else if c=34 then (jp.bnd jp.one fun _=>jp.ret acc) else if c=92 then (jp.bnd jp.one fun _=>jp.bnd jp.escP fun b=>jp.pieces m (acc++b)) else (jp.bnd jp.group fun b=>jp.pieces m (acc++b))) (fun l=>by
    conv=>lhs;unfold jp.pieces
    by_cases h1:l.headD 0<32
    ·rw [if_pos h1,if_pos h1]
    rw [if_neg h1,if_neg h1]
    by_cases h2:l.headD 0=34
    ·rw [if_pos h2,if_pos h2]
    rw [if_neg h2,if_neg h2]
    by_cases h3:l.headD 0=92
    ·rw [if_pos h3,if_pos h3]
    rw [if_neg h3,if_neg h3]) (fun c=>?_) (Eats.pieces _ _)
   split
   ·exact End.er 0 50
   ·split
    ·exact End.bnd Loc.one (fun _=>Loc.ret _) (fun _=>End.ret _) fun _=> .inr (End.one _)
    ·split
     ·exact End.bnd Loc.one (fun _=>Loc.bnd Loc.escP fun _=>Loc.pieces _ _) (fun _=>End.bnd Loc.escP (fun _=>Loc.pieces _ _) (fun b=>End.pieces m _) fun _=> .inl (Eats.pieces _ _)) fun _=> .inr (End.one _)
     ·exact End.bnd Loc.group (fun _=>Loc.pieces _ _) (fun b=>End.pieces m _) fun _=> .inl (Eats.pieces _ _)
theorem End.text (m:Nat):End (jp.text m):=End.bnd (Loc.want _) (fun _=>Loc.pieces _ _) (fun _=>End.pieces m []) fun _=> .inl (Eats.pieces _ _)
theorem Eats.brk (c:Nat):Eats (fun l:List Nat=>if l.headD 0=c then (jp.bnd jp.one fun _=>jp.ret false) l else (jp.bnd (jp.want 44) fun _=>jp.bnd jp.blanks fun _=>jp.ret true) l):=by
 intro l v h
 simp only at h
 split at h
 ·exact Eats.bnd Eats.one l v h
 ·exact Eats.bnd (Eats.want 44) l v h
theorem Loc.brk {c:Nat} (hc:c≠0):Loc (fun l:List Nat=>if l.headD 0=c then (jp.bnd jp.one fun _=>jp.ret false) l else (jp.bnd (jp.want 44) fun _=>jp.bnd jp.blanks fun _=>jp.ret true) l):=by
 refine Loc.head (fun x=>if x=c then (jp.bnd jp.one fun _=>jp.ret false) else (jp.bnd (jp.want 44) fun _=>jp.bnd jp.blanks fun _=>jp.ret true)) (fun l=>?_) (fun x=>?_) (Eats.brk c) (fun l e h he=>?_)
 ·split <;> rfl
 ·split
  ·exact Loc.bnd Loc.one fun _=>Loc.ret _
  ·exact Loc.bnd (Loc.want _) fun _=>Loc.bnd Loc.blanks fun _=>Loc.ret _
 ·show (if _ then _ else _)=_
  rw [if_neg (by simp;omega)]
  rfl
theorem End.opn (d:Nat):End (jp.opn d):=by
 intro a l h t ht
 cases l with
 | nil=>simp [jp.opn] at h
 | cons x r=>
   simp only [jp.opn,List.cons_append] at h ⊢
   exact h
theorem Eats.inner {c:Nat} {a:V} {f:Ps V} (hf:Eats f):Eats (fun l:List Nat=>if l.headD 0=c then (jp.bnd jp.one fun _=>jp.ret a) l else f l):=by
 intro l v h
 simp only at h
 split at h
 ·exact Eats.bnd Eats.one l v h
 ·exact hf l v h
theorem End.inner {c:Nat} {a:V} {f:Ps V} (hf:Eats f) (he:End f):End (fun l:List Nat=>if l.headD 0=c then (jp.bnd jp.one fun _=>jp.ret a) l else f l):=by
 refine End.head (fun x=>if x=c then (jp.bnd jp.one fun _=>jp.ret a) else f) (fun l=>by split <;> rfl) (fun x=>?_) (Eats.inner hf)
 split
 ·exact End.bnd Loc.one (fun _=>Loc.ret _) (fun _=>End.ret _) fun _=> .inr (End.one _)
 ·exact he
end Go.Proofs.YtjhhdnnblcbdbaaGreatDoor.jp
end
section
set_option linter.unusedVariables false
namespace Go.Proofs.YtjhhdnnblcbdbaaGreatDoor.txt
open Go.Lib
def hexd (n:Nat):Int:=if n<10 then 48+n else 87+n
def escB (r:Nat):Nat:=
 if r=34∨r=92 then r else if 32≤r then 0 else if r=8 then 98 else if r=9 then 116 else if r=10 then 110 else if r=12 then 102 else if r=13 then 114 else 117
def escZ (r:Nat):List Int:=
 if escB r=0 then encodeRuneZ r else if escB r=117 then [92,117,48,48,hexd (r/16),hexd (r % 16)] else [92,escB r]
def runesN:Nat→List UInt8→List Nat
 | 0,_=>[]
 | n+1,l=>if l=[] then [] else (decodeL l).1 :: runesN n (l.drop (decodeL l).2)
def runes (l:List UInt8):List Nat:=runesN l.length l
def encZ (l:List UInt8):List Int:=(runes l).flatMap escZ
def quoteZ (l:List UInt8):List Int:=34 :: (encZ l++[34])
theorem runesN_nil (n:Nat):runesN n []=[]:=by cases n <;> simp [runesN]
theorem runesN_fuel:∀(n m:Nat) (l:List UInt8),l.length≤n→l.length≤m→runesN n l=runesN m l
 | 0,m,l,hn,_=>by
   obtain rfl:l=[]:=List.eq_nil_of_length_eq_zero (by omega)
   rw [runesN_nil,runesN_nil]
 | n+1,0,l,_,hm=>by
   obtain rfl:l=[]:=List.eq_nil_of_length_eq_zero (by omega)
   rw [runesN_nil,runesN_nil]
 | n+1,m+1,l,hn,hm=>by
   unfold runesN
   by_cases hne:l=[]
   ·simp [hne]
   ·have hw:=decodeL_width l
    have hl:0<l.length:=List.length_pos_iff.2 hne
    rw [if_neg hne,if_neg hne,runesN_fuel n m (l.drop (decodeL l).2) (by rw [List.length_drop];omega) (by rw [List.length_drop];omega)]
theorem runes_step (l:List UInt8) (hne:l≠[]):runes l=(decodeL l).1 :: runes (l.drop (decodeL l).2):=by
 have hl:0<l.length:=List.length_pos_iff.2 hne
 have hw:=decodeL_width l
 obtain ⟨n,hn⟩:∃n,l.length=n+1:=⟨l.length-1,by omega⟩
 unfold runes
 rw [hn]
 show (if l=[] then _ else _)=_
 rw [if_neg hne,runesN_fuel n (l.drop (decodeL l).2).length _ (by rw [List.length_drop];omega) (Nat.le_refl _)]
theorem encZ_nil:encZ []=[]:=rfl
theorem encZ_step (l:List UInt8) (hne:l≠[]):encZ l=escZ (decodeL l).1++encZ (l.drop (decodeL l).2):=by
 unfold encZ
 rw [runes_step l hne]
 rfl
theorem hexd_byte {n:Nat} (h:n<16):0≤hexd n∧hexd n<256:=by unfold hexd;split <;> omega
theorem escB_lt (r:Nat):escB r<256:=by
 unfold escB
 repeat' split
 all_goals omega
theorem escB_low {r:Nat} (h:escB r=117):r<32:=by
 unfold escB at h
 split at h
 ·omega
 ·split at h <;> omega
theorem escZ_byte (r:Nat):∀x∈escZ r,0≤x∧x<256:=by
 intro x hx
 unfold escZ at hx
 split at hx
 ·exact encodeRuneZ_byte _ x hx
 ·split at hx
  ·rename_i h
   have hr:=escB_low h
   have h1:=hexd_byte (n:=r/16) (by omega)
   have h2:=hexd_byte (n:=r % 16) (by omega)
   simp only [List.mem_cons,List.mem_nil_iff,or_false] at hx
   rcases hx with rfl | rfl | rfl | rfl | rfl | rfl <;> omega
  ·have:=escB_lt r
   simp only [List.mem_cons,List.mem_nil_iff,or_false] at hx
   rcases hx with rfl | rfl <;> omega
theorem encZ_byte (l:List UInt8):∀x∈encZ l,0≤x∧x<256:=by
 intro x hx
 unfold encZ at hx
 obtain ⟨r,_,hr⟩:=List.mem_flatMap.1 hx
 exact escZ_byte r x hr
theorem quoteZ_byte (l:List UInt8):∀x∈quoteZ l,0≤x∧x<256:=by
 intro x hx
 simp only [quoteZ,List.mem_cons,List.mem_append,List.mem_nil_iff,or_false] at hx
 rcases hx with rfl | h | rfl
 ·omega
 ·exact encZ_byte l x h
 ·omega
theorem escZ_length (r:Nat):(escZ r).length≤6:=by
 unfold escZ
 split
 ·have:=(encodeRuneZ_length r).2;omega
 ·split <;> simp
theorem encZ_length:∀(n:Nat) (l:List UInt8),l.length≤n→(encZ l).length≤6*n
 | 0,l,h=>by
   obtain rfl:l=[]:=List.eq_nil_of_length_eq_zero (by omega)
   simp [encZ_nil]
 | n+1,l,h=>by
   by_cases hne:l=[]
   ·subst hne;simp [encZ_nil]
   ·have hw:=decodeL_width l
    have hl:0<l.length:=List.length_pos_iff.2 hne
    rw [encZ_step l hne,List.length_append]
    have h1:=escZ_length (decodeL l).1
    have h2:=encZ_length n (l.drop (decodeL l).2) (by rw [List.length_drop];omega)
    omega
theorem dN2 (n b0 b1 b2 b3:Nat) (h0:b0/32=6) (hn:1<n) (h1:b1/64=2) (hv:128≤b0 % 32*64+b1 % 64):decodeN n b0 b1 b2 b3=(b0 % 32*64+b1 % 64,2):=by
 unfold decodeN
 rw [if_neg (by omega),if_pos ⟨h0,hn,h1⟩,if_pos hv]
theorem dN3 (n b0 b1 b2 b3:Nat) (h0:b0/16=14) (hn:2<n) (h1:b1/64=2) (h2:b2/64=2) (hv:2048≤b0 % 16*4096+b1 % 64*64+b2 % 64)
  (hw:b0 % 16*4096+b1 % 64*64+b2 % 64<55296∨57344≤b0 % 16*4096+b1 % 64*64+b2 % 64):decodeN n b0 b1 b2 b3=(b0 % 16*4096+b1 % 64*64+b2 % 64,3):=by
 unfold decodeN
 rw [if_neg (by omega),if_neg (by omega),if_pos ⟨h0,⟨by omega,h1⟩,hn,h2⟩,if_pos ⟨hv,by omega⟩]
theorem dN4 (n b0 b1 b2 b3:Nat) (h0:b0/8=30) (hn:3<n) (h1:b1/64=2) (h2:b2/64=2) (h3:b3/64=2) (hv:65536≤b0 % 8*262144+b1 % 64*4096+b2 % 64*64+b3 % 64)
  (hw:b0 % 8*262144+b1 % 64*4096+b2 % 64*64+b3 % 64≤1114111):decodeN n b0 b1 b2 b3=(b0 % 8*262144+b1 % 64*4096+b2 % 64*64+b3 % 64,4):=by
 unfold decodeN
 rw [if_neg (by omega),if_neg (by omega),if_neg (by omega),if_pos ⟨h0,⟨by omega,h1⟩,⟨by omega,h2⟩,hn,h3⟩,if_pos ⟨hv,by omega⟩]
theorem getD_appL (l r:List UInt8) (k:Nat) (h:k<l.length):(l++r).getD k 0=l.getD k 0:=by
 simp only [List.getD]
 rw [List.getElem?_append_left h]
theorem decodeL_app (l r:List UInt8) (hne:l≠[]) (hv:¬((decodeL l).1=65533∧(decodeL l).2=1)):decodeL (l++r)=decodeL l:=by
 have hl:0<l.length:=List.length_pos_iff.2 hne
 rw [decodeL_N] at hv
 rw [decodeL_N,decodeL_N l]
 have hlen:(l++r).length=l.length+r.length:=List.length_append
 rcases decodeN_shape l.length (l.getD 0 0).toNat (l.getD 1 0).toNat (l.getD 2 0).toNat (l.getD 3 0).toNat with ⟨c,e⟩ | ⟨c1,c2,c3,cv,e⟩ | ⟨c1,c2,c3,c4,cv,cs,e⟩ | ⟨c1,c2,c3,c4,c5,cv,cw,e⟩ | e
 ·rw [e,getD_appL l r 0 hl]
  unfold decodeN
  rw [if_pos c]
 ·rw [e,getD_appL l r 0 hl,getD_appL l r 1 c2]
  exact dN2 _ _ _ _ _ c1 (by omega) c3 cv
 ·rw [e,getD_appL l r 0 hl,getD_appL l r 1 (by omega),getD_appL l r 2 c2]
  exact dN3 _ _ _ _ _ c1 (by omega) c3 c4 cv cs
 ·rw [e,getD_appL l r 0 hl,getD_appL l r 1 (by omega),getD_appL l r 2 (by omega),getD_appL l r 3 c2]
  exact dN4 _ _ _ _ _ c1 (by omega) c3 c4 c5 cv cw
 ·rw [e] at hv
  exact absurd ⟨rfl,rfl⟩ hv
theorem valid_step {l:List UInt8} (hne:l≠[]) (h:validD l=true):¬((decodeL l).1=65533∧(decodeL l).2=1)∧validD (l.drop (decodeL l).2)=true:=by
 rw [validD_step l hne] at h
 split at h
 ·cases h
 ·exact ⟨by assumption,h⟩
theorem app_both:∀(n:Nat) (l r:List UInt8),l.length≤n→validD l=true→validD (l++r)=validD r∧encZ (l++r)=encZ l++encZ r
 | 0,l,r,h,_=>by
   obtain rfl:l=[]:=List.eq_nil_of_length_eq_zero (by omega)
   exact ⟨rfl,rfl⟩
 | n+1,l,r,h,hv=>by
   by_cases hne:l=[]
   ·subst hne;exact ⟨rfl,rfl⟩
   ·have hw:=decodeL_width l
    have hle:=decodeL_le l hne
    obtain ⟨h1,h2⟩:=valid_step hne hv
    have hd:=decodeL_app l r hne h1
    have hnr:l++r≠[]:=by simp [hne]
    obtain ⟨i1,i2⟩:=app_both n (l.drop (decodeL l).2) r (by rw [List.length_drop];omega) h2
    have hdr:(l++r).drop (decodeL l).2=l.drop (decodeL l).2++r:=List.drop_append_of_le_length hle
    rw [validD_step _ hnr,hd,if_neg h1,hdr,encZ_step _ hnr,hd,hdr,i1,i2,encZ_step l hne,List.append_assoc]
    exact ⟨rfl,rfl⟩
end Go.Proofs.YtjhhdnnblcbdbaaGreatDoor.txt
end
section
set_option linter.unusedVariables false
namespace Go.Proofs.YtjhhdnnblcbdbaaGreatDoor.txt
open Go.Lib
def frN (n:Nat):Nat:=if n=0 then 34 else if n=1 then 92 else if n=2 then 98 else if n=3 then 116 else if n=4 then 110 else if n=5 then 102 else 114
def toN (n:Nat):Nat:=if n=0 then 34 else if n=1 then 92 else if n=2 then 8 else if n=3 then 9 else if n=4 then 10 else if n=5 then 12 else 13
inductive Un:List Int→List Int→Prop
 | nil:Un [] []
 | byte (x:Nat) (z o:List Int) (h1:32≤x) (h2:x<256) (h3:x≠34) (h4:x≠92) (h:Un z o):Un ((x:Int) :: z) ((x:Int) :: o)
 | esc (n:Nat) (z o:List Int) (h1:n<7) (h:Un z o):Un (92 :: (frN n:Int) :: z) ((toN n:Int) :: o)
 | sm (r:Nat) (z o:List Int) (h1:r<32) (h2:r≠8) (h3:r≠9) (h4:r≠10) (h5:r≠12) (h6:r≠13) (h:Un z o):Un (92 :: 117 :: 48 :: 48 :: hexd (r/16) :: hexd (r % 16) :: z) ((r:Int) :: o)
def ints (l:List UInt8):List Int:=l.map fun x=>(x.toNat:Int)
theorem Un.bytes {z o:List Int} (h:Un z o):∀(l:List Int),(∀x∈l,32≤x∧x<256∧x≠34∧x≠92)→Un (l++z) (l++o)
 | [],_=>h
 | x :: l,hl=>by
   obtain ⟨h1,h2,h3,h4⟩:=hl x (by simp)
   have hx:x=(x.toNat:Int):=by omega
   rw [hx]
   exact Un.byte x.toNat _ _ (by omega) (by omega) (by omega) (by omega) (Un.bytes h l fun y hy=>hl y (by simp [hy]))
theorem encode_plain {r:Nat} (h:32≤r) (h1:r≠34) (h2:r≠92):∀x∈encodeRuneZ r,32≤x∧x<256∧x≠34∧x≠92:=by
 intro x hx
 unfold encodeRuneZ at hx
 split at hx
 ·simp at hx;omega
 ·split at hx
  ·simp at hx;omega
  ·split at hx
   ·simp at hx;omega
   ·split at hx
    ·simp at hx;omega
    ·simp at hx;omega
theorem ints_encode {r:Int} (l:List UInt8) (h:encodeRune r=l):ints l=encodeRuneZ r:=by
 subst h
 unfold ints encodeRune
 rw [List.map_map]
 have hb:=encodeRuneZ_byte r
 refine (List.map_congr_left fun x hx=>?_).trans (List.map_id _)
 have:=hb x hx
 simp only [Function.comp]
 have h2:x.toNat.toUInt8.toNat=x.toNat:=by
  rw [Nat.toUInt8,UInt8.toNat_ofNat']
  omega
 rw [h2]
 simp
 omega
theorem escB_zero {r:Nat} (h:escB r=0):32≤r∧r≠34∧r≠92:=by
 unfold escB at h
 split at h
 ·omega
 ·split at h
  ·omega
  ·repeat' split at h
   all_goals omega
theorem escB_letter {r:Nat} (h0:escB r≠0) (h1:escB r≠117):∃n,n<7∧escB r=frN n∧r=toN n:=by
 unfold escB at*
 split at h0
 ·rename_i h
  rcases h with rfl | rfl
  ·exact ⟨0,by omega,rfl,rfl⟩
  ·exact ⟨1,by omega,rfl,rfl⟩
 ·rename_i h
  rw [if_neg h] at h1 ⊢
  split at h0
  ·omega
  ·rename_i h'
   rw [if_neg h'] at h1 ⊢
   by_cases e1:r=8
   ·subst e1;exact ⟨2,by omega,rfl,rfl⟩
   by_cases e2:r=9
   ·subst e2;exact ⟨3,by omega,rfl,rfl⟩
   by_cases e3:r=10
   ·subst e3;exact ⟨4,by omega,rfl,rfl⟩
   by_cases e4:r=12
   ·subst e4;exact ⟨5,by omega,rfl,rfl⟩
   by_cases e5:r=13
   ·subst e5;exact ⟨6,by omega,rfl,rfl⟩
   rw [if_neg e1,if_neg e2,if_neg e3,if_neg e4,if_neg e5] at h1
   omega
theorem escB_u {r:Nat} (h:escB r=117):r<32∧r≠8∧r≠9∧r≠10∧r≠12∧r≠13:=by
 refine ⟨escB_low h,?_,?_,?_,?_,?_⟩ <;> (rintro rfl;revert h;decide)
theorem encode_low {r:Nat} (h:escB r≠0):encodeRuneZ r=[(r:Int)]:=by
 refine encodeRuneZ_one (by omega) ?_
 by_cases e1:escB r=117
 ·have:=escB_low e1;omega
 ·obtain ⟨n,hn,_,h2⟩:=escB_letter h e1
  rw [h2]
  unfold toN
  repeat' split
  all_goals omega
end Go.Proofs.YtjhhdnnblcbdbaaGreatDoor.txt
end
section
namespace Go.Proofs.YtjhhdnnblcbdbaaGreatDoor.jp
open Go.RowKit val txt Go.Lib
set_option linter.unusedVariables false
def nts (z:List Int):List Nat:=z.map Int.toNat
theorem nts_app (a b:List Int):nts (a++b)=nts a++nts b:=by simp [nts]
theorem sh_sh {α:Type} (r:Rs α) (a b:Nat):(r.sh a).sh b=r.sh (b+a):=by
 cases r <;> simp [Rs.sh,Nat.add_assoc]
theorem grp1 (a:Nat) (rest:List Nat) (ha:a<128):group (a :: rest)= .ok [a] 1:=by
 have hc:cls a=some (0,128,191):=by unfold cls;rw [if_pos ha]
 simp [group,bnd,sat,hc,conts,ret,Rs.sh]
theorem grp2 (a b:Nat) (rest:List Nat) (ha:194≤a∧a≤223) (hb:128≤b∧b≤191):group (a :: b :: rest)= .ok [a,b] 2:=by
 have hc:cls a=some (1,128,191):=by unfold cls;rw [if_neg (by omega),if_pos ha]
 simp [group,bnd,sat,hc,conts,hb.1,hb.2,ret,Rs.sh]
theorem grp3 (a b c:Nat) (rest:List Nat) (ha:224≤a∧a≤239) (hb:128≤b∧b≤191) (h1:a=224→160≤b) (h2:a=237→b≤159) (hc3:128≤c∧c≤191):group (a :: b :: c :: rest)= .ok [a,b,c] 3:=by
 obtain ⟨lo,hlo⟩:∃lo,(if a=224 then 160 else 128)=lo:=⟨_,rfl⟩
 obtain ⟨hi,hhi⟩:∃hi,(if a=237 then 159 else 191)=hi:=⟨_,rfl⟩
 have hc:cls a=some (2,lo,hi):=by unfold cls;rw [if_neg (by omega),if_neg (by omega),if_pos ha,hlo,hhi]
 have e1:lo≤b:=by rw [←hlo];split <;> omega
 have e2:b≤hi:=by rw [←hhi];split <;> omega
 simp [group,bnd,sat,hc,conts,e1,e2,hc3.1,hc3.2,ret,Rs.sh]
theorem grp4 (a b c e:Nat) (rest:List Nat) (ha:240≤a∧a≤244) (hb:128≤b∧b≤191) (h1:a=240→144≤b) (h2:a=244→b≤143) (hc3:128≤c∧c≤191) (he:128≤e∧e≤191):group (a :: b :: c :: e :: rest)= .ok [a,b,c,e] 4:=by
 obtain ⟨lo,hlo⟩:∃lo,(if a=240 then 144 else 128)=lo:=⟨_,rfl⟩
 obtain ⟨hi,hhi⟩:∃hi,(if a=244 then 143 else 191)=hi:=⟨_,rfl⟩
 have hc:cls a=some (3,lo,hi):=by unfold cls;rw [if_neg (by omega),if_neg (by omega),if_neg (by omega),if_pos ha,hlo,hhi]
 have e1:lo≤b:=by rw [←hlo];split <;> omega
 have e2:b≤hi:=by rw [←hhi];split <;> omega
 simp [group,bnd,sat,hc,conts,e1,e2,hc3.1,hc3.2,he.1,he.2,ret,Rs.sh]
theorem group_enc (r:Nat) (hr:r<55296∨(57344≤r∧r≤1114111)) (rest:List Nat):group (nts (encodeRuneZ r)++rest)= .ok (nts (encodeRuneZ r)) (encodeRuneZ r).length:=by
 by_cases h1:r≤127
 ·rw [encodeRuneZ_one (by omega) (by omega)]
  exact grp1 _ _ (by show ((r:Int)).toNat<128;omega)
 by_cases h2:r≤2047
 ·rw [encodeRuneZ_two (by omega) (by omega)]
  exact grp2 _ _ _ (by omega) (by omega)
 by_cases h3:r≤65535
 ·rw [encodeRuneZ_three (by omega)]
  exact grp3 _ _ _ _ (by omega) (by omega) (by omega) (by omega) (by omega)
 ·rw [encodeRuneZ_four (by omega) (by omega)]
  exact grp4 _ _ _ _ _ (by omega) (by omega) (by omega) (by omega) (by omega) (by omega)
theorem pcs_grp {m:Nat} {acc l b:List Nat} {k:Nat} (hg:group l= .ok b k) (h1:32≤l.headD 0) (h2:l.headD 0≠34) (h3:l.headD 0≠92):pieces (m+1) acc l=(pieces m (acc++b) (l.drop k)).sh k:=by
 simp only [pieces]
 rw [if_neg (by omega),if_neg h2,if_neg h3]
 exact bnd_ok hg rfl
theorem pcs_back {m:Nat} {acc l b:List Nat} {k:Nat} (hg:escP l= .ok b k):pieces (m+1) acc (92 :: l)=(pieces m (acc++b) (l.drop k)).sh (k+1):=by
 simp only [pieces]
 rw [if_neg (by simp),if_neg (by simp),if_pos (by simp)]
 rw [bnd_ok (a:=()) (j:=1) rfl (bnd_ok (f:=escP) (l:=l) hg rfl),sh_sh,Nat.add_comm]
theorem esc_one {x v:Nat} {rest:List Nat} (h:mean x=some v):escP (x :: rest)= .ok [v] 1:=by
 simp [escP,h,bnd,one,sat,ret,Rs.sh]
theorem hx_hexd {n:Nat} (h:n<16):hx (hexd n)=n:=by
 unfold hexd hx
 split <;> (repeat' split) <;> omega
theorem dig_one {t:Int→Bool} {x:Nat} {a:Int} {rest:List Nat} (h:hx (x:Int)=a) (h0:0≤a) (ht:t a=true):digit t (x :: rest)= .ok a 1:=by
 subst h
 simp [digit,sat,h0,ht]
theorem esc_small {r:Nat} {rest:List Nat} (h:r<32):escP (117 :: 48 :: 48 :: (hexd (r/16)).toNat :: (hexd (r % 16)).toNat :: rest)= .ok [r] 5:=by
 have b1:=hexd_byte (n:=r/16) (by omega)
 have b2:=hexd_byte (n:=r % 16) (by omega)
 have a1:hx (((hexd (r/16)).toNat:Nat):Int)=((r/16:Nat):Int):=by rw [show (((hexd (r/16)).toNat:Nat):Int)=hexd (r/16) by omega,hx_hexd (by omega)]
 have a2:hx (((hexd (r % 16)).toNat:Nat):Int)=((r % 16:Nat):Int):=by rw [show (((hexd (r % 16)).toNat:Nat):Int)=hexd (r % 16) by omega,hx_hexd (by omega)]
 have hd:digs mayH (48 :: 48 :: (hexd (r/16)).toNat :: (hexd (r % 16)).toNat :: rest)= .ok ((r:Nat):Int) 4:=by
  unfold digs
  simp only [digK]
  rw [bnd_ok (dig_one (x:=48) (a:=0) (by decide) (by decide) (by decide)) (bnd_ok (dig_one (x:=48) (a:=0) (by decide) (by decide) (by decide)) (bnd_ok (dig_one a1 (by omega) (by rfl)) (bnd_ok (dig_one a2 (by omega) (by rfl)) rfl)))]
  simp only [Rs.sh,ret,Rs.ok.injEq,and_true]
  have:=Nat.div_add_mod r 16
  omega
 have he:enc ((r:Nat):Int)=[r]:=by
  unfold enc
  rw [if_pos (.inl ⟨by omega,by omega⟩),encodeRuneZ_one (by omega) (by omega)]
  simp
 have hu:escU (117 :: 48 :: 48 :: (hexd (r/16)).toNat :: (hexd (r % 16)).toNat :: rest)= .ok [r] 5:=by
  unfold escU
  rw [bnd_ok (a:=()) (j:=1) rfl (bnd_ok hd (r:= .ok [r] 0) (by
   show (if _ then _ else _:Ps (List Nat)) _=_
   rw [if_neg (by omega),he]
   rfl))]
  rfl
 exact hu
theorem low_byte {r:Nat} (h:escB r≠0):nts (encodeRuneZ r)=[r]:=by rw [encode_low h];simp [nts]
theorem pcs_one {m r:Nat} {acc rest:List Nat} (hr:r<55296∨(57344≤r∧r≤1114111)):pieces (m+1) acc (nts (escZ r)++rest)=(pieces m (acc++nts (encodeRuneZ r)) rest).sh (escZ r).length:=by
 unfold escZ
 by_cases e0:escB r=0
 ·rw [if_pos e0]
  obtain ⟨h1,h2,h3⟩:=escB_zero e0
  have hp:=encode_plain h1 h2 h3
  have hl:=(encodeRuneZ_length (r:Int)).1
  obtain ⟨x,t,hx⟩:∃x t,encodeRuneZ (r:Int)=x :: t:=by
   cases h:encodeRuneZ (r:Int) with
   | nil=>rw [h] at hl;simp at hl
   | cons x t=>exact ⟨x,t,rfl⟩
  have hh:(nts (encodeRuneZ r)++rest).headD 0=x.toNat:=by rw [hx];rfl
  have hx2:=hp x (by rw [hx];simp)
  have hlen:(nts (encodeRuneZ r)).length=(encodeRuneZ (r:Int)).length:=by simp [nts]
  rw [pcs_grp (group_enc r hr rest) (by omega) (by omega) (by omega),←hlen,List.drop_left]
 ·rw [if_neg e0,low_byte e0]
  by_cases e1:escB r=117
  ·rw [if_pos e1]
   obtain ⟨a,_⟩:=escB_u e1
   exact pcs_back (esc_small (rest:=rest) a)
  ·rw [if_neg e1]
   obtain ⟨n,hn,h1,h2⟩:=escB_letter e0 e1
   have hm:mean (escB r)=some r:=by
    rw [h1]
    conv=>rhs;rw [h2]
    have:∀n:Fin 7,mean (frN n)=some (toN n):=by decide
    exact this ⟨n,hn⟩
   exact pcs_back (esc_one (rest:=rest) hm)
theorem rune_ok {l:List UInt8} (hne:l≠[]) (hv:¬((decodeL l).1=65533∧(decodeL l).2=1)):(decodeL l).1<55296∨(57344≤(decodeL l).1∧(decodeL l).1≤1114111):=by
 rw [decodeL_N] at hv ⊢
 rcases decodeN_shape l.length (l.getD 0 0).toNat (l.getD 1 0).toNat (l.getD 2 0).toNat (l.getD 3 0).toNat with ⟨c,e⟩ | ⟨c1,c2,c3,cv,e⟩ | ⟨c1,c2,c3,c4,cv,cs,e⟩ | ⟨c1,c2,c3,c4,c5,cv,cw,e⟩ | e
 ·rw [e];dsimp only;omega
 ·rw [e];dsimp only;omega
 ·rw [e];dsimp only;omega
 ·rw [e];dsimp only;omega
 ·rw [e] at hv;exact absurd ⟨rfl,rfl⟩ hv
theorem nts_ints (l:List UInt8):nts (ints l)=l.map UInt8.toNat:=by simp [nts,ints]
theorem pcs_enc:∀(n:Nat) (l:List UInt8),l.length≤n→validD l=true→∀(m:Nat) (acc rest:List Nat),l.length<m→pieces m acc (nts (encZ l)++34 :: rest)= .ok (acc++l.map UInt8.toNat) ((encZ l).length+1)
 | n,l,h,hv=>by
   intro m acc rest hm
   obtain ⟨m,rfl⟩:∃k,m=k+1:=⟨m-1,by omega⟩
   by_cases hne:l=[]
   ·subst hne
    show pieces (m+1) acc (34 :: rest)=_
    simp only [pieces]
    rw [if_neg (by simp),if_pos (by simp)]
    simp [bnd,one,sat,ret,Rs.sh,encZ_nil]
   ·have hw:=decodeL_width l
    have hl:=List.length_pos_iff.2 hne
    obtain ⟨n,rfl⟩:∃k,n=k+1:=⟨n-1,by omega⟩
    obtain ⟨h1,h2⟩:=valid_step hne hv
    have he:=ints_encode _ (encode_decode l hne h1)
    rw [encZ_step l hne,nts_app,List.append_assoc,pcs_one (rune_ok hne h1),pcs_enc n (l.drop (decodeL l).2) (by rw [List.length_drop];omega) h2 m _ rest (by rw [List.length_drop];omega),←he,nts_ints,List.append_assoc,←List.map_append,List.take_append_drop,List.length_append]
    simp only [Rs.sh,Rs.ok.injEq,true_and]
    omega
theorem text_enc (l:List UInt8) (hv:validD l=true) (m:Nat) (rest:List Nat) (hm:l.length<m):text m (nts (quoteZ l)++rest)= .ok (l.map UInt8.toNat) (quoteZ l).length:=by
 have e:nts (quoteZ l)++rest=34 :: (nts (encZ l)++34 :: rest):=by simp [nts,quoteZ]
 have hlen:(quoteZ l).length=(encZ l).length+2:=by simp [quoteZ]
 unfold text
 rw [e,bnd_ok (a:=()) (j:=1) rfl (pcs_enc l.length l (Nat.le_refl _) hv m [] rest hm),hlen]
 simp only [Rs.sh,List.nil_append,Rs.ok.injEq,true_and]
 omega
end Go.Proofs.YtjhhdnnblcbdbaaGreatDoor.jp
end
section
namespace Go.Proofs.YtjhhdnnblcbdbaaGreatDoor.jp
open Go.RowKit val txt Go.Lib
set_option linter.unusedVariables false
def non (c:Nat):Prop:=∀st:Int,pfx.nx st (c:Int)=9
theorem non_of {c:Nat} (h:c=34∨c=92∨c=117):non c:=by
 intro st
 have hc:(c:Int)≠45∧(c:Int)≠48∧(c:Int)≠46∧(c:Int)≠101∧(c:Int)≠69∧(c:Int)≠43∧pfx.dig (c:Int)=false:=by
  rcases h with rfl | rfl | rfl <;> decide
 obtain ⟨c1,c2,c3,c4,c5,c6,c7⟩:=hc
 unfold pfx.nx
 simp [c1,c2,c3,c4,c5,c6,c7]
def stp (b:List Nat):Prop:=b=[]∨∃c r,b=c :: r∧non c
theorem run_stp {t:List Nat} (ht:stp t):∀(l:List Nat) (st e f:Int) (i:Nat),pfx.run st e f i ((l++t).map fun n:Nat=>(n:Int))=pfx.run st e f i (l.map fun n:Nat=>(n:Int))
 | [],st,e,f,i=>by
   rcases ht with rfl | ⟨c,r,rfl,h⟩
   ·rfl
   ·simp only [List.nil_append,List.map_cons,List.map_nil,pfx.run]
    rw [if_pos (h st)]
 | x :: l,st,e,f,i=>by
   simp only [List.cons_append,List.map_cons,pfx.run]
   rw [run_stp ht l,run_stp ht l]
def Nr (z:List Nat) (m:Nat):Prop:=∃a b,z=a++b∧a.length≤m∧stp b
theorem Nr.pE {z:List Nat} {m:Nat} (h:Nr z m):jp.pE z≤m:=by
 obtain ⟨a,b,rfl,hm,hb⟩:=h
 have hE:jp.pE (a++b)=jp.pE a:=by unfold jp.pE;rw [pf_run,pf_run,run_stp hb]
 rw [hE]
 exact Nat.le_trans (pf_at a).2.1 (Nat.le_trans (pf_at a).1 hm)
theorem Nr.app {z:List Nat} {m:Nat} (h:Nr z m) (l:List Nat) {k:Nat} (hk:l.length+m≤k):Nr (l++z) k:=by
 obtain ⟨a,b,rfl,hm,hb⟩:=h
 exact ⟨l++a,b,by rw [List.append_assoc],by rw [List.length_append];omega,hb⟩
theorem Nr.now {c:Nat} {r:List Nat} (h:non c) (k:Nat):Nr (c :: r) k:=⟨[],_,rfl,Nat.zero_le _,.inr ⟨c,r,rfl,h⟩⟩
theorem drop_split {E z:List Nat} (p:Nat):(p<E.length∧(E++z).drop p=E.drop p++z)∨(E++z).drop p=z.drop (p-E.length):=by
 by_cases h:p<E.length
 ·exact .inl ⟨h,List.drop_append_of_le_length (by omega)⟩
 ·right
  rw [show p=E.length+(p-E.length) by omega,←List.drop_drop,List.drop_left]
  congr 1
  omega
theorem nr_enc:∀(n:Nat) (l:List UInt8),l.length≤n→validD l=true→Nr (nts (encZ l)++[34]) l.length∧∀p,Nr ((nts (encZ l)++[34]).drop p) (l.length+4)
 | n,l,h,hv=>by
   by_cases hne:l=[]
   ·subst hne
    refine ⟨Nr.now (non_of (.inl rfl)) _,fun p=>?_⟩
    cases p with
    | zero=>exact Nr.now (non_of (.inl rfl)) _
    | succ p=>exact ⟨[],[],by simp [encZ_nil,nts],Nat.zero_le _,.inl rfl⟩
   ·have hw:=decodeL_width l
    have hl:=List.length_pos_iff.2 hne
    obtain ⟨n,rfl⟩:∃k,n=k+1:=⟨n-1,by omega⟩
    obtain ⟨h1,h2⟩:=valid_step hne hv
    have he:=encode_decode l hne h1
    have hle:=decodeL_le l hne
    have hdl:(l.drop (decodeL l).2).length=l.length-(decodeL l).2:=List.length_drop ..
    obtain ⟨ih1,ih2⟩:=nr_enc n (l.drop (decodeL l).2) (by omega) h2
    have hlen:(encodeRuneZ ((decodeL l).1:Int)).length=(decodeL l).2:=by
     have:=congrArg List.length he
     rw [List.length_take] at this
     simp only [encodeRune,List.length_map] at this
     omega
    rw [encZ_step l hne,nts_app,List.append_assoc]
    generalize nts (encZ (l.drop (decodeL l).2))++[34]=z at*
    unfold escZ
    by_cases e0:escB (decodeL l).1=0
    ·rw [if_pos e0]
     have hE:(nts (encodeRuneZ ((decodeL l).1:Int))).length=(decodeL l).2:=by simp [nts,hlen]
     refine ⟨ih1.app _ (by omega),fun p=>?_⟩
     rcases drop_split (E:=nts (encodeRuneZ ((decodeL l).1:Int))) (z:=z) p with ⟨hp,e⟩ | e
     ·rw [e]
      exact ih1.app _ (by rw [List.length_drop];omega)
     ·rw [e]
      obtain ⟨a,b,e1,e2,e3⟩:=ih2 (p-(nts (encodeRuneZ ((decodeL l).1:Int))).length)
      exact ⟨a,b,e1,by omega,e3⟩
    ·rw [if_neg e0]
     by_cases e1:escB (decodeL l).1=117
     ·rw [if_pos e1]
      refine ⟨Nr.now (non_of (.inr (.inl rfl))) _,fun p=>?_⟩
      rcases drop_split (E:=nts [92,117,48,48,hexd ((decodeL l).1/16),hexd ((decodeL l).1 % 16)]) (z:=z) p with ⟨hp,e⟩ | e
      ·rw [e]
       match p,hp with
       | 0,_=>exact Nr.now (non_of (.inr (.inl rfl))) _
       | 1,_=>exact Nr.now (non_of (.inr (.inr rfl))) _
       | p+2,hp=>exact ih1.app _ (by rw [List.length_drop];simp [nts];omega)
      ·rw [e]
       obtain ⟨a,b,e1,e2,e3⟩:=ih2 (p-(nts [92,117,48,48,hexd ((decodeL l).1/16),hexd ((decodeL l).1 % 16)]).length)
       exact ⟨a,b,e1,by omega,e3⟩
     ·rw [if_neg e1]
      refine ⟨Nr.now (non_of (.inr (.inl rfl))) _,fun p=>?_⟩
      rcases drop_split (E:=nts [92,(escB (decodeL l).1:Int)]) (z:=z) p with ⟨hp,e⟩ | e
      ·rw [e]
       match p,hp with
       | 0,_=>exact Nr.now (non_of (.inr (.inl rfl))) _
       | p+1,hp=>exact ih1.app _ (by rw [List.length_drop];simp [nts];omega)
      ·rw [e]
       obtain ⟨a,b,e1,e2,e3⟩:=ih2 (p-(nts [92,(escB (decodeL l).1:Int)]).length)
       exact ⟨a,b,e1,by omega,e3⟩
end Go.Proofs.YtjhhdnnblcbdbaaGreatDoor.jp
end
section
namespace Go.Proofs.YtjhhdnnblcbdbaaGreatDoor.dcm
open Go.RowKit mem fl big us uw pg sh
set_option linter.unusedVariables false
def Rn (st e f:Int) (i:Nat) (M:List Nat) (x:Int×Int×Int):Prop:=∃t:Nat,t≤M.length∧x.2.1=((i+t:Nat):Int)∧(st≠9→pfx.adv st (M.take t)≠9)∧(t<M.length→pfx.adv st (M.take (t+1))=9)∧
 ((x.1=e∧x.2.2=f∧∀k,1≤k→k≤t→pfx.fm (pfx.adv st (M.take k))=0)∨
  ∃u:Nat,1≤u∧u≤t∧x.1=((i+u:Nat):Int)∧x.2.2=pfx.fm (pfx.adv st (M.take u))∧pfx.fm (pfx.adv st (M.take u))≠0∧∀k,u<k→k≤t→pfx.fm (pfx.adv st (M.take k))=0)
theorem run_spec:∀(M:List Nat) (st e f:Int) (i:Nat),Rn st e f i M (pfx.run st e f i (M.map fun n:Nat=>(n:Int)))
 | [],st,e,f,i=>⟨0,Nat.le_refl _,by simp [pfx.run],fun h=>h,fun h=>absurd h (by simp),.inl ⟨rfl,rfl,fun k h1 h2=>by omega⟩⟩
 | c :: r,st,e,f,i=>by
   rw [List.map_cons]
   show Rn st e f i (c :: r) (if pfx.nx st (c:Int)=9 then (e,(i:Int),f) else if pfx.fm (pfx.nx st (c:Int))=0 then pfx.run (pfx.nx st (c:Int)) e f (i+1) (r.map fun n:Nat=>(n:Int)) else pfx.run (pfx.nx st (c:Int)) ((i:Int)+1) (pfx.fm (pfx.nx st (c:Int))) (i+1) (r.map fun n:Nat=>(n:Int)))
   have hk1:∀k,1≤k→pfx.adv st ((c :: r).take k)=pfx.adv (pfx.nx st (c:Int)) (r.take (k-1)):=fun k hk=>by
    obtain ⟨j,rfl⟩:∃j,k=j+1:=⟨k-1,by omega⟩
    rw [List.take_succ_cons,pfx.adv_cons,Nat.add_sub_cancel]
   by_cases h9:pfx.nx st (c:Int)=9
   ·rw [if_pos h9]
    refine ⟨0,Nat.zero_le _,by simp,fun h=>h,fun _=>?_,.inl ⟨rfl,rfl,fun k h1 h2=>by omega⟩⟩
    rw [hk1 _ (by omega),h9]
    exact pfx.adv9 _
   ·rw [if_neg h9]
    by_cases h0:pfx.fm (pfx.nx st (c:Int))=0
    ·rw [if_pos h0]
     obtain ⟨t,ht,hs,ha,hb,hc⟩:=run_spec r (pfx.nx st (c:Int)) e f (i+1)
     refine ⟨t+1,by simp only [List.length_cons];omega,by rw [hs];omega,fun _=>?_,fun hlt=>?_,?_⟩
     ·rw [hk1 _ (by omega)];exact ha h9
     ·rw [hk1 _ (by omega)];exact hb (by simp only [List.length_cons] at hlt;omega)
     ·rcases hc with ⟨h1,h2,h3⟩ | ⟨u,hu1,hu2,h1,h2,h3,h4⟩
      ·refine .inl ⟨h1,h2,fun k hk hkt=>?_⟩
       rw [hk1 k hk]
       rcases Nat.lt_or_ge (k-1) 1 with hh | hh
       ·rw [show k-1=0 by omega];exact h0
       ·exact h3 _ hh (by omega)
      ·refine .inr ⟨u+1,by omega,by omega,by rw [h1];omega,?_,?_,fun k hk hkt=>?_⟩
       ·rw [hk1 _ (by omega)];exact h2
       ·rw [hk1 _ (by omega)];exact h3
       ·rw [hk1 _ (by omega)];exact h4 _ (by omega) (by omega)
    ·rw [if_neg h0]
     obtain ⟨t,ht,hs,ha,hb,hc⟩:=run_spec r (pfx.nx st (c:Int)) ((i:Int)+1) (pfx.fm (pfx.nx st (c:Int))) (i+1)
     refine ⟨t+1,by simp only [List.length_cons];omega,by rw [hs];omega,fun _=>?_,fun hlt=>?_,?_⟩
     ·rw [hk1 _ (by omega)];exact ha h9
     ·rw [hk1 _ (by omega)];exact hb (by simp only [List.length_cons] at hlt;omega)
     ·rcases hc with ⟨h1,h2,h3⟩ | ⟨u,hu1,hu2,h1,h2,h3,h4⟩
      ·refine .inr ⟨1,by omega,by omega,by rw [h1];omega,?_,?_,fun k hk hkt=>?_⟩
       ·rw [hk1 _ (by omega)];exact h2
       ·rw [hk1 _ (by omega)];exact h0
       ·rw [hk1 _ (by omega)];exact h3 _ (by omega) (by omega)
      ·refine .inr ⟨u+1,by omega,by omega,by rw [h1];omega,?_,?_,fun k hk hkt=>?_⟩
       ·rw [hk1 _ (by omega)];exact h2
       ·rw [hk1 _ (by omega)];exact h3
       ·rw [hk1 _ (by omega)];exact h4 _ (by omega) (by omega)
theorem adv_range (M:List Nat):∀st:Int,0≤st→st≤9→0≤pfx.adv st M∧pfx.adv st M≤9:=by
 induction M with
 | nil=>intro st h1 h2;exact ⟨h1,h2⟩
 | cons c r ih=>
   intro st h1 h2
   rw [pfx.adv_cons]
   have:=pfx.nx_range st (c:Int)
   exact ih _ this.1 this.2
theorem form_app48 (M:List Nat):form (M++[48])=pfx.fm (pfx.nx (pfx.adv 0 M) 48):=by
 unfold form
 rw [pfx.adv_app]
 rfl
theorem pf_spec (L:List Nat) (a:Nat) (ha:a≤L.length):∃u t:Nat,u≤t∧a+t≤L.length∧pfx.pf (L.map fun n:Nat=>(n:Int)) a=(((a+u:Nat):Int),((a+t:Nat):Int),form ((L.drop a).take u))∧(u=0→form ((L.drop a).take u)=0)∧(0<u→form ((L.drop a).take u)≠0)∧(∀k,u<k→k≤t→form ((L.drop a).take k)=0)∧
  (form ((L.drop a).take t)=0→form ((L.drop a).take t++[48])≠0)∧(a+t<L.length→form ((L.drop a).take (t+1))=0∧form ((L.drop a).take (t+1)++[48])=0):=by
 have hp:pfx.pf (L.map fun n:Nat=>(n:Int)) a=pfx.run 0 (a:Int) 0 a ((L.drop a).map fun n:Nat=>(n:Int)):=by
  unfold pfx.pf
  rw [if_neg (by rw [List.length_map];omega),Int.toNat_natCast,←List.map_drop]
 obtain ⟨t,ht,hs,h9,hlt,hc⟩:=run_spec (L.drop a) 0 (a:Int) 0 a
 rw [←hp] at hs hc
 rw [List.length_drop] at ht hlt
 have h4:form ((L.drop a).take t)=0→form ((L.drop a).take t++[48])≠0:=by
  rw [form_app48]
  unfold form
  have h1:=adv_range ((L.drop a).take t) 0 (by omega) (by omega)
  have h2:=h9 (by omega)
  obtain ⟨s,hs⟩:∃s,pfx.adv 0 ((L.drop a).take t)=s:=⟨_,rfl⟩
  rw [hs] at h1 h2 ⊢
  have h3:s=0∨s=1∨s=2∨s=3∨s=4∨s=5∨s=6∨s=7∨s=8:=by omega
  rcases h3 with rfl | rfl | rfl | rfl | rfl | rfl | rfl | rfl | rfl <;> decide
 have h5:a+t<L.length→form ((L.drop a).take (t+1))=0∧form ((L.drop a).take (t+1)++[48])=0:=fun h=>by
  have h6:=hlt (Nat.lt_sub_of_add_lt (by rw [Nat.add_comm];exact h))
  rw [form_app48]
  unfold form
  rw [h6]
  exact ⟨by decide,by decide⟩
 rcases hc with ⟨e1,e2,e3⟩ | ⟨u,hu1,hu2,e1,e2,e3,e4⟩
 ·refine ⟨0,t,Nat.zero_le _,by omega,?_,fun _=>rfl,fun h=>absurd h (by omega),fun k hk hkt=>e3 k hk hkt,h4,h5⟩
  refine Prod.ext (by rw [e1];simp) (Prod.ext hs (by rw [e2];rfl))
 ·refine ⟨u,t,hu2,by omega,Prod.ext e1 (Prod.ext hs e2),fun h=>absurd h (by omega),fun _=>e3,e4,h4,h5⟩
theorem nm_form {P:Nat} {l:List Nat} {k v:Int} {b:Nat} {er:Int} (h:Nm P l k v b er):(form l=0→er=20)∧(form l≠0→er≠20)∧(form l=1→k=2∨k=3∨er=7):=by
 obtain ⟨R,_,h⟩:=h
 unfold ans fltV at h
 by_cases h0:form l=0
 ·rw [if_pos h0] at h
  injection h with h
  simp at h
  exact ⟨fun _=>by omega,fun hh=>absurd h0 hh,fun hh=>by omega⟩
 ·rw [if_neg h0] at h
  by_cases h1:form l=1∧fits l
  ·rw [if_pos h1] at h
   injection h with h
   simp at h
   exact ⟨fun hh=>absurd hh h0,fun _=>by omega,fun _=>by omega⟩
  ·rw [if_neg h1] at h
   split at h
   ·injection h with h
    simp at h
    exact ⟨fun hh=>absurd hh h0,fun _=>by omega,fun _=>by omega⟩
   ·injection h with h
    simp at h
    exact ⟨fun hh=>absurd hh h0,fun _=>by omega,fun _=>by omega⟩
end Go.Proofs.YtjhhdnnblcbdbaaGreatDoor.dcm
end
section
namespace Go.Proofs.YtjhhdnnblcbdbaaGreatDoor.jp
open Go.RowKit val dcm
set_option linter.unusedVariables false
theorem num_whole {F:Nf} {l:List Nat} (hf:form l≠0):pE l=l.length∧pS l=l.length∧0<l.length∧(l.headD 0=45∨(48≤l.headD 0∧l.headD 0≤57)):=by
 cases l with
 | nil=>exact absurd (by decide) hf
 | cons x r=>
   have h:=pfx.pf_all (x :: r) (by simp) hf
   refine ⟨by unfold pE;rw [h];rfl,by unfold pS;rw [h];rfl,by simp,?_⟩
   show x=45∨(48≤x∧x≤57)
   refine Classical.byContradiction fun hn=>hf ?_
   unfold form
   rw [pfx.adv_cons]
   have:pfx.nx 0 (x:Int)=9:=by
    unfold pfx.nx
    rw [if_pos (.inl rfl),if_neg (by omega),if_neg (by omega),if_neg (by unfold pfx.dig;simp;omega)]
   rw [this,pfx.adv9]
   decide
end Go.Proofs.YtjhhdnnblcbdbaaGreatDoor.jp
end
section
namespace Go.Proofs.YtjhhdnnblcbdbaaGreatDoor.jp
open Go.RowKit val txt Go.Lib dcm
set_option linter.unusedVariables false
theorem sep_cons' (c:Nat) (r:List Nat) (h:c=44∨c=93∨c=125):sep (c :: r):= .inr ⟨c,r,rfl,.inr h⟩
section
variable (wt:Nat→List Nat)
def pr (p:List UInt8×Nat):List Nat:=nts (quoteZ p.1)++58 :: wt p.2
variable {wt}
variable {F:Nf} (hW:∀i,i<2000000→form (wt i)≠0∧F (wt i)=(2,(i:Int),0,0))
include hW
end
end Go.Proofs.YtjhhdnnblcbdbaaGreatDoor.jp
end
section
namespace Go.Proofs.YtjhhdnnblcbdbaaGreatDoor.jp
open Go.RowKit val txt Go.Lib
set_option linter.unusedVariables false
theorem non_more {c:Nat} (h:c=44∨c=58∨c=123∨c=125):non c:=by
 intro st
 have hc:(c:Int)≠45∧(c:Int)≠48∧(c:Int)≠46∧(c:Int)≠101∧(c:Int)≠69∧(c:Int)≠43∧pfx.dig (c:Int)=false:=by
  rcases h with rfl | rfl | rfl | rfl <;> decide
 obtain ⟨c1,c2,c3,c4,c5,c6,c7⟩:=hc
 unfold pfx.nx
 simp [c1,c2,c3,c4,c5,c6,c7]
theorem Nr.beh {z u:List Nat} {m:Nat} (h:Nr z m) (hu:stp u):Nr (z++u) m:=by
 obtain ⟨a,b,rfl,hm,hb⟩:=h
 rcases hb with rfl | ⟨c,r,rfl,hc⟩
 ·exact ⟨a,u,by simp,hm,hu⟩
 ·exact ⟨a,(c :: r)++u,by simp,hm,.inr ⟨c,r++u,rfl,hc⟩⟩
def ANr (z:List Nat) (m:Nat):Prop:=∀p,Nr (z.drop p) m
theorem ANr.app {z u:List Nat} {m:Nat} (hz:ANr z m) (hs:stp u) (hu:ANr u m):ANr (z++u) m:=fun p=>by
 rcases drop_split (E:=z) (z:=u) p with ⟨_,e⟩ | e
 ·rw [e];exact (hz p).beh hs
 ·rw [e];exact hu _
theorem ANr.cons {c:Nat} {z:List Nat} {m:Nat} (hc:non c) (hz:ANr z m):ANr (c :: z) m:=fun p=>by
 cases p with
 | zero=>exact Nr.now hc m
 | succ p=>exact hz p
theorem ANr.small {z:List Nat} {m:Nat} (h:z.length≤m):ANr z m:=fun p=>⟨z.drop p,[],by simp,by rw [List.length_drop];omega,.inl rfl⟩
theorem stp_cons {c:Nat} (h:non c) (r:List Nat):stp (c :: r):= .inr ⟨c,r,rfl,h⟩
theorem anr_quote {l:List UInt8} (hv:validD l=true) {m:Nat} (hm:l.length+4≤m):ANr (nts (quoteZ l)) m:=by
 have e:nts (quoteZ l)=34 :: (nts (encZ l)++[34]):=by simp [nts,quoteZ]
 rw [e]
 refine ANr.cons (non_of (.inl rfl)) fun p=>?_
 obtain ⟨a,b,h1,h2,h3⟩:=(nr_enc l.length l (Nat.le_refl _) hv).2 p
 exact ⟨a,b,h1,by omega,h3⟩
end Go.Proofs.YtjhhdnnblcbdbaaGreatDoor.jp
end
section
namespace Go.Proofs.YtjhhdnnblcbdbaaGreatDoor.jp
open Go.RowKit val txt Go.Lib dcm jw
set_option linter.unusedVariables false
def vld (l:List Nat):Prop:=(∀x∈l,x<256)∧validD (l.map UInt8.ofNat)=true
def nv (F:Nf) (l:List Nat):V:=numV (F l).1 (F l).2.1 (F l).2.2.1
inductive Good (F:Nf):V→Prop
 | nul:Good F nullV
 | boo (b:Bool):Good F (boolV b)
 | str (l:List Nat):vld l→Good F (strV l)
 | num (l:List Nat):form l≠0→(F l).2.2.2=0→Good F (nv F l)
 | list (is:List V):(∀v,v∈is→Good F v)→Good F (listV is)
 | obj (fs:List (ByteArray×V)):(∀s v,(s,v)∈fs→Good F v)→(∀s v,(s,v)∈fs→validD s.data.toList=true)→(fs.map (·.1)).Nodup→Good F (objV fs)
theorem vld_app {a b:List Nat} (ha:vld a) (hb:vld b):vld (a++b):=by
 refine ⟨fun x hx=>(List.mem_append.1 hx).elim (ha.1 x) (hb.1 x),?_⟩
 rw [List.map_append,(app_both _ _ _ (Nat.le_refl _) ha.2).1]
 exact hb.2
theorem vld_nil:vld []:=⟨fun x hx=>(by cases hx),rfl⟩
theorem u8 {a:Nat} (h:a<256):(UInt8.ofNat a).toNat=a:=by rw [UInt8.toNat_ofNat'];omega
theorem vld1 {a:Nat} (h:a<128):vld [a]:=⟨fun x hx=>by simp at hx;omega,by
 show validD [UInt8.ofNat a]=true
 rw [validD_cons _ _ (by rw [u8 (by omega)];exact h)]
 rfl⟩
theorem vld_of {g:List Nat} {r k:Nat} (hb:∀x∈g,x<256) (hne:g≠[]) (hk:k≠1) (hl:g.length≤k) (hd:decodeN g.length (g.getD 0 0) (g.getD 1 0) (g.getD 2 0) (g.getD 3 0)=(r,k)):vld g:=by
 refine ⟨hb,?_⟩
 have hg:∀j,((g.map UInt8.ofNat).getD j 0).toNat=g.getD j 0:=fun j=>by
  rw [List.getD_eq_getElem?_getD,List.getD_eq_getElem?_getD,List.getElem?_map]
  cases h:g[j]? with
  | none=>rfl
  | some x=>exact u8 (hb x (List.mem_of_getElem? h))
 have hdl:decodeL (g.map UInt8.ofNat)=(r,k):=by rw [decodeL_N,hg,hg,hg,hg,List.length_map,hd]
 rw [validD_step _ (by simpa using hne),hdl,if_neg (by simp [hk]),List.drop_eq_nil_of_le (by rw [List.length_map];exact hl)]
 rfl
theorem sat_inv {α:Type} {t:Nat→Option α} {l:List Nat} {a:α} {k:Nat} (h:sat t l= .ok a k):∃x r,l=x :: r∧t x=some a:=by
 cases l with
 | nil=>simp [sat] at h
 | cons x r=>
   cases ht:t x with
   | none=>simp [sat,ht] at h
   | some b=>
     simp only [sat,ht,Rs.ok.injEq] at h
     exact ⟨x,r,rfl,by rw [ht,h.1]⟩
theorem conts_inv {m lo hi:Nat} {l r:List Nat} {k:Nat} (h:conts (m+1) lo hi l= .ok r k):∃x r' l' k',r=x :: r'∧lo≤x∧x≤hi∧conts m 128 191 l'= .ok r' k':=by
 unfold conts at h
 obtain ⟨x,j,i,h1,h2,_⟩:=bnd_inv h
 obtain ⟨r',j2,i2,h3,h4,_⟩:=bnd_inv h2
 obtain ⟨y,t,_,h5⟩:=sat_inv h1
 split at h5
 ·rename_i hc
  injection h5 with h5
  subst h5
  exact ⟨y,r',_,_,ret_inv h4,hc.1,hc.2,h3⟩
 ·cases h5
theorem conts_nil {lo hi:Nat} {l r:List Nat} {k:Nat} (h:conts 0 lo hi l= .ok r k):r=[]:=ret_inv (by unfold conts at h;exact h)
theorem group_vld {l g:List Nat} {k:Nat} (h:group l= .ok g k):vld g:=by
 unfold group at h
 obtain ⟨p,j,i,h1,h2,_⟩:=bnd_inv h
 obtain ⟨r,j2,i2,h3,h4,_⟩:=bnd_inv h2
 obtain ⟨c,t,_,h5⟩:=sat_inv h1
 obtain rfl:=ret_inv h4
 cases hc:cls c with
 | none=>rw [hc] at h5;cases h5
 | some q=>
   rw [hc] at h5
   injection h5 with h5
   subst h5
   unfold cls at hc
   split at hc
   ·injection hc with hc
    subst hc
    obtain rfl:=conts_nil h3
    exact vld1 (by assumption)
   ·split at hc
    ·injection hc with hc
     subst hc
     simp only at h3
     obtain ⟨x,r',_,_,rfl,a1,a2,h3⟩:=conts_inv h3
     obtain rfl:=conts_nil h3
     exact vld_of (fun y hy=>by simp at hy;omega) (by simp) (by decide) (by simp) (dN2 2 c x 0 0 (by omega) (by omega) (by omega) (by omega))
    ·split at hc
     ·rename_i hr
      obtain ⟨lo,hlo⟩:∃lo,(if c=224 then 160 else 128)=lo:=⟨_,rfl⟩
      obtain ⟨hi,hhi⟩:∃hi,(if c=237 then 159 else 191)=hi:=⟨_,rfl⟩
      rw [hlo,hhi] at hc
      injection hc with hc
      subst hc
      simp only at h3
      obtain ⟨x,r',_,_,rfl,a1,a2,h3⟩:=conts_inv h3
      obtain ⟨y,r',_,_,rfl,a3,a4,h3⟩:=conts_inv h3
      obtain rfl:=conts_nil h3
      have e1:128≤x∧(c=224→160≤x):=by rw [←hlo] at a1;split at a1 <;> omega
      have e2:x≤191∧(c=237→x≤159):=by rw [←hhi] at a2;split at a2 <;> omega
      exact vld_of (fun z hz=>by simp at hz;omega) (by simp) (by decide) (by simp) (dN3 3 c x y 0 (by omega) (by omega) (by omega) (by omega) (by omega) (by omega))
     ·split at hc
      ·rename_i hr
       obtain ⟨lo,hlo⟩:∃lo,(if c=240 then 144 else 128)=lo:=⟨_,rfl⟩
       obtain ⟨hi,hhi⟩:∃hi,(if c=244 then 143 else 191)=hi:=⟨_,rfl⟩
       rw [hlo,hhi] at hc
       injection hc with hc
       subst hc
       simp only at h3
       obtain ⟨x,r',_,_,rfl,a1,a2,h3⟩:=conts_inv h3
       obtain ⟨y,r',_,_,rfl,a3,a4,h3⟩:=conts_inv h3
       obtain ⟨z,r',_,_,rfl,a5,a6,h3⟩:=conts_inv h3
       obtain rfl:=conts_nil h3
       have e1:128≤x∧(c=240→144≤x):=by rw [←hlo] at a1;split at a1 <;> omega
       have e2:x≤191∧(c=244→x≤143):=by rw [←hhi] at a2;split at a2 <;> omega
       exact vld_of (fun z hz=>by simp at hz;omega) (by simp) (by decide) (by simp) (dN4 4 c x y z (by omega) (by omega) (by omega) (by omega) (by omega) (by omega) (by omega))
      ·cases hc
theorem enc_vld (n:Int):vld (enc n):=by
 unfold enc
 split
 ·rename_i h
  obtain ⟨r,rfl⟩:∃r:Nat,n=r:=⟨n.toNat,by omega⟩
  have:=group_enc r (by omega) []
  exact group_vld this
 ·exact vld_nil
theorem escP_vld {l b:List Nat} {k:Nat} (h:escP l= .ok b k):vld b:=by
 unfold escP at h
 cases hm:mean (l.headD 0) with
 | some v=>
   rw [hm] at h
   obtain ⟨_,rfl⟩:=bnd_ret h
   refine vld1 ?_
   unfold mean at hm
   repeat' split at hm
   all_goals first | (injection hm with hm;omega) | cases hm
 | none=>
   rw [hm] at h
   unfold escU at h
   obtain ⟨_,_,_,_,h,_⟩:=bnd_inv h
   obtain ⟨n,_,_,_,h,_⟩:=bnd_inv h
   split at h
   ·obtain ⟨_,_,_,_,h,_⟩:=bnd_inv h
    obtain ⟨_,_,_,_,h,_⟩:=bnd_inv h
    obtain ⟨_,rfl⟩:=bnd_ret h
    exact enc_vld _
   ·rw [ret_inv h]
    exact enc_vld _
theorem pieces_vld:∀(m:Nat) (acc l b:List Nat) (k:Nat),vld acc→pieces m acc l= .ok b k→vld b
 | 0,acc,l,b,k,_,h=>by unfold pieces at h;cases h
 | m+1,acc,l,b,k,ha,h=>by
   unfold pieces at h
   split at h
   ·cases h
   ·split at h
    ·obtain ⟨_,rfl⟩:=bnd_ret h
     exact ha
    ·split at h
     ·obtain ⟨_,_,_,_,h,_⟩:=bnd_inv h
      obtain ⟨x,_,_,h1,h,_⟩:=bnd_inv h
      exact pieces_vld m _ _ b _ (vld_app ha (escP_vld h1)) h
     ·obtain ⟨x,_,_,h1,h,_⟩:=bnd_inv h
      exact pieces_vld m _ _ b _ (vld_app ha (group_vld h1)) h
theorem text_vld {m:Nat} {l b:List Nat} {k:Nat} (h:text m l= .ok b k):vld b:=by
 unfold text at h
 obtain ⟨_,_,_,_,h,_⟩:=bnd_inv h
 exact pieces_vld m [] _ b _ vld_nil h
theorem numP_form {F:Nf} {l:List Nat} {v:V} {k:Nat} (h:numP F l= .ok v k):∃x,v=nv F x∧form x≠0∧(F x).2.2.2=0:=by
 unfold numP at h
 split at h
 ·cases h
 ·rename_i hc
  split at h
  ·rename_i h0
   injection h with h1 h2
   obtain ⟨u,t,hut,htl,hpf,hu0,hu1,_⟩:=pf_spec l 0 (Nat.zero_le _)
   simp only [List.drop_zero,Nat.zero_add,Int.ofNat_zero] at hpf htl hu1
   have hE:pE l=u:=by unfold pE;rw [hpf];simp
   have hS:pS l=t:=by unfold pS;rw [hpf];simp
   exact ⟨l.take (pE l),h1.symm,by rw [hE];exact hu1 (by omega),h0⟩
  ·cases h
theorem bt_list {l:List Nat} (h:vld l):validD (bt l).data.toList=true:=by rw [bt_data];exact h.2
def GoodF (F:Nf) (fs:List (ByteArray×V)):Prop:=(∀s v,(s,v)∈fs→Good F v)∧(∀s v,(s,v)∈fs→validD s.data.toList=true)∧(fs.map (·.1)).Nodup
theorem goodF_snoc {F:Nf} {fs:List (ByteArray×V)} {key:List Nat} {v:V} (h:GoodF F fs) (hv:Good F v) (hk:vld key) (ht:twice fs key=false):GoodF F (fs++[(bt key,v)]):=by
 refine ⟨fun s x hm=>?_,fun s x hm=>?_,?_⟩
 ·rcases List.mem_append.1 hm with hm | hm
  ·exact h.1 s x hm
  ·obtain ⟨rfl,rfl⟩:s=bt key∧x=v:=by simpa using hm
   exact hv
 ·rcases List.mem_append.1 hm with hm | hm
  ·exact h.2.1 s x hm
  ·obtain ⟨rfl,rfl⟩:s=bt key∧x=v:=by simpa using hm
   exact bt_list hk
 ·rw [List.map_append,List.nodup_append]
  refine ⟨h.2.2,by simp,fun a ha b hb hab=>?_⟩
  obtain rfl:b=bt key:=by simpa using hb
  subst hab
  rw [(twice_iff fs key).2 ha] at ht
  cases ht
theorem good_all (F:Nf):∀n,(∀d l v k,value F n d l= .ok v k→Good F v)∧(∀d acc l v k,(∀x,x∈acc→Good F x)→items F n d acc l= .ok v k→Good F v)∧∀d acc l v k,GoodF F acc→members F n d acc l= .ok v k→Good F v
 | 0=>⟨fun d l v k h=>(by unfold value at h;cases h),fun d acc l v k _ h=>(by unfold items at h;cases h),fun d acc l v k _ h=>(by unfold members at h;cases h)⟩
 | n+1=>by
   obtain ⟨hv,hi,hm⟩:=good_all F n
   refine ⟨fun d l v k h=>?_,fun d acc l v k ha h=>?_,fun d acc l v k ha h=>?_⟩
   ·unfold value at h
    by_cases h1:l.headD 0=110
    ·rw [if_pos h1] at h;obtain ⟨_,rfl⟩:=bnd_ret h;exact .nul
    rw [if_neg h1] at h
    by_cases h1:l.headD 0=116
    ·rw [if_pos h1] at h;obtain ⟨_,rfl⟩:=bnd_ret h;exact .boo true
    rw [if_neg h1] at h
    by_cases h1:l.headD 0=102
    ·rw [if_pos h1] at h;obtain ⟨_,rfl⟩:=bnd_ret h;exact .boo false
    rw [if_neg h1] at h
    by_cases h1:l.headD 0=34
    ·rw [if_pos h1] at h
     obtain ⟨b,j,i,h2,h3,_⟩:=bnd_inv h
     rw [ret_inv h3]
     exact .str b (text_vld h2)
    rw [if_neg h1] at h
    by_cases h1:l.headD 0=91
    ·rw [if_pos h1] at h
     obtain ⟨_,_,_,_,h2,_⟩:=bnd_inv h
     obtain ⟨_,j2,i2,_,h3,_⟩:=bnd_inv h2
     split at h3
     ·obtain ⟨_,rfl⟩:=bnd_ret h3
      exact .list [] fun v hv=>by cases hv
     ·exact hi _ _ _ _ _ (fun x hx=>by cases hx) h3
    rw [if_neg h1] at h
    by_cases h1:l.headD 0=123
    ·rw [if_pos h1] at h
     obtain ⟨_,_,_,_,h2,_⟩:=bnd_inv h
     obtain ⟨_,j2,i2,_,h3,_⟩:=bnd_inv h2
     split at h3
     ·obtain ⟨_,rfl⟩:=bnd_ret h3
      exact .obj [] (fun s v hv=>by cases hv) (fun s v hv=>by cases hv) (by simp)
     ·exact hm _ _ _ _ _ ⟨fun s v hv=>(by cases hv),fun s v hv=>(by cases hv),by simp⟩ h3
    rw [if_neg h1] at h
    obtain ⟨x,rfl,h2,h3⟩:=numP_form h
    exact .num x h2 h3
   ·unfold items at h
    obtain ⟨x,_,_,h1,h2,_⟩:=bnd_inv h
    obtain ⟨b,_,i2,_,h3,_⟩:=bnd_inv h2
    have ha':∀y,y∈acc++[x]→Good F y:=fun y hy=>by
     rcases List.mem_append.1 hy with hy | hy
     ·exact ha y hy
     ·obtain rfl:y=x:=by simpa using hy
      exact hv _ _ _ _ h1
    cases b with
    | true=>exact hi _ _ _ _ _ ha' (by simpa using h3)
    | false=>
      have h4:∃z,ret (listV (acc++[x])) z= .ok v i2:=⟨_,by simpa using h3⟩
      obtain ⟨z,h4⟩:=h4
      rw [ret_inv h4]
      exact .list _ ha'
   ·unfold members at h
    obtain ⟨key,_,_,h0,ht,h2,_⟩:=chk_inv h
    obtain ⟨_,_,_,_,h2,_⟩:=bnd_inv h2
    obtain ⟨_,_,_,_,h2,_⟩:=bnd_inv h2
    obtain ⟨_,_,_,_,h2,_⟩:=bnd_inv h2
    obtain ⟨x,_,_,h1,h2,_⟩:=bnd_inv h2
    obtain ⟨b,_,i2,_,h3,_⟩:=bnd_inv h2
    have ha':=goodF_snoc ha (hv _ _ _ _ h1) (text_vld h0) ht
    cases b with
    | true=>exact hm _ _ _ _ _ ha' (by simpa using h3)
    | false=>
      have h4:∃z,ret (objV (acc++[(bt key,x)])) z= .ok v i2:=⟨_,by simpa using h3⟩
      obtain ⟨z,h4⟩:=h4
      rw [ret_inv h4]
      exact .obj _ ha'.1 ha'.2.1 ha'.2.2
theorem rd_good {F:Nf} {n d:Nat} {l:List Nat} {v:V} {k:Nat} (h:rd F n d l= .ok v k):Good F v:=by
 unfold rd at h
 obtain ⟨_,_,_,_,h2,_⟩:=bnd_inv h
 obtain ⟨x,_,_,h1,h3,_⟩:=bnd_inv h2
 obtain ⟨_,_,_,_,h4,_⟩:=bnd_inv h3
 split at h4
 ·injection h4 with h5 _
  subst h5
  exact (good_all F n).1 _ _ _ _ h1
 ·cases h4
end Go.Proofs.YtjhhdnnblcbdbaaGreatDoor.jp
end
section
namespace Go.Proofs.YtjhhdnnblcbdbaaGreatDoor.jp
open Go.RowKit val
set_option linter.unusedVariables false
mutual
def dpt:V→Nat
 | .mk k _ _ _ _ _ is fs=>if k=5 then dpts is+1 else if k=6 then dptf fs+1 else 0
def dpts:List V→Nat
 | []=>0
 | v :: r=>max (dpt v) (dpts r)
def dptf:List (ByteArray×V)→Nat
 | []=>0
 | (_,v) :: r=>max (dpt v) (dptf r)
end
def deepAt {α:Type} (l:List Nat) (r:Rs α):Prop:=∃j,r= .er j 71∧j<l.length∧(l.getD j 0=91∨l.getD j 0=123)
theorem deepAt.sh {α:Type} {l:List Nat} {j:Nat} {r:Rs α} (h:deepAt (l.drop j) r):deepAt l (r.sh j):=by
 obtain ⟨i,rfl,hi,hb⟩:=h
 rw [List.length_drop] at hi
 refine ⟨j+i,rfl,by omega,?_⟩
 have e:(l.drop j).getD i 0=l.getD (j+i) 0:=by simp [List.getD_eq_getElem?_getD,List.getElem?_drop]
 rw [e] at hb
 exact hb
def DpL {α:Type} (f:Nat→Ps α) (M:α→Nat→Prop) (l:List Nat):Prop:=
 ∀d a k,f d l= .ok a k→∃m,M a m∧m≤d∧∀d',(m≤d'→f d' l= .ok a k)∧(d'<m→deepAt l (f d' l))
def Dp {α:Type} (f:Nat→Ps α) (M:α→Nat→Prop):Prop:=∀l,DpL f M l
section
variable {α β:Type}
theorem DpL.congr {f g:Nat→Ps α} {M:α→Nat→Prop} {l:List Nat} (h:DpL g M l) (e:∀d,f d l=g d l):DpL f M l:=by
 intro d a k h1
 rw [e] at h1
 obtain ⟨m,hm,hd,h2⟩:=h d a k h1
 refine ⟨m,hm,hd,fun d'=>?_⟩
 rw [e]
 exact h2 d'
theorem Dp.flat (f:Ps α):Dp (fun _=>f) (fun _ m=>m=0):=fun l d a k h=>⟨0,rfl,Nat.zero_le _,fun d'=>⟨fun _=>h,fun h=>by omega⟩⟩
theorem DpL.weak {f:Nat→Ps α} {M R:α→Nat→Prop} {l:List Nat} (h:DpL f M l) (hR:∀d a k m,f d l= .ok a k→M a m→R a m):DpL f R l:=by
 intro d a k h1
 obtain ⟨m,hm,hd,h2⟩:=h d a k h1
 exact ⟨m,hR d a k m h1 hm,hd,h2⟩
theorem DpL.bnd {f:Nat→Ps α} {g:Nat→α→Ps β} {M:α→Nat→Prop} {N:α→β→Nat→Prop} {R:β→Nat→Prop} {l:List Nat} (hf:DpL f M l) (hg:∀a,Dp (fun d=>g d a) (N a)) (hR:∀a b m n,M a m→N a b n→R b (max m n)):DpL (fun d=>jp.bnd (f d) (g d)) R l:=by
 intro d b k h
 obtain ⟨a,j,i,h1,h2,rfl⟩:=bnd_inv h
 obtain ⟨m,hm,hmd,hm'⟩:=hf d a j h1
 obtain ⟨n,hn,hnd,hn'⟩:=hg a _ d b i h2
 refine ⟨max m n,hR a b m n hm hn,by omega,fun d'=>⟨fun hd=>?_,fun hd=>?_⟩⟩
 ·show jp.bnd (f d') (g d') l=_
  rw [bnd_ok ((hm' d').1 (by omega)) ((hn' d').1 (by omega))]
  rfl
 ·show deepAt l (jp.bnd (f d') (g d') l)
  by_cases h3:d'<m
  ·obtain ⟨q,e,hq⟩:=(hm' d').2 h3
   exact ⟨q,bnd_er' e,hq⟩
  ·rw [bnd_ok ((hm' d').1 (by omega)) rfl]
   exact ((hn' d').2 (by omega)).sh
theorem Dp.bnd {f:Nat→Ps α} {g:Nat→α→Ps β} {M:α→Nat→Prop} {N:α→β→Nat→Prop} {R:β→Nat→Prop} (hf:Dp f M) (hg:∀a,Dp (fun d=>g d a) (N a)) (hR:∀a b m n,M a m→N a b n→R b (max m n)):Dp (fun d=>jp.bnd (f d) (g d)) R:=fun l=>DpL.bnd (hf l) hg hR
theorem Dp.chk {f:Ps α} {p:α→Bool} {g:Nat→α→Ps β} {N:α→β→Nat→Prop} {R:β→Nat→Prop} (hg:∀a,Dp (fun d=>g d a) (N a)) (hR:∀a b n,N a b n→R b n):Dp (fun d=>jp.chk f p (g d)) R:=by
 intro l d b k h
 obtain ⟨a,j,i,h1,hp,h2,rfl⟩:=chk_inv h
 obtain ⟨n,hn,hnd,hn'⟩:=hg a _ d b i h2
 refine ⟨n,hR a b n hn,hnd,fun d'=>⟨fun hd=>?_,fun hd=>?_⟩⟩
 ·show jp.chk f p (g d') l=_
  have e:g d' a (l.drop j)= .ok b i:=(hn' d').1 hd
  rw [chk_ok h1 hp,e]
  rfl
 ·show deepAt l (jp.chk f p (g d') l)
  rw [chk_ok h1 hp]
  exact ((hn' d').2 hd).sh
theorem DpL.brk {g:Nat→Ps α} {M R:α→Nat→Prop} {l:List Nat} (hl:l.headD 0=91∨l.headD 0=123) (hg:Dp g M) (hR:∀a m,M a m→R a (m+1)):DpL (fun d=>jp.bnd (opn d) fun _=>g (d-1)) R l:=by
 intro d a k h
 obtain ⟨u,j,i,h1,h2,rfl⟩:=bnd_inv h
 cases l with
 | nil=>simp [opn] at h1
 | cons x r=>
   have hd:d≠0:=by rintro rfl;simp [opn] at h1
   obtain rfl:j=1:=by simp [opn,hd] at h1;omega
   obtain ⟨m,hm,hmd,hm'⟩:=hg _ _ a i h2
   refine ⟨m+1,hR _ _ hm,by omega,fun d'=>⟨fun hd'=>?_,fun hd'=>?_⟩⟩
   ·show jp.bnd (opn d') (fun _=>g (d'-1)) (x :: r)=_
    have h0:d'≠0:=by omega
    rw [bnd_ok (a:=()) (j:=1) (by simp [opn,h0]) ((hm' (d'-1)).1 (by omega))]
    rfl
   ·show deepAt (x :: r) (jp.bnd (opn d') (fun _=>g (d'-1)) (x :: r))
    by_cases h0:d'=0
    ·subst h0
     exact ⟨0,bnd_er' (by simp [opn]),by simp,by simpa using hl⟩
    ·rw [bnd_ok (a:=()) (j:=1) (by simp [opn,h0]) rfl]
     exact ((hm' (d'-1)).2 (by omega)).sh
theorem Dp.ite {c:Nat} {a:Ps α} {f:Nat→Ps α} {M:α→Nat→Prop} (ha:Dp (fun _=>a) M) (hf:Dp f M):Dp (fun d l=>if l.headD 0=c then a l else f d l) M:=by
 intro l
 by_cases h:l.headD 0=c
 ·exact (ha l).congr fun d=>by simp only [if_pos h]
 ·exact (hf l).congr fun d=>by simp only [if_neg h]
theorem Dp.done {f:Ps α} {M:α→Nat→Prop} (h:∀l a k,f l= .ok a k→M a 0):Dp (fun _=>f) M:=fun l=>(Dp.flat f l).weak fun d a k m h1 h2=>by rw [h2];exact h l a k h1
end
def MV (v:V) (m:Nat):Prop:=dpt v=m
def MI (acc:List V) (v:V) (m:Nat):Prop:=∃is,v=listV (acc++is)∧dpts is=m
def MF (acc:List (ByteArray×V)) (v:V) (m:Nat):Prop:=∃fs,v=objV (acc++fs)∧dptf fs=m
theorem items_succ (F:Nf) (n d:Nat) (acc:List V):items F (n+1) d acc=jp.bnd (value F n d) fun v=>jp.bnd (more 93) fun b=>if b=true then items F n d (acc++[v]) else ret (listV (acc++[v])):=by
 conv=>lhs;unfold items
theorem members_succ (F:Nf) (n d:Nat) (acc:List (ByteArray×V)):members F (n+1) d acc=jp.chk (text n) (twice acc) fun key=>jp.bnd blanks fun _=>jp.bnd (want 58) fun _=>jp.bnd blanks fun _=>jp.bnd (value F n d) fun v=>jp.bnd (more 125) fun b=>if b=true then members F n d (acc++[(bt key,v)]) else ret (objV (acc++[(bt key,v)])):=by
 conv=>lhs;unfold members
theorem dp_all (F:Nf) (hF:∀l,(F l).1≠5∧(F l).1≠6):∀n,Dp (value F n) MV∧(∀acc,Dp (fun d=>items F n d acc) (MI acc))∧∀acc,Dp (fun d=>members F n d acc) (MF acc)
 | 0=>⟨fun l d a k h=>(by unfold value at h;cases h),fun acc l d a k h=>(by simp only [items] at h;cases h),fun acc l d a k h=>(by simp only [members] at h;cases h)⟩
 | n+1=>by
   obtain ⟨hv,hi,hm⟩:=dp_all F hF n
   refine ⟨fun l=>?_,fun acc=>?_,fun acc=>?_⟩
   ·by_cases h1:l.headD 0=110
    ·refine (Dp.done (f:=jp.bnd (word [110,117,108,108]) fun _=>ret nullV) (M:=MV) (fun l a k h=>?_) l).congr fun d=>?_
     ·obtain ⟨_,rfl⟩:=bnd_ret h;rfl
     ·unfold value;rw [if_pos h1]
    by_cases h2:l.headD 0=116
    ·refine (Dp.done (f:=jp.bnd (word [116,114,117,101]) fun _=>ret (boolV true)) (M:=MV) (fun l a k h=>?_) l).congr fun d=>?_
     ·obtain ⟨_,rfl⟩:=bnd_ret h;rfl
     ·unfold value;rw [if_neg h1,if_pos h2]
    by_cases h3:l.headD 0=102
    ·refine (Dp.done (f:=jp.bnd (word [102,97,108,115,101]) fun _=>ret (boolV false)) (M:=MV) (fun l a k h=>?_) l).congr fun d=>?_
     ·obtain ⟨_,rfl⟩:=bnd_ret h;rfl
     ·unfold value;rw [if_neg h1,if_neg h2,if_pos h3]
    by_cases h4:l.headD 0=34
    ·refine (Dp.done (f:=jp.bnd (text n) fun b=>ret (strV b)) (M:=MV) (fun l a k h=>?_) l).congr fun d=>?_
     ·obtain ⟨_,rfl⟩:=bnd_ret h;rfl
     ·unfold value;rw [if_neg h1,if_neg h2,if_neg h3,if_pos h4]
    by_cases h5:l.headD 0=91
    ·refine (DpL.brk (g:=fun d=>jp.bnd blanks fun _ l=>if l.headD 0=93 then (jp.bnd one fun _=>ret (listV [])) l else items F n d [] l) (M:=MI []) (R:=MV) (.inl h5) ?_ ?_).congr fun d=>?_
     ·refine Dp.bnd (f:=fun _=>blanks) (g:=fun d _ l=>if l.headD 0=93 then (jp.bnd one fun _=>ret (listV [])) l else items F n d [] l) (N:=fun _=>MI []) (Dp.flat _) (fun _=>Dp.ite (Dp.done fun l a k h=>?_) (hi [])) ?_
      ·obtain ⟨_,rfl⟩:=bnd_ret h;exact ⟨[],rfl,rfl⟩
      ·rintro a b m n rfl h;rw [Nat.zero_max];exact h
     ·rintro a m ⟨is,rfl,rfl⟩
      show dpt (listV ([]++is))=_
      simp [listV,dpt]
     ·unfold value;rw [if_neg h1,if_neg h2,if_neg h3,if_neg h4,if_pos h5]
    by_cases h6:l.headD 0=123
    ·refine (DpL.brk (g:=fun d=>jp.bnd blanks fun _ l=>if l.headD 0=125 then (jp.bnd one fun _=>ret (objV [])) l else members F n d [] l) (M:=MF []) (R:=MV) (.inr h6) ?_ ?_).congr fun d=>?_
     ·refine Dp.bnd (f:=fun _=>blanks) (g:=fun d _ l=>if l.headD 0=125 then (jp.bnd one fun _=>ret (objV [])) l else members F n d [] l) (N:=fun _=>MF []) (Dp.flat _) (fun _=>Dp.ite (Dp.done fun l a k h=>?_) (hm [])) ?_
      ·obtain ⟨_,rfl⟩:=bnd_ret h;exact ⟨[],rfl,rfl⟩
      ·rintro a b m n rfl h;rw [Nat.zero_max];exact h
     ·rintro a m ⟨fs,rfl,rfl⟩
      show dpt (objV ([]++fs))=_
      simp [objV,dpt]
     ·unfold value;rw [if_neg h1,if_neg h2,if_neg h3,if_neg h4,if_neg h5,if_pos h6]
    ·refine (Dp.done (f:=numP F) (M:=MV) (fun l a k h=>?_) l).congr fun d=>?_
     ·unfold numP at h
      split at h
      ·cases h
      ·split at h
       ·rename_i h0
        injection h with h7 _
        subst h7
        show dpt (numV _ _ _)=0
        unfold numV
        simp only [dpt]
        rw [if_neg (hF _).1,if_neg (hF _).2]
       ·cases h
     ·unfold value;rw [if_neg h1,if_neg h2,if_neg h3,if_neg h4,if_neg h5,if_neg h6]
   ·intro l
    refine (DpL.bnd (f:=value F n) (g:=fun d v=>jp.bnd (more 93) fun b=>if b=true then items F n d (acc++[v]) else ret (listV (acc++[v]))) (N:=fun v=>MI (acc++[v])) (R:=MI acc) (hv l) (fun v=>?_) ?_).congr fun d=>congrFun (items_succ F n d acc) l
    ·refine Dp.bnd (f:=fun _=>more 93) (g:=fun d b=>if b=true then items F n d (acc++[v]) else ret (listV (acc++[v]))) (N:=fun _=>MI (acc++[v])) (Dp.flat _) (fun b=>?_) ?_
     ·cases b with
      | true=>exact hi (acc++[v])
      | false=>exact Dp.done (f:=ret (listV (acc++[v]))) fun l a k h=>⟨[],by rw [List.append_nil];exact ret_inv h,rfl⟩
     ·rintro a b m n rfl h;rw [Nat.zero_max];exact h
    ·rintro a b m n h1 ⟨is,rfl,rfl⟩
     refine ⟨a :: is,by rw [List.append_assoc];rfl,?_⟩
     simp only [dpts]
     rw [show dpt a=m from h1]
   ·intro l
    have key:=Dp.chk (f:=text n) (p:=twice acc) (g:=fun d key=>jp.bnd blanks fun _=>jp.bnd (want 58) fun _=>jp.bnd blanks fun _=>jp.bnd (value F n d) fun v=>jp.bnd (more 125) fun b=>if b=true then members F n d (acc++[(bt key,v)]) else ret (objV (acc++[(bt key,v)]))) (N:=fun _=>MF acc) (R:=MF acc) (fun key=>?_) (fun a b n h=>h)
    ·exact (key l).congr fun d=>congrFun (members_succ F n d acc) l
    refine Dp.bnd (f:=fun _=>blanks) (g:=fun d _=>jp.bnd (want 58) fun _=>jp.bnd blanks fun _=>jp.bnd (value F n d) fun v=>jp.bnd (more 125) fun b=>if b=true then members F n d (acc++[(bt key,v)]) else ret (objV (acc++[(bt key,v)]))) (N:=fun _=>MF acc) (Dp.flat _) (fun _=>?_) (by rintro a b m n rfl h;rw [Nat.zero_max];exact h)
    refine Dp.bnd (f:=fun _=>want 58) (g:=fun d _=>jp.bnd blanks fun _=>jp.bnd (value F n d) fun v=>jp.bnd (more 125) fun b=>if b=true then members F n d (acc++[(bt key,v)]) else ret (objV (acc++[(bt key,v)]))) (N:=fun _=>MF acc) (Dp.flat _) (fun _=>?_) (by rintro a b m n rfl h;rw [Nat.zero_max];exact h)
    refine Dp.bnd (f:=fun _=>blanks) (g:=fun d _=>jp.bnd (value F n d) fun v=>jp.bnd (more 125) fun b=>if b=true then members F n d (acc++[(bt key,v)]) else ret (objV (acc++[(bt key,v)]))) (N:=fun _=>MF acc) (Dp.flat _) (fun _=>?_) (by rintro a b m n rfl h;rw [Nat.zero_max];exact h)
    refine Dp.bnd (f:=value F n) (g:=fun d v=>jp.bnd (more 125) fun b=>if b=true then members F n d (acc++[(bt key,v)]) else ret (objV (acc++[(bt key,v)]))) (N:=fun v=>MF (acc++[(bt key,v)])) hv (fun v=>?_) ?_
    ·refine Dp.bnd (f:=fun _=>more 125) (g:=fun d b=>if b=true then members F n d (acc++[(bt key,v)]) else ret (objV (acc++[(bt key,v)]))) (N:=fun _=>MF (acc++[(bt key,v)])) (Dp.flat _) (fun b=>?_) ?_
     ·cases b with
      | true=>exact hm (acc++[(bt key,v)])
      | false=>exact Dp.done (f:=ret (objV (acc++[(bt key,v)]))) fun l a k h=>⟨[],by rw [List.append_nil];exact ret_inv h,rfl⟩
     ·rintro a b m n rfl h;rw [Nat.zero_max];exact h
    ·rintro a b m n h1 ⟨fs,rfl,rfl⟩
     refine ⟨(bt key,a) :: fs,by rw [List.append_assoc];rfl,?_⟩
     simp only [dptf]
     rw [show dpt a=m from h1]
theorem rd_depth {F:Nf} (hF:∀l,(F l).1≠5∧(F l).1≠6) {n d:Nat} {l:List Nat} {v:V} {k:Nat} (h:rd F n d l= .ok v k):dpt v≤d∧∀d',(dpt v≤d'→rd F n d' l= .ok v k)∧(d'<dpt v→deepAt l (rd F n d' l)):=by
 have key:Dp (fun d=>rd F n d) MV:=by
  refine Dp.bnd (f:=fun _=>blanks) (g:=fun d _=>jp.bnd (value F n d) fun v=>jp.bnd blanks fun _ l=>if l=[] then .ok v 0 else .er 0 50) (N:=fun _=>MV) (Dp.flat _) (fun _=>?_) (by rintro a b m n rfl h;rw [Nat.zero_max];exact h)
  refine Dp.bnd (f:=value F n) (g:=fun d v=>jp.bnd blanks fun _ l=>if l=[] then .ok v 0 else .er 0 50) (N:=fun v w m=>w=v∧m=0) (dp_all F hF n).1 (fun v=>?_) (by rintro a b m n h1 ⟨rfl,rfl⟩;rw [Nat.max_zero];exact h1)
  refine Dp.done (f:=jp.bnd blanks fun _ l=>if l=[] then .ok v 0 else .er 0 50) fun l a k h=>?_
  obtain ⟨_,_,_,_,h2,_⟩:=bnd_inv h
  split at h2
  ·injection h2 with h3 _;exact ⟨h3.symm,rfl⟩
  ·cases h2
 obtain ⟨m,hm,hd,h2⟩:=key l d v k h
 obtain rfl:dpt v=m:=hm
 exact ⟨hd,h2⟩
end Go.Proofs.YtjhhdnnblcbdbaaGreatDoor.jp
end
section
section
namespace Go.Proofs.YtjhhdnnblcbdbaaGreatDoor.sh
open fl us
set_option linter.unusedVariables false
theorem Half.uniq {n D K L:Nat} (hD:0<D) (h1:Half n D K) (h2:Half n D L):K=L:=by
 obtain ⟨a1,a2⟩:=h1
 obtain ⟨b1,b2⟩:=h2
 have e1:(2*K+1)*D=2*K*D+D:=by rw [Nat.add_mul,Nat.one_mul]
 have e2:(2*L+1)*D=2*L*D+D:=by rw [Nat.add_mul,Nat.one_mul]
 rw [e1] at a2
 rw [e2] at b2
 by_cases h:K<L
 ·by_cases h3:K+2≤L
  ·have:=Nat.mul_le_mul_right D (show 2*K+4≤2*L by omega)
   rw [Nat.add_mul] at this
   omega
  ·have h4:L=K+1:=by omega
   subst h4
   have e3:2*(K+1)*D=2*K*D+2*D:=by rw [←Nat.add_mul];congr 1
   omega
 ·by_cases h':L<K
  ·by_cases h3:L+2≤K
   ·have:=Nat.mul_le_mul_right D (show 2*L+4≤2*K by omega)
    rw [Nat.add_mul] at this
    omega
   ·have h4:K=L+1:=by omega
    subst h4
    have e3:2*(L+1)*D=2*L*D+2*D:=by rw [←Nat.add_mul];congr 1
    omega
  ·omega
theorem Cand.uniq {a q r:Nat} {x y:Int} (h:Cand a q x) (h2:Cand a r y) (hq:q % 10≠0) (hr:r % 10≠0):q=r∧x=y:=by
 by_cases hl:x<y
 ·exact (h.lt_absurd h2 hq hl).elim
 by_cases hl2:y<x
 ·exact (h2.lt_absurd h hr hl2).elim
 have hxy:x=y:=by omega
 subst hxy
 obtain ⟨hx,i1,a1,_⟩:=h
 obtain ⟨_,i2,a2,_⟩:=h2
 refine ⟨?_,rfl⟩
 rcases a1 with a1 | a1
 ·rcases a2 with a2 | a2
  ·exact Half.uniq (G_pos x) a1 a2
  ·exact a2 q i1
 ·exact (a1 r i2).symm
end Go.Proofs.YtjhhdnnblcbdbaaGreatDoor.sh
end
end
section
namespace Go.Proofs.YtjhhdnnblcbdbaaGreatDoor.rt
open Go.RowKit mem fl big sh uw pg
set_option linter.unusedVariables false
theorem tt_same {s:Bool} {a:Nat} {w1 w2 w1' w2':World} {e1 e2:Ending} (h1:TtPost s a w1 e1 w1') (h2:TtPost s a w2 e2 w2'):e1=e2:=by
 obtain ⟨_,h1⟩:=h1
 obtain ⟨_,h2⟩:=h2
 rcases h1 with ⟨a1,rfl⟩ | ⟨a1,rfl⟩ | ⟨a1,b1,q,y,c1,d1,_,rfl⟩
 ·rcases h2 with ⟨a2,rfl⟩ | ⟨a2,rfl⟩ | ⟨a2,b2,r,z,c2,d2,_,rfl⟩
  ·rfl
  ·omega
  ·omega
 ·rcases h2 with ⟨a2,rfl⟩ | ⟨a2,rfl⟩ | ⟨a2,b2,r,z,c2,d2,_,rfl⟩
  ·omega
  ·rfl
  ·omega
 ·rcases h2 with ⟨a2,rfl⟩ | ⟨a2,rfl⟩ | ⟨a2,b2,r,z,c2,d2,_,rfl⟩
  ·omega
  ·omega
  ·obtain ⟨rfl,rfl⟩:=c1.uniq c2 d1 d2
   rfl
theorem tt_string {s:Bool} {a:Nat} {w w':World} {e:Ending} (h:TtPost s a w e w'):∃S:ByteArray,e= .returned (.string S)∧Below w.heap.size w w':=by
 obtain ⟨hb,h⟩:=h
 rcases h with ⟨_,rfl⟩ | ⟨_,rfl⟩ | ⟨_,_,q,y,_,_,_,rfl⟩
 ·exact ⟨_,rfl,hb⟩
 ·exact ⟨_,rfl,hb⟩
 ·exact ⟨_,rfl,hb⟩
end Go.Proofs.YtjhhdnnblcbdbaaGreatDoor.rt
end
section
namespace Go.Proofs.YtjhhdnnblcbdbaaGreatDoor.pg
open Go.RowKit mem fl big sh uw
set_option linter.unusedVariables false
theorem half_of (x:Nat) (hx:x<18446744073709551616):∃(s:Bool) (a:Nat),x=a+sgn s∧a<9223372036854775808:=by
 by_cases h:x<9223372036854775808
 ·exact ⟨false,x,by simp [sgn],h⟩
 ·exact ⟨true,x-9223372036854775808,by simp [sgn];omega,by omega⟩
theorem layT_pos (q:Nat) (y:Int) (h:Bd q y):0<(layT (dgs q) ((dgs q).length+y)).length:=by
 unfold layT
 split
 ·simp;omega
 ·split
  ·simp;omega
  ·split
   ·simp
   ·split
    ·simp;omega
    ·simp;omega
def TextIs (x:Nat) (S:ByteArray):Prop:=∀(s:Bool) (a:Nat),x=a+sgn s→a<9223372036854775808→∀w e w',TtPost s a w e w'→e= .returned (.string S)∧Below w.heap.size w w'
theorem sgn_same {s s':Bool} {a a':Nat} (h:a+sgn s=a'+sgn s') (ha:a<9223372036854775808) (ha':a'<9223372036854775808):s=s'∧a=a':=by
 cases s <;> cases s' <;> simp [sgn] at h <;> first | exact ⟨rfl,by omega⟩ | omega
theorem text_one (x:Nat):∃S:ByteArray,TextIs x S∧S.size≤1001∧(x<18446744073709551616→((S.size=0)↔9218868437227405312≤x % 9223372036854775808)):=by
 by_cases hx:x<18446744073709551616
 ·obtain ⟨s,a,rfl,ha⟩:=half_of x hx
  have hm:(a+sgn s) % 9223372036854775808=a:=by cases s <;> simp [sgn] <;> omega
  rw [hm]
  by_cases h:∃w e w',TtPost s a w e w'
  ·obtain ⟨w0,e0,w0',h0⟩:=h
   obtain ⟨S,rfl,_⟩:=rt.tt_string h0
   refine ⟨S,fun s' a' he ha' w e w' h1=>?_,?_,fun _=>?_⟩
   ·obtain ⟨rfl,rfl⟩:=sgn_same he ha ha'
    exact ⟨rt.tt_same h1 h0,h1.1⟩
   ·rcases h0.2 with ⟨_,e1⟩ | ⟨_,e1⟩ | ⟨_,_,q,y,_,_,hb,e1⟩
    ·injection e1 with e1;injection e1 with e1;subst e1;decide
    ·injection e1 with e1;injection e1 with e1;subst e1;rw [strN_size];cases s <;> decide
    ·injection e1 with e1;injection e1 with e1;subst e1;rw [strN_size,List.length_append];have:=layT_len q y hb;have h2:(if s=true then [45] else ([]:List Nat)).length≤1:=by cases s <;> decide
     omega
   ·rcases h0.2 with ⟨h1,e1⟩ | ⟨h1,e1⟩ | ⟨h1,h2,q,y,hC,hq,hb,e1⟩
    ·injection e1 with e1;injection e1 with e1;subst e1;exact ⟨fun _=>h1,fun _=>rfl⟩
    ·injection e1 with e1;injection e1 with e1;subst e1;rw [strN_size,List.length_append];exact ⟨fun h=>by simp at h,fun h=>by omega⟩
    ·injection e1 with e1;injection e1 with e1;subst e1
     rw [strN_size,List.length_append]
     have hl:0<(layT (dgs q) ((dgs q).length+y)).length:=layT_pos q y hb
     constructor <;> intro h <;> omega
  ·refine ⟨if 9218868437227405312≤a then ⟨#[]⟩ else ⟨#[48]⟩,fun s' a' he ha' w e w' h1=>?_,?_,fun _=>?_⟩
   ·obtain ⟨rfl,rfl⟩:=sgn_same he ha ha'
    exact absurd ⟨w,e,w',h1⟩ h
   ·split <;> decide
   ·split
    ·exact ⟨fun _=>by assumption,fun _=>rfl⟩
    ·constructor
     ·intro h;cases h
     ·intro h;omega
 ·exact ⟨⟨#[]⟩,fun s a he ha=>by exfalso;cases s <;> simp [sgn] at he <;> omega,by decide,fun h=>absurd h hx⟩
noncomputable def ftx (x:Nat):ByteArray:=Classical.choose (text_one x)
theorem ftx_spec (x:Nat):TextIs x (ftx x)∧(ftx x).size≤1001∧(x<18446744073709551616→(((ftx x).size=0)↔9218868437227405312≤x % 9223372036854775808)):=Classical.choose_spec (text_one x)
structure NumAt (w:World):Prop where
 pow:PowAt w
 lt:15<w.heap.size
 tab:Lib.TabIs Tryz.prog w "internal/strconv.uint64pow10" .u64 Lib.pow10Tab
theorem NumAt.below {w w':World} (h:NumAt w) (hb:Below w.heap.size w w'):NumAt w':=⟨h.pow.below hb (by have:=h.lt;omega),by have:=h.lt;have:=hb.size;omega,tab_below h.tab hb⟩
theorem floatText_any (x:Nat) (hx:x<18446744073709551616) (w:World) (h:NumAt w):Calls Tryz.prog 75 #[.float .f64 x] w fun e w'=>e= .returned (.string (ftx x))∧Below w.heap.size w w':=by
 obtain ⟨s,a,rfl,ha⟩:=half_of x hx
 exact (text_any s a w ha h.pow (by have:=h.lt;omega) h.tab).mono fun e w' hp=>(ftx_spec _).1 s a rfl ha w e w' hp
end Go.Proofs.YtjhhdnnblcbdbaaGreatDoor.pg
end
section
namespace Go.Proofs.YtjhhdnnblcbdbaaGreatDoor.val
open Go.RowKit mem txt
set_option linter.unusedVariables false
def bz (s:ByteArray):List Int:=s.data.toList.map fun c=>(c.toNat:Int)
theorem bz_length (s:ByteArray):(bz s).length=s.size:=by unfold bz;rw [List.length_map];rfl
def wz (i:Int):List Int:=bz (big.strN (big.wtx i))
noncomputable def fz (f:Nat):List Int:=bz (pg.ftx f)
def tfz (b:Bool):List Int:=if b=true then [116,114,117,101] else [102,97,108,115,101]
mutual
noncomputable def tx:V→List Int
 | .mk k b i f t y is fs=>
   if k=1 then tfz b else if k=2 then wz i else if k=3 then fz f else if k=4 then quoteZ t.data.toList
   else if k=5 then 91 :: (txs is++[93]) else if k=6 then 123 :: (txf fs++[125]) else [110,117,108,108]
noncomputable def txs:List V→List Int
 | []=>[]
 | v :: r=>tx v++txr r
noncomputable def txr:List V→List Int
 | []=>[]
 | v :: r=>44 :: (tx v++txr r)
noncomputable def txf:List (ByteArray×V)→List Int
 | []=>[]
 | (s,v) :: r=>quoteZ s.data.toList++(58 :: (tx v++txg r))
noncomputable def txg:List (ByteArray×V)→List Int
 | []=>[]
 | (s,v) :: r=>44 :: (quoteZ s.data.toList++(58 :: (tx v++txg r)))
end
noncomputable def tailS (i:Nat) (l:List V):List Int:=if i=0 then txs l else txr l
noncomputable def tailF (i:Nat) (l:List (ByteArray×V)):List Int:=if i=0 then txf l else txg l
theorem tailS_nil (i:Nat):tailS i []=[]:=by unfold tailS;split <;> simp only [txs,txr]
theorem tailF_nil (i:Nat):tailF i []=[]:=by unfold tailF;split <;> simp only [txf,txg]
theorem tailS_first (v:V) (r:List V):tailS 0 (v :: r)=tx v++tailS 1 r:=by simp [tailS,txs]
theorem tailS_more {i:Nat} (h:0<i) (v:V) (r:List V):tailS i (v :: r)=44 :: (tx v++tailS (i+1) r):=by
 unfold tailS
 rw [if_neg (by omega),if_neg (by omega)]
 simp only [txr]
theorem tailF_first (s:ByteArray) (v:V) (r:List (ByteArray×V)):tailF 0 ((s,v) :: r)=quoteZ s.data.toList++(58 :: (tx v++tailF 1 r)):=by simp [tailF,txf]
theorem tailF_more {i:Nat} (h:0<i) (s:ByteArray) (v:V) (r:List (ByteArray×V)):tailF i ((s,v) :: r)=44 :: (quoteZ s.data.toList++(58 :: (tx v++tailF (i+1) r))):=by
 unfold tailF
 rw [if_neg (by omega),if_neg (by omega)]
 simp only [txg]
open Classical in
noncomputable def nmE:List ByteArray→List (ByteArray×V)→Int
 | _,[]=>0
 | seen,(s,_) :: r=>if Lib.validD s.data.toList=true then (if s∈seen then 5 else nmE (s :: seen) r) else 1
mutual
noncomputable def lk:V→Int
 | .mk k _ _ f t _ is fs=>
   if k=0∨k=1∨k=2 then 0
   else if k=3 then (if 9218868437227405312≤f % 9223372036854775808 then 6 else 0)
   else if k=4 then (if Lib.validD t.data.toList=true then 0 else 1)
   else if k=5 then lks is
   else if k=6 then (if nmE [] fs=0 then lkf fs else nmE [] fs)
   else 2
noncomputable def lks:List V→Int
 | []=>0
 | v :: r=>if lk v=0 then lks r else lk v
noncomputable def lkf:List (ByteArray×V)→Int
 | []=>0
 | (_,v) :: r=>if lk v=0 then lkf r else lk v
end
mutual
def ok:V→Prop
 | .mk _ _ i f t y is fs=>(-9223372036854775808≤i∧i≤9223372036854775807∧f<18446744073709551616∧t.size≤1048576∧y.size≤1048576)∧oks is∧okf fs
def oks:List V→Prop
 | []=>True
 | v :: r=>ok v∧oks r
def okf:List (ByteArray×V)→Prop
 | []=>True
 | (s,v) :: r=>s.size≤1048576∧ok v∧okf r
end
mutual
def wt:V→Nat
 | .mk _ _ _ _ t y is fs=>1+t.size+y.size+wts is+wtf fs
def wts:List V→Nat
 | []=>0
 | v :: r=>wt v+wts r
def wtf:List (ByteArray×V)→Nat
 | []=>0
 | (s,v) :: r=>s.size+wt v+wtf r
end
theorem wt_pos (v:V):0<wt v:=by cases v;simp only [wt];omega
mutual
theorem sz_wt:∀v:V,sz v≤wt v
 | .mk _ _ _ _ _ _ is fs=>by simp only [sz,wt];have:=szs_wt is;have:=szf_wt fs;omega
theorem szs_wt:∀l:List V,szs l≤wts l
 | []=>by simp only [szs,wts];omega
 | v :: r=>by simp only [szs,wts];have:=sz_wt v;have:=szs_wt r;omega
theorem szf_wt:∀l:List (ByteArray×V),szf l≤wtf l
 | []=>by simp only [szf,wtf];omega
 | (s,v) :: r=>by simp only [szf,wtf];have:=sz_wt v;have:=szf_wt r;omega
end
theorem oks_get {l:List V} (h:oks l) {j:Nat} {v:V} (hv:l[j]? =some v):ok v:=by
 induction l generalizing j with
 | nil=>simp at hv
 | cons x r ih=>
   simp only [oks] at h
   cases j with
   | zero=>simp at hv;subst hv;exact h.1
   | succ j=>exact ih h.2 (by simpa using hv)
theorem okf_get {l:List (ByteArray×V)} (h:okf l) {j:Nat} {p:ByteArray×V} (hv:l[j]? =some p):p.1.size≤1048576∧ok p.2:=by
 induction l generalizing j with
 | nil=>simp at hv
 | cons x r ih=>
   obtain ⟨s,x⟩:=x
   simp only [okf] at h
   cases j with
   | zero=>simp at hv;subst hv;exact ⟨h.1,h.2.1⟩
   | succ j=>exact ih h.2.2 (by simpa using hv)
theorem wts_get {l:List V} {j:Nat} {v:V} (hv:l[j]? =some v):wt v≤wts l:=by
 induction l generalizing j with
 | nil=>simp at hv
 | cons x r ih=>
   simp only [wts]
   cases j with
   | zero=>simp at hv;subst hv;omega
   | succ j=>have:=ih (j:=j) (by simpa using hv);omega
theorem wtf_get {l:List (ByteArray×V)} {j:Nat} {p:ByteArray×V} (hv:l[j]? =some p):p.1.size+wt p.2≤wtf l:=by
 induction l generalizing j with
 | nil=>simp at hv
 | cons x r ih=>
   obtain ⟨s,x⟩:=x
   simp only [wtf]
   cases j with
   | zero=>simp at hv;subst hv;simp only;omega
   | succ j=>have:=ih (j:=j) (by simpa using hv);omega
theorem quoteZ_len (s:ByteArray):(quoteZ s.data.toList).length≤6*s.size+2:=by
 have:=encZ_length s.data.toList.length s.data.toList (Nat.le_refl _)
 have h2:=Lib.size_eq s
 simp only [quoteZ,List.length_cons,List.length_append,List.length_nil]
 omega
theorem wz_len (i:Int) (h1: -9223372036854775808≤i) (h2:i≤9223372036854775807):(wz i).length≤30:=by
 unfold wz
 rw [bz_length,big.strN_size]
 unfold big.wtx
 split
 ·rw [List.length_cons,uw.dgs_length]
  have:=uw.nd20 i.natAbs (by omega)
  omega
 ·rw [uw.dgs_length]
  have:=uw.nd20 i.natAbs (by omega)
  omega
theorem fz_len (f:Nat):(fz f).length≤1001:=by unfold fz;rw [bz_length];exact (pg.ftx_spec f).2.1
mutual
theorem tx_len:∀v:V,ok v→(tx v).length+10≤2000*wt v
 | .mk k b i f t y is fs,h=>by
   simp only [ok] at h
   obtain ⟨⟨h1,h2,h3,h4,h5⟩,h6,h7⟩:=h
   have e1:=wz_len i h1 h2
   have e2:=fz_len f
   have e3:=quoteZ_len t
   have e4:=(txs_len is h6).1
   have e5:=(txf_len fs h7).1
   simp only [tx,wt]
   split
   ·unfold tfz;split <;> simp <;> omega
   split
   ·omega
   split
   ·omega
   split
   ·omega
   split
   ·simp only [List.length_cons,List.length_append,List.length_nil];omega
   split
   ·simp only [List.length_cons,List.length_append,List.length_nil];omega
   ·simp;omega
theorem txs_len:∀l:List V,oks l→(txs l).length≤2000*wts l∧(txr l).length≤2000*wts l
 | [],_=>by simp [txs,txr]
 | v :: r,h=>by
   simp only [oks] at h
   have e1:=tx_len v h.1
   have e2:=(txs_len r h.2).2
   simp only [txs,txr,wts,List.length_cons,List.length_append]
   omega
theorem txf_len:∀l:List (ByteArray×V),okf l→(txf l).length≤2000*wtf l∧(txg l).length≤2000*wtf l
 | [],_=>by simp [txf,txg]
 | (s,v) :: r,h=>by
   simp only [okf] at h
   have e1:=tx_len v h.2.1
   have e2:=(txf_len r h.2.2).2
   have e3:=quoteZ_len s
   simp only [txf,txg,wtf,List.length_cons,List.length_append]
   omega
end
end Go.Proofs.YtjhhdnnblcbdbaaGreatDoor.val
end
section
namespace Go.Proofs.YtjhhdnnblcbdbaaGreatDoor.jp
open Go.RowKit val txt Go.Lib dcm jw
set_option linter.unusedVariables false
theorem dpt_list (is:List V):dpt (listV is)=dpts is+1:=by simp [listV,dpt]
theorem dpt_obj (fs:List (ByteArray×V)):dpt (objV fs)=dptf fs+1:=by simp [objV,dpt]
theorem tx_null:tx nullV=[110,117,108,108]:=by simp [nullV,tx]
theorem tx_bool (b:Bool):tx (boolV b)=tfz b:=by simp [boolV,tx]
theorem tx_str (l:List Nat):tx (strV l)=quoteZ (bt l).data.toList:=by simp [strV,tx]
theorem tx_list (is:List V):tx (listV is)=91 :: (txs is++[93]):=by simp [listV,tx]
theorem tx_obj (fs:List (ByteArray×V)):tx (objV fs)=123 :: (txf fs++[125]):=by simp [objV,tx]
theorem wt_str (l:List Nat):wt (strV l)=1+l.length:=by simp [strV,wt,wts,wtf,bt_size]
theorem wt_list (is:List V):wt (listV is)=1+wts is:=by simp [listV,wt,wtf]
theorem wt_obj (fs:List (ByteArray×V)):wt (objV fs)=1+wtf fs:=by simp [objV,wt,wts]
theorem nts_len (z:List Int):(nts z).length=z.length:=by simp [nts]
theorem bt_nats3 (s:ByteArray):bt (s.data.toList.map UInt8.toNat)=s:=by
 apply ByteArray.ext
 apply Array.toList_inj.1
 rw [bt_data,List.map_map]
 refine (List.map_congr_left (g:=id) fun x _=>?_).trans (List.map_id _)
 simp [Function.comp]
variable {F:Nf}
def NumT (F:Nf):Prop:=∀l,form l≠0→(F l).2.2.2=0→form (nts (tx (nv F l)))≠0∧F (nts (tx (nv F l)))=F l∧(tx (nv F l)).length≤1001
theorem val_form (n d:Nat) {u t:List Nat} (hf:form u≠0) (he:(F u).2.2.2=0) (ht:sep t):value F (n+1) d (u++t)= .ok (nv F u) u.length:=by
 obtain ⟨h1,h2,h3,h4⟩:=num_whole (F:=F) hf
 have hS:pS (u++t)=u.length:=by
  have:pS (u++t)=pS u:=by unfold pS;rw [pf_run,pf_run,run_sep ht]
  omega
 have hE:pE (u++t)=u.length:=by
  have:pE (u++t)=pE u:=by unfold pE;rw [pf_run,pf_run,run_sep ht]
  omega
 have hh:(u++t).headD 0=u.headD 0:=by
  cases hw:u with
  | nil=>rw [hw] at h3;simp at h3
  | cons x r=>rfl
 have e:F u=((F u).1,(F u).2.1,(F u).2.2.1,0):=by
  conv=>rhs;rw [←he]
 refine val_num n d (numP_of hS hE (by omega) rfl (by rw [List.take_left];exact e)) ?_ ?_ ?_ ?_ ?_ ?_ <;> rw [hh] <;> omega
theorem tx_head (hN:NumT F) {v:V} (h:Good F v):∃c r,nts (tx v)=c :: r∧bl c=false∧c≠93∧c≠125:=by
 cases h with
 | nul=>exact ⟨110,[117,108,108],by rw [tx_null];rfl,by decide,by decide,by decide⟩
 | boo b=>
   cases b
   ·exact ⟨102,[97,108,115,101],by rw [tx_bool];rfl,by decide,by decide,by decide⟩
   ·exact ⟨116,[114,117,101],by rw [tx_bool];rfl,by decide,by decide,by decide⟩
 | str l hl=>exact ⟨34,_,by rw [tx_str];rfl,by decide,by decide,by decide⟩
 | num l h1 h2=>
   obtain ⟨_,_,h3,h4⟩:=num_whole (F:=F) (hN l h1 h2).1
   cases hw:nts (tx (nv F l)) with
   | nil=>rw [hw] at h3;simp at h3
   | cons c r=>
     rw [hw] at h4
     have h4:c=45∨(48≤c∧c≤57):=h4
     exact ⟨c,r,rfl,bl_num h4,by omega,by omega⟩
 | list is hi=>exact ⟨91,_,by rw [tx_list];rfl,by decide,by decide,by decide⟩
 | obj fs h1 h2 h3=>exact ⟨123,_,by rw [tx_obj];rfl,by decide,by decide,by decide⟩
theorem bl_cons {c:Nat} (h:bl c=false) (r:List Nat):blanks (c :: r)= .ok () 0:=by
 unfold blanks
 rw [cnt_head (l:=c :: r) h]
theorem more_end' (c:Nat) (hc:bl c=false) (t:List Nat):more c (c :: t)= .ok false 1:=by
 unfold more
 rw [bnd_ok (f:=blanks) (a:=()) (j:=0) (bl_cons hc t) rfl,List.drop_zero]
 simp [jp.bnd,one,sat,jp.ret,Rs.sh]
theorem more_on' (c:Nat) (hc:c≠44) {x:Nat} (hx:bl x=false) (t:List Nat):more c (44 :: x :: t)= .ok true 1:=by
 unfold more
 rw [bnd_ok (f:=blanks) (a:=()) (j:=0) rfl rfl,List.drop_zero]
 show Rs.sh 0 (if (44:Nat)=c then _ else _)=_
 rw [if_neg (by omega),bnd_ok (f:=want 44) (a:=()) (j:=1) (by simp [want,sat]) (bnd_ok (f:=blanks) (a:=()) (j:=0) (bl_cons hx t) rfl)]
 rfl
theorem txr_cons (v:V) (r:List V):txr (v :: r)=44 :: txs (v :: r):=by simp only [txr,txs]
theorem txg_cons (p:ByteArray×V) (r:List (ByteArray×V)):txg (p :: r)=44 :: txf (p :: r):=by
 obtain ⟨s,v⟩:=p
 simp only [txg,txf]
theorem nts_cons (a:Int) (z:List Int):nts (a :: z)=a.toNat :: nts z:=rfl
theorem tx_all (hN:NumT F):∀n:Nat,
  (∀(v:V) (d:Nat) (t:List Nat),Good F v→4*wt v≤n→dpt v≤d→sep t→value F n d (nts (tx v)++t)= .ok v (tx v).length)∧
  (∀(v:V) (r acc:List V) (d:Nat) (t:List Nat),(∀x,x∈v :: r→Good F x)→4*wts (v :: r)+1≤n→dpts (v :: r)≤d→items F n d acc (nts (txs (v :: r))++93 :: t)= .ok (listV (acc++v :: r)) ((txs (v :: r)).length+1))∧
  (∀(s:ByteArray) (v:V) (r acc:List (ByteArray×V)) (d:Nat) (t:List Nat),(∀s' x,(s',x)∈(s,v) :: r→Good F x∧validD s'.data.toList=true)→((acc++(s,v) :: r).map (·.1)).Nodup→4*wtf ((s,v) :: r)+1≤n→dptf ((s,v) :: r)≤d→
   members F n d acc (nts (txf ((s,v) :: r))++125 :: t)= .ok (objV (acc++(s,v) :: r)) ((txf ((s,v) :: r)).length+1))
 | 0=>⟨fun v d t _ h=>by have:=wt_pos v;omega,fun v r acc d t _ h=>by omega,fun s v r acc d t _ _ h=>by omega⟩
 | n+1=>by
   obtain ⟨hv,hi,hm⟩:=tx_all hN n
   refine ⟨fun v d t hg hn hd ht=>?_,fun v r acc d t hg hn hd=>?_,fun s v r acc d t hg hnd hn hd=>?_⟩
   ·cases hg with
    | nul=>rw [tx_null];rfl
    | boo b=>rw [tx_bool];cases b <;> rfl
    | str l hl=>
      rw [tx_str,bt_data]
      rw [wt_str] at hn
      have he:(l.map UInt8.ofNat).map UInt8.toNat=l:=by
       rw [List.map_map]
       refine (List.map_congr_left (g:=id) fun x hx=>?_).trans (List.map_id _)
       exact u8 (hl.1 x hx)
      have h:=text_enc (l.map UInt8.ofNat) hl.2 n t (by rw [List.length_map];omega)
      rw [he] at h
      simp only [value]
      have hh:(nts (quoteZ (l.map UInt8.ofNat))++t).headD 0=34:=rfl
      rw [if_neg (by omega),if_neg (by omega),if_neg (by omega),if_pos hh,bnd_ok h rfl]
      rfl
    | num l h1 h2=>
      obtain ⟨h3,h4,_⟩:=hN l h1 h2
      have h:=val_form (F:=F) n d (u:=nts (tx (nv F l))) h3 (by rw [h4];exact h2) ht
      rw [h,nts_len]
      unfold nv at h4 ⊢
      rw [h4]
    | list is hi'=>
      rw [tx_list]
      rw [wt_list] at hn
      rw [dpt_list] at hd
      obtain ⟨d,rfl⟩:∃e,d=e+1:=⟨d-1,by omega⟩
      have e:nts (91 :: (txs is++[93]))++t=91 :: (nts (txs is)++93 :: t):=by simp [nts]
      rw [e]
      simp only [value]
      rw [if_neg (by simp),if_neg (by simp),if_neg (by simp),if_neg (by simp),if_pos (by simp)]
      rw [bnd_ok (f:=opn (d+1)) (a:=()) (j:=1) (by simp [opn]) rfl]
      cases is with
      | nil=>
        show Rs.sh 1 (jp.bnd blanks _ (93 :: t))=_
        rw [bnd_ok (f:=blanks) (a:=()) (j:=0) (bl_cons (by decide) t) rfl,List.drop_zero]
        rfl
      | cons v r=>
        obtain ⟨c,u,hc,hb,h93,_⟩:=tx_head hN (hi' v (by simp))
        have e2:nts (txs (v :: r))++93 :: t=c :: (u++(nts (txr r)++93 :: t)):=by
         simp only [txs]
         rw [nts_app,hc]
         simp
        have h:=hi v r [] d t (fun x hx=>hi' x hx) (by omega) (by omega)
        show Rs.sh 1 (jp.bnd blanks _ (nts (txs (v :: r))++93 :: t))=_
        rw [e2] at h ⊢
        rw [bnd_ok (f:=blanks) (a:=()) (j:=0) (bl_cons hb _) rfl,List.drop_zero]
        show Rs.sh 1 (Rs.sh 0 (if c=93 then _ else _))=_
        rw [if_neg h93,Nat.add_sub_cancel,h]
        simp only [Rs.sh,List.nil_append,Rs.ok.injEq,true_and,List.length_cons,List.length_append,List.length_nil]
        omega
    | obj fs h1 h2 h3=>
      rw [tx_obj]
      rw [wt_obj] at hn
      rw [dpt_obj] at hd
      obtain ⟨d,rfl⟩:∃e,d=e+1:=⟨d-1,by omega⟩
      have e:nts (123 :: (txf fs++[125]))++t=123 :: (nts (txf fs)++125 :: t):=by simp [nts]
      rw [e]
      simp only [value]
      rw [if_neg (by simp),if_neg (by simp),if_neg (by simp),if_neg (by simp),if_neg (by simp),if_pos (by simp)]
      rw [bnd_ok (f:=opn (d+1)) (a:=()) (j:=1) (by simp [opn]) rfl]
      cases fs with
      | nil=>
        show Rs.sh 1 (jp.bnd blanks _ (125 :: t))=_
        rw [bnd_ok (f:=blanks) (a:=()) (j:=0) (bl_cons (by decide) t) rfl,List.drop_zero]
        rfl
      | cons p r=>
        obtain ⟨s,v⟩:=p
        have e2:nts (txf ((s,v) :: r))++125 :: t=34 :: (nts (encZ s.data.toList++[34])++(nts (58 :: (tx v++txg r))++125 :: t)):=by
         simp only [txf,quoteZ]
         simp [nts]
        have h:=hm s v r [] d t (fun s' x hx=>⟨h1 s' x hx,h2 s' x hx⟩) (by rw [List.nil_append];exact h3) (by omega) (by omega)
        show Rs.sh 1 (jp.bnd blanks _ (nts (txf ((s,v) :: r))++125 :: t))=_
        rw [e2] at h ⊢
        rw [bnd_ok (f:=blanks) (a:=()) (j:=0) (bl_cons (by decide) _) rfl,List.drop_zero]
        show Rs.sh 1 (Rs.sh 0 (if (34:Nat)=125 then _ else _))=_
        rw [if_neg (by decide),Nat.add_sub_cancel,h]
        simp only [Rs.sh,List.nil_append,Rs.ok.injEq,true_and,List.length_cons,List.length_append,List.length_nil]
        omega
   ·have hw:wts (v :: r)=wt v+wts r:=rfl
    have hdp:dpts (v :: r)=max (dpt v) (dpts r):=rfl
    have hp:=wt_pos v
    have e:nts (txs (v :: r))++93 :: t=nts (tx v)++(nts (txr r)++93 :: t):=by
     simp only [txs]
     rw [nts_app,List.append_assoc]
    have hl:(txs (v :: r)).length=(tx v).length+(txr r).length:=by simp only [txs,List.length_append]
    rw [items_succ,e,hl]
    have hsep:sep (nts (txr r)++93 :: t):=by
     cases r with
     | nil=>simp only [txr];exact sep_cons' 93 t (.inr (.inl rfl))
     | cons x r=>rw [txr_cons];exact sep_cons' 44 _ (.inl rfl)
    rw [bnd_ok (hv v d _ (hg v (by simp)) (by omega) (by omega) hsep) rfl,←nts_len,List.drop_left]
    cases r with
    | nil=>
      simp only [txr]
      rw [show nts []++93 :: t=93 :: t from rfl,bnd_ok (more_end' 93 (by decide) t) rfl,if_neg (by decide:¬(false=true))]
      simp only [jp.ret,Rs.sh,nts_len,List.length_nil]
    | cons x r=>
      obtain ⟨c,u,hc,hb,h93,_⟩:=tx_head hN (hg x (by simp))
      have h:=hi x r (acc++[v]) d t (fun y hy=>hg y (List.mem_cons_of_mem _ hy)) (by omega) (by omega)
      have e2:nts (txs (x :: r))++93 :: t=c :: (u++(nts (txr r)++93 :: t)):=by
       simp only [txs]
       rw [nts_app,hc]
       simp
      rw [txr_cons,nts_cons]
      show Rs.sh _ (jp.bnd (more 93) _ (44 :: (nts (txs (x :: r))++93 :: t)))=_
      rw [e2] at h ⊢
      rw [bnd_ok (more_on' 93 (by omega) hb _) rfl,if_pos rfl]
      show Rs.sh _ (Rs.sh 1 (items F n d (acc++[v]) (c :: (u++(nts (txr r)++93 :: t)))))=_
      rw [h]
      simp only [Rs.sh,List.append_assoc,List.cons_append,List.nil_append,Rs.ok.injEq,true_and,nts_len,List.length_cons]
      omega
   ·have hw:wtf ((s,v) :: r)=s.size+wt v+wtf r:=rfl
    have hdp:dptf ((s,v) :: r)=max (dpt v) (dptf r):=rfl
    have hp:=wt_pos v
    have hsz:=Lib.size_eq s
    obtain ⟨gv,vs⟩:=hg s v (by simp)
    have e:nts (txf ((s,v) :: r))++125 :: t=nts (quoteZ s.data.toList)++(58 :: (nts (tx v)++(nts (txg r)++125 :: t))):=by
     simp only [txf]
     rw [nts_app,nts_cons,nts_app]
     simp
    have hl:(txf ((s,v) :: r)).length=(quoteZ s.data.toList).length+(1+((tx v).length+(txg r).length)):=by
     simp only [txf,List.length_append,List.length_cons]
     omega
    have htx:=text_enc s.data.toList vs n (58 :: (nts (tx v)++(nts (txg r)++125 :: t))) (by omega)
    have hbt:=bt_nats3 s
    have htw:twice acc (s.data.toList.map UInt8.toNat)=false:=by
     cases h:twice acc (s.data.toList.map UInt8.toNat) with
     | false=>rfl
     | true=>
       exfalso
       have h:=(twice_iff acc _).1 h
       rw [hbt] at h
       rw [List.map_append,List.nodup_append] at hnd
       exact hnd.2.2 _ h s (by simp) rfl
    rw [members_succ,e,hl]
    unfold chk
    rw [htx]
    simp only
    rw [if_neg (by rw [htw];decide),←nts_len,List.drop_left,hbt]
    have hsep:sep (nts (txg r)++125 :: t):=by
     cases r with
     | nil=>simp only [txg];exact sep_cons' 125 t (.inr (.inr rfl))
     | cons x r=>rw [txg_cons];exact sep_cons' 44 _ (.inl rfl)
    obtain ⟨c,u,hc,hb,_,_⟩:=tx_head hN gv
    have hb2:blanks (nts (tx v)++(nts (txg r)++125 :: t))= .ok () 0:=by
     rw [hc]
     exact bl_cons hb _
    rw [bnd_ok (f:=blanks) (a:=()) (j:=0) (bl_cons (by decide) _) rfl,List.drop_zero,bnd_ok (f:=want 58) (a:=()) (j:=1) (by simp [want,sat]) rfl]
    rw [show (58 :: (nts (tx v)++(nts (txg r)++125 :: t))).drop 1=nts (tx v)++(nts (txg r)++125 :: t) from rfl,bnd_ok hb2 rfl,List.drop_zero]
    rw [bnd_ok (hv v d _ gv (by omega) (by omega) hsep) rfl]
    have hdl:(nts (tx v)++(nts (txg r)++125 :: t)).drop (tx v).length=nts (txg r)++125 :: t:=by rw [←nts_len,List.drop_left]
    rw [hdl]
    cases r with
    | nil=>
      simp only [txg]
      rw [show nts []++125 :: t=125 :: t from rfl,bnd_ok (more_end' 125 (by decide) t) rfl,if_neg (by decide:¬(false=true))]
      simp only [jp.ret,Rs.sh,nts_len,List.length_nil,Rs.ok.injEq,true_and]
      omega
    | cons p r=>
      obtain ⟨s2,x⟩:=p
      have h:=hm s2 x r (acc++[(s,v)]) d t (fun s' y hy=>hg s' y (List.mem_cons_of_mem _ hy)) (by rw [List.append_assoc];exact hnd) (by omega) (by omega)
      have e2:nts (txf ((s2,x) :: r))++125 :: t=34 :: (nts (encZ s2.data.toList++[34])++(nts (58 :: (tx x++txg r))++125 :: t)):=by
       simp only [txf,quoteZ]
       simp [nts]
      rw [txg_cons,nts_cons]
      show Rs.sh _ (Rs.sh _ (Rs.sh _ (Rs.sh _ (Rs.sh _ (jp.bnd (more 125) _ (44 :: (nts (txf ((s2,x) :: r))++125 :: t)))))))=_
      rw [e2] at h ⊢
      rw [bnd_ok (more_on' 125 (by omega) (x:=34) rfl _) rfl,if_pos rfl]
      show Rs.sh _ (Rs.sh _ (Rs.sh _ (Rs.sh _ (Rs.sh _ (Rs.sh 1 (members F n d (acc++[(s,v)]) (34 :: (nts (encZ s2.data.toList++[34])++(nts (58 :: (tx x++txg r))++125 :: t)))))))))=_
      rw [h]
      simp only [Rs.sh,List.append_assoc,List.cons_append,List.nil_append,Rs.ok.injEq,true_and,nts_len,List.length_cons]
      omega
theorem rd_tx (hN:NumT F) {v:V} (hg:Good F v) {n d:Nat} (hn:4*wt v≤n) (hd:dpt v≤d):∃k,rd F n d (nts (tx v))= .ok v k:=by
 have h:=(tx_all hN n).1 v d [] hg hn hd (.inl rfl)
 rw [List.append_nil] at h
 obtain ⟨c,u,hc,hb,_,_⟩:=tx_head hN hg
 apply Exists.intro
 unfold rd
 rw [bnd_ok (f:=blanks) (a:=()) (j:=0) (by rw [hc];exact bl_cons hb u) rfl,List.drop_zero,bnd_ok (f:=value F n d) h (r:= .ok v 0) (by
  rw [←nts_len,List.drop_length]
  rfl)]
 rfl
theorem non_br {c:Nat} (h:c=91∨c=93):non c:=by
 intro st
 have hc:(c:Int)≠45∧(c:Int)≠48∧(c:Int)≠46∧(c:Int)≠101∧(c:Int)≠69∧(c:Int)≠43∧pfx.dig (c:Int)=false:=by
  rcases h with rfl | rfl <;> decide
 obtain ⟨c1,c2,c3,c4,c5,c6,c7⟩:=hc
 unfold pfx.nx
 simp [c1,c2,c3,c4,c5,c6,c7]
theorem anr_txr {m:Nat}:∀r:List V,(∀x,x∈r→ANr (nts (tx x)) m)→ANr (nts (txr r)) m∧stp (nts (txr r))
 | [],_=>by simp only [txr];exact ⟨ANr.small (by simp [nts]),.inl rfl⟩
 | x :: r,h=>by
   obtain ⟨h1,h2⟩:=anr_txr r fun y hy=>h y (List.mem_cons_of_mem _ hy)
   simp only [txr]
   rw [nts_cons,nts_app]
   exact ⟨ANr.cons (non_more (.inl rfl)) ((h x (by simp)).app h2 h1),stp_cons (non_more (.inl rfl)) _⟩
theorem anr_txg {m:Nat}:∀r:List (ByteArray×V),(∀s x,(s,x)∈r→ANr (nts (tx x)) m∧ANr (nts (quoteZ s.data.toList)) m)→ANr (nts (txg r)) m∧stp (nts (txg r))
 | [],_=>by simp only [txg];exact ⟨ANr.small (by simp [nts]),.inl rfl⟩
 | (s,x) :: r,h=>by
   obtain ⟨h1,h2⟩:=anr_txg r fun s' y hy=>h s' y (List.mem_cons_of_mem _ hy)
   obtain ⟨h3,h4⟩:=h s x (by simp)
   simp only [txg]
   rw [nts_cons,nts_app,nts_cons,nts_app]
   exact ⟨ANr.cons (non_more (.inl rfl)) (h4.app (stp_cons (non_more (.inr (.inl rfl))) _) (ANr.cons (non_more (.inr (.inl rfl))) (h3.app h2 h1))),stp_cons (non_more (.inl rfl)) _⟩
theorem anr_tx (hN:NumT F) {m:Nat} (hm:1001≤m) {v:V} (h:Good F v):wt v+4≤m→ANr (nts (tx v)) m:=by
 induction h with
 | nul=>intro _;rw [tx_null];exact ANr.small (by simp [nts];omega)
 | boo b=>intro _;rw [tx_bool];cases b <;> exact ANr.small (by simp [nts,tfz];omega)
 | str l hl=>
   intro hw
   rw [wt_str] at hw
   rw [tx_str,bt_data]
   exact anr_quote hl.2 (by rw [List.length_map];omega)
 | num l h1 h2=>
   intro _
   have:=(hN l h1 h2).2.2
   exact ANr.small (by rw [nts_len];omega)
 | list is hi ih=>
   intro hw
   rw [wt_list] at hw
   have hall:∀x,x∈is→ANr (nts (tx x)) m:=fun x hx=>by
    obtain ⟨j,hj⟩:=List.getElem?_of_mem hx
    have:=wts_get hj
    exact ih x hx (by omega)
   rw [tx_list,nts_cons,nts_app]
   refine ANr.cons (non_br (.inl rfl)) (ANr.app ?_ (stp_cons (non_br (.inr rfl)) _) (ANr.cons (non_br (.inr rfl)) (ANr.small (by simp))))
   cases is with
   | nil=>simp only [txs];exact ANr.small (by simp [nts])
   | cons x r=>
     obtain ⟨h1,h2⟩:=anr_txr r fun y hy=>hall y (List.mem_cons_of_mem _ hy)
     simp only [txs]
     rw [nts_app]
     exact (hall x (by simp)).app h2 h1
 | obj fs h1 h2 h3 ih=>
   intro hw
   rw [wt_obj] at hw
   have hall:∀s x,(s,x)∈fs→ANr (nts (tx x)) m∧ANr (nts (quoteZ s.data.toList)) m:=fun s x hx=>by
    obtain ⟨j,hj⟩:=List.getElem?_of_mem hx
    have hw2:s.size+wt x≤wtf fs:=wtf_get hj
    have:=Lib.size_eq s
    have:=wt_pos x
    exact ⟨ih s x hx (by omega),anr_quote (h2 s x hx) (by omega)⟩
   rw [tx_obj,nts_cons,nts_app]
   refine ANr.cons (non_more (.inr (.inr (.inl rfl)))) (ANr.app ?_ (stp_cons (non_more (.inr (.inr (.inr rfl)))) _) (ANr.cons (non_more (.inr (.inr (.inr rfl)))) (ANr.small (by simp))))
   cases fs with
   | nil=>simp only [txf];exact ANr.small (by simp [nts])
   | cons p r=>
     obtain ⟨s,x⟩:=p
     obtain ⟨h4,h5⟩:=anr_txg r fun s' y hy=>hall s' y (List.mem_cons_of_mem _ hy)
     obtain ⟨h6,h7⟩:=hall s x (by simp)
     simp only [txf]
     rw [nts_app,nts_cons,nts_app]
     exact h7.app (stp_cons (non_more (.inr (.inl rfl))) _) (ANr.cons (non_more (.inr (.inl rfl))) (h6.app h5 h4))
theorem tok_tx (hN:NumT F) {v:V} (h:Good F v) (hw:wt v≤1099000) (p:Nat):pE ((nts (tx v)).drop p)≤1100000:=(anr_tx hN (m:=1100000) (by omega) h (by omega) p).pE
theorem nmE_good:∀(fs:List (ByteArray×V)) (seen:List ByteArray),(∀s v,(s,v)∈fs→validD s.data.toList=true)→(fs.map (·.1)).Nodup→(∀s,s∈seen→s∉fs.map (·.1))→nmE seen fs=0
 | [],seen,_,_,_=>by simp only [nmE]
 | (s,v) :: r,seen,h1,h2,h3=>by
   rw [List.map_cons,List.nodup_cons] at h2
   unfold nmE
   rw [if_pos (h1 s v (by simp)),if_neg fun h=>h3 s h (by simp)]
   refine nmE_good r (s :: seen) (fun s' v' h=>h1 s' v' (List.mem_cons_of_mem _ h)) h2.2 fun s' h=>?_
   rcases List.mem_cons.1 h with rfl | h
   ·exact h2.1
   ·intro h'
    exact h3 s' h (List.mem_cons_of_mem _ h')
theorem lks_zero:∀l:List V,(∀v,v∈l→lk v=0)→lks l=0
 | [],_=>by simp only [lks]
 | v :: r,h=>by
   simp only [lks]
   rw [if_pos (h v (by simp))]
   exact lks_zero r fun x hx=>h x (List.mem_cons_of_mem _ hx)
theorem lkf_zero:∀l:List (ByteArray×V),(∀s v,(s,v)∈l→lk v=0)→lkf l=0
 | [],_=>by simp only [lkf]
 | (s,v) :: r,h=>by
   simp only [lkf]
   rw [if_pos (h s v (by simp))]
   exact lkf_zero r fun s' x hx=>h s' x (List.mem_cons_of_mem _ hx)
theorem good_lk (hL:∀l,form l≠0→(F l).2.2.2=0→lk (nv F l)=0) {v:V} (h:Good F v):lk v=0:=by
 induction h with
 | nul=>simp [nullV,lk]
 | boo b=>simp [boolV,lk]
 | str l hl=>
   have:=bt_list hl
   simp [strV,lk,this]
 | num l h1 h2=>exact hL l h1 h2
 | list is hi ih=>
   have:=lks_zero is ih
   simp [listV,lk,this]
 | obj fs h1 h2 h3 ih=>
   have e1:=nmE_good fs [] h2 h3 fun s h=>by cases h
   have e2:=lkf_zero fs ih
   simp [objV,lk,e1,e2]
end Go.Proofs.YtjhhdnnblcbdbaaGreatDoor.jp
end
section
namespace Go.Proofs.YtjhhdnnblcbdbaaGreatDoor.jp
open Go.RowKit val txt Go.Lib jw
set_option linter.unusedVariables false
theorem sat_k {α:Type} {t:Nat→Option α} {l:List Nat} {a:α} {k:Nat} (h:sat t l= .ok a k):k=1:=by
 cases l with
 | nil=>simp [sat] at h
 | cons x r=>
   cases ht:t x with
   | none=>simp [sat,ht] at h
   | some b=>simp only [sat,ht,Rs.ok.injEq] at h;exact h.2.symm
theorem ret_k {α:Type} {a b:α} {l:List Nat} {k:Nat} (h:ret a l= .ok b k):k=0:=by
 unfold ret at h
 injection h with _ h2
 exact h2.symm
theorem digK_k (m:Int→Int→Bool):∀(k:Nat) (a f:Int) (l:List Nat) (n:Int) (j:Nat),digK m k a f l= .ok n j→j=k
 | 0,a,f,l,n,j,h=>by unfold digK at h;exact ret_k h
 | k+1,a,f,l,n,j,h=>by
   unfold digK at h
   obtain ⟨_,j1,i1,h1,h2,rfl⟩:=bnd_inv h
   have:=digK_k m k _ _ _ _ _ h2
   have:j1=1:=sat_k h1
   omega
theorem conts_k:∀(m lo hi:Nat) (l r:List Nat) (j:Nat),conts m lo hi l= .ok r j→r.length=j
 | 0,lo,hi,l,r,j,h=>by
   unfold conts at h
   rw [ret_inv h,ret_k h]
   rfl
 | m+1,lo,hi,l,r,j,h=>by
   unfold conts at h
   obtain ⟨_,j1,i1,h1,h2,rfl⟩:=bnd_inv h
   obtain ⟨r',j2,i2,h3,h4,rfl⟩:=bnd_inv h2
   have:=conts_k m _ _ _ _ _ h3
   have e1:=sat_k h1
   have e2:=ret_k h4
   rw [ret_inv h4,List.length_cons]
   omega
theorem group_k {l g:List Nat} {k:Nat} (h:group l= .ok g k):g.length=k:=by
 unfold group at h
 obtain ⟨p,j,i,h1,h2,rfl⟩:=bnd_inv h
 obtain ⟨r,j2,i2,h3,h4,rfl⟩:=bnd_inv h2
 have:=conts_k _ _ _ _ _ _ h3
 have e1:=sat_k h1
 have e2:=ret_k h4
 rw [ret_inv h4,List.length_cons]
 omega
theorem enc_len (n:Int):(enc n).length≤4:=by
 unfold enc
 split
 ·rw [List.length_map];exact (encodeRuneZ_length n).2
 ·simp
theorem escP_k {l b:List Nat} {k:Nat} (h:escP l= .ok b k):b.length≤k:=by
 unfold escP at h
 cases hm:mean (l.headD 0) with
 | some v=>
   rw [hm] at h
   obtain ⟨_,j,i,h1,h2,rfl⟩:=bnd_inv h
   have e1:j=1:=sat_k h1
   rw [ret_inv h2]
   simp
   omega
 | none=>
   rw [hm] at h
   unfold escU at h
   obtain ⟨_,j,i,h1,ha,ek⟩:=bnd_inv h
   obtain ⟨n,j2,i2,h2,hb,ek2⟩:=bnd_inv ha
   have e1:j=1:=sat_k h1
   have e2:j2=4:=digK_k _ _ _ _ _ _ _ h2
   split at hb
   ·obtain ⟨_,_,_,_,hc,_⟩:=bnd_inv hb
    obtain ⟨_,_,_,_,hd,_⟩:=bnd_inv hc
    obtain ⟨a,ha⟩:=bnd_ret hd
    have:=enc_len (join n a)
    rw [ha]
    omega
   ·rw [ret_inv hb]
    have:=enc_len n
    omega
theorem pieces_k:∀(m:Nat) (acc l b:List Nat) (k:Nat),pieces m acc l= .ok b k→b.length+1≤acc.length+k
 | 0,acc,l,b,k,h=>by unfold pieces at h;cases h
 | m+1,acc,l,b,k,h=>by
   unfold pieces at h
   split at h
   ·cases h
   ·split at h
    ·obtain ⟨_,j,i,h1,h2,ek⟩:=bnd_inv h
     have e1:j=1:=sat_k h1
     rw [ret_inv h2]
     omega
    ·split at h
     ·obtain ⟨_,j,i,h1,ha,ek⟩:=bnd_inv h
      obtain ⟨x,j2,i2,h2,hb,ek2⟩:=bnd_inv ha
      have:=escP_k h2
      have:=pieces_k m _ _ b _ hb
      rw [List.length_append] at this
      omega
     ·obtain ⟨x,j2,i2,h2,hb,ek⟩:=bnd_inv h
      have:=group_k h2
      have:=pieces_k m _ _ b _ hb
      rw [List.length_append] at this
      omega
theorem text_k {m:Nat} {l b:List Nat} {k:Nat} (h:text m l= .ok b k):b.length+2≤k:=by
 unfold text at h
 obtain ⟨_,j,i,h1,ha,ek⟩:=bnd_inv h
 have e1:j=1:=sat_k h1
 have:=pieces_k m [] _ b _ ha
 simp only [List.length_nil] at this
 omega
def WV (v:V) (k:Nat):Prop:=wt v≤k
def WI (acc:List V) (v:V) (k:Nat):Prop:=∃is,v=listV (acc++is)∧wts is≤k
def WF (acc:List (ByteArray×V)) (v:V) (k:Nat):Prop:=∃fs,v=objV (acc++fs)∧wtf fs≤k
theorem opn_ok2 {d:Nat} {l:List Nat} {u:Unit} {k:Nat} (h:opn d l= .ok u k):k=1:=by
 cases l with
 | nil=>simp [opn] at h
 | cons x r=>
   unfold opn at h
   simp only at h
   split at h
   ·cases h
   ·injection h with _ h;omega
theorem pos_of2 {f:Ps V} (he:Eats f) {l:List Nat} {v:V} {k:Nat} (h:f l= .ok v k):0<k:=by
 cases k with
 | zero=>exact absurd h (he l v)
 | succ k=>omega
theorem wv_all (F:Nf):∀n,(∀d l v k,value F n d l= .ok v k→WV v k)∧(∀d acc l v k,items F n d acc l= .ok v k→WI acc v k)∧∀d acc l v k,members F n d acc l= .ok v k→WF acc v k
 | 0=>⟨fun d l v k h=>(by unfold value at h;cases h),fun d acc l v k h=>(by unfold items at h;cases h),fun d acc l v k h=>(by unfold members at h;cases h)⟩
 | n+1=>by
   obtain ⟨hv,hi,hm⟩:=wv_all F n
   refine ⟨fun d l v k h=>?_,fun d acc l v k h=>?_,fun d acc l v k h=>?_⟩
   ·have hp:=pos_of2 (Eats.value F (n+1) d) h
    unfold value at h
    by_cases h1:l.headD 0=110
    ·rw [if_pos h1] at h;obtain ⟨_,rfl⟩:=bnd_ret h;unfold WV;simp [nullV,wt,wts,wtf];omega
    rw [if_neg h1] at h
    by_cases h1:l.headD 0=116
    ·rw [if_pos h1] at h;obtain ⟨_,rfl⟩:=bnd_ret h;unfold WV;simp [boolV,wt,wts,wtf];omega
    rw [if_neg h1] at h
    by_cases h1:l.headD 0=102
    ·rw [if_pos h1] at h;obtain ⟨_,rfl⟩:=bnd_ret h;unfold WV;simp [boolV,wt,wts,wtf];omega
    rw [if_neg h1] at h
    by_cases h1:l.headD 0=34
    ·rw [if_pos h1] at h
     obtain ⟨b,j,i,h2,h3,rfl⟩:=bnd_inv h
     have:=text_k h2
     rw [ret_inv h3]
     unfold WV
     simp [strV,wt,wts,wtf,bt_size]
     omega
    rw [if_neg h1] at h
    by_cases h1:l.headD 0=91
    ·rw [if_pos h1] at h
     obtain ⟨_,j,i,h2,h3,rfl⟩:=bnd_inv h
     obtain rfl:=opn_ok2 h2
     obtain ⟨_,j2,i2,_,h4,rfl⟩:=bnd_inv h3
     split at h4
     ·obtain ⟨_,rfl⟩:=bnd_ret h4;unfold WV;simp [listV,wt,wts,wtf] <;> omega
     ·obtain ⟨is,rfl,h6⟩:=hi _ _ _ _ _ h4
      unfold WV
      simp [listV,wt,wtf]
      omega
    rw [if_neg h1] at h
    by_cases h1:l.headD 0=123
    ·rw [if_pos h1] at h
     obtain ⟨_,j,i,h2,h3,rfl⟩:=bnd_inv h
     obtain rfl:=opn_ok2 h2
     obtain ⟨_,j2,i2,_,h4,rfl⟩:=bnd_inv h3
     split at h4
     ·obtain ⟨_,rfl⟩:=bnd_ret h4;unfold WV;simp [objV,wt,wts,wtf] <;> omega
     ·obtain ⟨is,rfl,h6⟩:=hm _ _ _ _ _ h4
      unfold WV
      simp [objV,wt,wts]
      omega
    rw [if_neg h1] at h
    unfold numP at h
    split at h
    ·cases h
    ·split at h
     ·injection h with h7 _
      subst h7
      unfold WV;simp [numV,wt,wts,wtf];omega
     ·cases h
   ·unfold items at h
    obtain ⟨x,j,i,h1,h2,rfl⟩:=bnd_inv h
    obtain ⟨b,j2,i2,_,h3,rfl⟩:=bnd_inv h2
    have hx2:wt x≤_:=hv _ _ _ _ h1
    cases b with
    | true=>
      obtain ⟨is,rfl,h6⟩:=hi _ _ _ _ _ (by simpa using h3)
      exact ⟨x :: is,by rw [List.append_assoc];rfl,by simp only [wts] <;> omega⟩
    | false=>
      have h4:ret (listV (acc++[x])) ((l.drop j).drop j2)= .ok v i2:=by simpa using h3
      exact ⟨[x],ret_inv h4,by simp only [wts] <;> omega⟩
   ·unfold members at h
    obtain ⟨key,j,i,hk,_,h2,rfl⟩:=chk_inv h
    have hkl:=text_k hk
    have hks:=bt_size key
    obtain ⟨_,j3,i3,_,h22,rfl⟩:=bnd_inv h2
    obtain ⟨_,j4,i4,_,h23,rfl⟩:=bnd_inv h22
    obtain ⟨_,j5,i5,_,h24,rfl⟩:=bnd_inv h23
    obtain ⟨x,j6,i6,h1,h25,rfl⟩:=bnd_inv h24
    obtain ⟨b,j7,i7,_,h3,rfl⟩:=bnd_inv h25
    have hx2:wt x≤_:=hv _ _ _ _ h1
    cases b with
    | true=>
      obtain ⟨fs,rfl,h6⟩:=hm _ _ _ _ _ (by simpa using h3)
      exact ⟨(bt key,x) :: fs,by rw [List.append_assoc];rfl,by simp only [wtf] <;> omega⟩
    | false=>
      have h4:∃z,ret (objV (acc++[(bt key,x)])) z= .ok v i7:=⟨_,by simpa using h3⟩
      obtain ⟨z,h4⟩:=h4
      exact ⟨[(bt key,x)],ret_inv h4,by simp only [wtf] <;> omega⟩
theorem rd_wt {F:Nf} {n d:Nat} {l:List Nat} {v:V} {k:Nat} (h:rd F n d l= .ok v k):wt v≤k:=by
 unfold rd at h
 obtain ⟨_,j,i,_,h2,rfl⟩:=bnd_inv h
 obtain ⟨x,j2,i2,h1,h22,rfl⟩:=bnd_inv h2
 obtain ⟨_,j3,i3,_,h3,rfl⟩:=bnd_inv h22
 have hx2:wt x≤_:=(wv_all F n).1 _ _ _ _ h1
 split at h3
 ·injection h3 with h4 _
  subst h4
  omega
 ·cases h3
end Go.Proofs.YtjhhdnnblcbdbaaGreatDoor.jp
end
section
namespace Go.Proofs.YtjhhdnnblcbdbaaGreatDoor.jw
open Go.RowKit mem fl big us uw pg dcm
set_option linter.unusedVariables false
theorem nm_kd {P:Nat} {l:List Nat} {k v:Int} {b:Nat} {er:Int} (h:Nm P l k v b er):(k≠5∧k≠6)∧b<18446744073709551616:=by
 obtain ⟨R,hR,h⟩:=h
 unfold ans fltV at h
 split at h
 ·have:=numV_inj h;omega
 ·rename_i h0
  split at h
  ·have:=numV_inj h;omega
  ·rename_i h1
   split at h
   ·have:=numV_inj h;omega
   ·have h2:=numV_inj h
    have ha:asks l:=by
     unfold asks
     rcases fm_range (pfx.adv 0 l) with h3 | h3 | h3
     ·exact absurd h3 h0
     ·exact .inr ⟨h3,fun hf=>h1 ⟨h3,hf⟩⟩
     ·exact .inl h3
    have hr:=(hR ha).2
    have hb:=h2.2.2.1
    refine ⟨by omega,?_⟩
    rw [←hb]
    unfold sgn
    split <;> omega
theorem fn_kd (P:Nat) (l:List Nat):(Fn P l).1≠5∧(Fn P l).1≠6:=by
 by_cases hx:∃x:Int×Int×Nat×Int,Nm P l x.1 x.2.1 x.2.2.1 x.2.2.2
 ·obtain ⟨x,hx⟩:=hx
  rw [fn_of hx]
  exact (nm_kd hx).1
 ·unfold Fn
  rw [dif_neg hx]
  decide
end Go.Proofs.YtjhhdnnblcbdbaaGreatDoor.jw
end
section
section
namespace Go.Proofs.YtjhhdnnblcbdbaaGreatDoor.pfx
open Go.RowKit mem fl big uw pg
set_option linter.unusedVariables false
theorem nx_dig {st:Int} {c:Nat} (h1:48≤c) (h2:c≤57):(st=3→nx st (c:Int)=3)∧(st=4∨st=5→nx st (c:Int)=5)∧(st=6∨st=7∨st=8→nx st (c:Int)=8):=by
 have hd:dig (c:Int)=true:=by simp [dig];omega
 refine ⟨fun h=>by subst h;simp [nx,hd],fun h=>by rcases h with rfl | rfl <;> simp [nx,hd],fun h=>by rcases h with rfl | rfl | rfl <;> simp [nx,hd]⟩
theorem adv_d3:∀(L:List Nat),(∀c∈L,48≤c∧c≤57)→adv 3 L=3
 | [],_=>rfl
 | c :: r,h=>by rw [adv_cons,(nx_dig (h c (by simp)).1 (h c (by simp)).2).1 rfl];exact adv_d3 r fun d hd=>h d (by simp [hd])
theorem adv_d5:∀(L:List Nat),(∀c∈L,48≤c∧c≤57)→adv 5 L=5
 | [],_=>rfl
 | c :: r,h=>by rw [adv_cons,(nx_dig (h c (by simp)).1 (h c (by simp)).2).2.1 (.inr rfl)];exact adv_d5 r fun d hd=>h d (by simp [hd])
theorem adv_d4 (L:List Nat) (hL:L≠[]) (h:∀c∈L,48≤c∧c≤57):adv 4 L=5:=by
 cases L with
 | nil=>exact absurd rfl hL
 | cons c r=>rw [adv_cons,(nx_dig (h c (by simp)).1 (h c (by simp)).2).2.1 (.inl rfl)];exact adv_d5 r fun d hd=>h d (by simp [hd])
theorem adv_d8:∀(L:List Nat),(∀c∈L,48≤c∧c≤57)→adv 8 L=8
 | [],_=>rfl
 | c :: r,h=>by rw [adv_cons,(nx_dig (h c (by simp)).1 (h c (by simp)).2).2.2 (.inr (.inr rfl))];exact adv_d8 r fun d hd=>h d (by simp [hd])
theorem adv_d6 (st:Int) (hst:st=6∨st=7) (L:List Nat) (hL:L≠[]) (h:∀c∈L,48≤c∧c≤57):adv st L=8:=by
 cases L with
 | nil=>exact absurd rfl hL
 | cons c r=>
   rw [adv_cons,(nx_dig (h c (by simp)).1 (h c (by simp)).2).2.2 (by omega)]
   exact adv_d8 r fun d hd=>h d (by simp [hd])
theorem adv_first (st:Int) (hst:st=0∨st=1) (c:Nat) (r:List Nat) (h1:49≤c) (h2:c≤57) (h:∀d∈r,48≤d∧d≤57):adv st (c :: r)=3:=by
 have hd:dig (c:Int)=true:=by simp [dig];omega
 have:nx st (c:Int)=3:=by
  rcases hst with rfl | rfl
  ·simp [nx,hd];omega
  ·simp [nx,hd];omega
 rw [adv_cons,this]
 exact adv_d3 r h
theorem dgs_ne (n:Nat):dgs n≠[]:=by
 intro h
 have h1:=congrArg List.length h
 have h2:=Lib.nDigits_pos n
 rw [dgs_length] at h1
 simp at h1
 omega
theorem adv_wtx (x:Int):adv 6 (wtx x)=8:=by
 unfold wtx
 split
 ·rw [adv_cons,show nx 6 ((45:Nat):Int)=7 by simp [nx,dig]]
  exact adv_d6 7 (.inr rfl) _ (dgs_ne _) (fun c hc=>dgs_bytes _ c hc)
 ·exact adv_d6 6 (.inl rfl) _ (dgs_ne _) (fun c hc=>dgs_bytes _ c hc)
theorem adv_lay (st:Int) (hst:st=0∨st=1) (c0:Nat) (L2:List Nat) (p:Int) (h1:49≤c0) (h2:c0≤57) (hL:∀c∈L2,48≤c∧c≤57):fm (adv st (layT (c0 :: L2) p))=2:=by
 have hall:∀c∈c0 :: L2,48≤c∧c≤57:=fun c hc=>by
  rcases List.mem_cons.1 hc with rfl | hc
  ·omega
  ·exact hL c hc
 have hz:∀k,∀c∈List.replicate k 48,48≤c∧c≤57:=fun k c hc=>by rw [List.mem_replicate] at hc;omega
 have a46:adv 3 [46]=4:=by simp [adv,nx,dig]
 have a4648:adv 3 [46,48]=5:=by simp [adv,nx,dig]
 have a35:adv 3 [101]=6:=by simp [adv,nx,dig]
 have a56:adv 5 [101]=6:=by simp [adv,nx,dig]
 have a04:adv st [48,46]=4:=by rcases hst with rfl | rfl <;> simp [adv,nx,dig]
 unfold layT
 by_cases a1:1≤p∧p≤21∧((c0 :: L2).length:Int)≤p
 ·rw [if_pos a1,adv_app,adv_app,adv_first st hst c0 L2 h1 h2 hL,adv_d3 _ (hz _),a4648]
  rfl
 rw [if_neg a1]
 by_cases a2:1≤p∧p≤21
 ·rw [if_pos a2]
  obtain ⟨n,hn⟩:∃n,p.toNat=n+1:=⟨p.toNat-1,by omega⟩
  have hnl:n<L2.length:=by simp only [List.length_cons] at a1;omega
  rw [hn,List.take_succ_cons,List.drop_succ_cons,adv_app,adv_app,adv_first st hst c0 _ h1 h2 (fun c hc=>hL c (List.mem_of_mem_take hc)),a46,adv_d4 _ (by intro h;have:=congrArg List.length h;simp at this;omega) (fun c hc=>hL c (List.mem_of_mem_drop hc))]
  rfl
 rw [if_neg a2]
 by_cases a3: -5≤p∧p≤0
 ·rw [if_pos a3,adv_app,adv_app,a04,←adv_app,adv_d4 _ (by simp) (fun c hc=>by
   rcases List.mem_append.1 hc with hc | hc
   ·exact hz _ c hc
   ·exact hall c hc)]
  rfl
 rw [if_neg a3]
 by_cases a4:1<(c0 :: L2).length
 ·rw [if_pos a4]
  have hne:L2≠[]:=by intro h;subst h;simp at a4
  rw [List.take_succ_cons,List.take_zero,List.drop_succ_cons,List.drop_zero,adv_app,adv_app,adv_app,adv_app,adv_first st hst c0 [] h1 h2 (by simp),a46,adv_d4 L2 hne hL,a56,adv_wtx]
  rfl
 ·rw [if_neg a4]
  have hL0:L2=[]:=by cases L2 with | nil=>rfl | cons a b=>simp at a4
  subst hL0
  rw [adv_app,adv_app,adv_first st hst c0 [] h1 h2 (by simp),a35,adv_wtx]
  rfl
theorem adv_whole (x:Int):fm (adv 0 (wtx x))=1:=by
 have key:∀(st:Int),st=0∨st=1→∀n,fm (adv st (dgs n))=1:=by
  intro st hst n
  by_cases h0:n=0
  ·subst h0
   rw [show dgs 0=[48] from by decide,adv_cons,adv_nil]
   rcases hst with rfl | rfl <;> simp [nx,fm]
  ·obtain ⟨c0,L2,he,h1,h2⟩:=dgs_head n (by omega)
   rw [he,adv_first st hst c0 L2 h1 h2 (fun c hc=>dgs_bytes n c (by rw [he];simp [hc]))]
   rfl
 unfold wtx
 split
 ·rw [adv_sign]
  exact key 1 (.inr rfl) _
 ·exact key 0 (.inl rfl) _
end Go.Proofs.YtjhhdnnblcbdbaaGreatDoor.pfx
end
section
namespace Go.Proofs.YtjhhdnnblcbdbaaGreatDoor.pg
open Go.RowKit mem fl big uw
set_option linter.unusedVariables false
theorem pw_dgs (q:Nat) (h:q<1100000):pwF (dgs q)=q:=by
 induction q using Nat.strongRecOn with
 | _ q ih=>
   by_cases h10:q<10
   ·rw [dgs_small q h10]
    show pwStep 0 (48+q % 10)=q
    unfold pwStep
    rw [if_pos ⟨by omega,by omega⟩]
    omega
   ·rw [dgs_step q h10,pwF_snoc,ih (q/10) (by omega) (by omega)]
    unfold pwStep
    rw [if_pos ⟨by omega,by omega⟩]
    omega
theorem pw_wtx (x:Int) (h1: -1000<x) (h2:x<1000):pwV (wtx x)=x:=by
 unfold wtx pwV
 by_cases h:x<0
 ·rw [if_pos h,List.head?_cons,if_pos rfl]
  have e:pwF (45 :: dgs x.natAbs)=pwF (dgs x.natAbs):=by
   unfold pwF
   rw [List.foldl_cons]
   rfl
  rw [e,pw_dgs _ (by omega)]
  omega
 ·rw [if_neg h]
  have hn:(dgs x.natAbs).head?≠some 45:=by
   intro hh
   have:=dgs_bytes x.natAbs 45 (List.mem_of_mem_head? hh)
   omega
  rw [if_neg hn,pw_dgs _ (by omega)]
  omega
theorem sp_lead:∀(L:List Nat) (s:Ds),(∀c∈L,48≤c)→0<s.b.length→s.bh=false→L.foldl spStep s=⟨s.b++L,s.x+L.length,false⟩
 | [],s,_,_,ht=>by cases s;simp at ht;simp [ht]
 | c :: L,s,hL,hb,ht=>by
   have hc:=hL c (by simp)
   have e:spStep s c=⟨s.b++[c],s.x+1,false⟩:=by
    unfold spStep
    rw [if_neg (by omega),if_neg (by omega)]
    simp [ht]
   have h:=sp_lead L ⟨s.b++[c],s.x+1,false⟩ (fun d hd=>hL d (by simp [hd])) (by simp) rfl
   rw [List.foldl_cons,e,h]
   simp only [List.append_assoc,List.singleton_append,List.length_cons]
   congr 1
   omega
theorem sp_noughts:∀(k:Nat) (x:Int),(List.replicate k 48).foldl spStep ⟨[],x,true⟩=⟨[],x-k,true⟩
 | 0,x=>by simp
 | k+1,x=>by
   have e:spStep ⟨[],x,true⟩ 48=⟨[],x-1,true⟩:=rfl
   rw [List.replicate_succ,List.foldl_cons,e,sp_noughts k (x-1)]
   congr 1
   omega
theorem sp_first (c:Nat) (x:Int) (bh:Bool) (hc:49≤c):spStep ⟨[],x,bh⟩ c=⟨[c],if bh=true then x else x+1,bh⟩:=by
 unfold spStep
 rw [if_neg (by omega),if_neg (by omega)]
 rfl
def SpOf (T D:List Nat) (p:Int):Prop:=spB T=D∧spX T=p∧T.head?≠some 45
theorem noE {M:List Nat} (h:∀c∈M,c≤57) (hn:M.head?≠some 45):spM M=M∧spR M=[]:=by
 have hs:st0 M=0:=by unfold st0;rw [if_neg hn]
 unfold spM spR
 rw [hs,List.drop_zero]
 constructor
 ·have:=List.takeWhile_append_of_pos (p:=fun c=>!isE c) (l₁:=M) (l₂:=[]) (fun c hc=>isE_lo (h c hc))
  simpa using this
 ·have:=List.dropWhile_append_of_pos (p:=fun c=>!isE c) (l₁:=M) (l₂:=[]) (fun c hc=>isE_lo (h c hc))
  simpa using this
theorem withE {M R:List Nat} (h:∀c∈M,c≤57) (hn:(M++101 :: R).head?≠some 45):spM (M++101 :: R)=M∧spR (M++101 :: R)=101 :: R:=by
 have hs:st0 (M++101 :: R)=0:=by unfold st0;rw [if_neg hn]
 unfold spM spR
 rw [hs,List.drop_zero,List.takeWhile_append_of_pos (fun c hc=>isE_lo (h c hc)),List.dropWhile_append_of_pos (fun c hc=>isE_lo (h c hc))]
 constructor <;> simp [isE]
theorem spOf_plain {M D:List Nat} {p:Int} {bh:Bool} (h:∀c∈M,c≤57) (hn:M.head?≠some 45) (hs:spF M=⟨D,p,bh⟩):SpOf M D p:=by
 obtain ⟨h1,h2⟩:=noE h hn
 refine ⟨by unfold spB;rw [h1,hs],?_,hn⟩
 unfold spX
 rw [h1,h2,hs]
 simp
theorem spOf_e {M R D:List Nat} {p x:Int} {bh:Bool} (h:∀c∈M,c≤57) (hn:(M++101 :: R).head?≠some 45) (hs:spF M=⟨D,p,bh⟩) (hx:pwV R=x):SpOf (M++101 :: R) D (p+x):=by
 obtain ⟨h1,h2⟩:=withE h hn
 refine ⟨by unfold spB;rw [h1,hs],?_,hn⟩
 unfold spX
 rw [h1,h2,hs,if_neg (by simp)]
 simp [hx]
theorem lay_split (c0:Nat) (L2:List Nat) (p:Int) (h1:49≤c0) (h2:c0≤57) (hL:∀c∈L2,48≤c∧c≤57) (hp1: -900≤p) (hp2:p≤900):
  ∃k,SpOf (layT (c0 :: L2) p) (c0 :: L2++List.replicate k 48) p∧k≤30:=by
 have hall:∀c∈c0 :: L2,48≤c∧c≤57:=fun c hc=>by
  rcases List.mem_cons.1 hc with rfl | hc
  ·omega
  ·exact hL c hc
 have s1:=sp_first c0 0 false h1
 simp only [Bool.false_eq_true,if_false,Int.zero_add] at s1
 have sL:(c0 :: L2).foldl spStep ⟨[],0,false⟩=⟨c0 :: L2,(c0 :: L2).length,false⟩:=by
  rw [List.foldl_cons,s1,sp_lead L2 _ (fun c hc=>(hL c hc).1) (by simp) rfl]
  simp only [List.singleton_append,List.length_cons]
  congr 1
  omega
 unfold layT
 by_cases a1:1≤p∧p≤21∧((c0 :: L2).length:Int)≤p
 ·rw [if_pos a1]
  obtain ⟨k,hk⟩:∃k,p.toNat-(c0 :: L2).length=k:=⟨_,rfl⟩
  rw [hk]
  refine ⟨k+1,spOf_plain (bh:=true) ?_ (by simp;omega) ?_,by omega⟩
  ·intro c hc
   simp only [List.mem_append,List.mem_replicate,List.mem_cons,List.mem_nil_iff,or_false] at hc
   rcases hc with (hc | hc) | hc
   ·have:=hall c (by simpa using hc);omega
   ·omega
   ·omega
  ·unfold spF
   rw [List.foldl_append,List.foldl_append,sL,sp_lead (List.replicate k 48) _ (fun c hc=>by rw [List.mem_replicate] at hc;omega) (by simp) rfl]
   have e1:∀(s:Ds),0<s.b.length→s.bh=false→[46,48].foldl spStep s=⟨s.b++[48],s.x,true⟩:=fun s hb ht=>by
    have e2:spStep s 46=⟨s.b,s.x,true⟩:=rfl
    have e3:spStep ⟨s.b,s.x,true⟩ 48=⟨s.b++[48],s.x,true⟩:=by
     unfold spStep
     rw [if_neg (by decide),if_neg (by intro h;have:=h.2;simp only at this;omega)]
     rfl
    rw [List.foldl_cons,List.foldl_cons,List.foldl_nil,e2,e3]
   rw [e1 _ (by simp) rfl]
   simp only [List.append_assoc,List.length_replicate]
   rw [show ([48]:List Nat)=List.replicate 1 48 from rfl,List.replicate_append_replicate]
   congr 1
   simp only [List.length_cons] at a1 hk ⊢
   omega
 rw [if_neg a1]
 by_cases a2:1≤p∧p≤21
 ·rw [if_pos a2]
  obtain ⟨n,hn⟩:∃n,p.toNat=n+1:=⟨p.toNat-1,by omega⟩
  rw [hn,List.take_succ_cons,List.drop_succ_cons]
  have hnl:n<L2.length:=by simp only [List.length_cons] at a1;omega
  refine ⟨0,spOf_plain (bh:=true) ?_ (by simp;omega) ?_,by omega⟩
  ·intro c hc
   simp only [List.mem_append,List.mem_cons,List.mem_nil_iff,or_false] at hc
   rcases hc with ((hc | hc) | hc) | hc
   ·omega
   ·have:=hL c (List.mem_of_mem_take hc);omega
   ·omega
   ·have:=hL c (List.mem_of_mem_drop hc);omega
  ·unfold spF
   have sT:(c0 :: L2.take n).foldl spStep ⟨[],0,false⟩=⟨c0 :: L2.take n,(c0 :: L2.take n).length,false⟩:=by
    rw [List.foldl_cons,s1,sp_lead (L2.take n) _ (fun c hc=>(hL c (List.mem_of_mem_take hc)).1) (by simp) rfl]
    simp only [List.singleton_append,List.length_cons]
    congr 1
    omega
   rw [List.foldl_append,List.foldl_append,sT]
   have e2:∀s:Ds,[46].foldl spStep s=⟨s.b,s.x,true⟩:=fun s=>rfl
   rw [e2,sp_tail (L2.drop n) _ (fun c hc=>(hL c (List.mem_of_mem_drop hc)).1) (by simp) rfl]
   simp only [List.cons_append,List.take_append_drop,List.replicate_zero,List.append_nil]
   congr 1
   rw [List.length_cons,List.length_take]
   omega
 rw [if_neg a2]
 by_cases a3: -5≤p∧p≤0
 ·rw [if_pos a3]
  obtain ⟨k,hk⟩:∃k:Nat,(-p).toNat=k:=⟨_,rfl⟩
  rw [hk]
  refine ⟨0,spOf_plain (bh:=true) ?_ (by simp) ?_,by omega⟩
  ·intro c hc
   simp only [List.mem_append,List.mem_cons,List.mem_nil_iff,or_false,List.mem_replicate] at hc
   rcases hc with ((hc | hc) | hc) | hc
   ·omega
   ·omega
   ·omega
   ·have:=hall c (by simpa using hc);omega
  ·unfold spF
   have e0:[48,46].foldl spStep ⟨[],0,false⟩=⟨[],0,true⟩:=rfl
   have s2:=sp_first c0 (0-(k:Int)) true h1
   simp only [if_true] at s2
   rw [List.foldl_append,List.foldl_append,e0,sp_noughts,List.foldl_cons,s2,sp_tail L2 _ (fun c hc=>(hL c hc).1) (by simp) rfl]
   simp only [List.singleton_append,List.replicate_zero,List.append_nil]
   congr 1
   omega
 rw [if_neg a3]
 have hw:pwV (wtx (p-1))=p-1:=pw_wtx _ (by omega) (by omega)
 by_cases a4:1<(c0 :: L2).length
 ·rw [if_pos a4]
  obtain ⟨bh,hs⟩:=eM_sp (c0:=c0) (L2:=L2) h1 (fun c hc=>(hL c hc).1)
  have hM:eM (c0 :: L2)=(c0 :: L2).take 1++[46]++(c0 :: L2).drop 1:=by
   unfold eM
   rw [if_pos a4]
   simp
  have:=spOf_e (M:=eM (c0 :: L2)) (R:=wtx (p-1)) (fun c hc=>(eM_chars hall c hc).2) (by rw [hM];simp;omega) hs hw
  refine ⟨0,?_,by omega⟩
  rw [hM] at this
  rw [show 1+(p-1)=p by omega] at this
  simpa using this
 ·rw [if_neg a4]
  have hL0:L2=[]:=by cases L2 with | nil=>rfl | cons a b=>simp at a4
  subst hL0
  have hs:spF [c0]=⟨[c0],1,false⟩:=by unfold spF;rw [List.foldl_cons,s1,List.foldl_nil]
  have:=spOf_e (M:=[c0]) (R:=wtx (p-1)) (fun c hc=>by simp at hc;omega) (by simp;omega) hs hw
  refine ⟨0,?_,by omega⟩
  rw [show 1+(p-1)=p by omega] at this
  simpa using this
theorem spOf_neg {T D:List Nat} {p:Int} (h:SpOf T D p):spB (45 :: T)=D∧spX (45 :: T)=p∧(45 :: T).head? =some 45:=by
 obtain ⟨h1,h2,h3⟩:=h
 have hs:st0 T=0:=by unfold st0;rw [if_neg h3]
 have e1:spM (45 :: T)=spM T:=by unfold spM;rw [hs];rfl
 have e2:spR (45 :: T)=spR T:=by unfold spR;rw [hs];rfl
 refine ⟨?_,?_,rfl⟩
 ·rw [←h1];unfold spB;rw [e1]
 ·rw [←h2];unfold spX;rw [e1,e2]
end Go.Proofs.YtjhhdnnblcbdbaaGreatDoor.pg
end
end
section
namespace Go.Proofs.YtjhhdnnblcbdbaaGreatDoor.jw
open Go.RowKit mem fl big us uw pg dcm val jp
set_option linter.unusedVariables false
theorem least {p:Nat→Prop} (n:Nat):p n→∃m,m≤n∧p m∧∀k,k<m→¬p k:=by
 induction n using Nat.strongRecOn with
 | _ n ih=>
   intro hn
   by_cases h:∃k,k<n∧p k
   ·obtain ⟨k,hk,hp⟩:=h
    obtain ⟨m,h1,h2,h3⟩:=ih k hk hp
    exact ⟨m,by omega,h2,h3⟩
   ·exact ⟨n,Nat.le_refl _,hn,fun k hk hp=>h ⟨k,hk,hp⟩⟩
theorem near_ex (X B:Nat):∃r,Near X B r:=by
 obtain ⟨I,hI⟩:∃I,I=9218868437227405312:=⟨_,rfl⟩
 obtain ⟨r,h1,h2,h3⟩:=least (p:=fun r=>r=I∨2*X<B*(V r+V (r+1))∨(2*X=B*(V r+V (r+1))∧r % 2=0)) I (.inl rfl)
 refine ⟨r,by omega,?_,by rw [←hI];exact h2⟩
 by_cases h0:r=0
 ·exact .inl h0
 ·have h:=h3 (r-1) (by omega)
  rw [show r-1+1=r by omega] at h
  generalize B*(V (r-1)+V r)=Y at*
  omega
theorem nm_ex (P:Nat) (l:List Nat):∃(k v:Int) (b:Nat) (er:Int),Nm P l k v b er:=by
 obtain ⟨R,hR⟩:∃R,Sd P l R:=near_ex _ _
 obtain ⟨k,v,b,er,h⟩:=ans_shape l R
 exact ⟨k,v,b,er,R,fun _=>⟨hR,hR.1⟩,h⟩
theorem nm_fn {P:Nat} {l:List Nat} {k v:Int} {b:Nat} (h:Nm P l k v b 0):form l≠0∧Fn P l=(k,v,b,0):=by
 refine ⟨fun h0=>?_,fn_of h⟩
 have:=(nm_form h).1 h0
 omega
end Go.Proofs.YtjhhdnnblcbdbaaGreatDoor.jw
end
section
namespace Go.Proofs.YtjhhdnnblcbdbaaGreatDoor.jw
open Go.RowKit mem fl big us uw pg dcm val jp sh
set_option linter.unusedVariables false
theorem dvn_noughts2 (L:List Nat) (t:Nat):dvn (L++List.replicate t 48)=dvn L*10^t:=by
 induction t with
 | zero=>simp
 | succ t ih=>
   have e:dvn (L++List.replicate t 48++[48])=dvn (L++List.replicate t 48)*10+(48-48):=by
    conv=>lhs;unfold dvn
    rw [List.foldl_append]
    rfl
   rw [List.replicate_succ',←List.append_assoc,e,ih,Nat.pow_succ,Nat.mul_assoc]
   omega
def sg2 (s:Bool):List Nat:=if s=true then [45] else []
theorem fm_sign (s:Bool) {T:List Nat} (h0:pfx.fm (pfx.adv 0 T)=2) (h1:pfx.fm (pfx.adv 1 T)=2):dcm.form (sg2 s++T)=2:=by
 unfold dcm.form
 cases s with
 | false=>exact h0
 | true=>
   show pfx.fm (pfx.adv 0 (45 :: T))=2
   rw [pfx.adv_sign]
   exact h1
theorem nm_flt {P:Nat} {s:Bool} {T D:List Nat} {p:Int} {a:Nat} (h0:pfx.fm (pfx.adv 0 T)=2) (h1:pfx.fm (pfx.adv 1 T)=2) (hsp:SpOf T D p) (hD:Dec P (dvn D) (p-D.length) a) (ha:a<9218868437227405312):Nm P (sg2 s++T) 3 0 (a+sgn s) 0:=by
 have hf:=fm_sign s h0 h1
 have hS:spB (sg2 s++T)=D∧spX (sg2 s++T)=p∧decide ((sg2 s++T).head? =some 45)=s:=by
  cases s with
  | false=>exact ⟨hsp.1,hsp.2.1,by simp [sg2,hsp.2.2]⟩
  | true=>
    obtain ⟨e1,e2,e3⟩:=spOf_neg hsp
    exact ⟨e1,e2,by simp [sg2]⟩
 obtain ⟨e1,e2,e3⟩:=hS
 refine ⟨a,fun _=>⟨?_,by omega⟩,?_⟩
 ·unfold Sd
  rw [e1,e2]
  exact hD
 ·unfold ans
  rw [if_neg (by rw [hf];decide),if_neg (by rw [hf];rintro ⟨h,_⟩;omega),e3]
  unfold fltV
  rw [if_neg (by omega)]
theorem dec_ten2 {P m a:Nat} {x:Int} (k:Nat) (h:Dec P m x a):Dec P (m*10^k) (x-k) a:=by
 obtain ⟨S,h1,h2⟩:∃S:Nat,0≤(S:Int)+x∧0≤(S:Int)+(x-k):=⟨k+x.natAbs,by omega,by omega⟩
 rw [dec_scale h1] at h
 rw [dec_scale h2]
 have e:((S:Int)+x).toNat=k+((S:Int)+(x-k)).toNat:=by omega
 rw [e,Nat.pow_add,←Nat.mul_assoc] at h
 exact h
theorem dec_in {P z a q:Nat} {x:Int} (hz:z=1074) (hP:P=2^z) (h:In a q x):Dec P q x a:=by
 unfold In at h
 unfold Dec
 rw [hP,hz]
 exact h
theorem layT_lt2 (L:List Nat) (p:Int) (hL:∀c∈L,c<256):∀c∈layT L p,c<256:=by
 have hw:=wtx_chars (p-1)
 intro c hc
 unfold layT at hc
 have hcases:c∈L∨c=48∨c=46∨c=101∨c∈wtx (p-1):=by
  split at hc
  ·simp only [List.mem_append,List.mem_replicate,List.mem_cons,List.mem_nil_iff,or_false] at hc
   rcases hc with (hc | hc) | hc | hc
   ·exact .inl hc
   ·exact .inr (.inl hc.2)
   ·exact .inr (.inr (.inl hc))
   ·exact .inr (.inl hc)
  ·split at hc
   ·simp only [List.mem_append,List.mem_cons,List.mem_nil_iff,or_false] at hc
    rcases hc with (hc | hc) | hc
    ·exact .inl (List.mem_of_mem_take hc)
    ·exact .inr (.inr (.inl hc))
    ·exact .inl (List.mem_of_mem_drop hc)
   ·split at hc
    ·simp only [List.mem_append,List.mem_replicate,List.mem_cons,List.mem_nil_iff,or_false] at hc
     rcases hc with ((hc | hc) | hc) | hc
     ·exact .inr (.inl hc)
     ·exact .inr (.inr (.inl hc))
     ·exact .inr (.inl hc.2)
     ·exact .inl hc
    ·split at hc
     ·simp only [List.mem_append,List.mem_cons,List.mem_nil_iff,or_false] at hc
      rcases hc with (((hc | hc) | hc) | hc) | hc
      ·exact .inl (List.mem_of_mem_take hc)
      ·exact .inr (.inr (.inl hc))
      ·exact .inl (List.mem_of_mem_drop hc)
      ·exact .inr (.inr (.inr (.inl hc)))
      ·exact .inr (.inr (.inr (.inr hc)))
     ·simp only [List.mem_append,List.mem_cons,List.mem_nil_iff,or_false] at hc
      rcases hc with (hc | hc) | hc
      ·exact .inl hc
      ·exact .inr (.inr (.inr (.inl hc)))
      ·exact .inr (.inr (.inr (.inr hc)))
 rcases hcases with h | h | h | h | h
 ·exact hL c h
 ·omega
 ·omega
 ·omega
 ·have:=hw c h;omega
theorem nm_ftx {P z:Nat} (hz:z=1074) (hP:P=2^z) {f:Nat} (hf:f<18446744073709551616) (hi:f % 9223372036854775808<9218868437227405312) {w:World} (h:NumAt w):Nm P (nats (ftx f)) 3 0 f 0:=by
 obtain ⟨s,a,rfl,ha⟩:=half_of f hf
 have hm:(a+sgn s) % 9223372036854775808=a:=by cases s <;> simp [sgn] <;> omega
 rw [hm] at hi
 obtain ⟨e,w',_,hp,_⟩:=(pg.text_any s a w ha h.pow (by have:=h.lt;omega) h.tab) []
 have he:=((ftx_spec (a+sgn s)).1 s a rfl ha w e w' hp).1
 have hs45:∀c∈sg2 s,c<256:=by cases s <;> simp [sg2]
 rcases hp.2 with ⟨h1,_⟩ | ⟨h1,e1⟩ | ⟨h1,h2,q,y,hC,hq,hb,e1⟩
 ·omega
 ·rw [e1] at he
  injection he with he
  injection he with he
  have he:strN (sg2 s++[48,46,48])=ftx (a+sgn s):=he
  rw [←he,big.nats_strN _ (fun c hc=>(List.mem_append.1 hc).elim (hs45 c) (fun hc=>by simp at hc;omega))]
  subst h1
  refine nm_flt (D:=[]) (p:= -1) (by decide) (by decide) ⟨by decide,by decide,by decide⟩ ?_ (by omega)
  have hd:dvn []=0:=rfl
  unfold Dec
  rw [hd,Nat.zero_mul,Nat.zero_mul]
  exact near_zero (Nat.pow_pos (by omega)) (Nat.pow_pos (by omega))
 ·rw [e1] at he
  injection he with he
  injection he with he
  have he:strN (sg2 s++layT (dgs q) ((dgs q).length+y))=ftx (a+sgn s):=he
  obtain ⟨c0,L2,hd,g1,g2⟩:=dgs_head q (by omega)
  have hL:∀c∈L2,48≤c∧c≤57:=fun c hc=>dgs_bytes q c (by rw [hd];simp [hc])
  have hlt:=layT_lt2 (dgs q) ((dgs q).length+y) (fun c hc=>by have:=dgs_bytes q c hc;omega)
  obtain ⟨k,hsp,hk⟩:=lay_split c0 L2 ((dgs q).length+y) g1 g2 hL (by have:=hb.2.2.1;omega) (by have:=hb.2.2.2;omega)
  have hf0:=pfx.adv_lay 0 (.inl rfl) c0 L2 ((dgs q).length+y) g1 g2 hL
  have hf1:=pfx.adv_lay 1 (.inr rfl) c0 L2 ((dgs q).length+y) g1 g2 hL
  rw [←hd] at hsp hf0 hf1
  rw [←he,big.nats_strN _ (fun c hc=>(List.mem_append.1 hc).elim (hs45 c) (hlt c))]
  refine nm_flt hf0 hf1 hsp ?_ h2
  rw [dvn_noughts2,dvn_dgs']
  have e2:((dgs q).length:Int)+y-((dgs q++List.replicate k 48).length:Nat)=y-k:=by
   rw [List.length_append,List.length_replicate]
   omega
  rw [e2]
  exact dec_ten2 k (dec_in hz hP hC.2.1)
theorem dg_head (n:Nat):(dgs n).head?≠some 45:=by
 intro h
 have hb:=dgs_bytes n 45
 cases hd:dgs n with
 | nil=>rw [hd] at h;simp at h
 | cons c r=>
   rw [hd] at h
   simp at h
   subst h
   have:=hb (by rw [hd];simp)
   omega
theorem wh_wtx (x:Int):wholeZ (wtx x)=x:=by
 unfold wtx wholeZ
 split
 ·rw [if_pos (by simp)]
  show-((dvn (dgs x.natAbs):Nat):Int)=x
  rw [dvn_dgs']
  omega
 ·rw [if_neg (dg_head _),dvn_dgs']
  omega
theorem nm_wtx (P:Nat) {x:Int} (h1: -9223372036854775808≤x) (h2:x≤9223372036854775807):Nm P (wtx x) 2 x 0 0:=by
 have hf:dcm.form (wtx x)=1:=pfx.adv_whole x
 have hw:=wh_wtx x
 have hfit:fits (wtx x):=by unfold fits;rw [hw];omega
 refine ⟨0,fun ha=>?_,?_⟩
 ·exfalso
  rcases ha with ha | ⟨_,ha⟩
  ·rw [hf] at ha
   omega
  ·exact ha hfit
 ·unfold ans
  rw [if_neg (by rw [hf];decide),if_pos ⟨hf,hfit⟩,hw]
theorem fn_cases {P:Nat} {l:List Nat} (hf:dcm.form l≠0) (he:(Fn P l).2.2.2=0):(∃i:Int,-9223372036854775808≤i∧i≤9223372036854775807∧Fn P l=(2,i,0,0))∨∃f:Nat,f<18446744073709551616∧f % 9223372036854775808<9218868437227405312∧Fn P l=(3,0,f,0):=by
 obtain ⟨k,v,b,er,hN⟩:=nm_ex P l
 have hF:=fn_of hN
 rw [hF] at he ⊢
 simp only at he
 subst he
 obtain ⟨R,hR,h⟩:=hN
 unfold ans at h
 rw [if_neg hf] at h
 split at h
 ·rename_i hc
  obtain ⟨rfl,rfl,rfl,_⟩:=dcm.numV_inj h
  have:=hc.2
  unfold fits at this
  exact .inl ⟨_,by omega,by omega,rfl⟩
 ·unfold fltV at h
  split at h
  ·have:=dcm.numV_inj h
   omega
  ·rename_i hc hr
   obtain ⟨rfl,rfl,rfl,_⟩:=dcm.numV_inj h
   have ha:asks l:=by
    unfold asks
    rcases fm_range (pfx.adv 0 l) with h3 | h3 | h3
    ·exact absurd h3 hf
    ·exact .inr ⟨h3,fun hx=>hc ⟨h3,hx⟩⟩
    ·exact .inl h3
   have hRi:=(hR ha).2
   refine .inr ⟨_,?_,?_,rfl⟩
   ·unfold sgn;split <;> omega
   ·unfold sgn;split <;> omega
theorem nts_bz (s:ByteArray):nts (bz s)=nats s:=by simp [nts,bz,nats,Function.comp_def]
theorem nv_int {F:Nf} {l:List Nat} {i:Int} (h:F l=(2,i,0,0)):nv F l=jp.numV 2 i 0:=by unfold nv;rw [h]
theorem nv_flt {F:Nf} {l:List Nat} {f:Nat} (h:F l=(3,0,f,0)):nv F l=jp.numV 3 0 f:=by unfold nv;rw [h]
theorem tx_int (i:Int):tx (jp.numV 2 i 0)=wz i:=by simp [jp.numV,tx]
theorem tx_flt (f:Nat):tx (jp.numV 3 0 f)=fz f:=by simp [jp.numV,tx]
theorem numT {P z:Nat} (hz:z=1074) (hP:P=2^z) {w:World} (h:NumAt w):NumT (Fn P):=by
 intro l hf he
 rcases fn_cases hf he with ⟨i,h1,h2,hF⟩ | ⟨f,h1,h2,hF⟩
 ·have hn:=nm_fn (nm_wtx P h1 h2)
  rw [nv_int hF,tx_int]
  unfold wz
  rw [nts_bz,big.nats_strN _ (fun c hc=>by have:=wtx_chars i c hc;omega),hF]
  exact ⟨hn.1,hn.2,by have:=wz_len i h1 h2;unfold wz at this;omega⟩
 ·have hn:=nm_fn (nm_ftx hz hP h1 h2 h)
  rw [nv_flt hF,tx_flt]
  unfold fz
  rw [nts_bz,hF]
  exact ⟨hn.1,hn.2,by have:=fz_len f;unfold fz at this;exact this⟩
theorem fn_lk {P:Nat}:∀l,dcm.form l≠0→(Fn P l).2.2.2=0→lk (nv (Fn P) l)=0:=by
 intro l hf he
 rcases fn_cases hf he with ⟨i,h1,h2,hF⟩ | ⟨f,h1,h2,hF⟩
 ·rw [nv_int hF]
  simp [jp.numV,lk]
 ·rw [nv_flt hF]
  simp [jp.numV,lk]
  omega
theorem good_ok {P:Nat} {v:V} (h:jp.Good (Fn P) v):wt v≤1048576→ok v:=by
 induction h with
 | nul=>intro _;simp [nullV,ok,oks,okf]
 | boo b=>intro _;simp [boolV,ok,oks,okf]
 | str l hl=>
   intro hw
   rw [wt_str] at hw
   simp [strV,ok,oks,okf,bt_size]
   omega
 | num l h1 h2=>
   intro _
   rcases fn_cases h1 h2 with ⟨i,h3,h4,hF⟩ | ⟨f,h3,h4,hF⟩
   ·rw [nv_int hF]
    simp [jp.numV,ok,oks,okf]
    exact ⟨h3,h4⟩
   ·rw [nv_flt hF]
    simp [jp.numV,ok,oks,okf]
    exact h3
 | list is hi ih=>
   intro hw
   rw [wt_list] at hw
   have:oks is:=by
    clear hi
    induction is with
    | nil=>simp [oks]
    | cons x r ihr=>
      have hx:wts (x :: r)=wt x+wts r:=rfl
      exact ⟨ih x (by simp) (by omega),ihr (fun y hy=>ih y (List.mem_cons_of_mem _ hy)) (by omega)⟩
   simp [listV,ok,okf,this]
 | obj fs h1 h2 h3 ih=>
   intro hw
   rw [wt_obj] at hw
   have:okf fs:=by
    clear h1 h2 h3
    induction fs with
    | nil=>simp [okf]
    | cons p r ihr=>
      obtain ⟨s,x⟩:=p
      have hx:wtf ((s,x) :: r)=s.size+wt x+wtf r:=rfl
      exact ⟨by omega,ih s x (by simp) (by omega),ihr (fun s y hy=>ih s y (List.mem_cons_of_mem _ hy)) (by omega)⟩
   simp [objV,ok,oks,this]
end Go.Proofs.YtjhhdnnblcbdbaaGreatDoor.jw
end
