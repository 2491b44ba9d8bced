/- What the joined texts lack of Mem Val Own. PLAIN LEAN: small laws of the parsers: an answer taken apart; the kind of what was read. PLAIN LEAN: no fault has the number nought; what is read is no longer than the text. PLAIN LEAN: more fuel turns no answer; what stands behind a value's end turns none, if it is a blank, a comma or a closing bracket. PLAIN LEAN: how the layer writes a text: character by character; and the laws on it. PLAIN LEAN: what is between the quotes of a text is read back, piece by piece. PLAIN LEAN: JsoninTexts' law: a text that layer 4 writes is read as that text. PLAIN LEAN: in a text that layer 4 writes no number's text is long. Words on arrays that a call lays: a composite literal of an array, its variable, its store, as closed facts. escape: which letter stands behind the backslash; a block more (its table). appendText: what it writes behind a row of bytes that the call owns. The library's contracts that these texts use, laid at this dump (plain text that the kit's tools lay-shelf.mjs and lay-plain.mjs printed). utf.Clean, jsonout.Text at every text. JsoninTexts, walked. What the lifts of JsoninTexts, JsoninKeys, JsoninWrites share: the tables that the listed variables' readings give; a world that lays them; the witness. PLAIN LEAN: what a number's prefix tells, by the forms of whole texts alone. PLAIN LEAN: JsoninNumbers' law: a text without blanks at its ends is read as a number just if layer 2 reads it. PLAIN LEAN: JsoninKeys' law: an object of these keys is read with them in this order; where one comes again it is refused there. PLAIN LEAN: in the object that JsoninKeys lays no number's text is long. PLAIN LEAN: the object that JsoninKeys lays grows key by key; a whole number's text is read as that number. A string appended to a row of bytes that the call owns: where the row lies afterwards. JsoninKeys, walked. -/
import Derived.Test.YtjhhdnnblcbdbaaGreatDoorGVal
import Derived.Lib.RuneBytes
import Derived.Lib.MapLaws
import Derived.Lib.ValidLaws
import Derived.Lib.TrimUEq
import Derived.Test.YtjhhdnnblcbdbaaGreatDoorGMem
import Derived.Laws.Tables
import Derived.Test.YtjhhdnnblcbdbaaGreatDoorProg
import Derived.KernelRfl
import Derived.Deep.Cut
import Derived.Test.YtjhhdnnblcbdbaaGreatDoorShelf
import Derived.Lib.OthersKept
import Derived.Lib.RuneCount
import Derived.OpenShut
import Derived.Deep.DeepMust
import Derived.WalkSpells
import Derived.Deep.RegionLaw
import Derived.Deep.RegionWith
import Derived.Shelf.LaysM
import Derived.Shelf.Unicode.ValidAny
import Derived.Lib.LaidU8T
import Derived.Shelf.Unicode.DecodeSlow
import Derived.Laws.Rows
import Derived.Test.YtjhhdnnblcbdbaaGreatDoorGJs
import Derived.Test.YtjhhdnnblcbdbaaGreatDoorGJw
import Derived.Test.YtjhhdnnblcbdbaaGreatDoorYUpE
import Derived.Test.YtjhhdnnblcbdbaaGreatDoorYNr
import Derived.Test.YtjhhdnnblcbdbaaGreatDoorGLa
import Derived.Test.YtjhhdnnblcbdbaaGreatDoorGEt
import Derived.Lib.AppendStr
import Derived.Lib.OwnKind
import Derived.BigQuiet
set_option linter.unusedVariables false
section
section
namespace Go.Proofs.YtjhhdnnblcbdbaaGreatDoor.mem
open Go.RowKit
section
variable {P:Program} (w:World)
end
theorem own_lt {w:World} {base:Nat} {e:TypeId} {size n:Nat} {v:Value} {xs:List Value} (h:w.ownsRow base e size v n xs):∀k,v.ownBlock=some k→base≤k∧k<w.heap.size:=h.lt
theorem own_empty (w:World) (base g:Nat) (e:TypeId) (size:Nat) (hg:w.heap.size=g) (hb:base≤g):(w.alloc (.cells #[] e)).ownsRow base e size (.slice (some ⟨g,0,none⟩) 0 0) 0 []:=by
 subst hg
 exact World.ownsRow_made w #[] 0 hb (Nat.zero_le _) (by simp)
theorem Rd.newAt (w:World) (g:Nat) (cs:List Value) (t:TypeId) (hg:w.heap.size=g):Rd (w.alloc (.cells cs.toArray t)) (g+1) (some ⟨g,0,none⟩) cs:=by
 subst hg
 exact Rd.new w cs t
theorem Rd.of_block {w:World} {g:Nat} {cur:Array Value} {e:TypeId} {xs ys:List Value} {k:Nat} (hg:w.heap[g]? =some (.cells cur e (0,0))) (ht:cur.toList.take k=ys) (hp:∃zs,ys=xs++zs):Rd w (g+1) (some ⟨g,0,none⟩) xs:=by
 intro j u hu
 obtain ⟨zs,rfl⟩:=hp
 refine ⟨_,rfl,by simp,?_⟩
 rw [add_zero_off,cell_of_row w g j cur e (0,0) hg]
 have h1:(xs++zs)[j]? =some u:=by
  rw [List.getElem?_append_left (List.getElem?_eq_some_iff.1 hu).1]
  exact hu
 rw [←ht,List.getElem?_take] at h1
 split at h1
 ·simpa using h1
 ·cases h1
theorem box_cell {B g:Nat} {w w':World} {cs:Array Value} {t:TypeId} (hb:Below B (w.alloc (.cells cs t)) w') (hg:w.heap.size=g) (hB:g<B) (j:Nat):w'.cell? ⟨g,j,none⟩=cs[j]? :=by
 subst hg
 rw [hb.cell (p:=⟨w.heap.size,j,none⟩) hB]
 exact cell_of_row _ _ _ cs t (0,0) (heap_alloc_new w _)
theorem Rd.of_cells {w:World} {g:Nat} {cur:Array Value} {e:TypeId} {xs:List Value} (hg:w.heap[g]? =some (.cells cur e (0,0))) (h:∀(j:Nat) (u:Value),xs[j]? =some u→cur[j]? =some u):Rd w (g+1) (some ⟨g,0,none⟩) xs:=by
 intro j u hu
 refine ⟨_,rfl,by simp,?_⟩
 rw [add_zero_off,cell_of_row w g j cur e (0,0) hg]
 exact h j u hu
end Go.Proofs.YtjhhdnnblcbdbaaGreatDoor.mem
end
section
namespace Go.Proofs.YtjhhdnnblcbdbaaGreatDoor.val
open Go.RowKit mem
mutual
def sz:V→Nat
 | .mk _ _ _ _ _ _ is fs=>1+szs is+szf fs
def szs:List V→Nat
 | []=>0
 | v :: r=>sz v+szs r
def szf:List (ByteArray×V)→Nat
 | []=>0
 | (_,v) :: r=>sz v+szf r
end
theorem sz_pos (v:V):0<sz v:=by cases v;simp only [sz];omega
theorem szs_get {l:List V} {j:Nat} {v:V} (h:l[j]? =some v):sz v≤szs l:=by
 induction l generalizing j with
 | nil=>simp at h
 | cons x r ih=>
   simp only [szs]
   cases j with
   | zero=>simp at h;subst h;omega
   | succ j=>have:=ih (j:=j) (by simpa using h);omega
theorem szf_get {l:List (ByteArray×V)} {j:Nat} {p:ByteArray×V} (h:l[j]? =some p):sz p.2≤szf l:=by
 induction l generalizing j with
 | nil=>simp at h
 | cons x r ih=>
   obtain ⟨s,x⟩:=x
   simp only [szf]
   cases j with
   | zero=>simp at h;subst h;show sz x≤_;omega
   | succ j=>have:=ih (j:=j) (by simpa using h);omega
theorem szs_len (l:List V):l.length≤szs l:=by
 induction l with
 | nil=>simp [szs]
 | cons x r ih=>have:=sz_pos x;simp only [szs,List.length_cons];omega
theorem szf_len (l:List (ByteArray×V)):l.length≤szf l:=by
 induction l with
 | nil=>simp [szf]
 | cons x r ih=>obtain ⟨s,x⟩:=x;have:=sz_pos x;simp only [szf,List.length_cons];omega
theorem pts_full {l:List V} {m n:Int} (h:m≤n):pts l m n=n:=by
 cases l with
 | nil=>simp only [pts]
 | cons v r=>simp only [pts];rw [if_pos h]
theorem ptf_full {l:List (ByteArray×V)} {m n:Int} (h:m≤n):ptf l m n=n:=by
 cases l with
 | nil=>simp only [ptf]
 | cons v r=>obtain ⟨s,v⟩:=v;simp only [ptf];rw [if_pos h]
mutual
theorem pt_bd:∀(v:V) (m:Int),1≤pt v m∧pt v m≤sz v
 | .mk _ _ _ _ _ _ is fs,m=>by
   simp only [pt,sz]
   have h1:=pts_bd is m 1 (by omega)
   have h2:=ptf_bd fs m (pts is m 1) h1.1
   omega
theorem pts_bd:∀(l:List V) (m n:Int),1≤n→1≤pts l m n∧pts l m n≤n+szs l
 | [],m,n,h=>by simp only [pts,szs];omega
 | v :: r,m,n,h=>by
   simp only [pts,szs]
   split
   ·omega
   ·have h1:=pt_bd v (m-n)
    have h2:=pts_bd r m (n+pt v (m-n)) (by omega)
    omega
theorem ptf_bd:∀(l:List (ByteArray×V)) (m n:Int),1≤n→1≤ptf l m n∧ptf l m n≤n+szf l
 | [],m,n,h=>by simp only [ptf,szf];omega
 | (s,v) :: r,m,n,h=>by
   simp only [ptf,szf]
   split
   ·omega
   ·have h1:=pt_bd v (m-n)
    have h2:=ptf_bd r m (n+pt v (m-n)) (by omega)
    omega
end
theorem pts_drop {l:List V} {k:Nat} {v:V} (h:l[k]? =some v) (m n:Int):pts (l.drop k) m n=if m≤n then n else pts (l.drop (k+1)) m (n+pt v (m-n)):=by
 obtain ⟨hk,rfl⟩:=List.getElem?_eq_some_iff.1 h
 rw [List.drop_eq_getElem_cons hk]
 simp only [pts]
theorem ptf_drop {l:List (ByteArray×V)} {k:Nat} {p:ByteArray×V} (h:l[k]? =some p) (m n:Int):ptf (l.drop k) m n=if m≤n then n else ptf (l.drop (k+1)) m (n+pt p.2 (m-n)):=by
 obtain ⟨hk,rfl⟩:=List.getElem?_eq_some_iff.1 h
 rw [List.drop_eq_getElem_cons hk]
 cases l[k]
 simp only [ptf]
end Go.Proofs.YtjhhdnnblcbdbaaGreatDoor.val
end
section
namespace Go.Proofs.YtjhhdnnblcbdbaaGreatDoor.val
open Go.RowKit mem
theorem blk_below {w w':World} {B g:Nat} {o:Obj} (h:w.heap[g]? =some o) (hb:Below B w w') (hg:g<B):w'.heap[g]? =some o:=(hb.block g hg).trans h
theorem own_below {w w':World} {base:Nat} {e:TypeId} {size n:Nat} {v:Value} {xs:List Value} (h:w.ownsRow base e size v n xs) (hb:Below w.heap.size w w'):w'.ownsRow base e size v n xs:=
 h.kept (row:=none) ⟨hb.os,hb.tape,hb.output,hb.size,fun k hk _=>hb.block k hk⟩ (by cases hv:v.ownBlock <;> simp)
theorem blk9 {w:World} {g:Nat} {t:TypeId} {s c0 c1 c2 c3 c4 c5 c6 c7:Value} (h:w.heap[g]? =some (.cells #[s,c0,c1,c2,c3,c4,c5,c6,c7] t (0,0))):
  w.cell? ⟨g,0,none⟩=some s∧w.cell? ⟨g,1,none⟩=some c0∧w.cell? ⟨g,2,none⟩=some c1∧w.cell? ⟨g,3,none⟩=some c2∧w.cell? ⟨g,4,none⟩=some c3∧w.cell? ⟨g,5,none⟩=some c4∧w.cell? ⟨g,6,none⟩=some c5∧w.cell? ⟨g,7,none⟩=some c6∧w.cell? ⟨g,8,none⟩=some c7:=
 ⟨cell_of_row w g 0 _ t (0,0) h,cell_of_row w g 1 _ t (0,0) h,cell_of_row w g 2 _ t (0,0) h,cell_of_row w g 3 _ t (0,0) h,cell_of_row w g 4 _ t (0,0) h,cell_of_row w g 5 _ t (0,0) h,cell_of_row w g 6 _ t (0,0) h,cell_of_row w g 7 _ t (0,0) h,cell_of_row w g 8 _ t (0,0) h⟩
theorem copy_end {w wl wr wz:World} {k:Int} {b:Bool} {i:Int} {f:Nat} {t y:ByteArray} {is:List V} {fs:List (ByteArray×V)} {A1 A9:Option Addr} {c1 c9:Nat} (hG:wr.grownBy wz (some (w.heap.size+1)))
  (HV:IsVs wl (New (w.heap.size+3) wl) is A1 0) (HM:Mid (w.heap.size+3) wl.heap.size wl wr) (HF:IsFs wr (New wl.heap.size wr) fs A9 0) (hwl:w.heap.size+3≤wl.heap.size) (hsz:wl.heap.size≤wr.heap.size) (hb:Below w.heap.size w wr)
  (h1:A1=none→is.length=0) (h9:A9=none→fs.length=0):
  IsV wz (New w.heap.size wz) (.mk k b i f t y is fs) [.int .i64 k,.bool b,.int .i64 i,.float .f64 f,.string t,.string y,.slice A1 is.length c1,.slice A9 fs.length c9]∧Below w.heap.size w wz:=by
 have hs:=hG.size
 refine ⟨?_,hb.grown hG (by omega) (fun q e=>by injection e;omega)⟩
 simp only [IsV]
 refine ⟨A1,c1,A9,c9,rfl,h1,h9,HV.keep (fun p hp=>?_) (fun q hq=>⟨by have:=hq.1;omega,by have:=hq.2;omega⟩),HF.keep (fun p hp=>?_) (fun q hq=>⟨by have:=hq.1;omega,by have:=hq.2;omega⟩)⟩
 ·have a:=hp.1
  have b:=hp.2
  rw [World.cell?_of_block (hG.block p.block (by omega) (by intro e;injection e;omega))]
  exact World.cell?_of_block (HM p.block a b)
 ·have a:=hp.1
  have b:=hp.2
  exact World.cell?_of_block (hG.block p.block b (by intro e;injection e;omega))
end Go.Proofs.YtjhhdnnblcbdbaaGreatDoor.val
end
end
section
namespace Go.Proofs.YtjhhdnnblcbdbaaGreatDoor.jp
open Go.RowKit val
def knd:V→Int
 | .mk k _ _ _ _ _ _ _=>k
theorem bnd_inv {α β:Type} {f:Ps α} {g:α→Ps β} {l:List Nat} {b:β} {k:Nat} (h:bnd f g l= .ok b k):∃a j i,f l= .ok a j∧g a (l.drop j)= .ok b i∧k=j+i:=by
 unfold bnd at h
 cases hf:f l with
 | er k e=>rw [hf] at h;cases h
 | ok a j=>
   rw [hf] at h
   simp only at h
   cases hg:g a (l.drop j) with
   | er k e=>rw [hg] at h;cases h
   | ok b' i=>
     rw [hg] at h
     simp only [Rs.sh,Rs.ok.injEq] at h
     exact ⟨a,j,i,rfl,by rw [hg,h.1],h.2.symm⟩
theorem ret_inv {α:Type} {a b:α} {l:List Nat} {k:Nat} (h:ret a l= .ok b k):b=a:=by
 unfold ret at h
 injection h with h1 h2
 exact h1.symm
theorem bnd_ret {α β:Type} {f:Ps α} {c:α→β} {l:List Nat} {b:β} {k:Nat} (h:bnd f (fun a=>ret (c a)) l= .ok b k):∃a,b=c a:=by
 obtain ⟨a,j,i,_,h2,_⟩:=bnd_inv h
 exact ⟨a,ret_inv h2⟩
theorem items_kind (F:Nf):∀(n d:Nat) (acc:List V) (l:List Nat) (v:V) (k:Nat),items F n d acc l= .ok v k→knd v=5
 | 0,d,acc,l,v,k=>fun h=>by unfold items at h;cases h
 | n+1,d,acc,l,v,k=>fun h=>by
   unfold items at h
   obtain ⟨x,j,i,_,h2,_⟩:=bnd_inv h
   obtain ⟨b,j2,i2,_,h3,_⟩:=bnd_inv h2
   cases b with
   | true=>exact items_kind F n d _ _ v i2 (by simpa using h3)
   | false=>
     have h4:ret (listV (acc++[x])) ((l.drop j).drop j2)= .ok v i2:=by simpa using h3
     rw [ret_inv h4];rfl
theorem chk_inv {α β:Type} {f:Ps α} {p:α→Bool} {g:α→Ps β} {l:List Nat} {b:β} {k:Nat} (h:chk f p g l= .ok b k):∃a j i,f l= .ok a j∧p a=false∧g a (l.drop j)= .ok b i∧k=j+i:=by
 unfold chk at h
 cases hf:f l with
 | er k e=>rw [hf] at h;cases h
 | ok a j=>
   rw [hf] at h
   simp only at h
   cases hp:p a with
   | true=>rw [hp] at h;cases h
   | false=>
     rw [hp] at h
     cases hg:g a (l.drop j) with
     | er k e=>rw [hg] at h;cases h
     | ok b' i=>
       rw [hg] at h
       simp [Rs.sh] at h
       exact ⟨a,j,i,rfl,hp,by rw [hg,h.1],h.2.symm⟩
theorem members_kind (F:Nf):∀(n d:Nat) (acc:List (ByteArray×V)) (l:List Nat) (v:V) (k:Nat),members F n d acc l= .ok v k→knd v=6
 | 0,d,acc,l,v,k=>fun h=>by unfold members at h;cases h
 | n+1,d,acc,l,v,k=>fun h=>by
   unfold members at h
   obtain ⟨key,_,_,_,_,h2,_⟩:=chk_inv h
   obtain ⟨_,_,_,_,h2,_⟩:=bnd_inv h2
   obtain ⟨_,_,_,_,h2,_⟩:=bnd_inv h2
   obtain ⟨_,_,_,_,h2,_⟩:=bnd_inv h2
   obtain ⟨x,_,_,_,h2,_⟩:=bnd_inv h2
   obtain ⟨b,_,i2,_,h3,_⟩:=bnd_inv h2
   cases b with
   | true=>exact members_kind F n d _ _ v i2 (by simpa using h3)
   | false=>
     have h4:∃z,ret (objV (acc++[(bt key,x)])) z= .ok v i2:=⟨_,by simpa using h3⟩
     obtain ⟨z,h4⟩:=h4
     rw [ret_inv h4];rfl
theorem value_num {F:Nf} {n d:Nat} {l:List Nat} {v:V} {j:Nat} (h:value F n d l= .ok v j) (hk:knd v=2∨knd v=3):numP F l= .ok v j:=by
 cases n with
 | zero=>unfold value at h;cases h
 | succ n=>
   unfold value at h
   by_cases h1:l.headD 0=110
   ·rw [if_pos h1] at h;obtain ⟨_,rfl⟩:=bnd_ret h;rcases hk with hk | hk <;> cases hk
   rw [if_neg h1] at h
   by_cases h1:l.headD 0=116
   ·rw [if_pos h1] at h;obtain ⟨_,rfl⟩:=bnd_ret h;rcases hk with hk | hk <;> cases hk
   rw [if_neg h1] at h
   by_cases h1:l.headD 0=102
   ·rw [if_pos h1] at h;obtain ⟨_,rfl⟩:=bnd_ret h;rcases hk with hk | hk <;> cases hk
   rw [if_neg h1] at h
   by_cases h1:l.headD 0=34
   ·rw [if_pos h1] at h;obtain ⟨_,rfl⟩:=bnd_ret h;rcases hk with hk | hk <;> cases hk
   rw [if_neg h1] at h
   by_cases h1:l.headD 0=91
   ·rw [if_pos h1] at h
    obtain ⟨_,_,_,_,h2,_⟩:=bnd_inv h
    obtain ⟨_,j2,i2,_,h3,_⟩:=bnd_inv h2
    split at h3
    ·obtain ⟨_,rfl⟩:=bnd_ret h3;rcases hk with hk | hk <;> cases hk
    ·have:=items_kind F _ _ _ _ _ _ h3;omega
   rw [if_neg h1] at h
   by_cases h1:l.headD 0=123
   ·rw [if_pos h1] at h
    obtain ⟨_,_,_,_,h2,_⟩:=bnd_inv h
    obtain ⟨_,j2,i2,_,h3,_⟩:=bnd_inv h2
    split at h3
    ·obtain ⟨_,rfl⟩:=bnd_ret h3;rcases hk with hk | hk <;> cases hk
    ·have:=members_kind F _ _ _ _ _ _ h3;omega
   rw [if_neg h1] at h
   exact h
theorem cnt_head {l:List Nat} (h:bl (l.headD 0)=false):cnt l=0:=by
 cases l with
 | nil=>rfl
 | cons x r=>simp only [List.headD_cons] at h;simp [cnt,h]
theorem bl_num {x:Nat} (h:x=45∨(48≤x∧x≤57)):bl x=false:=by
 unfold bl
 simp
 omega
end Go.Proofs.YtjhhdnnblcbdbaaGreatDoor.jp
end
section
namespace Go.Proofs.YtjhhdnnblcbdbaaGreatDoor.jp
open Go.RowKit val
def NZ {α:Type} (f:Ps α):Prop:=∀l k e,f l= .er k e→e≠0
section
variable {α β:Type}
theorem NZ.ret (a:α):NZ (jp.ret a):=fun l k e h=>by cases h
theorem NZ.er (k:Nat) {e:Int} (h:e≠0):NZ (fun _=>(.er k e:Rs α)):=fun l k' e' h'=>by injection h' with _ h2;omega
theorem NZ.sat (t:Nat→Option α):NZ (jp.sat t):=by
 intro l k e h
 rcases sat_cases t l with ⟨x,r,a,_,_,h1⟩ | ⟨h1,_⟩
 ·rw [h1] at h;cases h
 ·rw [h1] at h;injection h with _ h2;omega
theorem NZ.bnd {f:Ps α} {g:α→Ps β} (hf:NZ f) (hg:∀a,NZ (g a)):NZ (jp.bnd f g):=by
 intro l k e h
 unfold jp.bnd at h
 cases hf1:f l with
 | er k1 e1=>rw [hf1] at h;injection h with _ h2;exact h2▸hf l k1 e1 hf1
 | ok a j=>
   rw [hf1] at h
   simp only at h
   cases hg1:g a (l.drop j) with
   | ok b i=>rw [hg1] at h;cases h
   | er k1 e1=>rw [hg1] at h;injection h with _ h2;exact h2▸hg a _ k1 e1 hg1
theorem NZ.chk {f:Ps α} {p:α→Bool} {g:α→Ps β} (hf:NZ f) (hg:∀a,NZ (g a)):NZ (jp.chk f p g):=by
 intro l k e h
 unfold jp.chk at h
 cases hf1:f l with
 | er k1 e1=>rw [hf1] at h;injection h with _ h2;exact h2▸hf l k1 e1 hf1
 | ok a j=>
   rw [hf1] at h
   simp only at h
   split at h
   ·injection h with _ h2;omega
   ·cases hg1:g a (l.drop j) with
    | ok b i=>rw [hg1] at h;cases h
    | er k1 e1=>rw [hg1] at h;injection h with _ h2;exact h2▸hg a _ k1 e1 hg1
theorem NZ.at_ {f:Ps α} (g:List Nat→Ps α) (h:∀l,f l=g l l) (hg:∀l,NZ (g l)):NZ f:=fun l k e h1=>hg l l k e (by rw [←h];exact h1)
end
theorem NZ.blanks:NZ blanks:=fun l k e h=>by cases h
theorem NZ.opn (d:Nat):NZ (opn d):=by
 intro l k e h
 unfold jp.opn at h
 cases l with
 | nil=>injection h with _ h2;omega
 | cons x r=>
   simp only at h
   split at h
   ·injection h with _ h2;omega
   ·cases h
theorem NZ.word:∀ws,NZ (word ws)
 | []=>NZ.ret ()
 | c :: r=>NZ.bnd (NZ.sat _) fun _=>NZ.word r
theorem NZ.digK (m:Int→Int→Bool):∀k a f,NZ (digK m k a f)
 | 0,a,_=>NZ.ret a
 | k+1,a,f=>NZ.bnd (NZ.sat _) fun _=>NZ.digK m k _ _
theorem NZ.escU:NZ escU:=NZ.bnd (NZ.sat _) fun _=>NZ.bnd (NZ.digK _ 4 0 (-1)) fun n=>by
 split
 ·exact NZ.bnd (NZ.sat _) fun _=>NZ.bnd (NZ.sat _) fun _=>NZ.bnd (NZ.digK _ 4 0 (-1)) fun _=>NZ.ret _
 ·exact NZ.ret _
theorem NZ.escP:NZ escP:=by
 refine NZ.at_ (fun l=>match mean (l.headD 0) with | some b=>jp.bnd one fun _=>jp.ret [b] | none=>jp.escU) (fun l=>rfl) fun l=>?_
 cases mean (l.headD 0) with
 | some b=>exact NZ.bnd (NZ.sat _) fun _=>NZ.ret _
 | none=>exact NZ.escU
theorem NZ.conts:∀m lo hi,NZ (conts m lo hi)
 | 0,_,_=>NZ.ret _
 | m+1,lo,hi=>NZ.bnd (NZ.sat _) fun _=>NZ.bnd (NZ.conts m _ _) fun _=>NZ.ret _
theorem NZ.group:NZ group:=NZ.bnd (NZ.sat _) fun _=>NZ.bnd (NZ.conts _ _ _) fun _=>NZ.ret _
theorem NZ.pieces:∀m acc,NZ (pieces m acc)
 | 0,acc=>NZ.er 0 (by decide)
 | m+1,acc=>by
   intro l k e h
   unfold jp.pieces at h
   split at h
   ·injection h with _ h2;omega
   ·split at h
    ·exact NZ.bnd (NZ.sat _) (fun _=>NZ.ret _) l k e h
    ·split at h
     ·exact NZ.bnd (NZ.sat _) (fun _=>NZ.bnd NZ.escP fun _=>NZ.pieces m _) l k e h
     ·exact NZ.bnd NZ.group (fun _=>NZ.pieces m _) l k e h
theorem NZ.text (m:Nat):NZ (text m):=NZ.bnd (NZ.sat _) fun _=>NZ.pieces m _
theorem NZ.numP (F:Nf):NZ (numP F):=by
 intro l k e h
 unfold jp.numP at h
 split at h
 ·injection h with _ h2;omega
 ·split at h
  ·cases h
  ·rename_i h0
   injection h with _ h2
   exact h2▸h0
theorem NZ.more (c:Nat):NZ (more c):=NZ.bnd NZ.blanks fun _ l k e h=>by
 split at h
 ·exact NZ.bnd (NZ.sat _) (fun _=>NZ.ret _) l k e h
 ·exact NZ.bnd (NZ.sat _) (fun _=>NZ.bnd NZ.blanks fun _=>NZ.ret _) l k e h
theorem nz_all (F:Nf):∀n,(∀d,NZ (value F n d))∧(∀d acc,NZ (items F n d acc))∧∀d acc,NZ (members F n d acc)
 | 0=>⟨fun d=>NZ.er 0 (by decide),fun d acc=>NZ.er 0 (by decide),fun d acc=>NZ.er 0 (by decide)⟩
 | n+1=>by
   obtain ⟨hv,hi,hm⟩:=nz_all F n
   refine ⟨fun d l k e h=>?_,fun d acc l k e h=>?_,fun d acc l k e h=>?_⟩
   ·unfold value at h
    by_cases h1:l.headD 0=110
    ·rw [if_pos h1] at h;exact NZ.bnd (NZ.word _) (fun _=>NZ.ret _) l k e h
    rw [if_neg h1] at h
    by_cases h1:l.headD 0=116
    ·rw [if_pos h1] at h;exact NZ.bnd (NZ.word _) (fun _=>NZ.ret _) l k e h
    rw [if_neg h1] at h
    by_cases h1:l.headD 0=102
    ·rw [if_pos h1] at h;exact NZ.bnd (NZ.word _) (fun _=>NZ.ret _) l k e h
    rw [if_neg h1] at h
    by_cases h1:l.headD 0=34
    ·rw [if_pos h1] at h;exact NZ.bnd (NZ.text _) (fun _=>NZ.ret _) l k e h
    rw [if_neg h1] at h
    by_cases h1:l.headD 0=91
    ·rw [if_pos h1] at h
     refine NZ.bnd (NZ.opn d) (fun _=>NZ.bnd NZ.blanks fun _ l k e h=>?_) l k e h
     split at h
     ·exact NZ.bnd (NZ.sat _) (fun _=>NZ.ret _) l k e h
     ·exact hi _ _ l k e h
    rw [if_neg h1] at h
    by_cases h1:l.headD 0=123
    ·rw [if_pos h1] at h
     refine NZ.bnd (NZ.opn d) (fun _=>NZ.bnd NZ.blanks fun _ l k e h=>?_) l k e h
     split at h
     ·exact NZ.bnd (NZ.sat _) (fun _=>NZ.ret _) l k e h
     ·exact hm _ _ l k e h
    rw [if_neg h1] at h
    exact NZ.numP F l k e h
   ·unfold items at h
    refine NZ.bnd (hv d) (fun v=>NZ.bnd (NZ.more _) fun b=>?_) l k e h
    cases b
    ·exact NZ.ret _
    ·exact hi _ _
   ·unfold members at h
    refine NZ.chk (NZ.text _) (fun key=>NZ.bnd NZ.blanks fun _=>NZ.bnd (NZ.sat _) fun _=>NZ.bnd NZ.blanks fun _=>NZ.bnd (hv d) fun v=>NZ.bnd (NZ.more _) fun b=>?_) l k e h
    cases b
    ·exact NZ.ret _
    ·exact hm _ _
theorem rd_nz {F:Nf} {n d:Nat} {l:List Nat} {k:Nat} {e:Int} (h:rd F n d l= .er k e):e≠0:=by
 refine NZ.bnd NZ.blanks (fun _=>NZ.bnd ((nz_all F n).1 d) fun v=>NZ.bnd NZ.blanks fun _ l k e h=>?_) l k e h
 split at h
 ·cases h
 ·injection h with _ h2;omega
theorem rd_len {F:Nf} (hF:∀l,(F l).2.2.2≠50∧(F l).2.2.2≠71) {n d:Nat} {l:List Nat} {v:V} {k:Nat} (h:rd F n d l= .ok v k):k≤l.length:=by
 unfold rd at h
 obtain ⟨_,j,i,h1,h2,rfl⟩:=bnd_inv h
 obtain ⟨x,j2,i2,h3,h22,rfl⟩:=bnd_inv h2
 obtain ⟨_,j3,i3,h4,h5,rfl⟩:=bnd_inv h22
 have e1:=Loc.blanks.okl _ _ _ h1
 have e2:=((Loc.all hF n).1 d).okl _ _ _ h3
 have e3:=Loc.blanks.okl _ _ _ h4
 rw [List.length_drop] at e2 e3
 rw [List.length_drop] at e3
 split at h5
 ·injection h5 with _ h6;omega
 ·cases h5
theorem tok_le {src:List Nat} (h:src.length≤1100000) (p:Nat):pE (src.drop p)≤1100000:=by
 have h1:=(pf_at (src.drop p)).1
 have h2:=(pf_at (src.drop p)).2.1
 rw [List.length_drop] at h1
 omega
end Go.Proofs.YtjhhdnnblcbdbaaGreatDoor.jp
end
section
namespace Go.Proofs.YtjhhdnnblcbdbaaGreatDoor.jp
open Go.RowKit val
def Up {α:Type} (f g:Ps α):Prop:=∀l a k,f l= .ok a k→g l= .ok a k
section
variable {α β:Type}
theorem Up.refl (f:Ps α):Up f f:=fun _ _ _ h=>h
theorem Up.bnd {f f':Ps α} {g g':α→Ps β} (hf:Up f f') (hg:∀a,Up (g a) (g' a)):Up (jp.bnd f g) (jp.bnd f' g'):=by
 intro l b k h
 obtain ⟨a,j,i,h1,h2,rfl⟩:=bnd_inv h
 exact bnd_ok (hf _ _ _ h1) (hg a _ _ _ h2)
theorem Up.chk {f f':Ps α} {p:α→Bool} {g g':α→Ps β} (hf:Up f f') (hg:∀a,Up (g a) (g' a)):Up (jp.chk f p g) (jp.chk f' p g'):=by
 intro l b k h
 obtain ⟨a,j,i,h1,hp,h2,rfl⟩:=chk_inv h
 rw [chk_ok (hf _ _ _ h1) hp,hg a _ _ _ h2]
 rfl
theorem Up.ite {c:Nat} {a:Ps α} {f f':Ps α} (hf:Up f f'):Up (fun l=>if l.headD 0=c then a l else f l) (fun l=>if l.headD 0=c then a l else f' l):=by
 intro l b k h
 simp only at h ⊢
 by_cases h1:l.headD 0=c
 ·rw [if_pos h1] at h ⊢;exact h
 ·rw [if_neg h1] at h ⊢;exact hf _ _ _ h
theorem Up.ifb {b:Bool} {f f' g:Ps α} (hf:Up f f'):Up (if b=true then f else g) (if b=true then f' else g):=by
 cases b
 ·exact Up.refl _
 ·exact hf
end
theorem up_pieces:∀m acc,Up (pieces m acc) (pieces (m+1) acc)
 | 0,acc=>fun l a k h=>by unfold pieces at h;cases h
 | m+1,acc=>by
   intro l b k h
   unfold pieces at h ⊢
   by_cases h1:l.headD 0<32
   ·rw [if_pos h1] at h;cases h
   rw [if_neg h1] at h ⊢
   by_cases h1:l.headD 0=34
   ·rw [if_pos h1] at h ⊢;exact h
   rw [if_neg h1] at h ⊢
   by_cases h1:l.headD 0=92
   ·rw [if_pos h1] at h ⊢
    exact Up.bnd (Up.refl one) (fun _=>Up.bnd (Up.refl escP) fun b=>up_pieces m (acc++b)) _ _ _ h
   rw [if_neg h1] at h ⊢
   exact Up.bnd (Up.refl group) (fun b=>up_pieces m (acc++b)) _ _ _ h
theorem up_text (m:Nat):Up (text m) (text (m+1)):=Up.bnd (Up.refl _) fun _=>up_pieces m []
theorem up_all (F:Nf):∀n,(∀d,Up (value F n d) (value F (n+1) d))∧(∀d acc,Up (items F n d acc) (items F (n+1) d acc))∧∀d acc,Up (members F n d acc) (members F (n+1) d acc)
 | 0=>⟨fun d l v k h=>(by unfold value at h;cases h),fun d acc l v k h=>(by unfold items at h;cases h),fun d acc l v k h=>(by unfold members at h;cases h)⟩
 | n+1=>by
   obtain ⟨hv,hi,hm⟩:=up_all F n
   refine ⟨fun d l v k h=>?_,fun d acc l v k h=>?_,fun d acc l v k h=>?_⟩
   ·unfold value at h ⊢
    by_cases h1:l.headD 0=110
    ·rw [if_pos h1] at h ⊢;exact h
    rw [if_neg h1] at h ⊢
    by_cases h1:l.headD 0=116
    ·rw [if_pos h1] at h ⊢;exact h
    rw [if_neg h1] at h ⊢
    by_cases h1:l.headD 0=102
    ·rw [if_pos h1] at h ⊢;exact h
    rw [if_neg h1] at h ⊢
    by_cases h1:l.headD 0=34
    ·rw [if_pos h1] at h ⊢
     exact Up.bnd (up_text n) (fun _=>Up.refl _) _ _ _ h
    rw [if_neg h1] at h ⊢
    by_cases h1:l.headD 0=91
    ·rw [if_pos h1] at h ⊢
     exact Up.bnd (Up.refl _) (fun _=>Up.bnd (Up.refl _) fun _=>Up.ite (hi _ _)) _ _ _ h
    rw [if_neg h1] at h ⊢
    by_cases h1:l.headD 0=123
    ·rw [if_pos h1] at h ⊢
     exact Up.bnd (Up.refl _) (fun _=>Up.bnd (Up.refl _) fun _=>Up.ite (hm _ _)) _ _ _ h
    rw [if_neg h1] at h ⊢
    exact h
   ·unfold items at h ⊢
    exact Up.bnd (hv d) (fun v=>Up.bnd (Up.refl _) fun b=>Up.ifb (hi _ _)) _ _ _ h
   ·unfold members at h ⊢
    exact Up.chk (up_text n) (fun key=>Up.bnd (Up.refl _) fun _=>Up.bnd (Up.refl _) fun _=>Up.bnd (Up.refl _) fun _=>Up.bnd (hv d) fun v=>Up.bnd (Up.refl _) fun b=>Up.ifb (hm _ _)) _ _ _ h
theorem value_up {F:Nf} {n m d:Nat} (h:n≤m):Up (value F n d) (value F m d):=by
 obtain ⟨k,rfl⟩:∃k,m=n+k:=⟨m-n,by omega⟩
 clear h
 induction k with
 | zero=>exact Up.refl _
 | succ k ih=>exact fun l a j h1=>(up_all F (n+k)).1 d l a j (ih l a j h1)
def sep (t:List Nat):Prop:=t=[]∨∃c r,t=c :: r∧(bl c=true∨c=44∨c=93∨c=125)
def EndAt {α:Type} (f:Ps α) (a:α):Prop:=∀l,f l= .ok a l.length→∀t,sep t→f (l++t)= .ok a l.length
def End {α:Type} (f:Ps α):Prop:=∀a,EndAt f a
section
variable {α β:Type}
theorem take_app {l t:List Nat} {j:Nat} (h:j<l.length):(l++t).take (j+1)=l.take (j+1):=List.take_append_of_le_length (by omega)
theorem ext_of {f:Ps α} (hl:Loc f) {a:α} (he:EndAt f a) {l:List Nat} {j:Nat} (h:f l= .ok a j) {t:List Nat} (ht:sep t):f (l++t)= .ok a j:=by
 have h1:=hl.okl _ _ _ h
 by_cases h2:j<l.length
 ·exact hl.oka l a j h h2 _ (take_app h2)
 ·obtain rfl:j=l.length:=by omega
  exact he l h t ht
theorem End.ret (a:α):End (jp.ret a):=by
 intro b l h t _
 unfold jp.ret at h ⊢
 injection h with h1 h2
 rw [h1,h2]
theorem End.sat (f:Nat→Option α):End (jp.sat f):=by
 intro b l h t _
 cases l with
 | nil=>simp [jp.sat] at h
 | cons x r=>
   simp only [jp.sat,List.cons_append] at h ⊢
   exact h
theorem EndAt.bnd {f:Ps α} {g:α→Ps β} {b:β} (hf:Loc f) (hgl:∀a,Loc (g a)) (hg:∀a,EndAt (g a) b) (h:∀a,Eats (g a)∨EndAt f a):EndAt (jp.bnd f g) b:=by
 intro l h0 t ht
 obtain ⟨a,j,i,h1,h2,h3⟩:=bnd_inv h0
 have hj:=hf.okl _ _ _ h1
 have hi:i=(l.drop j).length:=by rw [List.length_drop];omega
 subst hi
 have h4:=hg a _ h2 t ht
 have h5:f (l++t)= .ok a j:=by
  by_cases hlt:j<l.length
  ·exact hf.oka l a j h1 hlt _ (take_app hlt)
  ·obtain rfl:j=l.length:=by omega
   rcases h a with h | h
   ·rw [List.drop_length] at h2
    exact absurd h2 (h [] b)
   ·exact h l h1 t ht
 rw [bnd_ok (g:=g) h5 (r:= .ok b (l.drop j).length) (by rw [List.drop_append_of_le_length hj];exact h4),h3]
 rfl
theorem End.bnd {f:Ps α} {g:α→Ps β} (hf:Loc f) (hgl:∀a,Loc (g a)) (hg:∀a,End (g a)) (h:∀a,Eats (g a)∨EndAt f a):End (jp.bnd f g):=fun b=>EndAt.bnd hf hgl (fun a=>hg a b) h
theorem EndAt.chk {f:Ps α} {p:α→Bool} {g:α→Ps β} {b:β} (hf:Loc f) (hgl:∀a,Loc (g a)) (hg:∀a,EndAt (g a) b) (h:∀a,Eats (g a)∨EndAt f a):EndAt (jp.chk f p g) b:=by
 intro l h0 t ht
 obtain ⟨a,j,i,h1,hp,h2,h3⟩:=chk_inv h0
 have hj:=hf.okl _ _ _ h1
 have hi:i=(l.drop j).length:=by rw [List.length_drop];omega
 subst hi
 have h4:=hg a _ h2 t ht
 have h5:f (l++t)= .ok a j:=by
  by_cases hlt:j<l.length
  ·exact hf.oka l a j h1 hlt _ (take_app hlt)
  ·obtain rfl:j=l.length:=by omega
   rcases h a with h | h
   ·rw [List.drop_length] at h2
    exact absurd h2 (h [] b)
   ·exact h l h1 t ht
 rw [chk_ok h5 hp,List.drop_append_of_le_length hj,h4,h3]
 rfl
end
theorem nx_sep (st:Int) {c:Nat} (h:bl c=true∨c=44∨c=93∨c=125):pfx.nx st (c:Int)=9:=by
 have hc:(c:Int)≠45∧(c:Int)≠48∧(c:Int)≠46∧(c:Int)≠101∧(c:Int)≠69∧(c:Int)≠43∧pfx.dig (c:Int)=false:=by
  have:c=32∨c=9∨c=10∨c=13∨c=44∨c=93∨c=125:=by
   rcases h with h | h
   ·unfold bl at h
    simp at h
    omega
   ·omega
  rcases this with rfl | rfl | rfl | rfl | rfl | rfl | rfl <;> decide
 obtain ⟨c1,c2,c3,c4,c5,c6,c7⟩:=hc
 unfold pfx.nx
 simp [c1,c2,c3,c4,c5,c6,c7]
theorem run_sep {t:List Nat} (ht:sep t):∀(l:List Nat) (st e f:Int) (i:Nat),pfx.run st e f i ((l++t).map fun n:Nat=>(n:Int))=pfx.run st e f i (l.map fun n:Nat=>(n:Int))
 | [],st,e,f,i=>by
   rcases ht with rfl | ⟨c,r,rfl,h⟩
   ·rfl
   ·simp only [List.nil_append,List.map_cons,List.map_nil,pfx.run]
    rw [if_pos (nx_sep st h)]
 | x :: l,st,e,f,i=>by
   simp only [List.cons_append,List.map_cons,pfx.run]
   rw [run_sep ht l,run_sep ht l]
theorem End.numP {F:Nf}:End (jp.numP F):=by
 intro a l h t ht
 have hS:pS (l++t)=pS l:=by unfold pS;rw [pf_run,pf_run,run_sep ht]
 have hE:pE (l++t)=pE l:=by unfold pE;rw [pf_run,pf_run,run_sep ht]
 have hle:pE l≤l.length:=Nat.le_trans (pf_at l).2.1 (pf_at l).1
 unfold jp.numP at h ⊢
 rw [hS,hE,List.take_append_of_le_length hle]
 exact h
theorem End.one:End one:=End.sat _
theorem End.want (c:Nat):End (want c):=End.sat _
theorem End.word:∀ws,End (word ws)
 | []=>End.ret ()
 | c :: r=>End.bnd (Loc.want c) (fun _=>Loc.word r) (fun _=>End.word r) fun _=> .inr (End.want c _)
theorem End.head {α:Type} {f:Ps α} (g:Nat→Ps α) (h:∀l,f l=g (l.headD 0) l) (hg:∀c,End (g c)) (h0:Eats f):End f:=by
 intro a l h1 t ht
 have hne:l≠[]:=by rintro rfl;exact h0 _ _ h1
 have hh:(l++t).headD 0=l.headD 0:=by
  cases l with
  | nil=>exact absurd rfl hne
  | cons x r=>rfl
 rw [h] at h1 ⊢
 rw [hh]
 exact hg _ a l h1 t ht
theorem End.er {α:Type} (k:Nat) (e:Int):End (fun _=>(.er k e:Rs α)):=fun a l h=>by cases h
theorem End.digK (m:Int→Int→Bool):∀k a f,End (digK m k a f)
 | 0,a,f=>End.ret a
 | k+1,a,f=>End.bnd (Loc.sat _) (fun _=>Loc.digK m k _ _) (fun _=>End.digK m k _ _) fun _=> .inr (End.sat _ _)
theorem End.escU:End escU:=by
 refine End.bnd (Loc.want _) (fun _=>Loc.bnd (Loc.digs _) fun n=>?_) (fun _=>End.bnd (Loc.digs _) (fun n=>?_) (fun n=>?_) fun _=> .inr (End.digK _ 4 0 (-1) _)) fun _=> .inr (End.want _ _)
 ·split
  ·exact Loc.bnd (Loc.want _) fun _=>Loc.bnd (Loc.want _) fun _=>Loc.bnd (Loc.digs _) fun _=>Loc.ret _
  ·exact Loc.ret _
 ·split
  ·exact Loc.bnd (Loc.want _) fun _=>Loc.bnd (Loc.want _) fun _=>Loc.bnd (Loc.digs _) fun _=>Loc.ret _
  ·exact Loc.ret _
 ·split
  ·exact End.bnd (Loc.want _) (fun _=>Loc.bnd (Loc.want _) fun _=>Loc.bnd (Loc.digs _) fun _=>Loc.ret _) (fun _=>End.bnd (Loc.want _) (fun _=>Loc.bnd (Loc.digs _) fun _=>Loc.ret _) (fun _=>End.bnd (Loc.digs _) (fun _=>Loc.ret _) (fun _=>End.ret _) fun _=> .inr (End.digK _ 4 0 (-1) _)) fun _=> .inr (End.want _ _)) fun _=> .inr (End.want _ _)
  ·exact End.ret _
theorem Eats.escP:Eats jp.escP:=by
 intro l v
 unfold jp.escP
 cases h:mean (l.headD 0) with
 | some b=>exact Eats.bnd Eats.one l v
 | none=>exact Eats.escU l v
theorem End.escP:End jp.escP:=by
 refine End.head (fun c=>match mean c with | some b=>jp.bnd jp.one fun _=>jp.ret [b] | none=>jp.escU) (fun l=>rfl) (fun c=>?_) Eats.escP
 cases mean c with
 | some b=>exact End.bnd Loc.one (fun _=>Loc.ret _) (fun _=>End.ret _) fun _=> .inr (End.one _)
 | none=>exact End.escU
theorem End.conts:∀m lo hi,End (jp.conts m lo hi)
 | 0,lo,hi=>End.ret []
 | m+1,lo,hi=>End.bnd (Loc.sat _) (fun _=>Loc.bnd (Loc.conts _ _ _) fun _=>Loc.ret _) (fun _=>End.bnd (Loc.conts _ _ _) (fun _=>Loc.ret _) (fun _=>End.ret _) fun _=> .inr (End.conts m _ _ _)) fun _=> .inr (End.sat _ _)
theorem End.group:End jp.group:=End.bnd (Loc.sat _) (fun _=>Loc.bnd (Loc.conts _ _ _) fun _=>Loc.ret _) (fun _=>End.bnd (Loc.conts _ _ _) (fun _=>Loc.ret _) (fun _=>End.ret _) fun _=> .inr (End.conts _ _ _ _)) fun _=> .inr (End.sat _ _)
theorem Eats.pieces:∀m acc,Eats (pieces m acc)
 | 0,acc=>fun l v h=>by unfold jp.pieces at h;cases h
 | m+1,acc=>by
   intro l v h
   unfold jp.pieces at h
   split at h
   ·cases h
   ·split at h
    ·exact Eats.bnd Eats.one l v h
    ·split at h
     ·exact Eats.bnd Eats.one l v h
     ·exact Eats.bnd Eats.group l v h
theorem End.pieces:∀m acc,End (pieces m acc)
 | 0,acc=>End.er 0 99
 | m+1,acc=>by
   refine End.head (fun c=>if c<32 then (fun _=> .er 0 50) else if c=34 then (jp.bnd jp.one fun _=>jp.ret acc) else if c=92 then (jp.bnd jp.one fun _=>jp.bnd jp.escP fun b=>jp.pieces m (acc++b)) else (jp.bnd jp.group fun b=>jp.pieces m (acc++b))) (fun l=>by
    conv=>lhs;unfold jp.pieces
    by_cases h1:l.headD 0<32
    ·rw [if_pos h1,if_pos h1]
    rw [if_neg h1,if_neg h1]
    by_cases h2:l.headD 0=34
    ·rw [if_pos h2,if_pos h2]
    rw [if_neg h2,if_neg h2]
    by_cases h3:l.headD 0=92
    ·rw [if_pos h3,if_pos h3]
    rw [if_neg h3,if_neg h3]) (fun c=>?_) (Eats.pieces _ _)
   split
   ·exact End.er 0 50
   ·split
    ·exact End.bnd Loc.one (fun _=>Loc.ret _) (fun _=>End.ret _) fun _=> .inr (End.one _)
    ·split
     ·exact End.bnd Loc.one (fun _=>Loc.bnd Loc.escP fun _=>Loc.pieces _ _) (fun _=>End.bnd Loc.escP (fun _=>Loc.pieces _ _) (fun b=>End.pieces m _) fun _=> .inl (Eats.pieces _ _)) fun _=> .inr (End.one _)
     ·exact End.bnd Loc.group (fun _=>Loc.pieces _ _) (fun b=>End.pieces m _) fun _=> .inl (Eats.pieces _ _)
theorem End.text (m:Nat):End (jp.text m):=End.bnd (Loc.want _) (fun _=>Loc.pieces _ _) (fun _=>End.pieces m []) fun _=> .inl (Eats.pieces _ _)
theorem Eats.brk (c:Nat):Eats (fun l:List Nat=>if l.headD 0=c then (jp.bnd jp.one fun _=>jp.ret false) l else (jp.bnd (jp.want 44) fun _=>jp.bnd jp.blanks fun _=>jp.ret true) l):=by
 intro l v h
 simp only at h
 split at h
 ·exact Eats.bnd Eats.one l v h
 ·exact Eats.bnd (Eats.want 44) l v h
theorem Loc.brk {c:Nat} (hc:c≠0):Loc (fun l:List Nat=>if l.headD 0=c then (jp.bnd jp.one fun _=>jp.ret false) l else (jp.bnd (jp.want 44) fun _=>jp.bnd jp.blanks fun _=>jp.ret true) l):=by
 refine Loc.head (fun x=>if x=c then (jp.bnd jp.one fun _=>jp.ret false) else (jp.bnd (jp.want 44) fun _=>jp.bnd jp.blanks fun _=>jp.ret true)) (fun l=>?_) (fun x=>?_) (Eats.brk c) (fun l e h he=>?_)
 ·split <;> rfl
 ·split
  ·exact Loc.bnd Loc.one fun _=>Loc.ret _
  ·exact Loc.bnd (Loc.want _) fun _=>Loc.bnd Loc.blanks fun _=>Loc.ret _
 ·show (if _ then _ else _)=_
  rw [if_neg (by simp;omega)]
  rfl
theorem more_end {c:Nat} (hc:c≠0):EndAt (jp.more c) false:=by
 refine EndAt.bnd Loc.blanks (fun _=>Loc.brk hc) (fun _=>?_) fun _=> .inl (Eats.brk c)
 intro l h t ht
 have hne:l≠[]:=by rintro rfl;exact Eats.brk c _ _ h
 have hh:(l++t).headD 0=l.headD 0:=by
  cases l with
  | nil=>exact absurd rfl hne
  | cons x r=>rfl
 simp only at h ⊢
 rw [hh]
 split at h
 ·rename_i h1
  rw [if_pos h1]
  exact End.bnd Loc.one (fun _=>Loc.ret _) (fun _=>End.ret _) (fun _=> .inr (End.one _)) _ _ h t ht
 ·obtain ⟨_,_,_,_,h2,_⟩:=bnd_inv h
  obtain ⟨_,_,_,_,h3,_⟩:=bnd_inv h2
  exact absurd (ret_inv h3) (by decide)
theorem End.opn (d:Nat):End (jp.opn d):=by
 intro a l h t ht
 cases l with
 | nil=>simp [jp.opn] at h
 | cons x r=>
   simp only [jp.opn,List.cons_append] at h ⊢
   exact h
theorem Eats.inner {c:Nat} {a:V} {f:Ps V} (hf:Eats f):Eats (fun l:List Nat=>if l.headD 0=c then (jp.bnd jp.one fun _=>jp.ret a) l else f l):=by
 intro l v h
 simp only at h
 split at h
 ·exact Eats.bnd Eats.one l v h
 ·exact hf l v h
theorem End.inner {c:Nat} {a:V} {f:Ps V} (hf:Eats f) (he:End f):End (fun l:List Nat=>if l.headD 0=c then (jp.bnd jp.one fun _=>jp.ret a) l else f l):=by
 refine End.head (fun x=>if x=c then (jp.bnd jp.one fun _=>jp.ret a) else f) (fun l=>by split <;> rfl) (fun x=>?_) (Eats.inner hf)
 split
 ·exact End.bnd Loc.one (fun _=>Loc.ret _) (fun _=>End.ret _) fun _=> .inr (End.one _)
 ·exact he
theorem end_all {F:Nf} (hF:∀l,(F l).2.2.2≠50∧(F l).2.2.2≠71):∀n,(∀d,End (jp.value F n d))∧(∀d acc,End (jp.items F n d acc))∧∀d acc,End (jp.members F n d acc)
 | 0=>⟨fun d=>End.er 0 99,fun d acc=>End.er 0 99,fun d acc=>End.er 0 99⟩
 | n+1=>by
   obtain ⟨hv,hi,hm⟩:=end_all hF n
   obtain ⟨lv,li,lm⟩:=Loc.all hF n
   refine ⟨fun d=>?_,fun d acc=>?_,fun d acc=>?_⟩
   ·refine End.head (fun c=>if c=110 then (jp.bnd (jp.word [110,117,108,108]) fun _=>jp.ret nullV)
     else if c=116 then (jp.bnd (jp.word [116,114,117,101]) fun _=>jp.ret (boolV true))
     else if c=102 then (jp.bnd (jp.word [102,97,108,115,101]) fun _=>jp.ret (boolV false))
     else if c=34 then (jp.bnd (jp.text n) fun b=>jp.ret (strV b))
     else if c=91 then (jp.bnd (jp.opn d) fun _=>jp.bnd jp.blanks fun _ l=>if l.headD 0=93 then (jp.bnd jp.one fun _=>jp.ret (listV [])) l else jp.items F n (d-1) [] l)
     else if c=123 then (jp.bnd (jp.opn d) fun _=>jp.bnd jp.blanks fun _ l=>if l.headD 0=125 then (jp.bnd jp.one fun _=>jp.ret (objV [])) l else jp.members F n (d-1) [] l)
     else jp.numP F) (fun l=>?_) (fun c=>?_) (Eats.value F (n+1) d)
    ·conv=>lhs;unfold jp.value
     by_cases h1:l.headD 0=110
     ·rw [if_pos h1,if_pos h1]
     rw [if_neg h1,if_neg h1]
     by_cases h1:l.headD 0=116
     ·rw [if_pos h1,if_pos h1]
     rw [if_neg h1,if_neg h1]
     by_cases h1:l.headD 0=102
     ·rw [if_pos h1,if_pos h1]
     rw [if_neg h1,if_neg h1]
     by_cases h1:l.headD 0=34
     ·rw [if_pos h1,if_pos h1]
     rw [if_neg h1,if_neg h1]
     by_cases h1:l.headD 0=91
     ·rw [if_pos h1,if_pos h1]
     rw [if_neg h1,if_neg h1]
     by_cases h1:l.headD 0=123
     ·rw [if_pos h1,if_pos h1]
     rw [if_neg h1,if_neg h1]
    ·split
     ·exact End.bnd (Loc.word _) (fun _=>Loc.ret _) (fun _=>End.ret _) fun _=> .inr (End.word _ _)
     ·split
      ·exact End.bnd (Loc.word _) (fun _=>Loc.ret _) (fun _=>End.ret _) fun _=> .inr (End.word _ _)
      ·split
       ·exact End.bnd (Loc.word _) (fun _=>Loc.ret _) (fun _=>End.ret _) fun _=> .inr (End.word _ _)
       ·split
        ·exact End.bnd (Loc.text _) (fun _=>Loc.ret _) (fun _=>End.ret _) fun _=> .inr (End.text _ _)
        ·split
         ·exact End.bnd (Loc.opn _) (fun _=>Loc.bnd Loc.blanks fun _=>Loc.inner (by decide) (li _ _) (Eats.items F _ _ _) (Start.items F _ _ _)) (fun _=>End.bnd Loc.blanks (fun _=>Loc.inner (by decide) (li _ _) (Eats.items F _ _ _) (Start.items F _ _ _)) (fun _=>End.inner (Eats.items F _ _ _) (hi _ _)) fun _=> .inl (Eats.inner (Eats.items F _ _ _))) fun _=> .inr (End.opn _ _)
         ·split
          ·exact End.bnd (Loc.opn _) (fun _=>Loc.bnd Loc.blanks fun _=>Loc.inner (by decide) (lm _ _) (Eats.members F _ _ _) (Start.members F _ _ _)) (fun _=>End.bnd Loc.blanks (fun _=>Loc.inner (by decide) (lm _ _) (Eats.members F _ _ _) (Start.members F _ _ _)) (fun _=>End.inner (Eats.members F _ _ _) (hm _ _)) fun _=> .inl (Eats.inner (Eats.members F _ _ _))) fun _=> .inr (End.opn _ _)
          ·exact End.numP
   ·unfold jp.items
    refine End.bnd (lv d) (fun v=>Loc.bnd (Loc.more _) fun b=>?_) (fun v=>?_) fun v=> .inr (hv d v)
    ·cases b
     ·exact Loc.ret _
     ·exact li _ _
    ·intro w
     refine EndAt.bnd (Loc.more _) (fun b=>?_) (fun b=>?_) fun b=>?_
     ·cases b
      ·exact Loc.ret _
      ·exact li _ _
     ·cases b
      ·exact End.ret _ _
      ·exact hi _ _ _
     ·cases b
      ·exact .inr (more_end (by decide))
      ·exact .inl (Eats.items F _ _ _)
   ·unfold jp.members
    intro w
    have LB:∀key (v:V) (b:Bool),Loc (if b=true then jp.members F n d (acc++[(bt key,v)]) else jp.ret (objV (acc++[(bt key,v)]))):=fun key v b=>by
     cases b
     ·exact Loc.ret _
     ·exact lm _ _
    have LC:∀key (v:V),Loc (jp.bnd (jp.more 125) fun b=>if b=true then jp.members F n d (acc++[(bt key,v)]) else jp.ret (objV (acc++[(bt key,v)]))):=fun key v=>Loc.bnd (Loc.more _) (LB key v)
    have LD:∀key,Loc (jp.bnd (jp.value F n d) fun v=>jp.bnd (jp.more 125) fun b=>if b=true then jp.members F n d (acc++[(bt key,v)]) else jp.ret (objV (acc++[(bt key,v)]))):=fun key=>Loc.bnd (lv d) (LC key)
    refine EndAt.chk (Loc.text _) (fun key=>Loc.bnd Loc.blanks fun _=>Loc.bnd (Loc.want _) fun _=>Loc.bnd Loc.blanks fun _=>LD key) (fun key=>?_) fun key=> .inr (End.text _ _)
    refine EndAt.bnd Loc.blanks (fun _=>Loc.bnd (Loc.want _) fun _=>Loc.bnd Loc.blanks fun _=>LD key) (fun _=>?_) fun _=> .inl (Eats.bnd (Eats.want _))
    refine EndAt.bnd (Loc.want _) (fun _=>Loc.bnd Loc.blanks fun _=>LD key) (fun _=>?_) fun _=> .inr (End.want _ _)
    refine EndAt.bnd Loc.blanks (fun _=>LD key) (fun _=>?_) fun _=> .inl (Eats.bnd (Eats.value F _ _))
    refine EndAt.bnd (lv d) (fun v=>LC key v) (fun v=>?_) fun v=> .inr (hv d v)
    refine EndAt.bnd (Loc.more _) (LB key v) (fun b=>?_) fun b=>?_
    ·cases b
     ·exact End.ret _ _
     ·exact hm _ _ _
    ·cases b
     ·exact .inr (more_end (by decide))
     ·exact .inl (Eats.members F _ _ _)
end Go.Proofs.YtjhhdnnblcbdbaaGreatDoor.jp
end
section
namespace Go.Proofs.YtjhhdnnblcbdbaaGreatDoor.txt
open Go.Lib
def hexd (n:Nat):Int:=if n<10 then 48+n else 87+n
def escB (r:Nat):Nat:=
 if r=34∨r=92 then r else if 32≤r then 0 else if r=8 then 98 else if r=9 then 116 else if r=10 then 110 else if r=12 then 102 else if r=13 then 114 else 117
def escZ (r:Nat):List Int:=
 if escB r=0 then encodeRuneZ r else if escB r=117 then [92,117,48,48,hexd (r/16),hexd (r % 16)] else [92,escB r]
def runesN:Nat→List UInt8→List Nat
 | 0,_=>[]
 | n+1,l=>if l=[] then [] else (decodeL l).1 :: runesN n (l.drop (decodeL l).2)
def runes (l:List UInt8):List Nat:=runesN l.length l
def encZ (l:List UInt8):List Int:=(runes l).flatMap escZ
def quoteZ (l:List UInt8):List Int:=34 :: (encZ l++[34])
theorem runesN_nil (n:Nat):runesN n []=[]:=by cases n <;> simp [runesN]
theorem runesN_fuel:∀(n m:Nat) (l:List UInt8),l.length≤n→l.length≤m→runesN n l=runesN m l
 | 0,m,l,hn,_=>by
   obtain rfl:l=[]:=List.eq_nil_of_length_eq_zero (by omega)
   rw [runesN_nil,runesN_nil]
 | n+1,0,l,_,hm=>by
   obtain rfl:l=[]:=List.eq_nil_of_length_eq_zero (by omega)
   rw [runesN_nil,runesN_nil]
 | n+1,m+1,l,hn,hm=>by
   unfold runesN
   by_cases hne:l=[]
   ·simp [hne]
   ·have hw:=decodeL_width l
    have hl:0<l.length:=List.length_pos_iff.2 hne
    rw [if_neg hne,if_neg hne,runesN_fuel n m (l.drop (decodeL l).2) (by rw [List.length_drop];omega) (by rw [List.length_drop];omega)]
theorem runes_nil:runes []=[]:=rfl
theorem runes_step (l:List UInt8) (hne:l≠[]):runes l=(decodeL l).1 :: runes (l.drop (decodeL l).2):=by
 have hl:0<l.length:=List.length_pos_iff.2 hne
 have hw:=decodeL_width l
 obtain ⟨n,hn⟩:∃n,l.length=n+1:=⟨l.length-1,by omega⟩
 unfold runes
 rw [hn]
 show (if l=[] then _ else _)=_
 rw [if_neg hne,runesN_fuel n (l.drop (decodeL l).2).length _ (by rw [List.length_drop];omega) (Nat.le_refl _)]
theorem encZ_nil:encZ []=[]:=rfl
theorem encZ_step (l:List UInt8) (hne:l≠[]):encZ l=escZ (decodeL l).1++encZ (l.drop (decodeL l).2):=by
 unfold encZ
 rw [runes_step l hne]
 rfl
theorem hexd_byte {n:Nat} (h:n<16):0≤hexd n∧hexd n<256:=by unfold hexd;split <;> omega
theorem escB_lt (r:Nat):escB r<256:=by
 unfold escB
 repeat' split
 all_goals omega
theorem escB_low {r:Nat} (h:escB r=117):r<32:=by
 unfold escB at h
 split at h
 ·omega
 ·split at h <;> omega
theorem escZ_byte (r:Nat):∀x∈escZ r,0≤x∧x<256:=by
 intro x hx
 unfold escZ at hx
 split at hx
 ·exact encodeRuneZ_byte _ x hx
 ·split at hx
  ·rename_i h
   have hr:=escB_low h
   have h1:=hexd_byte (n:=r/16) (by omega)
   have h2:=hexd_byte (n:=r % 16) (by omega)
   simp only [List.mem_cons,List.mem_nil_iff,or_false] at hx
   rcases hx with rfl | rfl | rfl | rfl | rfl | rfl <;> omega
  ·have:=escB_lt r
   simp only [List.mem_cons,List.mem_nil_iff,or_false] at hx
   rcases hx with rfl | rfl <;> omega
theorem encZ_byte (l:List UInt8):∀x∈encZ l,0≤x∧x<256:=by
 intro x hx
 unfold encZ at hx
 obtain ⟨r,_,hr⟩:=List.mem_flatMap.1 hx
 exact escZ_byte r x hr
theorem quoteZ_byte (l:List UInt8):∀x∈quoteZ l,0≤x∧x<256:=by
 intro x hx
 simp only [quoteZ,List.mem_cons,List.mem_append,List.mem_nil_iff,or_false] at hx
 rcases hx with rfl | h | rfl
 ·omega
 ·exact encZ_byte l x h
 ·omega
theorem escZ_length (r:Nat):(escZ r).length≤6:=by
 unfold escZ
 split
 ·have:=(encodeRuneZ_length r).2;omega
 ·split <;> simp
theorem encZ_length:∀(n:Nat) (l:List UInt8),l.length≤n→(encZ l).length≤6*n
 | 0,l,h=>by
   obtain rfl:l=[]:=List.eq_nil_of_length_eq_zero (by omega)
   simp [encZ_nil]
 | n+1,l,h=>by
   by_cases hne:l=[]
   ·subst hne;simp [encZ_nil]
   ·have hw:=decodeL_width l
    have hl:0<l.length:=List.length_pos_iff.2 hne
    rw [encZ_step l hne,List.length_append]
    have h1:=escZ_length (decodeL l).1
    have h2:=encZ_length n (l.drop (decodeL l).2) (by rw [List.length_drop];omega)
    omega
theorem dN2 (n b0 b1 b2 b3:Nat) (h0:b0/32=6) (hn:1<n) (h1:b1/64=2) (hv:128≤b0 % 32*64+b1 % 64):decodeN n b0 b1 b2 b3=(b0 % 32*64+b1 % 64,2):=by
 unfold decodeN
 rw [if_neg (by omega),if_pos ⟨h0,hn,h1⟩,if_pos hv]
theorem dN3 (n b0 b1 b2 b3:Nat) (h0:b0/16=14) (hn:2<n) (h1:b1/64=2) (h2:b2/64=2) (hv:2048≤b0 % 16*4096+b1 % 64*64+b2 % 64)
  (hw:b0 % 16*4096+b1 % 64*64+b2 % 64<55296∨57344≤b0 % 16*4096+b1 % 64*64+b2 % 64):decodeN n b0 b1 b2 b3=(b0 % 16*4096+b1 % 64*64+b2 % 64,3):=by
 unfold decodeN
 rw [if_neg (by omega),if_neg (by omega),if_pos ⟨h0,⟨by omega,h1⟩,hn,h2⟩,if_pos ⟨hv,by omega⟩]
theorem dN4 (n b0 b1 b2 b3:Nat) (h0:b0/8=30) (hn:3<n) (h1:b1/64=2) (h2:b2/64=2) (h3:b3/64=2) (hv:65536≤b0 % 8*262144+b1 % 64*4096+b2 % 64*64+b3 % 64)
  (hw:b0 % 8*262144+b1 % 64*4096+b2 % 64*64+b3 % 64≤1114111):decodeN n b0 b1 b2 b3=(b0 % 8*262144+b1 % 64*4096+b2 % 64*64+b3 % 64,4):=by
 unfold decodeN
 rw [if_neg (by omega),if_neg (by omega),if_neg (by omega),if_pos ⟨h0,⟨by omega,h1⟩,⟨by omega,h2⟩,hn,h3⟩,if_pos ⟨hv,by omega⟩]
theorem getD_appL (l r:List UInt8) (k:Nat) (h:k<l.length):(l++r).getD k 0=l.getD k 0:=by
 simp only [List.getD]
 rw [List.getElem?_append_left h]
theorem decodeL_app (l r:List UInt8) (hne:l≠[]) (hv:¬((decodeL l).1=65533∧(decodeL l).2=1)):decodeL (l++r)=decodeL l:=by
 have hl:0<l.length:=List.length_pos_iff.2 hne
 rw [decodeL_N] at hv
 rw [decodeL_N,decodeL_N l]
 have hlen:(l++r).length=l.length+r.length:=List.length_append
 rcases decodeN_shape l.length (l.getD 0 0).toNat (l.getD 1 0).toNat (l.getD 2 0).toNat (l.getD 3 0).toNat with ⟨c,e⟩ | ⟨c1,c2,c3,cv,e⟩ | ⟨c1,c2,c3,c4,cv,cs,e⟩ | ⟨c1,c2,c3,c4,c5,cv,cw,e⟩ | e
 ·rw [e,getD_appL l r 0 hl]
  unfold decodeN
  rw [if_pos c]
 ·rw [e,getD_appL l r 0 hl,getD_appL l r 1 c2]
  exact dN2 _ _ _ _ _ c1 (by omega) c3 cv
 ·rw [e,getD_appL l r 0 hl,getD_appL l r 1 (by omega),getD_appL l r 2 c2]
  exact dN3 _ _ _ _ _ c1 (by omega) c3 c4 cv cs
 ·rw [e,getD_appL l r 0 hl,getD_appL l r 1 (by omega),getD_appL l r 2 (by omega),getD_appL l r 3 c2]
  exact dN4 _ _ _ _ _ c1 (by omega) c3 c4 c5 cv cw
 ·rw [e] at hv
  exact absurd ⟨rfl,rfl⟩ hv
theorem valid_step {l:List UInt8} (hne:l≠[]) (h:validD l=true):¬((decodeL l).1=65533∧(decodeL l).2=1)∧validD (l.drop (decodeL l).2)=true:=by
 rw [validD_step l hne] at h
 split at h
 ·cases h
 ·exact ⟨by assumption,h⟩
theorem app_both:∀(n:Nat) (l r:List UInt8),l.length≤n→validD l=true→validD (l++r)=validD r∧encZ (l++r)=encZ l++encZ r
 | 0,l,r,h,_=>by
   obtain rfl:l=[]:=List.eq_nil_of_length_eq_zero (by omega)
   exact ⟨rfl,rfl⟩
 | n+1,l,r,h,hv=>by
   by_cases hne:l=[]
   ·subst hne;exact ⟨rfl,rfl⟩
   ·have hw:=decodeL_width l
    have hle:=decodeL_le l hne
    obtain ⟨h1,h2⟩:=valid_step hne hv
    have hd:=decodeL_app l r hne h1
    have hnr:l++r≠[]:=by simp [hne]
    obtain ⟨i1,i2⟩:=app_both n (l.drop (decodeL l).2) r (by rw [List.length_drop];omega) h2
    have hdr:(l++r).drop (decodeL l).2=l.drop (decodeL l).2++r:=List.drop_append_of_le_length hle
    rw [validD_step _ hnr,hd,if_neg h1,hdr,encZ_step _ hnr,hd,hdr,i1,i2,encZ_step l hne,List.append_assoc]
    exact ⟨rfl,rfl⟩
end Go.Proofs.YtjhhdnnblcbdbaaGreatDoor.txt
end
section
namespace Go.Proofs.YtjhhdnnblcbdbaaGreatDoor.txt
open Go.Lib
def frN (n:Nat):Nat:=if n=0 then 34 else if n=1 then 92 else if n=2 then 98 else if n=3 then 116 else if n=4 then 110 else if n=5 then 102 else 114
def toN (n:Nat):Nat:=if n=0 then 34 else if n=1 then 92 else if n=2 then 8 else if n=3 then 9 else if n=4 then 10 else if n=5 then 12 else 13
inductive Un:List Int→List Int→Prop
 | nil:Un [] []
 | byte (x:Nat) (z o:List Int) (h1:32≤x) (h2:x<256) (h3:x≠34) (h4:x≠92) (h:Un z o):Un ((x:Int) :: z) ((x:Int) :: o)
 | esc (n:Nat) (z o:List Int) (h1:n<7) (h:Un z o):Un (92 :: (frN n:Int) :: z) ((toN n:Int) :: o)
 | sm (r:Nat) (z o:List Int) (h1:r<32) (h2:r≠8) (h3:r≠9) (h4:r≠10) (h5:r≠12) (h6:r≠13) (h:Un z o):Un (92 :: 117 :: 48 :: 48 :: hexd (r/16) :: hexd (r % 16) :: z) ((r:Int) :: o)
def ints (l:List UInt8):List Int:=l.map fun x=>(x.toNat:Int)
theorem ints_app (l r:List UInt8):ints (l++r)=ints l++ints r:=by simp [ints]
theorem Un.bytes {z o:List Int} (h:Un z o):∀(l:List Int),(∀x∈l,32≤x∧x<256∧x≠34∧x≠92)→Un (l++z) (l++o)
 | [],_=>h
 | x :: l,hl=>by
   obtain ⟨h1,h2,h3,h4⟩:=hl x (by simp)
   have hx:x=(x.toNat:Int):=by omega
   rw [hx]
   exact Un.byte x.toNat _ _ (by omega) (by omega) (by omega) (by omega) (Un.bytes h l fun y hy=>hl y (by simp [hy]))
theorem encode_plain {r:Nat} (h:32≤r) (h1:r≠34) (h2:r≠92):∀x∈encodeRuneZ r,32≤x∧x<256∧x≠34∧x≠92:=by
 intro x hx
 unfold encodeRuneZ at hx
 split at hx
 ·simp at hx;omega
 ·split at hx
  ·simp at hx;omega
  ·split at hx
   ·simp at hx;omega
   ·split at hx
    ·simp at hx;omega
    ·simp at hx;omega
theorem ints_encode {r:Int} (l:List UInt8) (h:encodeRune r=l):ints l=encodeRuneZ r:=by
 subst h
 unfold ints encodeRune
 rw [List.map_map]
 have hb:=encodeRuneZ_byte r
 refine (List.map_congr_left fun x hx=>?_).trans (List.map_id _)
 have:=hb x hx
 simp only [Function.comp]
 have h2:x.toNat.toUInt8.toNat=x.toNat:=by
  rw [Nat.toUInt8,UInt8.toNat_ofNat']
  omega
 rw [h2]
 simp
 omega
theorem escB_zero {r:Nat} (h:escB r=0):32≤r∧r≠34∧r≠92:=by
 unfold escB at h
 split at h
 ·omega
 ·split at h
  ·omega
  ·repeat' split at h
   all_goals omega
theorem escB_letter {r:Nat} (h0:escB r≠0) (h1:escB r≠117):∃n,n<7∧escB r=frN n∧r=toN n:=by
 unfold escB at*
 split at h0
 ·rename_i h
  rcases h with rfl | rfl
  ·exact ⟨0,by omega,rfl,rfl⟩
  ·exact ⟨1,by omega,rfl,rfl⟩
 ·rename_i h
  rw [if_neg h] at h1 ⊢
  split at h0
  ·omega
  ·rename_i h'
   rw [if_neg h'] at h1 ⊢
   by_cases e1:r=8
   ·subst e1;exact ⟨2,by omega,rfl,rfl⟩
   by_cases e2:r=9
   ·subst e2;exact ⟨3,by omega,rfl,rfl⟩
   by_cases e3:r=10
   ·subst e3;exact ⟨4,by omega,rfl,rfl⟩
   by_cases e4:r=12
   ·subst e4;exact ⟨5,by omega,rfl,rfl⟩
   by_cases e5:r=13
   ·subst e5;exact ⟨6,by omega,rfl,rfl⟩
   rw [if_neg e1,if_neg e2,if_neg e3,if_neg e4,if_neg e5] at h1
   omega
theorem escB_u {r:Nat} (h:escB r=117):r<32∧r≠8∧r≠9∧r≠10∧r≠12∧r≠13:=by
 refine ⟨escB_low h,?_,?_,?_,?_,?_⟩ <;> (rintro rfl;revert h;decide)
theorem un_step {r:Nat} {z o:List Int} (h:Un z o):Un (escZ r++z) ((if escB r=0 then encodeRuneZ r else [(r:Int)])++o):=by
 unfold escZ
 by_cases e0:escB r=0
 ·rw [if_pos e0,if_pos e0]
  obtain ⟨h1,h2,h3⟩:=escB_zero e0
  exact h.bytes _ (encode_plain h1 h2 h3)
 ·rw [if_neg e0,if_neg e0]
  by_cases e1:escB r=117
  ·rw [if_pos e1]
   obtain ⟨a,b,c,d,e,f⟩:=escB_u e1
   exact Un.sm r z o a b c d e f h
  ·rw [if_neg e1]
   obtain ⟨n,hn,h1,h2⟩:=escB_letter e0 e1
   rw [h1]
   conv=>arg 2;rw [h2]
   exact Un.esc n z o hn h
theorem encode_low {r:Nat} (h:escB r≠0):encodeRuneZ r=[(r:Int)]:=by
 refine encodeRuneZ_one (by omega) ?_
 by_cases e1:escB r=117
 ·have:=escB_low e1;omega
 ·obtain ⟨n,hn,_,h2⟩:=escB_letter h e1
  rw [h2]
  unfold toN
  repeat' split
  all_goals omega
theorem un_enc:∀(n:Nat) (l:List UInt8),l.length≤n→validD l=true→Un (encZ l) (ints l)
 | 0,l,h,_=>by
   obtain rfl:l=[]:=List.eq_nil_of_length_eq_zero (by omega)
   exact Un.nil
 | n+1,l,h,hv=>by
   by_cases hne:l=[]
   ·subst hne;exact Un.nil
   ·have hw:=decodeL_width l
    obtain ⟨h1,h2⟩:=valid_step hne hv
    have ih:=un_enc n (l.drop (decodeL l).2) (by rw [List.length_drop];have:=List.length_pos_iff.2 hne;omega) h2
    have he:=ints_encode _ (encode_decode l hne h1)
    rw [encZ_step l hne]
    have hs:=un_step (r:=(decodeL l).1) ih
    have:ints l=(if escB (decodeL l).1=0 then encodeRuneZ (decodeL l).1 else [((decodeL l).1:Int)])++ints (l.drop (decodeL l).2):=by
     split
     ·rw [←he,←ints_app,List.take_append_drop]
     ·rename_i hz
      rw [←encode_low hz,←he,←ints_app,List.take_append_drop]
    rw [this]
    exact hs
end Go.Proofs.YtjhhdnnblcbdbaaGreatDoor.txt
end
section
namespace Go.Proofs.YtjhhdnnblcbdbaaGreatDoor.jp
open Go.RowKit val txt Go.Lib
def nts (z:List Int):List Nat:=z.map Int.toNat
theorem nts_app (a b:List Int):nts (a++b)=nts a++nts b:=by simp [nts]
theorem sh_sh {α:Type} (r:Rs α) (a b:Nat):(r.sh a).sh b=r.sh (b+a):=by
 cases r <;> simp [Rs.sh,Nat.add_assoc]
theorem grp1 (a:Nat) (rest:List Nat) (ha:a<128):group (a :: rest)= .ok [a] 1:=by
 have hc:cls a=some (0,128,191):=by unfold cls;rw [if_pos ha]
 simp [group,bnd,sat,hc,conts,ret,Rs.sh]
theorem grp2 (a b:Nat) (rest:List Nat) (ha:194≤a∧a≤223) (hb:128≤b∧b≤191):group (a :: b :: rest)= .ok [a,b] 2:=by
 have hc:cls a=some (1,128,191):=by unfold cls;rw [if_neg (by omega),if_pos ha]
 simp [group,bnd,sat,hc,conts,hb.1,hb.2,ret,Rs.sh]
theorem grp3 (a b c:Nat) (rest:List Nat) (ha:224≤a∧a≤239) (hb:128≤b∧b≤191) (h1:a=224→160≤b) (h2:a=237→b≤159) (hc3:128≤c∧c≤191):group (a :: b :: c :: rest)= .ok [a,b,c] 3:=by
 obtain ⟨lo,hlo⟩:∃lo,(if a=224 then 160 else 128)=lo:=⟨_,rfl⟩
 obtain ⟨hi,hhi⟩:∃hi,(if a=237 then 159 else 191)=hi:=⟨_,rfl⟩
 have hc:cls a=some (2,lo,hi):=by unfold cls;rw [if_neg (by omega),if_neg (by omega),if_pos ha,hlo,hhi]
 have e1:lo≤b:=by rw [←hlo];split <;> omega
 have e2:b≤hi:=by rw [←hhi];split <;> omega
 simp [group,bnd,sat,hc,conts,e1,e2,hc3.1,hc3.2,ret,Rs.sh]
theorem grp4 (a b c e:Nat) (rest:List Nat) (ha:240≤a∧a≤244) (hb:128≤b∧b≤191) (h1:a=240→144≤b) (h2:a=244→b≤143) (hc3:128≤c∧c≤191) (he:128≤e∧e≤191):group (a :: b :: c :: e :: rest)= .ok [a,b,c,e] 4:=by
 obtain ⟨lo,hlo⟩:∃lo,(if a=240 then 144 else 128)=lo:=⟨_,rfl⟩
 obtain ⟨hi,hhi⟩:∃hi,(if a=244 then 143 else 191)=hi:=⟨_,rfl⟩
 have hc:cls a=some (3,lo,hi):=by unfold cls;rw [if_neg (by omega),if_neg (by omega),if_neg (by omega),if_pos ha,hlo,hhi]
 have e1:lo≤b:=by rw [←hlo];split <;> omega
 have e2:b≤hi:=by rw [←hhi];split <;> omega
 simp [group,bnd,sat,hc,conts,e1,e2,hc3.1,hc3.2,he.1,he.2,ret,Rs.sh]
theorem group_enc (r:Nat) (hr:r<55296∨(57344≤r∧r≤1114111)) (rest:List Nat):group (nts (encodeRuneZ r)++rest)= .ok (nts (encodeRuneZ r)) (encodeRuneZ r).length:=by
 by_cases h1:r≤127
 ·rw [encodeRuneZ_one (by omega) (by omega)]
  exact grp1 _ _ (by show ((r:Int)).toNat<128;omega)
 by_cases h2:r≤2047
 ·rw [encodeRuneZ_two (by omega) (by omega)]
  exact grp2 _ _ _ (by omega) (by omega)
 by_cases h3:r≤65535
 ·rw [encodeRuneZ_three (by omega)]
  exact grp3 _ _ _ _ (by omega) (by omega) (by omega) (by omega) (by omega)
 ·rw [encodeRuneZ_four (by omega) (by omega)]
  exact grp4 _ _ _ _ _ (by omega) (by omega) (by omega) (by omega) (by omega) (by omega)
theorem pcs_grp {m:Nat} {acc l b:List Nat} {k:Nat} (hg:group l= .ok b k) (h1:32≤l.headD 0) (h2:l.headD 0≠34) (h3:l.headD 0≠92):pieces (m+1) acc l=(pieces m (acc++b) (l.drop k)).sh k:=by
 simp only [pieces]
 rw [if_neg (by omega),if_neg h2,if_neg h3]
 exact bnd_ok hg rfl
theorem pcs_back {m:Nat} {acc l b:List Nat} {k:Nat} (hg:escP l= .ok b k):pieces (m+1) acc (92 :: l)=(pieces m (acc++b) (l.drop k)).sh (k+1):=by
 simp only [pieces]
 rw [if_neg (by simp),if_neg (by simp),if_pos (by simp)]
 rw [bnd_ok (a:=()) (j:=1) rfl (bnd_ok (f:=escP) (l:=l) hg rfl),sh_sh,Nat.add_comm]
theorem esc_one {x v:Nat} {rest:List Nat} (h:mean x=some v):escP (x :: rest)= .ok [v] 1:=by
 simp [escP,h,bnd,one,sat,ret,Rs.sh]
theorem hx_hexd {n:Nat} (h:n<16):hx (hexd n)=n:=by
 unfold hexd hx
 split <;> (repeat' split) <;> omega
theorem dig_one {t:Int→Bool} {x:Nat} {a:Int} {rest:List Nat} (h:hx (x:Int)=a) (h0:0≤a) (ht:t a=true):digit t (x :: rest)= .ok a 1:=by
 subst h
 simp [digit,sat,h0,ht]
theorem esc_small {r:Nat} {rest:List Nat} (h:r<32):escP (117 :: 48 :: 48 :: (hexd (r/16)).toNat :: (hexd (r % 16)).toNat :: rest)= .ok [r] 5:=by
 have b1:=hexd_byte (n:=r/16) (by omega)
 have b2:=hexd_byte (n:=r % 16) (by omega)
 have a1:hx (((hexd (r/16)).toNat:Nat):Int)=((r/16:Nat):Int):=by rw [show (((hexd (r/16)).toNat:Nat):Int)=hexd (r/16) by omega,hx_hexd (by omega)]
 have a2:hx (((hexd (r % 16)).toNat:Nat):Int)=((r % 16:Nat):Int):=by rw [show (((hexd (r % 16)).toNat:Nat):Int)=hexd (r % 16) by omega,hx_hexd (by omega)]
 have hd:digs mayH (48 :: 48 :: (hexd (r/16)).toNat :: (hexd (r % 16)).toNat :: rest)= .ok ((r:Nat):Int) 4:=by
  unfold digs
  simp only [digK]
  rw [bnd_ok (dig_one (x:=48) (a:=0) (by decide) (by decide) (by decide)) (bnd_ok (dig_one (x:=48) (a:=0) (by decide) (by decide) (by decide)) (bnd_ok (dig_one a1 (by omega) (by rfl)) (bnd_ok (dig_one a2 (by omega) (by rfl)) rfl)))]
  simp only [Rs.sh,ret,Rs.ok.injEq,and_true]
  have:=Nat.div_add_mod r 16
  omega
 have he:enc ((r:Nat):Int)=[r]:=by
  unfold enc
  rw [if_pos (.inl ⟨by omega,by omega⟩),encodeRuneZ_one (by omega) (by omega)]
  simp
 have hu:escU (117 :: 48 :: 48 :: (hexd (r/16)).toNat :: (hexd (r % 16)).toNat :: rest)= .ok [r] 5:=by
  unfold escU
  rw [bnd_ok (a:=()) (j:=1) rfl (bnd_ok hd (r:= .ok [r] 0) (by
   show (if _ then _ else _:Ps (List Nat)) _=_
   rw [if_neg (by omega),he]
   rfl))]
  rfl
 exact hu
theorem low_byte {r:Nat} (h:escB r≠0):nts (encodeRuneZ r)=[r]:=by rw [encode_low h];simp [nts]
theorem pcs_one {m r:Nat} {acc rest:List Nat} (hr:r<55296∨(57344≤r∧r≤1114111)):pieces (m+1) acc (nts (escZ r)++rest)=(pieces m (acc++nts (encodeRuneZ r)) rest).sh (escZ r).length:=by
 unfold escZ
 by_cases e0:escB r=0
 ·rw [if_pos e0]
  obtain ⟨h1,h2,h3⟩:=escB_zero e0
  have hp:=encode_plain h1 h2 h3
  have hl:=(encodeRuneZ_length (r:Int)).1
  obtain ⟨x,t,hx⟩:∃x t,encodeRuneZ (r:Int)=x :: t:=by
   cases h:encodeRuneZ (r:Int) with
   | nil=>rw [h] at hl;simp at hl
   | cons x t=>exact ⟨x,t,rfl⟩
  have hh:(nts (encodeRuneZ r)++rest).headD 0=x.toNat:=by rw [hx];rfl
  have hx2:=hp x (by rw [hx];simp)
  have hlen:(nts (encodeRuneZ r)).length=(encodeRuneZ (r:Int)).length:=by simp [nts]
  rw [pcs_grp (group_enc r hr rest) (by omega) (by omega) (by omega),←hlen,List.drop_left]
 ·rw [if_neg e0,low_byte e0]
  by_cases e1:escB r=117
  ·rw [if_pos e1]
   obtain ⟨a,_⟩:=escB_u e1
   exact pcs_back (esc_small (rest:=rest) a)
  ·rw [if_neg e1]
   obtain ⟨n,hn,h1,h2⟩:=escB_letter e0 e1
   have hm:mean (escB r)=some r:=by
    rw [h1]
    conv=>rhs;rw [h2]
    have:∀n:Fin 7,mean (frN n)=some (toN n):=by decide
    exact this ⟨n,hn⟩
   exact pcs_back (esc_one (rest:=rest) hm)
theorem rune_ok {l:List UInt8} (hne:l≠[]) (hv:¬((decodeL l).1=65533∧(decodeL l).2=1)):(decodeL l).1<55296∨(57344≤(decodeL l).1∧(decodeL l).1≤1114111):=by
 rw [decodeL_N] at hv ⊢
 rcases decodeN_shape l.length (l.getD 0 0).toNat (l.getD 1 0).toNat (l.getD 2 0).toNat (l.getD 3 0).toNat with ⟨c,e⟩ | ⟨c1,c2,c3,cv,e⟩ | ⟨c1,c2,c3,c4,cv,cs,e⟩ | ⟨c1,c2,c3,c4,c5,cv,cw,e⟩ | e
 ·rw [e];dsimp only;omega
 ·rw [e];dsimp only;omega
 ·rw [e];dsimp only;omega
 ·rw [e];dsimp only;omega
 ·rw [e] at hv;exact absurd ⟨rfl,rfl⟩ hv
theorem nts_ints (l:List UInt8):nts (ints l)=l.map UInt8.toNat:=by simp [nts,ints]
theorem pcs_enc:∀(n:Nat) (l:List UInt8),l.length≤n→validD l=true→∀(m:Nat) (acc rest:List Nat),l.length<m→pieces m acc (nts (encZ l)++34 :: rest)= .ok (acc++l.map UInt8.toNat) ((encZ l).length+1)
 | n,l,h,hv=>by
   intro m acc rest hm
   obtain ⟨m,rfl⟩:∃k,m=k+1:=⟨m-1,by omega⟩
   by_cases hne:l=[]
   ·subst hne
    show pieces (m+1) acc (34 :: rest)=_
    simp only [pieces]
    rw [if_neg (by simp),if_pos (by simp)]
    simp [bnd,one,sat,ret,Rs.sh,encZ_nil]
   ·have hw:=decodeL_width l
    have hl:=List.length_pos_iff.2 hne
    obtain ⟨n,rfl⟩:∃k,n=k+1:=⟨n-1,by omega⟩
    obtain ⟨h1,h2⟩:=valid_step hne hv
    have he:=ints_encode _ (encode_decode l hne h1)
    rw [encZ_step l hne,nts_app,List.append_assoc,pcs_one (rune_ok hne h1),pcs_enc n (l.drop (decodeL l).2) (by rw [List.length_drop];omega) h2 m _ rest (by rw [List.length_drop];omega),←he,nts_ints,List.append_assoc,←List.map_append,List.take_append_drop,List.length_append]
    simp only [Rs.sh,Rs.ok.injEq,true_and]
    omega
theorem text_enc (l:List UInt8) (hv:validD l=true) (m:Nat) (rest:List Nat) (hm:l.length<m):text m (nts (quoteZ l)++rest)= .ok (l.map UInt8.toNat) (quoteZ l).length:=by
 have e:nts (quoteZ l)++rest=34 :: (nts (encZ l)++34 :: rest):=by simp [nts,quoteZ]
 have hlen:(quoteZ l).length=(encZ l).length+2:=by simp [quoteZ]
 unfold text
 rw [e,bnd_ok (a:=()) (j:=1) rfl (pcs_enc l.length l (Nat.le_refl _) hv m [] rest hm),hlen]
 simp only [Rs.sh,List.nil_append,Rs.ok.injEq,true_and]
 omega
theorem rd_text (F:Nf) (n d:Nat) (l:List UInt8) (hv:validD l=true) (hn:l.length<n):∃k,rd F (n+1) d (nts (quoteZ l))= .ok (strV (l.map UInt8.toNat)) k:=by
 have ht:=text_enc l hv n [] hn
 rw [List.append_nil] at ht
 have hh:(nts (quoteZ l)).headD 0=34:=rfl
 have hval:value F (n+1) d (nts (quoteZ l))= .ok (strV (l.map UInt8.toNat)) (quoteZ l).length:=by
  simp only [value]
  rw [if_neg (by omega),if_neg (by omega),if_neg (by omega),if_pos hh]
  rw [bnd_ok ht rfl]
  rfl
 have hlen:(quoteZ l).length=(nts (quoteZ l)).length:=by simp [nts]
 have hbl:blanks (nts (quoteZ l))= .ok () 0:=by unfold blanks;rw [cnt_head (by rw [hh];rfl)]
 apply Exists.intro
 unfold rd
 rw [bnd_ok hbl rfl,List.drop_zero,bnd_ok hval (r:= .ok (strV (l.map UInt8.toNat)) 0) (by rw [hlen,List.drop_length];rfl)]
 rfl
end Go.Proofs.YtjhhdnnblcbdbaaGreatDoor.jp
end
section
namespace Go.Proofs.YtjhhdnnblcbdbaaGreatDoor.jp
open Go.RowKit val txt Go.Lib
def non (c:Nat):Prop:=∀st:Int,pfx.nx st (c:Int)=9
theorem non_of {c:Nat} (h:c=34∨c=92∨c=117):non c:=by
 intro st
 have hc:(c:Int)≠45∧(c:Int)≠48∧(c:Int)≠46∧(c:Int)≠101∧(c:Int)≠69∧(c:Int)≠43∧pfx.dig (c:Int)=false:=by
  rcases h with rfl | rfl | rfl <;> decide
 obtain ⟨c1,c2,c3,c4,c5,c6,c7⟩:=hc
 unfold pfx.nx
 simp [c1,c2,c3,c4,c5,c6,c7]
def stp (b:List Nat):Prop:=b=[]∨∃c r,b=c :: r∧non c
theorem run_stp {t:List Nat} (ht:stp t):∀(l:List Nat) (st e f:Int) (i:Nat),pfx.run st e f i ((l++t).map fun n:Nat=>(n:Int))=pfx.run st e f i (l.map fun n:Nat=>(n:Int))
 | [],st,e,f,i=>by
   rcases ht with rfl | ⟨c,r,rfl,h⟩
   ·rfl
   ·simp only [List.nil_append,List.map_cons,List.map_nil,pfx.run]
    rw [if_pos (h st)]
 | x :: l,st,e,f,i=>by
   simp only [List.cons_append,List.map_cons,pfx.run]
   rw [run_stp ht l,run_stp ht l]
def Nr (z:List Nat) (m:Nat):Prop:=∃a b,z=a++b∧a.length≤m∧stp b
theorem Nr.pE {z:List Nat} {m:Nat} (h:Nr z m):jp.pE z≤m:=by
 obtain ⟨a,b,rfl,hm,hb⟩:=h
 have hE:jp.pE (a++b)=jp.pE a:=by unfold jp.pE;rw [pf_run,pf_run,run_stp hb]
 rw [hE]
 exact Nat.le_trans (pf_at a).2.1 (Nat.le_trans (pf_at a).1 hm)
theorem Nr.app {z:List Nat} {m:Nat} (h:Nr z m) (l:List Nat) {k:Nat} (hk:l.length+m≤k):Nr (l++z) k:=by
 obtain ⟨a,b,rfl,hm,hb⟩:=h
 exact ⟨l++a,b,by rw [List.append_assoc],by rw [List.length_append];omega,hb⟩
theorem Nr.now {c:Nat} {r:List Nat} (h:non c) (k:Nat):Nr (c :: r) k:=⟨[],_,rfl,Nat.zero_le _,.inr ⟨c,r,rfl,h⟩⟩
theorem drop_split {E z:List Nat} (p:Nat):(p<E.length∧(E++z).drop p=E.drop p++z)∨(E++z).drop p=z.drop (p-E.length):=by
 by_cases h:p<E.length
 ·exact .inl ⟨h,List.drop_append_of_le_length (by omega)⟩
 ·right
  rw [show p=E.length+(p-E.length) by omega,←List.drop_drop,List.drop_left]
  congr 1
  omega
theorem nr_enc:∀(n:Nat) (l:List UInt8),l.length≤n→validD l=true→Nr (nts (encZ l)++[34]) l.length∧∀p,Nr ((nts (encZ l)++[34]).drop p) (l.length+4)
 | n,l,h,hv=>by
   by_cases hne:l=[]
   ·subst hne
    refine ⟨Nr.now (non_of (.inl rfl)) _,fun p=>?_⟩
    cases p with
    | zero=>exact Nr.now (non_of (.inl rfl)) _
    | succ p=>exact ⟨[],[],by simp [encZ_nil,nts],Nat.zero_le _,.inl rfl⟩
   ·have hw:=decodeL_width l
    have hl:=List.length_pos_iff.2 hne
    obtain ⟨n,rfl⟩:∃k,n=k+1:=⟨n-1,by omega⟩
    obtain ⟨h1,h2⟩:=valid_step hne hv
    have he:=encode_decode l hne h1
    have hle:=decodeL_le l hne
    have hdl:(l.drop (decodeL l).2).length=l.length-(decodeL l).2:=List.length_drop ..
    obtain ⟨ih1,ih2⟩:=nr_enc n (l.drop (decodeL l).2) (by omega) h2
    have hlen:(encodeRuneZ ((decodeL l).1:Int)).length=(decodeL l).2:=by
     have:=congrArg List.length he
     rw [List.length_take] at this
     simp only [encodeRune,List.length_map] at this
     omega
    rw [encZ_step l hne,nts_app,List.append_assoc]
    generalize nts (encZ (l.drop (decodeL l).2))++[34]=z at*
    unfold escZ
    by_cases e0:escB (decodeL l).1=0
    ·rw [if_pos e0]
     have hE:(nts (encodeRuneZ ((decodeL l).1:Int))).length=(decodeL l).2:=by simp [nts,hlen]
     refine ⟨ih1.app _ (by omega),fun p=>?_⟩
     rcases drop_split (E:=nts (encodeRuneZ ((decodeL l).1:Int))) (z:=z) p with ⟨hp,e⟩ | e
     ·rw [e]
      exact ih1.app _ (by rw [List.length_drop];omega)
     ·rw [e]
      obtain ⟨a,b,e1,e2,e3⟩:=ih2 (p-(nts (encodeRuneZ ((decodeL l).1:Int))).length)
      exact ⟨a,b,e1,by omega,e3⟩
    ·rw [if_neg e0]
     by_cases e1:escB (decodeL l).1=117
     ·rw [if_pos e1]
      refine ⟨Nr.now (non_of (.inr (.inl rfl))) _,fun p=>?_⟩
      rcases drop_split (E:=nts [92,117,48,48,hexd ((decodeL l).1/16),hexd ((decodeL l).1 % 16)]) (z:=z) p with ⟨hp,e⟩ | e
      ·rw [e]
       match p,hp with
       | 0,_=>exact Nr.now (non_of (.inr (.inl rfl))) _
       | 1,_=>exact Nr.now (non_of (.inr (.inr rfl))) _
       | p+2,hp=>exact ih1.app _ (by rw [List.length_drop];simp [nts];omega)
      ·rw [e]
       obtain ⟨a,b,e1,e2,e3⟩:=ih2 (p-(nts [92,117,48,48,hexd ((decodeL l).1/16),hexd ((decodeL l).1 % 16)]).length)
       exact ⟨a,b,e1,by omega,e3⟩
     ·rw [if_neg e1]
      refine ⟨Nr.now (non_of (.inr (.inl rfl))) _,fun p=>?_⟩
      rcases drop_split (E:=nts [92,(escB (decodeL l).1:Int)]) (z:=z) p with ⟨hp,e⟩ | e
      ·rw [e]
       match p,hp with
       | 0,_=>exact Nr.now (non_of (.inr (.inl rfl))) _
       | p+1,hp=>exact ih1.app _ (by rw [List.length_drop];simp [nts];omega)
      ·rw [e]
       obtain ⟨a,b,e1,e2,e3⟩:=ih2 (p-(nts [92,(escB (decodeL l).1:Int)]).length)
       exact ⟨a,b,e1,by omega,e3⟩
theorem tok_text (l:List UInt8) (hv:validD l=true) (p:Nat):pE ((nts (quoteZ l)).drop p)≤l.length+4:=by
 have e:nts (quoteZ l)=34 :: (nts (encZ l)++[34]):=by simp [nts,quoteZ]
 rw [e]
 cases p with
 | zero=>exact (Nr.now (non_of (.inl rfl)) _).pE
 | succ p=>exact ((nr_enc l.length l (Nat.le_refl _) hv).2 p).pE
end Go.Proofs.YtjhhdnnblcbdbaaGreatDoor.jp
end
section
namespace Go.Proofs.YtjhhdnnblcbdbaaGreatDoor.arr
open Go.RowKit
section
variable {P:Program}
theorem run_alloc_new (w:World) (t:TypeId) (old:Value) (z:Value) (hz:(P.info? t).bind (·.zero)=some z):(Instr.alloc t true old).run P w= .ok (.pointer (some ⟨w.heap.size,0,none⟩)) (w.alloc (.cells z.cells t)):=by
 cases hi:P.info? t with
 | none=>simp [hi] at hz
 | some i=>
   simp only [hi,Option.bind_some] at hz
   simp [Instr.alloc,zeroValue,typeInfo,hi,hz,newVar,newRow,newObj,Sem.run,Result.andThen]
   try rfl
theorem wpList_allocNew {ops:Array Oper} {rest:List Oper} {o:Oper} {a:Act} {w:World} {Q:Exit→Act→World→Prop} (hg:o.guard=none) (t:TypeId) (ho:o.op= .alloc t) (d:Tmp) (hd:o.dst=some d)
  (z:Value) (hz:(P.info? t).bind (·.zero)=some z)
  (h:wpList P ops Q rest (a.put o.dst (.pointer (some ⟨w.heap.size,0,none⟩))) (w.alloc (.cells z.cells t))):wpList P ops Q (o :: rest) a w:=
 wpList_plain hg fun _ hK=>by
  unfold Oper.wp execOp
  simp only [ho,Sem.run_bind,run_alloc_new w t _ z hz,Result.andThen_ok]
  exact hK _ _ h
theorem wpList_allocTo {ops:Array Oper} {rest:List Oper} {o:Oper} {a:Act} {w:World} {Q:Exit→Act→World→Prop} (hg:o.guard=none) (t:TypeId) (ho:o.op= .alloc t) (d:Tmp) (hd:o.dst=some d)
  (zc:Array Value) (hz:((P.info? t).bind (·.zero)).map (·.cells)=some zc)
  (h:wpList P ops Q rest (a.put (some d) (.pointer (some ⟨w.heap.size,0,none⟩))) (w.alloc (.cells zc t))):wpList P ops Q (o :: rest) a w:=by
 cases hi:(P.info? t).bind (·.zero) with
 | none=>simp [hi] at hz
 | some z=>
   simp only [hi,Option.map_some,Option.some.injEq] at hz
   subst hz
   exact wpList_allocNew hg t ho d hd z hi (hd▸h)
theorem wpList_buildTo {ops:Array Oper} {rest:List Oper} {o:Oper} {a:Act} {w:World} {Q:Exit→Act→World→Prop} (hg:o.guard=none) (t:TypeId) (parts:Array (Nat×Operand)) (ho:o.op= .build t parts) (d:Tmp) (hd:o.dst=some d)
  (cells:Array Value) (hf:P.built t (parts.map fun (i,x)=>(i,a.eval x)).toList=some cells)
  (h:wpList P ops Q rest (a.put (some d) (.agg cells)) w):wpList P ops Q (o :: rest) a w:=
 wpList_plain hg fun _ hK=>by
  unfold Oper.wp execOp
  simp only [ho,Sem.run_bind,run_build w t _ cells hf,Result.andThen_ok]
  have:=hK _ _ h
  rw [←hd] at this
  exact this
theorem setRow_new (w:World) (a b:Array Value) (t:TypeId):(w.alloc (.cells a t)).setRow w.heap.size b=w.alloc (.cells b t):=by
 unfold World.setRow World.alloc
 congr 1
 apply Array.ext
 ·simp
 ·intro i h1 h2
  simp only [Array.getElem_modify,Array.getElem_push]
  simp at h1
  split <;> split <;> first | rfl | omega | (exfalso;omega) | simp_all
theorem wpList_storeNew {ops:Array Oper} {rest:List Oper} {o:Oper} {a:Act} {w:World} {Q:Exit→Act→World→Prop} (hg:o.guard=none) (ty:TypeId) (x y:Operand) (ho:o.op= .store ty x y) (hd:o.dst=none)
  (cells old:Array Value) (hx:a.eval x= .pointer (some ⟨w.heap.size,0,none⟩)) (hy:a.eval y= .agg cells)
  (hi:(P.info? ty).map (·.size)=some cells.size) (hold:old.size=cells.size) (h1:cells.all (·.oneCell')=true)
  (h:wpList P ops Q rest a (w.alloc (.cells cells ty))):wpList P ops Q (o :: rest) a (w.alloc (.cells old ty)):=
 wpList_store_row hg ty x y ho w.heap.size cells hx hy ty old (heap_alloc_new w _) hi hold h1 (by rw [hd,setRow_new];exact h)
end
end Go.Proofs.YtjhhdnnblcbdbaaGreatDoor.arr
end
section
namespace Go.Proofs.YtjhhdnnblcbdbaaGreatDoor.esc
open Go.RowKit mem txt arr
def tabL:List Value:=[.int .u8 0,.int .u8 0,.int .u8 0,.int .u8 0,.int .u8 0,.int .u8 0,.int .u8 0,.int .u8 0,.int .u8 98,.int .u8 116,.int .u8 110,.int .u8 0,.int .u8 102,.int .u8 114,.int .u8 0,.int .u8 0,.int .u8 0,.int .u8 0,.int .u8 0,.int .u8 0,.int .u8 0,.int .u8 0,.int .u8 0,.int .u8 0,.int .u8 0,.int .u8 0,.int .u8 0,.int .u8 0,.int .u8 0,.int .u8 0,.int .u8 0,.int .u8 0]
def tabN (r:Nat):Nat:=if r=8 then 98 else if r=9 then 116 else if r=10 then 110 else if r=12 then 102 else if r=13 then 114 else 0
theorem tabL_at:∀(r:Nat),r<32→tabL[r]? =some (.int .u8 (tabN r:Nat))
 | 0,_=>rfl
 | 1,_=>rfl
 | 2,_=>rfl
 | 3,_=>rfl
 | 4,_=>rfl
 | 5,_=>rfl
 | 6,_=>rfl
 | 7,_=>rfl
 | 8,_=>rfl
 | 9,_=>rfl
 | 10,_=>rfl
 | 11,_=>rfl
 | 12,_=>rfl
 | 13,_=>rfl
 | 14,_=>rfl
 | 15,_=>rfl
 | 16,_=>rfl
 | 17,_=>rfl
 | 18,_=>rfl
 | 19,_=>rfl
 | 20,_=>rfl
 | 21,_=>rfl
 | 22,_=>rfl
 | 23,_=>rfl
 | 24,_=>rfl
 | 25,_=>rfl
 | 26,_=>rfl
 | 27,_=>rfl
 | 28,_=>rfl
 | 29,_=>rfl
 | 30,_=>rfl
 | 31,_=>rfl
 | n+32,h=>by omega
theorem escB_tab {r:Nat} (h:r<32):escB r=if tabN r=0 then 117 else tabN r:=by
 unfold escB tabN
 repeat' split
 all_goals omega
def tabA:Array Value:=tabL.toArray
def zeroA:Array Value:=(List.replicate 32 (Value.int .u8 0)).toArray
set_option maxRecDepth 100000 in
theorem escape_lo (r:Nat) (h:r<32) (w:World):Calls Tryz.prog 72 #[.int .i32 r] w fun e w'=>e= .returned (.int .u8 (escB r))∧∃o,w'=w.alloc o:=by
 have b1:((r:Int)==34)=false:=by simp;omega
 have b2:((r:Int)==92)=false:=by simp;omega
 have d3:decide ((r:Int)≥32)=false:=decide_eq_false (by omega)
 rw [escB_tab h]
 obtain ⟨t,ht⟩:∃t,tabN r=t:=⟨_,rfl⟩
 rw [ht]
 go_enter Tryz.func72,Tryz.ntmps72
 go_upto_region 2 with (first | (refine wpList_buildTo rfl 160 _ rfl 4 rfl tabA (by kernel_rfl) ?_) | (refine wpList_allocTo rfl 160 rfl 3 rfl zeroA (by kernel_rfl) ?_) | (refine wpList_storeNew rfl 160 (.tmp 3) (.tmp 4) rfl rfl tabA zeroA rfl rfl (by kernel_rfl) rfl (by kernel_rfl) ?_))
 have hc:(w.alloc (.cells tabA 160)).cell? ⟨w.heap.size,r,none⟩=some (.int .u8 (t:Nat)):=by
  rw [←ht,cell_of_row (w.alloc (.cells tabA 160)) w.heap.size r tabA 160 (0,0) (heap_alloc_new w _)]
  simpa [tabA] using tabL_at r h
 obtain ⟨W,hW⟩:∃W,w.alloc (.cells tabA 160)=W:=⟨_,rfl⟩
 rw [hW] at hc ⊢
 generalize tabA=TA at*
 have HW:=Lib.hid hW
 clear hW
 by_cases h0:t=0
 ·subst h0
  go_wp2
  go_ret
  exact ⟨rfl,_,HW.out.symm⟩
 ·have b4:((t:Int)==0)=false:=by simp;omega
  have b5:((t:Int) !=0)=true:=by simp;omega
  go_wp2
  go_ret
  exact ⟨rfl,_,HW.out.symm⟩
set_option maxRecDepth 100000 in
theorem escape_hi (r:Nat) (h:32≤r) (hr:r≤1114111) (w:World):Calls Tryz.prog 72 #[.int .i32 r] w fun e w'=>e= .returned (.int .u8 (escB r))∧∃o,w'=w.alloc o:=by
 have d3:decide ((r:Int)≥32)=true:=decide_eq_true (by omega)
 by_cases h1:r=34
 ·subst h1
  go_enter Tryz.func72,Tryz.ntmps72
  go_upto_region 2 with (first | (refine wpList_buildTo rfl 160 _ rfl 4 rfl tabA (by kernel_rfl) ?_) | (refine wpList_allocTo rfl 160 rfl 3 rfl zeroA (by kernel_rfl) ?_) | (refine wpList_storeNew rfl 160 (.tmp 3) (.tmp 4) rfl rfl tabA zeroA rfl rfl (by kernel_rfl) rfl (by kernel_rfl) ?_))
  generalize tabA=TA at*
  go_wp2
  go_ret
  exact ⟨rfl,_,rfl⟩
 ·by_cases h2:r=92
  ·subst h2
   go_enter Tryz.func72,Tryz.ntmps72
   go_upto_region 2 with (first | (refine wpList_buildTo rfl 160 _ rfl 4 rfl tabA (by kernel_rfl) ?_) | (refine wpList_allocTo rfl 160 rfl 3 rfl zeroA (by kernel_rfl) ?_) | (refine wpList_storeNew rfl 160 (.tmp 3) (.tmp 4) rfl rfl tabA zeroA rfl rfl (by kernel_rfl) rfl (by kernel_rfl) ?_))
   generalize tabA=TA at*
   go_wp2
   go_ret
   exact ⟨rfl,_,rfl⟩
  ·have b1:((r:Int)==34)=false:=by simp;omega
   have b2:((r:Int)==92)=false:=by simp;omega
   rw [show escB r=0 by unfold escB;rw [if_neg (by omega),if_pos h]]
   go_enter Tryz.func72,Tryz.ntmps72
   go_upto_region 2 with (first | (refine wpList_buildTo rfl 160 _ rfl 4 rfl tabA (by kernel_rfl) ?_) | (refine wpList_allocTo rfl 160 rfl 3 rfl zeroA (by kernel_rfl) ?_) | (refine wpList_storeNew rfl 160 (.tmp 3) (.tmp 4) rfl rfl tabA zeroA rfl rfl (by kernel_rfl) rfl (by kernel_rfl) ?_))
   generalize tabA=TA at*
   go_wp2
   go_ret
   exact ⟨rfl,_,rfl⟩
theorem escape_any (r:Nat) (hr:r≤1114111) (w:World):Calls Tryz.prog 72 #[.int .i32 r] w fun e w'=>e= .returned (.int .u8 (escB r))∧∃o,w'=w.alloc o:=by
 by_cases h:r<32
 ·exact escape_lo r h w
 ·exact escape_hi r (by omega) hr w
end Go.Proofs.YtjhhdnnblcbdbaaGreatDoor.esc
end
section
namespace Go.Proofs.YtjhhdnnblcbdbaaGreatDoor.app
open Go.RowKit mem txt esc
def zs (l:List Int):List Value:=l.map fun x=>Value.int .u8 x
theorem zs_length (l:List Int):(zs l).length=l.length:=by simp [zs]
theorem zs_append (l r:List Int):zs (l++r)=zs l++zs r:=by simp [zs]
theorem zs_one (l:List Int):∀u∈zs l,u.oneCell'=true:=by
 intro u hu
 simp only [zs,List.mem_map] at hu
 obtain ⟨x,_,rfl⟩:=hu
 rfl
theorem infoB:(Tryz.prog.info? 5).map (fun i=>(i.zero,i.size,i.bytes))=some (some (.int .u8 0),1,1):=by kernel_rfl
theorem own_kept {w w':World} {base:Nat} {e:TypeId} {size n:Nat} {v:Value} {xs:List Value} (h:w.ownsRow base e size v n xs) (hk:∀g,v.ownBlock=some g→w'.heap[g]? =w.heap[g]?):w'.ownsRow base e size v n xs:=by
 refine ⟨h.1,?_⟩
 rcases h.2 with h0 | ⟨g,cap,cur,hv,hb,hg,hr⟩
 ·exact .inl h0
 ·exact .inr ⟨g,cap,cur,hv,hb,(hk g (by rw [hv];rfl)).trans hg,hr⟩
theorem own_cells {w:World} {base:Nat} {e:TypeId} {size n:Nat} {v:Value} {xs:List Value} (h:w.ownsRow base e size v n xs):∀g,v.ownBlock=some g→∃cur,w.heap[g]? =some (.cells cur e (0,0)):=by
 intro g hg
 rcases h.2 with ⟨rfl,_⟩ | ⟨g',cap,cur,rfl,_,hgg,_⟩
 ·simp [Value.ownBlock] at hg
 ·simp [Value.ownBlock] at hg
  subst hg
  exact ⟨cur,hgg⟩
theorem own_iterAt {w:World} {base:Nat} {e:TypeId} {size n:Nat} {v:Value} {xs:List Value} (h:w.ownsRow base e size v n xs) {k:Nat} {s:ByteArray} {pos:Nat} (hk:w.heap[k]? =some (.stringIter s pos)) (pos':Nat):(w.iterAt k s pos').ownsRow base e size v n xs:=
 own_kept h fun g hg=>Lib.iterAt_other w k g s pos' fun e1=>by
  obtain ⟨cur,hc⟩:=own_cells h g hg
  rw [e1,hk] at hc
  cases hc
theorem iter_grown {w w':World} {base:Nat} {e:TypeId} {size n:Nat} {v:Value} {xs:List Value} (h:w.ownsRow base e size v n xs) {k:Nat} {s:ByteArray} {pos:Nat} (hk:w.heap[k]? =some (.stringIter s pos)) (hg:w.grownBy w' v.ownBlock):w'.heap[k]? =some (.stringIter s pos):=by
 have hlt:k<w.heap.size:=(Array.getElem?_eq_some_iff.1 hk).1
 rw [hg.block k hlt ?_]
 ·exact hk
 ·intro h2
  obtain ⟨cur,hc⟩:=own_cells h k h2.symm
  rw [hk] at hc
  cases hc
theorem iter_alloc {w:World} {k:Nat} {s:ByteArray} {pos:Nat} (hk:w.heap[k]? =some (.stringIter s pos)) (o:Obj):(w.alloc o).heap[k]? =some (.stringIter s pos):=
 (Lib.alloc_old w o k (Array.getElem?_eq_some_iff.1 hk).1).trans hk
theorem and15:∀r:Fin 32,bits .and .i32 (r.val:Int) 15=((r.val % 16:Nat):Int):=by decide
theorem digits_at:∀(x:Nat) (h:x<16),((⟨#[48,49,50,51,52,53,54,55,56,57,97,98,99,100,101,102]⟩:ByteArray)[x]'h).toNat=hexd x
 | 0,_=>rfl
 | 1,_=>rfl
 | 2,_=>rfl
 | 3,_=>rfl
 | 4,_=>rfl
 | 5,_=>rfl
 | 6,_=>rfl
 | 7,_=>rfl
 | 8,_=>rfl
 | 9,_=>rfl
 | 10,_=>rfl
 | 11,_=>rfl
 | 12,_=>rfl
 | 13,_=>rfl
 | 14,_=>rfl
 | 15,_=>rfl
 | n+16,h=>by omega
theorem kept_iterAt {a w:World} (h:Lib.OthersKept 5 none a w) {k:Nat} (hk:a.heap.size≤k) (s:ByteArray) (pos:Nat):Lib.OthersKept 5 none a (w.iterAt k s pos):=
 fun j o hj hb ho=>by
  have hlt:j<a.heap.size:=(Array.getElem?_eq_some_iff.1 hj).1
  rw [Lib.iterAt_other _ _ _ _ _ (by omega)]
  exact h j o hj hb ho
theorem kept_app {a w w':World} {base n:Nat} {v:Value} {xs:List Value} {o:Obj} (h:Lib.OthersKept 5 none a w) (hown:w.ownsRow base 5 1 v n xs) (hg:(w.alloc o).grownBy w' v.ownBlock):Lib.OthersKept 5 none a w':=
 (h.alloc o).grown hg fun g hgv=>by
  obtain ⟨cur,hc⟩:=own_cells (hown.alloc o) g hgv
  exact ⟨cur,_,hc⟩
def RowPost (B n:Nat) (xs:List Value) (out:List Int) (w:World) (e:Ending) (w':World):Prop:=
 ∃v',e= .returned v'∧w'.ownsRow B 5 1 v' (n+out.length) (xs++zs out)∧Below B w w'∧Lib.OthersKept 5 none w w'
set_option maxRecDepth 100000 in
set_option maxHeartbeats 4000000 in
theorem appendText_any (s:ByteArray) (hs:s.size≤4194304) (B:Nat) (v:Value) (n:Nat) (xs:List Value) (w:World) (hown:w.ownsRow B 5 1 v n xs) (hB:B≤w.heap.size) (hn:n≤1099511627776):
  Calls Tryz.prog 43 #[v,.string s] w (RowPost B n xs (quoteZ s.data.toList) w):=by
 obtain ⟨iv,hiv,hv0,hv1,hv2⟩:=info_parts infoB
 have HO:=Lib.hid hown
 clear hown
 go_enter Tryz.func43,Tryz.ntmps43
 go_wp2_with (at_builtin;go_must (refine wpList_app _ rfl (.tmp 8) (.tmp 9) _ rfl B 5 iv (.int .u8 0) 1 1 Tryz.underlying22 hiv hv0 hv1 hv2 rfl (by omega) v n xs rfl (HO.out.alloc _) (w.heap.size+1) (some ⟨w.heap.size,0,none⟩) 1 1 [.int .u8 34] rfl rfl (Rd.new w [.int .u8 34] 5) (by simp) (by intro u hu;simp at hu;subst hu;rfl) (by unfold maxLen;omega) (by omega) (by simp;omega) ?_;intro v1 w1 hown1 hgrow1 hat1;have HO1:=Lib.hid hown1;have HG1:=Lib.hid hgrow1;clear hown1 hgrow1 hat1))
 have hb1:Below B w w1:=below_app1 (Below.refl _ _) HO.out (Nat.le_refl _) hB HG1.out
 have hz1:B≤w1.heap.size:=by have:=hb1.size;omega
 have hw1:w.heap.size≤w1.heap.size:=by have:=HG1.out.size;simp at this;omega
 have hk1:Lib.OthersKept 5 none w w1:=kept_app (Lib.OthersKept.refl _ _ _) HO.out HG1.out
 clear HG1 HO
 go_loopw [0] (fun v0 wr=>∃(pos:Nat) (done:List Int) (vv:Value),vv=v0∧wr.ownsRow B 5 1 vv (n+done.length) (xs++zs done)∧wr.heap[w1.heap.size]? =some (.stringIter s pos)∧Below B w wr∧Lib.OthersKept 5 none w wr∧pos≤s.size∧Hid (done++encZ (s.data.toList.drop pos)=34 :: encZ s.data.toList)∧done.length≤1+6*pos) (fun _ wr=>s.size-wr.iterPos w1.heap.size)
 case atStart=>
  exact ⟨0,[34],_,rfl,HO1.out.alloc _,World.iter_heap w1 s 0,hb1.alloc hz1 _,hk1.alloc _,Nat.zero_le _,rfl,by simp⟩
 case round=>
  obtain ⟨pos,done,vv,rfl,hown,hit,hb,hk,hpos,hacc,hlen⟩:=hrel
  have hszr:w1.heap.size<wr.heap.size:=(Array.getElem?_eq_some_iff.1 hit).1
  have hszL:=Lib.size_eq s
  have HOr:=Lib.hid hown
  clear hown
  by_cases hp:pos<s.size
  ·have hwd:=Lib.decode_width_pos s pos hp
   have hle:=decode_le s pos
   have hne:s.data.toList.drop pos≠[]:=by
    intro h0
    have:=congrArg List.length h0
    rw [List.length_drop] at this
    simp at this
    omega
   have hr1:(Utf8.decode s pos).1≤1114111:=by
    rw [←Lib.decodeL_drop]
    exact Lib.decodeL_rune _
   have hpw:pos+(Utf8.decode s pos).2≤s.size:=by
    have h1:=Lib.decodeL_le _ hne
    rw [Lib.decodeL_drop,List.length_drop] at h1
    omega
   have hst:encZ (s.data.toList.drop pos)=escZ (Utf8.decode s pos).1++encZ (s.data.toList.drop (pos+(Utf8.decode s pos).2)):=by
    rw [encZ_step _ hne,Lib.decodeL_drop,List.drop_drop]
   have hnx:∀ty,(Instr.next (.pointer (some ⟨w1.heap.size,0,none⟩)) true ty).run Tryz.prog wr=_:=fun ty=>Lib.run_next_any_at wr w1.heap.size s pos ty hit hp
   have hO2:=own_iterAt HOr.out hit (pos+(Utf8.decode s pos).2)
   have hit2:=Lib.iterAt_heap wr w1.heap.size s pos (pos+(Utf8.decode s pos).2) hit
   have hb2:=Lib.below_iterAt hb (k:=w1.heap.size) hz1 s (pos+(Utf8.decode s pos).2)
   have hk2:=kept_iterAt hk (k:=w1.heap.size) hw1 s (pos+(Utf8.decode s pos).2)
   have hz2:(wr.iterAt w1.heap.size s (pos+(Utf8.decode s pos).2)).heap.size=wr.heap.size:=Lib.iterAt_size _ _ _ _
   rw [hst] at hacc
   have HST:=Lib.hid hst
   have HAC:=Lib.hid hacc
   have hmz:∀W:World,W.heap[w1.heap.size]? =some (.stringIter s (pos+(Utf8.decode s pos).2))→s.size-W.iterPos w1.heap.size<s.size-wr.iterPos w1.heap.size:=fun W hW=>by
    simp only [World.iterPos,hW,hit]
    omega
   have HM:=Lib.hid hmz
   clear hst hne hacc hmz hit hle HOr
   obtain ⟨q,hq⟩:∃q,pos+(Utf8.decode s pos).2=q:=⟨_,rfl⟩
   obtain ⟨r,hr⟩:∃r,(Utf8.decode s pos).1=r:=⟨_,rfl⟩
   rw [hq] at hpw hnx hO2 hit2 hb2 hk2 hz2 HM HAC
   rw [hr] at hr1 hnx HAC
   obtain ⟨W,hW⟩:∃W,wr.iterAt w1.heap.size s q=W:=⟨_,rfl⟩
   rw [hW] at hnx hO2 hit2 hb2 hk2 hz2
   clear hW HST
   have HO2:=Lib.hid hO2
   have HI2:=Lib.hid hit2
   clear hO2 hit2
   have hqp:pos+1≤q:=by omega
   clear hq hr hwd
   go_wp2_with fail
   refine (escape_any r hr1 _).mono ?_
   rintro e w' ⟨rfl,o,rfl⟩
   have HO3:=Lib.hid (HO2.out.alloc o)
   have HI3:=Lib.hid (iter_alloc HI2.out o)
   have hb3:Below B w (W.alloc o):=hb2.alloc (by omega) o
   have hk3:Lib.OthersKept 5 none w (W.alloc o):=hk2.alloc o
   have hz3:wr.heap.size+1=(W.alloc o).heap.size:=by simp;omega
   generalize W.alloc o=W3 at*
   clear HO2 HI2 hb2 hk2 hz2 hnx
   obtain ⟨el,hel⟩:∃el,escB r=el:=⟨_,rfl⟩
   have hez:escZ r=if el=0 then Lib.encodeRuneZ r else if el=117 then [92,117,48,48,hexd (r/16),hexd (r % 16)] else [92,(el:Int)]:=by rw [←hel];rfl
   have hlow:el=117→r<32:=fun h=>escB_low (by rw [hel];exact h)
   have hel6:=escZ_length r
   rw [hel]
   clear hel
   have HZ:=Lib.hid hez
   clear hez
   by_cases e0:el=0
   ·subst e0
    rw [show escZ r=Lib.encodeRuneZ r from HZ.out] at hel6 HAC
    go_wp2_with fail
    refine (shelf.utf8_AppendRune_plain B vv (n+done.length) (xs++zs done) r (by omega) (by omega) _ HO3.out (by omega) (by omega)).mono ?_
    rintro e w' ⟨v',rfl,hown',o',hgrow'⟩
    have hit5:=iter_grown (HO3.out.alloc o') (iter_alloc HI3.out o') hgrow'
    have hb5:Below B w w':=below_app1 hb3 HO3.out (Nat.le_refl _) (by omega) hgrow'
    have hk5:Lib.OthersKept 5 none w w':=kept_app hk3 HO3.out hgrow'
    have hOn:w'.ownsRow B 5 1 v' (n+(done++Lib.encodeRuneZ r).length) (xs++zs (done++Lib.encodeRuneZ r)):=by
     have h1:=hown'
     rw [zs_append,←List.append_assoc,show n+(done++Lib.encodeRuneZ r).length=n+done.length+(Lib.runeCells r).length by simp [Lib.runeCells];omega]
     exact h1
    clear hown' hgrow' hb3 hz3
    have HF:=Lib.hid (And.intro hit5 (And.intro hb5 (And.intro hk5 hOn)))
    clear hit5 hb5 hk5 hk3 hOn
    go_wp2_with fail
    exact ⟨⟨q,done++Lib.encodeRuneZ r,_,rfl,HF.out.2.2.2,HF.out.1,HF.out.2.1,HF.out.2.2.1,hpw,by rw [List.append_assoc];exact HAC.out,by rw [List.length_append];omega⟩,HM.out _ HF.out.1⟩
   ·by_cases e1:el=117
    ·subst e1
     have hr32:=hlow rfl
     rw [show escZ r=[92,117,48,48,hexd (r/16),hexd (r % 16)] from HZ.out] at hel6 HAC
     obtain ⟨x,hx⟩:∃x,r/16=x:=⟨_,rfl⟩
     obtain ⟨y,hy⟩:∃y,r % 16=y:=⟨_,rfl⟩
     have hx1:(r:Int)/16=(x:Int):=by omega
     have hy1:bits .and .i32 (r:Int) 15=(y:Int):=by rw [and15 ⟨r,hr32⟩,hy]
     have hx2:x<16:=by omega
     have hy2:y<16:=by omega
     obtain ⟨X,hX⟩:∃X,((⟨#[48,49,50,51,52,53,54,55,56,57,97,98,99,100,101,102]⟩:ByteArray)[x]'hx2).toNat=X:=⟨_,rfl⟩
     obtain ⟨Y,hY⟩:∃Y,((⟨#[48,49,50,51,52,53,54,55,56,57,97,98,99,100,101,102]⟩:ByteArray)[y]'hy2).toNat=Y:=⟨_,rfl⟩
     have hX2:hexd x=(X:Int):=by rw [←hX];exact (digits_at x hx2).symm
     have hY2:hexd y=(Y:Int):=by rw [←hY];exact (digits_at y hy2).symm
     rw [hx,hy,hX2,hY2] at hel6 HAC
     have hx3:(x:Int)<16:=by omega
     have hy3:(y:Int)<16:=by omega
     clear HZ hx hy hX2 hY2
     go_wp2_with fail
     go_region_law (first
      | (refine step_app _ rfl (.tmp 30) (.tmp 37) _ rfl B 5 iv (.int .u8 0) 1 1 Tryz.underlying22 hiv hv0 hv1 hv2 rfl (by omega) vv (n+done.length) (xs++zs done) rfl (HO3.out.alloc _) (W3.heap.size+1) (some ⟨W3.heap.size,0,none⟩) 6 6 [.int .u8 92,.int .u8 117,.int .u8 48,.int .u8 48,.int .u8 X,.int .u8 Y] rfl rfl (Rd.new W3 [.int .u8 92,.int .u8 117,.int .u8 48,.int .u8 48,.int .u8 X,.int .u8 Y] 5) (by simp) (by intro u hu;simp at hu;rcases hu with rfl | rfl | rfl | rfl | rfl | rfl <;> rfl) (by unfold maxLen;omega) (by omega) (by simp;omega) ?_;intro v' w5 hown' hgrow' hat';have HO':=Lib.hid hown';have HG':=Lib.hid hgrow';clear hown' hgrow' hat'))
     all_goals
      have hit5:=iter_grown (show World.ownsRow (World.drew (W3.alloc _)) B 5 1 vv (n+done.length) (xs++zs done) from HO3.out.alloc _) (show (World.drew (W3.alloc _)).heap[w1.heap.size]? =some (.stringIter s q) from iter_alloc HI3.out _) HG'.out
      have hb5:Below B w w5:=((hb3.alloc (by omega) _).drew).grown HG'.out (by simp;omega) (fun kk hkk=>(HO3.out.lt kk hkk).1)
      have hk5:Lib.OthersKept 5 none w w5:=((hk3.alloc _).drew).grown HG'.out (fun g hgv=>by obtain ⟨cur,hc⟩:=own_cells (HO3.out.alloc _) g hgv;exact ⟨cur,_,hc⟩)
      have hOn:w5.ownsRow B 5 1 v' (n+(done++[92,117,48,48,(X:Int),(Y:Int)]).length) (xs++zs (done++[92,117,48,48,(X:Int),(Y:Int)])):=by
       have h1:=HO'.out
       rw [zs_append,←List.append_assoc]
       rw [show n+(done++[92,117,48,48,(X:Int),(Y:Int)]).length=n+done.length+6 by simp;omega]
       exact h1
      clear HO' HG' hb3 hx1 hy1 hX hY
      have HF:=Lib.hid (And.intro hit5 (And.intro hb5 (And.intro hk5 hOn)))
      clear hit5 hb5 hk5 hk3 hOn
      go_wp2_with fail
      refine ⟨?_,HM.out _ HF.out.1⟩
      refine ⟨v',_,_,_,_,_,_,_,_,_,_,_,_,_,_,_,_,_,_,_,_,_,_,_,_,_,_,_,_,⟨q,done++[92,117,48,48,(X:Int),(Y:Int)],_,rfl,HF.out.2.2.2,HF.out.1,HF.out.2.1,HF.out.2.2.1,hpw,by rw [List.append_assoc];exact HAC.out,by rw [List.length_append];simp;omega⟩,rfl⟩
    ·have he0:((el:Int)==0)=false:=by simp;omega
     have he1:((el:Int)==117)=false:=by simp;omega
     rw [show escZ r=[92,(el:Int)] by rw [HZ.out,if_neg e0,if_neg e1]] at hel6 HAC
     go_wp2_with (at_builtin;go_must (refine wpList_app _ rfl (.tmp 19) (.tmp 21) _ rfl B 5 iv (.int .u8 0) 1 1 Tryz.underlying22 hiv hv0 hv1 hv2 rfl (by omega) vv (n+done.length) (xs++zs done) rfl (HO3.out.alloc _) (W3.heap.size+1) (some ⟨W3.heap.size,0,none⟩) 2 2 [.int .u8 92,.int .u8 el] rfl rfl (Rd.new W3 [.int .u8 92,.int .u8 el] 5) (by simp) (by intro u hu;simp at hu;rcases hu with rfl | rfl <;> rfl) (by unfold maxLen;omega) (by omega) (by simp;omega) ?_;intro v' w5 hown' hgrow' hat';have HO':=Lib.hid hown';have HG':=Lib.hid hgrow';clear hown' hgrow' hat'))
     have hit5:=iter_grown (HO3.out.alloc _) (iter_alloc HI3.out _) HG'.out
     have hb5:Below B w w5:=below_app1 hb3 HO3.out (Nat.le_refl _) (by omega) HG'.out
     have hk5:Lib.OthersKept 5 none w w5:=kept_app hk3 HO3.out HG'.out
     have hOn:w5.ownsRow B 5 1 v' (n+(done++[92,(el:Int)]).length) (xs++zs (done++[92,(el:Int)])):=by
      have h1:=HO'.out
      rw [zs_append,←List.append_assoc]
      rw [show n+(done++[92,(el:Int)]).length=n+done.length+2 by simp;omega]
      exact h1
     exact ⟨⟨q,done++[92,(el:Int)],_,rfl,hOn,hit5,hb5,hk5,hpw,by rw [List.append_assoc];exact HAC.out,by rw [List.length_append];simp;omega⟩,HM.out _ hit5⟩
  ·have hend:s.data.toList.drop pos=[]:=List.drop_eq_nil_of_le (by omega)
   rw [hend,encZ_nil,List.append_nil] at hacc
   have HAC:=Lib.hid hacc
   clear hacc hend
   have hnx:∀ty,(Instr.next (.pointer (some ⟨w1.heap.size,0,none⟩)) true ty).run Tryz.prog wr=_:=fun ty=>Lib.run_next_end_at wr w1.heap.size s pos ty hit hp
   go_wp2_with (at_builtin;go_must (refine wpList_app _ rfl (.tmp 39) (.tmp 40) _ rfl B 5 iv (.int .u8 0) 1 1 Tryz.underlying22 hiv hv0 hv1 hv2 rfl (by omega) vv (n+done.length) (xs++zs done) rfl (HOr.out.alloc _) (wr.heap.size+1) (some ⟨wr.heap.size,0,none⟩) 1 1 [.int .u8 34] rfl rfl (Rd.new wr [.int .u8 34] 5) (by simp) (by intro u hu;simp at hu;subst hu;rfl) (by unfold maxLen;omega) (by omega) (by simp;omega) ?_;intro v' w5 hown' hgrow' hat';have HO':=Lib.hid hown';have HG':=Lib.hid hgrow';clear hown' hgrow' hat'))
   go_ret
   refine ⟨v',rfl,?_,below_app1 hb HOr.out (Nat.le_refl _) (by omega) HG'.out,kept_app hk HOr.out HG'.out⟩
   have hq2:quoteZ s.data.toList=done++[34]:=by
    rw [HAC.out]
    rfl
   have h1:=HO'.out
   rw [hq2,zs_append,←List.append_assoc]
   rw [show n+(done++[(34:Int)]).length=n+done.length+1 by simp;omega]
   exact h1
end Go.Proofs.YtjhhdnnblcbdbaaGreatDoor.app
end
section
namespace Go.Proofs.YtjhhdnnblcbdbaaGreatDoor.shelf
open Go.Shelf
def laysValid_ren:Go.Shelf.Ren:=⟨fun | 196=>71 | 259=>100 | n=>n,fun | 9=>9 | 4=>4 | 3=>3 | 5=>5 | 12=>12 | 119=>156 | 0=>0 | 46=>129 | 139=>159 | 138=>158 | 53=>91 | n=>n,fun | 3=>1 | 4=>2 | n=>n⟩
theorem laysValid:Go.Proofs.Lays.n196 Tryz.prog laysValid_ren:={
 mixed:=by kernel_rfl
 f196:=Tryz.func71.trans (congrArg some (by kernel_rfl))
 f259:=Tryz.func100.trans (congrArg some (by kernel_rfl))
 t0:=Tryz.underlying0
 a0:=Tryz.isAgg0
 z0:=Tryz.sizeOf0
 v0:=Tryz.zeroValue0
 t3:=Tryz.underlying3
 a3:=Tryz.isAgg3
 z3:=Tryz.sizeOf3
 v3:=Tryz.zeroValue3
 t4:=Tryz.underlying4
 a4:=Tryz.isAgg4
 z4:=Tryz.sizeOf4
 v4:=Tryz.zeroValue4
 t5:=Tryz.underlying5
 a5:=Tryz.isAgg5
 z5:=Tryz.sizeOf5
 v5:=Tryz.zeroValue5
 t9:=Tryz.underlying9
 a9:=Tryz.isAgg9
 z9:=Tryz.sizeOf9
 v9:=Tryz.zeroValue9
 t12:=Tryz.underlying12
 a12:=Tryz.isAgg12
 z12:=Tryz.sizeOf12
 v12:=Tryz.zeroValue12
 t46:=Tryz.underlying129
 a46:=Tryz.isAgg129
 z46:=Tryz.sizeOf129
 v46:=Tryz.zeroValue129
 t53:=Tryz.underlying91
 a53:=Tryz.isAgg91
 z53:=Tryz.sizeOf91
 v53:=Tryz.zeroValue91
 t119:=Tryz.underlying156
 a119:=Tryz.isAgg156
 z119:=Tryz.sizeOf156
 t138:=Tryz.underlying158
 a138:=Tryz.isAgg158
 z138:=Tryz.sizeOf158
 v138:=Tryz.zeroValue158
 t139:=Tryz.underlying159
 a139:=Tryz.isAgg159
 z139:=Tryz.sizeOf159
 v139:=Tryz.zeroValue159
 g3:=by kernel_rfl
 g4:=by kernel_rfl}
end Go.Proofs.YtjhhdnnblcbdbaaGreatDoor.shelf
end
section
namespace Go.Proofs.YtjhhdnnblcbdbaaGreatDoor.look
open Go.RowKit mem txt app smap
attribute [local go_sem] run_store_float
def Tabs (w:World):Prop:=Lib.Utf8Tabs (shelf.laysValid_ren.g 3) (shelf.laysValid_ren.g 4) w
theorem Tabs.below {w w':World} (h:Tabs w) (hb:Below w.heap.size w w'):Tabs w':=Utf8Tabs_below h hb
theorem clean_any (s:ByteArray) (w:World) (hs:s.size≤9223372036854775807) (hT:Tabs w):
  Calls Tryz.prog 42 #[.string s] w fun e w'=>e= .returned (.bool (Lib.validD s.data.toList))∧Below w.heap.size w w':=by
 have cV:Calls Tryz.prog 71 #[.string s] w _:=Any.utf8_ValidString shelf.laysValid s w hs hT
 go_enter Tryz.func42,Tryz.ntmps42
 go_wp2_with (go_at_call 71;refine cV.mono ?_;rintro e w' ⟨rfl,hb⟩)
 go_ret
 exact ⟨rfl,hb⟩
def textOf (s:ByteArray):ByteArray:=strOf (quoteZ s.data.toList)
set_option maxRecDepth 100000 in
set_option maxHeartbeats 4000000 in
theorem text_ok (s:ByteArray) (hs:s.size≤4194304) (w:World) (hT:Tabs w) (hv:Lib.validD s.data.toList=true):
  Calls Tryz.prog 22 #[.string s] w fun e w'=>e= .returned (.tuple #[.string (textOf s),.int .i64 0])∧Below w.heap.size w w':=by
 have cV:=clean_any s w (by omega) hT
 rw [hv] at cV
 go_enter Tryz.func22,Tryz.ntmps22
 go_wp2_with fail
 refine cV.mono ?_
 rintro e w1 ⟨rfl,hb1⟩
 go_wp2_with fail
 refine (appendText_any s hs w1.heap.size (.slice none 0 0) 0 [] w1 (World.ownsRow_nil _ _ _ _) (Nat.le_refl _) (by omega)).mono ?_
 rintro e w2 ⟨v',rfl,ho,hb2,_⟩
 have hb3:Below w.heap.size w w2:=hb1.trans (hb2.mono hb1.size)
 obtain ⟨A,c,rfl,hA,_⟩:=own_form ho
 rw [Nat.zero_add,List.nil_append] at*
 have hcv:(convert 22 9 (.slice A (quoteZ s.data.toList).length c)).run Tryz.prog w2= .ok (.string (textOf s)) w2:=run_conv_bytes 22 9 5 A (quoteZ s.data.toList) c Tryz.underlying22 Tryz.underlying5 Tryz.underlying9 (Rd.of_own ho) hA
 clear ho hb1 hb2 cV
 go_wp2_with fail
 go_ret2
 exact ⟨rfl,hb3⟩
set_option maxRecDepth 100000 in
set_option maxHeartbeats 4000000 in
theorem text_bad (s:ByteArray) (hs:s.size≤4194304) (w:World) (hT:Tabs w) (hv:Lib.validD s.data.toList=false):
  Calls Tryz.prog 22 #[.string s] w fun e w'=>e= .returned (.tuple #[.string ⟨#[]⟩,.int .i64 1])∧Below w.heap.size w w':=by
 have cV:=clean_any s w (by omega) hT
 rw [hv] at cV
 go_enter Tryz.func22,Tryz.ntmps22
 go_wp2_with fail
 refine cV.mono ?_
 rintro e w1 ⟨rfl,hb1⟩
 go_wp2_with fail
 go_ret2
 exact ⟨rfl,hb1⟩
theorem text_any (s:ByteArray) (hs:s.size≤4194304) (w:World) (hT:Tabs w):
  Calls Tryz.prog 22 #[.string s] w fun e w'=>e= .returned (.tuple #[.string (if Lib.validD s.data.toList=true then textOf s else ⟨#[]⟩),.int .i64 (if Lib.validD s.data.toList=true then 0 else 1)])∧Below w.heap.size w w':=by
 cases hv:Lib.validD s.data.toList with
 | true=>exact text_ok s hs w hT hv
 | false=>exact text_bad s hs w hT hv
end Go.Proofs.YtjhhdnnblcbdbaaGreatDoor.look
end
section
namespace Go.Proofs.YtjhhdnnblcbdbaaGreatDoor.jw
open Go.RowKit mem val jp
open _root_.Go.Proofs.YtjhhdnnblcbdbaaGreatDoor.look (Tabs textOf)
attribute [local go_sem] run_store_float
theorem read_made3 {F:Nf} (w W:World) (l:List Nat) (d:Int) (N:Nat) (hn:l.length≤1099511627776) (htok:∀p,pE (l.drop p)≤1100000) (hby:∀x∈l,x<256) (hnum:NumOf F w) (hnf:∀l,(F l).2.2.2≠50∧(F l).2.2.2≠71) (hW:Below w.heap.size w W) (hN:2*l.length<N):
  Calls Tryz.prog 13 #[.slice (some ⟨W.heap.size,0,none⟩) (bt l).size (grownCap W (bt l).size 0 5),.int .i64 d] (Lib.bytesWorld W 5 (bt l)) (RdQ (rd F N (dep d) l) (Lib.bytesWorld W 5 (bt l))):=by
 have hb:=below_bytesW W (bt l)
 obtain ⟨A',c',hv,hrd,_⟩:=RS_bytes hby W (grownCap W (bt l).size 0 5)
 injection hv with e1 e2 e3
 subst e1
 have hbs:=bt_size l
 rw [hbs]
 exact read_any (F:=F) _ l.length _ l d N _ rfl (by omega) htok hby hrd (fun s hs W' hW'=>hnum s hs W' (hW.trans ((hb.mono hW.size).trans (hW'.mono (Nat.le_trans hW.size hb.size))))) hnf (by rw [←hbs];exact grownCap_ge W _ 0 _) (grownCap_le_maxLen W _ 0 _ (by unfold maxLen;omega)) hN
theorem textOf_bt (s:ByteArray):textOf s=bt (nts (txt.quoteZ s.data.toList)):=by
 unfold textOf bt nts
 congr 1
 rw [List.map_map]
 refine ((List.map_congr_left fun x hx=>?_).trans (List.map_id _)).symm
 have:=txt.quoteZ_byte s.data.toList x hx
 simp only [Function.comp]
 show ((x.toNat:Nat):Int)=x
 omega
theorem nts_lt (l:List UInt8):∀x∈nts (txt.quoteZ l),x<256:=fun x hx=>by
 obtain ⟨y,hy,rfl⟩:=List.mem_map.1 hx
 have:=txt.quoteZ_byte l y hy
 omega
theorem bt_nats2 (s:ByteArray):bt (s.data.toList.map UInt8.toNat)=s:=by
 apply ByteArray.ext
 apply Array.toList_inj.1
 rw [bt_data,List.map_map]
 refine (List.map_congr_left (g:=id) fun x _=>?_).trans (List.map_id _)
 simp [Function.comp]
set_option maxRecDepth 100000 in
set_option maxHeartbeats 1600000 in
theorem texts_any {F:Nf} (s:ByteArray) (w:World) (hs:s.size≤1048576) (hT:Tabs w) (hnum:NumOf F w) (hnf:∀l,(F l).2.2.2≠50∧(F l).2.2.2≠71)
  (hfix:Calls Tryz.prog 12 #[] w fun e w'=>e= .returned (.bool true)∧Below w.heap.size w w'):
  Calls Tryz.prog 9 #[.string s] w fun e w'=>e= .returned (.bool true)∧Below w.heap.size w w':=by
 have HFx:=Lib.hid hfix
 have HTx:=Lib.hid (fun (W:World) (hW:Below w.heap.size w W)=>_root_.Go.Proofs.YtjhhdnnblcbdbaaGreatDoor.look.text_any s (by omega) W (hT.below hW))
 have e0:=Lib.size_eq s
 have hl:(nts (txt.quoteZ s.data.toList)).length≤6*s.size+2:=by
  have:=txt.encZ_length s.data.toList.length s.data.toList (Nat.le_refl _)
  simp only [nts,List.length_map,txt.quoteZ,List.length_cons,List.length_append,List.length_nil]
  omega
 have HRd:=Lib.hid (fun (W:World) (N:Nat) (hv:Lib.validD s.data.toList=true) (hW:Below w.heap.size w W) (hN:2*(nts (txt.quoteZ s.data.toList)).length<N)=>read_made3 w W (nts (txt.quoteZ s.data.toList)) 0 N (by omega) (fun p=>Nat.le_trans (tok_text _ hv p) (by omega)) (nts_lt _) hnum hnf hW hN)
 have HLw:=Lib.hid (fun n hv hn=>rd_text F n (dep 0) s.data.toList hv hn)
 have HBt:=Lib.hid (bt_nats2 s)
 have HTo:=Lib.hid (textOf_bt s)
 clear hfix hT hnum hnf
 go_enter Tryz.func9,Tryz.ntmps9
 go_wp2_with fail
 refine HFx.out.mono ?_
 rintro e w1 ⟨rfl,hb1⟩
 have HB1:=Lib.hid hb1
 clear hb1 HFx
 go_wp2_with fail
 refine (HTx.out w1 HB1.out).mono ?_
 rintro e w2 ⟨rfl,hb2⟩
 have HB2:=Lib.hid (HB1.out.trans (hb2.mono HB1.out.size))
 clear hb2 HTx HB1
 cases hv:Lib.validD s.data.toList with
 | false=>
   simp only [Bool.false_eq_true,if_false]
   go_wp2_with fail
   go_ret
   exact ⟨rfl,HB2.out⟩
 | true=>
   simp only [if_true]
   obtain ⟨n,hn⟩:∃n,n=12*s.size+10:=⟨_,rfl⟩
   obtain ⟨k,hk⟩:=HLw.out n hv (by omega)
   have HX:=Lib.hid (HRd.out w2 (n+1) hv HB2.out (by omega))
   rw [HTo.out]
   generalize nts (txt.quoteZ s.data.toList)=L at*
   rw [hk] at HX
   have hcs:=conv_strJ (bt L) w2
   have hbw:=below_bytesW w2 (bt L)
   have HB3:=Lib.hid (HB2.out.trans (hbw.mono HB2.out.size))
   have HSt:Hid (∀(W:World) (S:Nat→Prop) (cs:List Value),IsV W S (strV (s.data.toList.map UInt8.toNat)) cs→∃(A4:Option Addr) (c4:Nat) (A4':Option Addr) (c4':Nat),cs=[.int .i64 4,.bool false,.int .i64 0,.float .f64 0,.string s,.string ByteArray.empty,.slice A4 0 c4,.slice A4' 0 c4']):=Lib.hid fun W S cs h=>by
    unfold strV at h
    rw [HBt.out] at h
    simp only [IsV,List.length_nil] at h
    obtain ⟨A4,c4,A4',c4',h,_⟩:=h
    exact ⟨A4,c4,A4',c4',h⟩
   clear hk hbw HRd HLw HTo hl hv
   go_wp2_with fail
   refine HX.out.mono ?_
   rintro e w4 hQ
   obtain ⟨hb4,cs,rfl,hv4⟩:=hQ
   obtain ⟨A4,c4,A4',c4',rfl⟩:=HSt.out _ _ _ hv4
   have HB4:=Lib.hid (HB3.out.trans (hb4.mono HB3.out.size))
   clear hb4 hv4 HX hcs HB3 HB2 HBt HSt
   go_wp2_with fail
   go_ret
   exact ⟨rfl,HB4.out.alloc HB4.out.size _⟩
end Go.Proofs.YtjhhdnnblcbdbaaGreatDoor.jw
end
section
namespace Go.Proofs.YtjhhdnnblcbdbaaGreatDoor.upT
open Go.ChangeShapes Go.WideShapes Go.ChangeAt Go.RowKit Go.Lib Go.Shelf us uw pg dcm upN
def laidT:List (String×DataW Unit):=Rows.jsoninTextsRow.laid
theorem envT {W:World} (h:laidMetH Tryz.prog laidT W):REnv W:=by
 rw [MakeChecks.laidMetH_plain _ _ _ (by kernel_rfl)] at h
 have hp:=p10_of (Lib.laidMet.reads h (by unfold laidT;simp [Rows.jsoninTextsRow]))
 have hbig:=big15 (Lib.laidMet.reads h (by unfold laidT;simp [Rows.jsoninTextsRow,Rows.laid_internal_strconv_leftcheats]))
 have hi:=info3_of (Lib.laidMet.reads h (by unfold laidT;simp [Rows.jsoninTextsRow]))
 exact ⟨⟨info_of (Lib.laidMet.reads h (by unfold laidT;simp [Rows.jsoninTextsRow])),opt_of (Lib.laidMet.reads h (by unfold laidT;simp [Rows.jsoninTextsRow])),hp.1,pow_of (Lib.laidMet.reads h (by unfold laidT;simp [Rows.jsoninTextsRow,Rows.laid_internal_strconv_pow10Tab])),hbig,tab_of (Lib.laidMet.reads h (by unfold laidT;simp [Rows.jsoninTextsRow]))⟩,
  ⟨lc_of (Lib.laidMet.reads h (by unfold laidT;simp [Rows.jsoninTextsRow,Rows.laid_internal_strconv_leftcheats])),pt_of (Lib.laidMet.reads h (by unfold laidT;simp [Rows.jsoninTextsRow])),hi.1,hi.2.1,hi.2.2⟩,
  er_of (Lib.laidMet.reads h (by unfold laidT;simp [Rows.jsoninTextsRow]))⟩
theorem xU8:U8Extra Tryz.prog shelf.laysValid_ren:=⟨by kernel_rfl,by kernel_rfl,by kernel_rfl,by kernel_rfl,by kernel_rfl,by kernel_rfl,by kernel_rfl⟩
theorem accept_eq:(Rows.laid_unicode_utf8_acceptRanges:DataW Unit)=acceptData:=by kernel_rfl
theorem first_eq:(Rows.laid_unicode_utf8_first:DataW Unit)=firstData:=by kernel_rfl
theorem tabs {W:World} (h:laidMetH Tryz.prog laidT W):look.Tabs W:=by
 rw [MakeChecks.laidMetH_plain _ _ _ (by kernel_rfl)] at h
 have h1:VarReads Tryz.prog W "unicode/utf8.first" Rows.laid_unicode_utf8_first:=Lib.laidMet.reads h (by unfold laidT;simp [Rows.jsoninTextsRow])
 have h2:VarReads Tryz.prog W "unicode/utf8.acceptRanges" Rows.laid_unicode_utf8_acceptRanges:=Lib.laidMet.reads h (by unfold laidT;simp [Rows.jsoninTextsRow])
 rw [accept_eq] at h2
 rw [first_eq] at h1
 exact utf8Tabs_of_readsT (U8Types.of196 shelf.laysValid) xU8 h1 h2
noncomputable abbrev wT (os:Os):World:=World.laidAll Tryz.prog os laidT
set_option maxRecDepth 100000 in
theorem fitsT (os:Os):(World.holding Tryz.prog os ⟨#[],#[],[]⟩).layFits Tryz.prog laidT []=true:=by kernel_rfl
set_option maxRecDepth 100000 in
theorem laid_metT (os:Os) (args:Array Value):laidMet Tryz.prog laidT ((wT os).forCall (fun _ _=>0) ⟨#[],args,[]⟩).memory:=laidMet_laidAll args (fitsT os) (by kernel_rfl)
set_option maxRecDepth 100000 in
theorem zipT (os:Os) (args:Array Value):((wT os).forCall (fun _ _=>0) ⟨#[],args,[]⟩).variablesZipB Tryz.checked.prog=true:=by kernel_rfl
set_option maxRecDepth 100000 in
theorem restT (os:Os) (args:Array Value):(((wT os).forCall (fun _ _=>0) ⟨#[],args,[]⟩).heap.toList.drop Tryz.checked.prog.globals.size).take ((begin Tryz.checked.prog (fun _ _=>0) default).world.heap.size-Tryz.checked.prog.globals.size)=(begin Tryz.checked.prog (fun _ _=>0) default).world.heap.toList.drop Tryz.checked.prog.globals.size:=by kernel_rfl
theorem witnessT {H:Type} {enc:TypeId×Value→H} (os:Os) {f:FuncId} {fn:Func} {s:OpenSpec} {conds:List PathCond} {apart:Bool} {laid:List (String×DataW Unit)} (args:Array Value)
  (hok:Input.okWideB Tryz.checked.prog ((wT os).forCall (fun _ _=>0) ⟨#[],args,[]⟩) f ⟨#[],args,[]⟩=true)
  (hrow:s.preRow enc Tryz.checked.prog fn conds apart laid ((wT os).forCall (fun _ _=>0) ⟨#[],args,[]⟩).memory args):
  ∃(w:World) (tape:Tape) (i:Input),w.os=os∧(w.forCall tape i).Shaped Tryz.checked.prog∧i.vars=[]∧Input.okWide Tryz.checked.prog (w.forCall tape i) .any w.heap.size f i∧
   s.preRow enc Tryz.checked.prog fn conds apart laid (w.forCall tape i).memory i.args∧({}:Assume).holds Tryz.checked.prog (lone (Frame.enter Tryz.checked.prog f i.args .normal) [] (w.forCall tape i)):=
 ⟨wT os,fun _ _=>0,⟨#[],args,[]⟩,World.laidAll_os _ _ _,World.shaped_of_ZipB (zipT os args) (restT os args),(Input.okWide_of_okWideB (base:=0) hok).1,(Input.okWide_of_okWideB hok).2,hrow,by
  simp only [Assume.holds]
  exact ⟨by simp,by simp,fun _=>Modest.zero,by simp,by simp⟩⟩
end Go.Proofs.YtjhhdnnblcbdbaaGreatDoor.upT
end
section
namespace Go.Proofs.YtjhhdnnblcbdbaaGreatDoor.dcm
open Go.RowKit mem fl big us uw pg sh
def Rn (st e f:Int) (i:Nat) (M:List Nat) (x:Int×Int×Int):Prop:=∃t:Nat,t≤M.length∧x.2.1=((i+t:Nat):Int)∧(st≠9→pfx.adv st (M.take t)≠9)∧(t<M.length→pfx.adv st (M.take (t+1))=9)∧
 ((x.1=e∧x.2.2=f∧∀k,1≤k→k≤t→pfx.fm (pfx.adv st (M.take k))=0)∨
  ∃u:Nat,1≤u∧u≤t∧x.1=((i+u:Nat):Int)∧x.2.2=pfx.fm (pfx.adv st (M.take u))∧pfx.fm (pfx.adv st (M.take u))≠0∧∀k,u<k→k≤t→pfx.fm (pfx.adv st (M.take k))=0)
theorem run_spec:∀(M:List Nat) (st e f:Int) (i:Nat),Rn st e f i M (pfx.run st e f i (M.map fun n:Nat=>(n:Int)))
 | [],st,e,f,i=>⟨0,Nat.le_refl _,by simp [pfx.run],fun h=>h,fun h=>absurd h (by simp),.inl ⟨rfl,rfl,fun k h1 h2=>by omega⟩⟩
 | c :: r,st,e,f,i=>by
   rw [List.map_cons]
   show Rn st e f i (c :: r) (if pfx.nx st (c:Int)=9 then (e,(i:Int),f) else if pfx.fm (pfx.nx st (c:Int))=0 then pfx.run (pfx.nx st (c:Int)) e f (i+1) (r.map fun n:Nat=>(n:Int)) else pfx.run (pfx.nx st (c:Int)) ((i:Int)+1) (pfx.fm (pfx.nx st (c:Int))) (i+1) (r.map fun n:Nat=>(n:Int)))
   have hk1:∀k,1≤k→pfx.adv st ((c :: r).take k)=pfx.adv (pfx.nx st (c:Int)) (r.take (k-1)):=fun k hk=>by
    obtain ⟨j,rfl⟩:∃j,k=j+1:=⟨k-1,by omega⟩
    rw [List.take_succ_cons,pfx.adv_cons,Nat.add_sub_cancel]
   by_cases h9:pfx.nx st (c:Int)=9
   ·rw [if_pos h9]
    refine ⟨0,Nat.zero_le _,by simp,fun h=>h,fun _=>?_,.inl ⟨rfl,rfl,fun k h1 h2=>by omega⟩⟩
    rw [hk1 _ (by omega),h9]
    exact pfx.adv9 _
   ·rw [if_neg h9]
    by_cases h0:pfx.fm (pfx.nx st (c:Int))=0
    ·rw [if_pos h0]
     obtain ⟨t,ht,hs,ha,hb,hc⟩:=run_spec r (pfx.nx st (c:Int)) e f (i+1)
     refine ⟨t+1,by simp only [List.length_cons];omega,by rw [hs];omega,fun _=>?_,fun hlt=>?_,?_⟩
     ·rw [hk1 _ (by omega)];exact ha h9
     ·rw [hk1 _ (by omega)];exact hb (by simp only [List.length_cons] at hlt;omega)
     ·rcases hc with ⟨h1,h2,h3⟩ | ⟨u,hu1,hu2,h1,h2,h3,h4⟩
      ·refine .inl ⟨h1,h2,fun k hk hkt=>?_⟩
       rw [hk1 k hk]
       rcases Nat.lt_or_ge (k-1) 1 with hh | hh
       ·rw [show k-1=0 by omega];exact h0
       ·exact h3 _ hh (by omega)
      ·refine .inr ⟨u+1,by omega,by omega,by rw [h1];omega,?_,?_,fun k hk hkt=>?_⟩
       ·rw [hk1 _ (by omega)];exact h2
       ·rw [hk1 _ (by omega)];exact h3
       ·rw [hk1 _ (by omega)];exact h4 _ (by omega) (by omega)
    ·rw [if_neg h0]
     obtain ⟨t,ht,hs,ha,hb,hc⟩:=run_spec r (pfx.nx st (c:Int)) ((i:Int)+1) (pfx.fm (pfx.nx st (c:Int))) (i+1)
     refine ⟨t+1,by simp only [List.length_cons];omega,by rw [hs];omega,fun _=>?_,fun hlt=>?_,?_⟩
     ·rw [hk1 _ (by omega)];exact ha h9
     ·rw [hk1 _ (by omega)];exact hb (by simp only [List.length_cons] at hlt;omega)
     ·rcases hc with ⟨h1,h2,h3⟩ | ⟨u,hu1,hu2,h1,h2,h3,h4⟩
      ·refine .inr ⟨1,by omega,by omega,by rw [h1];omega,?_,?_,fun k hk hkt=>?_⟩
       ·rw [hk1 _ (by omega)];exact h2
       ·rw [hk1 _ (by omega)];exact h0
       ·rw [hk1 _ (by omega)];exact h3 _ (by omega) (by omega)
      ·refine .inr ⟨u+1,by omega,by omega,by rw [h1];omega,?_,?_,fun k hk hkt=>?_⟩
       ·rw [hk1 _ (by omega)];exact h2
       ·rw [hk1 _ (by omega)];exact h3
       ·rw [hk1 _ (by omega)];exact h4 _ (by omega) (by omega)
theorem adv_range (M:List Nat):∀st:Int,0≤st→st≤9→0≤pfx.adv st M∧pfx.adv st M≤9:=by
 induction M with
 | nil=>intro st h1 h2;exact ⟨h1,h2⟩
 | cons c r ih=>
   intro st h1 h2
   rw [pfx.adv_cons]
   have:=pfx.nx_range st (c:Int)
   exact ih _ this.1 this.2
theorem form_app48 (M:List Nat):form (M++[48])=pfx.fm (pfx.nx (pfx.adv 0 M) 48):=by
 unfold form
 rw [pfx.adv_app]
 rfl
theorem pf_spec (L:List Nat) (a:Nat) (ha:a≤L.length):∃u t:Nat,u≤t∧a+t≤L.length∧pfx.pf (L.map fun n:Nat=>(n:Int)) a=(((a+u:Nat):Int),((a+t:Nat):Int),form ((L.drop a).take u))∧(u=0→form ((L.drop a).take u)=0)∧(0<u→form ((L.drop a).take u)≠0)∧(∀k,u<k→k≤t→form ((L.drop a).take k)=0)∧
  (form ((L.drop a).take t)=0→form ((L.drop a).take t++[48])≠0)∧(a+t<L.length→form ((L.drop a).take (t+1))=0∧form ((L.drop a).take (t+1)++[48])=0):=by
 have hp:pfx.pf (L.map fun n:Nat=>(n:Int)) a=pfx.run 0 (a:Int) 0 a ((L.drop a).map fun n:Nat=>(n:Int)):=by
  unfold pfx.pf
  rw [if_neg (by rw [List.length_map];omega),Int.toNat_natCast,←List.map_drop]
 obtain ⟨t,ht,hs,h9,hlt,hc⟩:=run_spec (L.drop a) 0 (a:Int) 0 a
 rw [←hp] at hs hc
 rw [List.length_drop] at ht hlt
 have h4:form ((L.drop a).take t)=0→form ((L.drop a).take t++[48])≠0:=by
  rw [form_app48]
  unfold form
  have h1:=adv_range ((L.drop a).take t) 0 (by omega) (by omega)
  have h2:=h9 (by omega)
  obtain ⟨s,hs⟩:∃s,pfx.adv 0 ((L.drop a).take t)=s:=⟨_,rfl⟩
  rw [hs] at h1 h2 ⊢
  have h3:s=0∨s=1∨s=2∨s=3∨s=4∨s=5∨s=6∨s=7∨s=8:=by omega
  rcases h3 with rfl | rfl | rfl | rfl | rfl | rfl | rfl | rfl | rfl <;> decide
 have h5:a+t<L.length→form ((L.drop a).take (t+1))=0∧form ((L.drop a).take (t+1)++[48])=0:=fun h=>by
  have h6:=hlt (Nat.lt_sub_of_add_lt (by rw [Nat.add_comm];exact h))
  rw [form_app48]
  unfold form
  rw [h6]
  exact ⟨by decide,by decide⟩
 rcases hc with ⟨e1,e2,e3⟩ | ⟨u,hu1,hu2,e1,e2,e3,e4⟩
 ·refine ⟨0,t,Nat.zero_le _,by omega,?_,fun _=>rfl,fun h=>absurd h (by omega),fun k hk hkt=>e3 k hk hkt,h4,h5⟩
  refine Prod.ext (by rw [e1];simp) (Prod.ext hs (by rw [e2];rfl))
 ·refine ⟨u,t,hu2,by omega,Prod.ext e1 (Prod.ext hs e2),fun h=>absurd h (by omega),fun _=>e3,e4,h4,h5⟩
theorem nm_form {P:Nat} {l:List Nat} {k v:Int} {b:Nat} {er:Int} (h:Nm P l k v b er):(form l=0→er=20)∧(form l≠0→er≠20)∧(form l=1→k=2∨k=3∨er=7):=by
 obtain ⟨R,_,h⟩:=h
 unfold ans fltV at h
 by_cases h0:form l=0
 ·rw [if_pos h0] at h
  injection h with h
  simp at h
  exact ⟨fun _=>by omega,fun hh=>absurd h0 hh,fun hh=>by omega⟩
 ·rw [if_neg h0] at h
  by_cases h1:form l=1∧fits l
  ·rw [if_pos h1] at h
   injection h with h
   simp at h
   exact ⟨fun hh=>absurd hh h0,fun _=>by omega,fun _=>by omega⟩
  ·rw [if_neg h1] at h
   split at h
   ·injection h with h
    simp at h
    exact ⟨fun hh=>absurd hh h0,fun _=>by omega,fun _=>by omega⟩
   ·injection h with h
    simp at h
    exact ⟨fun hh=>absurd hh h0,fun _=>by omega,fun _=>by omega⟩
end Go.Proofs.YtjhhdnnblcbdbaaGreatDoor.dcm
end
section
namespace Go.Proofs.YtjhhdnnblcbdbaaGreatDoor.jp
open Go.RowKit val dcm
theorem num_whole {F:Nf} {l:List Nat} (hf:form l≠0):pE l=l.length∧pS l=l.length∧0<l.length∧(l.headD 0=45∨(48≤l.headD 0∧l.headD 0≤57)):=by
 cases l with
 | nil=>exact absurd (by decide) hf
 | cons x r=>
   have h:=pfx.pf_all (x :: r) (by simp) hf
   refine ⟨by unfold pE;rw [h];rfl,by unfold pS;rw [h];rfl,by simp,?_⟩
   show x=45∨(48≤x∧x≤57)
   refine Classical.byContradiction fun hn=>hf ?_
   unfold form
   rw [pfx.adv_cons]
   have:pfx.nx 0 (x:Int)=9:=by
    unfold pfx.nx
    rw [if_pos (.inl rfl),if_neg (by omega),if_neg (by omega),if_neg (by unfold pfx.dig;simp;omega)]
   rw [this,pfx.adv9]
   decide
theorem rd_num {F:Nf} {n d:Nat} {l:List Nat} (hf:form l≠0):rd F (n+1) d l=if (F l).2.2.2=0 then .ok (numV (F l).1 (F l).2.1 (F l).2.2.1) l.length else .er 0 (F l).2.2.2:=by
 obtain ⟨h1,h2,h3,h4⟩:=num_whole (F:=F) hf
 have hb:cnt l=0:=cnt_head (bl_num h4)
 have hn:numP F l=if (F l).2.2.2=0 then .ok (numV (F l).1 (F l).2.1 (F l).2.2.1) l.length else .er 0 (F l).2.2.2:=by
  unfold numP
  rw [if_neg (by rw [h1,h2];omega),h1,List.take_length]
 have hv:=val_num (F:=F) n d hn (by omega) (by omega) (by omega) (by omega) (by omega) (by omega)
 unfold rd
 have hbl:blanks l= .ok () 0:=by unfold blanks;rw [hb]
 by_cases he:(F l).2.2.2=0
 ·rw [if_pos he] at hv ⊢
  have e3:bnd blanks (fun (_:Unit) (m:List Nat)=>if m=[] then (Rs.ok (numV (F l).1 (F l).2.1 (F l).2.2.1) 0:Rs V) else .er 0 50) ((l.drop 0).drop l.length)= .ok (numV (F l).1 (F l).2.1 (F l).2.2.1) 0:=by
   rw [List.drop_zero,List.drop_length]
   rfl
  exact (bnd_ok hbl (bnd_ok (f:=value F (n+1) d) (by rw [List.drop_zero];exact hv) e3)).trans (by simp [Rs.sh])
 ·rw [if_neg he] at hv ⊢
  rw [bnd_ok hbl (bnd_er' (by rw [List.drop_zero];exact hv))]
  simp [Rs.sh]
theorem rd_form {F:Nf} {n d:Nat} {l:List Nat} {v:V} {k:Nat} (h:rd F n d l= .ok v k) (hk:knd v=2∨knd v=3) (h0:bl (l.headD 0)=false) (h1:bl (l.getLastD 0)=false):form l≠0:=by
 unfold rd at h
 obtain ⟨_,j,i,hb,h2,_⟩:=bnd_inv h
 have hj:j=0:=by
  unfold blanks at hb
  injection hb with _ hb
  rw [←hb,cnt_head h0]
 subst hj
 rw [List.drop_zero] at h2
 obtain ⟨x,j2,i2,hv,h3,_⟩:=bnd_inv h2
 obtain ⟨_,j3,i3,hb3,h4,_⟩:=bnd_inv h3
 split at h4
 ·rename_i hnil
  injection h4 with hx _
  subst hx
  have hn:=value_num hv hk
  unfold numP at hn
  split at hn
  ·cases hn
  ·rename_i hc
   split at hn
   ·injection hn with _ hj2
    obtain ⟨u,t,hut,htl,hpf,hu0,hu1,_⟩:=pf_spec l 0 (Nat.zero_le _)
    simp only [List.drop_zero,Nat.zero_add,Int.ofNat_zero] at hpf htl hu1
    have hE:pE l=u:=by unfold pE;rw [hpf];simp
    have hS:pS l=t:=by unfold pS;rw [hpf];simp
    have hpos:0<u:=by omega
    have hfu:=hu1 hpos
    have hcn:cnt (l.drop u)=(l.drop u).length:=by
     unfold blanks at hb3
     injection hb3 with _ hb3
     rw [←hj2,hE] at hb3 hnil
     have h5:=cnt_le (l.drop u)
     have h6:((l.drop u).drop j3).length=0:=by rw [hnil];rfl
     rw [List.length_drop] at h6
     omega
    have hul:u=l.length:=by
     refine Classical.byContradiction fun hne=>?_
     have hlt:u<l.length:=by omega
     have hall:∀m:List Nat,cnt m=m.length→∀y∈m,bl y=true:=by
      intro m
      induction m with
      | nil=>intro _ y hy;cases hy
      | cons y r ih=>
        intro hm z hz
        unfold cnt at hm
        by_cases hy:bl y=true
        ·rw [if_pos hy] at hm
         rcases List.mem_cons.1 hz with rfl | hz
         ·exact hy
         ·exact ih (by simpa using hm) z hz
        ·rw [if_neg hy] at hm
         simp at hm
     have hm:l.getLastD 0∈l.drop u:=by
      have hne:l≠[]:=by intro h;subst h;simp at hlt
      have:l.getLastD 0=l.getLast hne:=by rw [List.getLastD_eq_getLast?,List.getLast?_eq_some_getLast hne];rfl
      rw [this,List.getLast_eq_getElem]
      have:l[l.length-1]=(l.drop u)[l.length-1-u]'(by rw [List.length_drop];omega):=by
       rw [List.getElem_drop]
       congr 1
       omega
      rw [this]
      exact List.getElem_mem _
     have:=hall _ hcn _ hm
     rw [h1] at this
     cases this
    rw [hul,List.take_length] at hfu
    exact hfu
   ·cases hn
 ·cases h4
end Go.Proofs.YtjhhdnnblcbdbaaGreatDoor.jp
end
section
namespace Go.Proofs.YtjhhdnnblcbdbaaGreatDoor.jp
open Go.RowKit val txt Go.Lib dcm
theorem members_succ' (F:Nf) (n d:Nat) (acc:List (ByteArray×V)):members F (n+1) d acc=jp.chk (text n) (twice acc) fun key=>jp.bnd blanks fun _=>jp.bnd (want 58) fun _=>jp.bnd blanks fun _=>jp.bnd (value F n d) fun v=>jp.bnd (more 125) fun b=>if b=true then members F n d (acc++[(bt key,v)]) else ret (objV (acc++[(bt key,v)])):=by
 conv=>lhs;unfold members
theorem sep_cons' (c:Nat) (r:List Nat) (h:c=44∨c=93∨c=125):sep (c :: r):= .inr ⟨c,r,rfl,.inr h⟩
section
variable (wt:Nat→List Nat)
def pr (p:List UInt8×Nat):List Nat:=nts (quoteZ p.1)++58 :: wt p.2
def joinK:List (List UInt8×Nat)→List Nat
 | []=>[]
 | [p]=>pr wt p
 | p :: q :: r=>pr wt p++44 :: joinK (q :: r)
def kv (p:List UInt8×Nat):ByteArray×V:=(bt (p.1.map UInt8.toNat),numV 2 p.2 0)
def dupAt:List (ByteArray×V)→List (List UInt8×Nat)→Option Nat
 | _,[]=>none
 | acc,p :: r=>if twice acc (p.1.map UInt8.toNat)=true then some 0 else (dupAt (acc++[kv p]) r).map fun o=>(pr wt p).length+1+o
variable {wt}
variable {F:Nf} (hW:∀i,i<2000000→form (wt i)≠0∧F (wt i)=(2,(i:Int),0,0))
include hW
theorem val_wt (n d i:Nat) (hi:i<2000000) {t:List Nat} (ht:sep t):value F (n+1) d (wt i++t)= .ok (numV 2 i 0) (wt i).length:=by
 obtain ⟨h1,h2,h3,h4⟩:=num_whole (F:=F) (hW i hi).1
 have hS:pS (wt i++t)=(wt i).length:=by
  have:pS (wt i++t)=pS (wt i):=by unfold pS;rw [pf_run,pf_run,run_sep ht]
  omega
 have hE:pE (wt i++t)=(wt i).length:=by
  have:pE (wt i++t)=pE (wt i):=by unfold pE;rw [pf_run,pf_run,run_sep ht]
  omega
 have hh:(wt i++t).headD 0=(wt i).headD 0:=by
  cases hw:wt i with
  | nil=>rw [hw] at h3;simp at h3
  | cons x r=>rfl
 refine val_num n d (numP_of hS hE (by omega) rfl (by rw [List.take_left];exact (hW i hi).2)) ?_ ?_ ?_ ?_ ?_ ?_ <;> rw [hh] <;> omega
theorem mem_one {n d:Nat} {acc:List (ByteArray×V)} {p:List UInt8×Nat} {t:List Nat} (hv:validD p.1=true) (hi:p.2<2000000) (hn:p.1.length<n+1) (ht:sep t):
  members F (n+2) d acc (pr wt p++t)=if twice acc (p.1.map UInt8.toNat)=true then .er 0 5 else
   (jp.bnd (more 125) (fun b=>if b=true then members F (n+1) d (acc++[kv p]) else ret (objV (acc++[kv p]))) t).sh (pr wt p).length:=by
 have e:pr wt p++t=nts (quoteZ p.1)++(58 :: (wt p.2++t)):=by simp [pr]
 have hlen:(pr wt p).length=(quoteZ p.1).length+(1+(wt p.2).length):=by simp [pr,nts];omega
 have hq:(nts (quoteZ p.1)).length=(quoteZ p.1).length:=by simp [nts]
 have htx:=text_enc p.1 hv (n+1) (58 :: (wt p.2++t)) hn
 rw [members_succ',e]
 unfold chk
 rw [htx]
 simp only
 by_cases h2:twice acc (p.1.map UInt8.toNat)=true
 ·rw [if_pos h2,if_pos h2]
 ·rw [if_neg h2,if_neg h2,←hq,List.drop_left,hlen]
  have hb:blanks (58 :: (wt p.2++t))= .ok () 0:=rfl
  obtain ⟨h1,h2',h3,h4⟩:=num_whole (F:=F) (hW p.2 hi).1
  have hb2:blanks (wt p.2++t)= .ok () 0:=by
   unfold blanks
   rw [cnt_head]
   have hh:(wt p.2++t).headD 0=(wt p.2).headD 0:=by
    cases hw:wt p.2 with
    | nil=>rw [hw] at h3;simp at h3
    | cons x r=>rfl
   rw [hh]
   exact bl_num h4
  have hval:=val_wt hW n d p.2 hi ht
  rw [bnd_ok hb rfl,List.drop_zero,bnd_ok (f:=want 58) (a:=()) (j:=1) (by simp [want,sat]) rfl]
  rw [show (58 :: (wt p.2++t)).drop 1=wt p.2++t from rfl,bnd_ok hb2 rfl,List.drop_zero,bnd_ok hval rfl,List.drop_left]
  rw [sh_sh,sh_sh,sh_sh,sh_sh,hq]
  congr 1
  omega
def outK (F:Nf) (acc:List (ByteArray×V)) (ps:List (List UInt8×Nat)) (k:Nat) (o:Option Nat):Rs V:=match o with
 | some o=> .er o 5
 | none=> .ok (objV (acc++ps.map kv)) k
omit hW in
theorem head_join {p:List UInt8×Nat} {r:List (List UInt8×Nat)} (t:List Nat):(joinK wt (p :: r)++t).headD 0=34:=by
 cases r <;> rfl
theorem members_keys (d:Nat) (t:List Nat):∀(ps:List (List UInt8×Nat)) (acc:List (ByteArray×V)) (n:Nat),ps≠[]→(∀p∈ps,validD p.1=true∧p.2<2000000∧p.1.length+ps.length+2≤n)→
  members F n d acc (joinK wt ps++125 :: t)=outK F acc ps ((joinK wt ps).length+1) (dupAt wt acc ps)
 | [],acc,n,h,_=>absurd rfl h
 | [p],acc,n,_,h=>by
   obtain ⟨hv,hi,hn⟩:=h p (by simp)
   simp only [List.length_cons,List.length_nil] at hn
   obtain ⟨n,rfl⟩:∃m,n=m+2:=⟨n-2,by omega⟩
   show members F (n+2) d acc (pr wt p++125 :: t)=_
   rw [mem_one hW hv hi (by omega) (sep_cons' 125 t (.inr (.inr rfl)))]
   unfold dupAt
   by_cases h2:twice acc (p.1.map UInt8.toNat)=true
   ·rw [if_pos h2,if_pos h2];rfl
   ·rw [if_neg h2,if_neg h2]
    have hm:more 125 (125 :: t)= .ok false 1:=by
     unfold more
     rw [bnd_ok (f:=blanks) (a:=()) (j:=0) rfl rfl,List.drop_zero]
     simp [jp.bnd,one,sat,jp.ret,Rs.sh]
    rw [bnd_ok hm rfl,if_neg (by decide)]
    simp only [dupAt,Option.map_none,outK,jp.ret,Rs.sh,List.map_cons,List.map_nil,joinK]
 | p :: q :: r,acc,n,_,h=>by
   obtain ⟨hv,hi,hn⟩:=h p (by simp)
   simp only [List.length_cons] at hn
   obtain ⟨n,rfl⟩:∃m,n=m+2:=⟨n-2,by omega⟩
   have ih:=members_keys d t (q :: r) (acc++[kv p]) (n+1) (by simp) (fun x hx=>by
    obtain ⟨h1,h3,h2⟩:=h x (by simp at hx ⊢;exact .inr hx)
    simp only [List.length_cons] at h2 ⊢
    exact ⟨h1,h3,by omega⟩)
   have e:joinK wt (p :: q :: r)++125 :: t=pr wt p++44 :: (joinK wt (q :: r)++125 :: t):=by simp [joinK]
   have hlen:(joinK wt (p :: q :: r)).length=(pr wt p).length+1+(joinK wt (q :: r)).length:=by simp [joinK];omega
   rw [e,mem_one hW hv hi (by omega) (sep_cons' 44 _ (.inl rfl)),hlen]
   have hm:more 125 (44 :: (joinK wt (q :: r)++125 :: t))= .ok true 1:=by
    have hb:blanks (joinK wt (q :: r)++125 :: t)= .ok () 0:=by
     unfold blanks
     rw [cnt_head (by rw [head_join];rfl)]
    unfold more
    rw [bnd_ok (f:=blanks) (a:=()) (j:=0) rfl rfl,List.drop_zero]
    show Rs.sh 0 (if (44:Nat)=125 then _ else _)=_
    rw [if_neg (by decide),bnd_ok (f:=want 44) (a:=()) (j:=1) (by simp [want,sat]) (bnd_ok (f:=blanks) (a:=()) (j:=0) hb rfl)]
    rfl
   rw [bnd_ok hm rfl]
   simp only [if_true]
   rw [show (44 :: (joinK wt (q :: r)++125 :: t)).drop 1=joinK wt (q :: r)++125 :: t from rfl,ih]
   conv=>rhs;unfold dupAt
   by_cases h2:twice acc (p.1.map UInt8.toNat)=true
   ·rw [if_pos h2,if_pos h2];rfl
   ·rw [if_neg h2,if_neg h2]
    cases dupAt wt (acc++[kv p]) (q :: r) with
    | some o=>simp only [Option.map_some,outK,Rs.sh,Rs.er.injEq,and_true];omega
    | none=>simp only [Option.map_none,outK,Rs.sh,List.append_assoc,List.map_cons,List.cons_append,List.nil_append,Rs.ok.injEq,true_and];omega
theorem rd_keys {ps:List (List UInt8×Nat)} (hp:ps≠[]) {n:Nat} (h:∀p∈ps,validD p.1=true∧p.2<2000000∧p.1.length+ps.length+2≤n):
  ∃k,rd F (n+1) 1 (123 :: (joinK wt ps++[125]))=outK F [] ps k ((dupAt wt [] ps).map (·+1)):=by
 have hm:=members_keys hW 0 [] ps [] n hp h
 have hv:∃k,value F (n+1) 1 (123 :: (joinK wt ps++[125]))=outK F [] ps (123 :: (joinK wt ps++[125])).length ((dupAt wt [] ps).map (·+1))∧k=0:=by
  refine ⟨0,?_,rfl⟩
  simp only [value]
  rw [if_neg (by simp),if_neg (by simp),if_neg (by simp),if_neg (by simp),if_neg (by simp),if_pos (by simp)]
  rw [bnd_ok (f:=opn 1) (a:=()) (j:=1) (by simp [opn]) rfl]
  obtain ⟨p,r,rfl⟩:∃p r,ps=p :: r:=by cases ps with
   | nil=>exact absurd rfl hp
   | cons p r=>exact ⟨p,r,rfl⟩
  have hb:blanks (joinK wt (p :: r)++[125])= .ok () 0:=by
   unfold blanks
   rw [cnt_head (by rw [head_join];rfl)]
  show Rs.sh 1 (jp.bnd blanks _ (joinK wt (p :: r)++[125]))=_
  rw [bnd_ok hb rfl,List.drop_zero]
  rw [if_neg (by rw [head_join];decide),hm]
  cases dupAt wt [] (p :: r) with
  | some o=>simp only [outK,Option.map_some,Rs.sh,Rs.er.injEq,and_true];omega
  | none=>simp only [outK,Option.map_none,Rs.sh,Rs.ok.injEq,true_and,List.length_append,List.length_cons,List.length_nil];omega
 obtain ⟨_,hv,_⟩:=hv
 cases hd:dupAt wt [] ps with
 | some o=>
   rw [hd] at hv
   refine ⟨0,?_⟩
   unfold rd
   rw [bnd_ok (f:=blanks) (a:=()) (j:=0) rfl rfl,List.drop_zero,bnd_er' hv]
   simp only [outK,Option.map_some,Rs.sh,Rs.er.injEq,and_true]
   omega
 | none=>
   rw [hd] at hv
   apply Exists.intro
   unfold rd
   rw [bnd_ok (f:=blanks) (a:=()) (j:=0) rfl rfl,List.drop_zero,bnd_ok (f:=value F (n+1) 1) hv (r:= .ok (objV ([]++ps.map kv)) 0) (by
    rw [List.drop_length]
    rfl)]
   rfl
end
end Go.Proofs.YtjhhdnnblcbdbaaGreatDoor.jp
end
section
namespace Go.Proofs.YtjhhdnnblcbdbaaGreatDoor.jp
open Go.RowKit val txt Go.Lib
theorem non_more {c:Nat} (h:c=44∨c=58∨c=123∨c=125):non c:=by
 intro st
 have hc:(c:Int)≠45∧(c:Int)≠48∧(c:Int)≠46∧(c:Int)≠101∧(c:Int)≠69∧(c:Int)≠43∧pfx.dig (c:Int)=false:=by
  rcases h with rfl | rfl | rfl | rfl <;> decide
 obtain ⟨c1,c2,c3,c4,c5,c6,c7⟩:=hc
 unfold pfx.nx
 simp [c1,c2,c3,c4,c5,c6,c7]
theorem Nr.beh {z u:List Nat} {m:Nat} (h:Nr z m) (hu:stp u):Nr (z++u) m:=by
 obtain ⟨a,b,rfl,hm,hb⟩:=h
 rcases hb with rfl | ⟨c,r,rfl,hc⟩
 ·exact ⟨a,u,by simp,hm,hu⟩
 ·exact ⟨a,(c :: r)++u,by simp,hm,.inr ⟨c,r++u,rfl,hc⟩⟩
def ANr (z:List Nat) (m:Nat):Prop:=∀p,Nr (z.drop p) m
theorem ANr.app {z u:List Nat} {m:Nat} (hz:ANr z m) (hs:stp u) (hu:ANr u m):ANr (z++u) m:=fun p=>by
 rcases drop_split (E:=z) (z:=u) p with ⟨_,e⟩ | e
 ·rw [e];exact (hz p).beh hs
 ·rw [e];exact hu _
theorem ANr.cons {c:Nat} {z:List Nat} {m:Nat} (hc:non c) (hz:ANr z m):ANr (c :: z) m:=fun p=>by
 cases p with
 | zero=>exact Nr.now hc m
 | succ p=>exact hz p
theorem ANr.small {z:List Nat} {m:Nat} (h:z.length≤m):ANr z m:=fun p=>⟨z.drop p,[],by simp,by rw [List.length_drop];omega,.inl rfl⟩
theorem stp_cons {c:Nat} (h:non c) (r:List Nat):stp (c :: r):= .inr ⟨c,r,rfl,h⟩
theorem anr_quote {l:List UInt8} (hv:validD l=true) {m:Nat} (hm:l.length+4≤m):ANr (nts (quoteZ l)) m:=by
 have e:nts (quoteZ l)=34 :: (nts (encZ l)++[34]):=by simp [nts,quoteZ]
 rw [e]
 refine ANr.cons (non_of (.inl rfl)) fun p=>?_
 obtain ⟨a,b,h1,h2,h3⟩:=(nr_enc l.length l (Nat.le_refl _) hv).2 p
 exact ⟨a,b,h1,by omega,h3⟩
theorem anr_join {wt:Nat→List Nat} {m:Nat}:∀(ps:List (List UInt8×Nat)),(∀p∈ps,validD p.1=true∧p.1.length+4≤m∧(wt p.2).length≤m)→ANr (joinK wt ps) m
 | [],_=>ANr.small (by simp [joinK])
 | [p],h=>by
   obtain ⟨h1,h2,h3⟩:=h p (by simp)
   exact (anr_quote h1 h2).app (stp_cons (non_more (.inr (.inl rfl))) _) (ANr.cons (non_more (.inr (.inl rfl))) (ANr.small h3))
 | p :: q :: r,h=>by
   obtain ⟨h1,h2,h3⟩:=h p (by simp)
   have ih:=anr_join (wt:=wt) (m:=m) (q :: r) fun x hx=>h x (List.mem_cons_of_mem _ hx)
   refine ANr.app ((anr_quote h1 h2).app (stp_cons (non_more (.inr (.inl rfl))) _) (ANr.cons (non_more (.inr (.inl rfl))) (ANr.small h3))) (stp_cons (non_more (.inl rfl)) _) (ANr.cons (non_more (.inl rfl)) ih)
theorem tok_keys {wt:Nat→List Nat} {m:Nat} {ps:List (List UInt8×Nat)} (h:∀p∈ps,validD p.1=true∧p.1.length+4≤m∧(wt p.2).length≤m) (p:Nat):pE ((123 :: (joinK wt ps++[125])).drop p)≤m:=
 (ANr.cons (non_more (.inr (.inr (.inl rfl)))) ((anr_join ps h).app (stp_cons (non_more (.inr (.inr (.inr rfl)))) _) (ANr.cons (non_more (.inr (.inr (.inr rfl)))) (ANr.small (by simp)))) p).pE
end Go.Proofs.YtjhhdnnblcbdbaaGreatDoor.jp
end
section
namespace Go.Proofs.YtjhhdnnblcbdbaaGreatDoor.jp
open Go.RowKit val txt Go.Lib dcm pg fl big us uw
section
variable {wt:Nat→List Nat}
def comma (ps:List (List UInt8×Nat)):List Nat:=if ps=[] then [] else [44]
theorem joinK_snoc (p:List UInt8×Nat):∀ps:List (List UInt8×Nat),joinK wt (ps++[p])=joinK wt ps++(comma ps++pr wt p)
 | []=>by simp [joinK,comma]
 | [q]=>by simp [joinK,comma]
 | q :: r :: t=>by
   have ih:=joinK_snoc p (r :: t)
   show pr wt q++44 :: joinK wt ((r :: t)++[p])=_
   rw [ih]
   simp [joinK,comma]
theorem dupAt_snoc (p:List UInt8×Nat):∀(ps:List (List UInt8×Nat)) (acc:List (ByteArray×V)),dupAt wt acc (ps++[p])=match dupAt wt acc ps with
  | some o=>some o
  | none=>if twice (acc++ps.map kv) (p.1.map UInt8.toNat)=true then some ((joinK wt ps++comma ps).length) else none
 | [],acc=>by
   show dupAt wt acc [p]=_
   simp only [dupAt,List.map_nil,List.append_nil,joinK,comma,if_true,List.length_nil,Option.map_none]
 | q :: r,acc=>by
   have ih:=dupAt_snoc p r (acc++[kv q])
   show dupAt wt acc (q :: (r++[p]))=_
   unfold dupAt
   by_cases h:twice acc (q.1.map UInt8.toNat)=true
   ·rw [if_pos h,if_pos h]
   ·rw [if_neg h,if_neg h,ih]
    cases hd:dupAt wt (acc++[kv q]) r with
    | some o=>rfl
    | none=>
      simp only [Option.map_none,List.append_assoc,List.map_cons,List.cons_append,List.nil_append]
      by_cases h2:twice (acc++kv q :: r.map kv) (p.1.map UInt8.toNat)=true
      ·rw [if_pos h2,if_pos h2]
       cases r with
       | nil=>simp [joinK,comma]
       | cons a r=>simp [joinK,comma];omega
      ·rw [if_neg h2,if_neg h2]
       rfl
end
def PS (ks:List ByteArray):Nat→List (List UInt8×Nat)
 | 0=>[]
 | q+1=>if validD (ks.getD q ByteArray.empty).data.toList=true then PS ks q++[((ks.getD q ByteArray.empty).data.toList,q)] else PS ks q
theorem ps_mem {ks:List ByteArray}:∀{q:Nat} {p:List UInt8×Nat},p∈PS ks q→p.2<q∧p.1=(ks.getD p.2 ByteArray.empty).data.toList∧validD p.1=true
 | 0,p,h=>by simp [PS] at h
 | q+1,p,h=>by
   unfold PS at h
   split at h
   ·rename_i hv
    rcases List.mem_append.1 h with h | h
    ·have:=ps_mem h
     exact ⟨by omega,this.2⟩
    ·obtain rfl:p=_:=by simpa using h
     exact ⟨by simp,rfl,hv⟩
   ·have:=ps_mem h
    exact ⟨by omega,this.2⟩
theorem ps_len (ks:List ByteArray):∀q:Nat,(PS ks q).length≤q
 | 0=>by simp [PS]
 | q+1=>by
   have:=ps_len ks q
   unfold PS
   split
   ·simp;omega
   ·omega
def wi (i:Nat):List Nat:=wtx (i:Int)
theorem adv_digs:∀L:List Nat,(∀c∈L,48≤c∧c≤57)→pfx.adv 3 L=3
 | [],_=>rfl
 | c :: L,h=>by
   have hc:=h c (by simp)
   rw [pfx.adv_cons]
   have:pfx.nx 3 (c:Int)=3:=by
    unfold pfx.nx pfx.dig
    rw [if_neg (by omega),if_pos (by omega),if_pos ⟨by simp;omega,rfl⟩]
   rw [this]
   exact adv_digs L fun x hx=>h x (by simp [hx])
theorem wi_dgs (i:Nat):wi i=dgs i:=by
 unfold wi wtx
 rw [if_neg (by omega)]
 rfl
theorem wi_form (i:Nat):dcm.form (wi i)=1:=by
 rw [wi_dgs]
 unfold dcm.form
 by_cases h0:i=0
 ·subst h0
  decide
 ·obtain ⟨c0,L2,he,h1,h2⟩:=dgs_head i (by omega)
  have hb:=dgs_bytes i
  rw [he] at hb ⊢
  rw [pfx.adv_cons]
  have:pfx.nx 0 (c0:Int)=3:=by
   unfold pfx.nx pfx.dig
   rw [if_pos (by omega),if_neg (by omega),if_neg (by omega),if_pos (by simp;omega)]
  rw [this,adv_digs L2 fun x hx=>hb x (by simp [hx])]
  rfl
theorem wi_whole (i:Nat):wholeZ (wi i)=(i:Int):=by
 rw [wi_dgs]
 unfold wholeZ
 rw [if_neg,dvn_dgs']
 intro h
 have hb:=dgs_bytes i 45
 cases hd:dgs i with
 | nil=>rw [hd] at h;simp at h
 | cons c r=>
   rw [hd] at h
   simp at h
   subst h
   have:=hb (by rw [hd];simp)
   omega
theorem wi_len (i:Nat) (h:i<2000000):(wi i).length≤20:=wtx_len _ (by omega) (by omega)
theorem wi_byte (i:Nat):∀c∈wi i,c<256:=fun c hc=>by
 rw [wi_dgs] at hc
 have:=dgs_bytes i c hc
 omega
theorem wi_fn (P i:Nat) (h:i<2000000):dcm.form (wi i)≠0∧jw.Fn P (wi i)=(2,(i:Int),0,0):=by
 have hf:=wi_form i
 have hw:=wi_whole i
 have hfit:fits (wi i):=by unfold fits;rw [hw];omega
 refine ⟨by rw [hf];decide,jw.fn_of ⟨0,fun ha=>?_,?_⟩⟩
 ·exfalso
  rcases ha with ha | ⟨_,ha⟩
  ·rw [hf] at ha
   omega
  ·exact ha hfit
 ·unfold ans
  rw [if_neg (by rw [hf];decide),if_pos ⟨hf,hfit⟩,hw]
theorem rd_none (F:Nf) (n:Nat):∃k,rd F (n+1) 1 [123,125]= .ok (objV []) k:=by
 apply Exists.intro
 have hv:value F (n+1) 1 [123,125]= .ok (objV []) 2:=by
  simp only [value]
  rw [if_neg (by simp),if_neg (by simp),if_neg (by simp),if_neg (by simp),if_neg (by simp),if_pos (by simp)]
  rw [bnd_ok (f:=opn 1) (a:=()) (j:=1) (by simp [opn]) rfl]
  show Rs.sh 1 (jp.bnd blanks _ [125])=_
  rw [bnd_ok (f:=blanks) (a:=()) (j:=0) rfl rfl,List.drop_zero]
  rfl
 unfold rd
 rw [bnd_ok (f:=blanks) (a:=()) (j:=0) rfl rfl,List.drop_zero,bnd_ok (f:=value F (n+1) 1) hv (r:= .ok (objV []) 0) rfl]
 rfl
def KeysAns (ps:List (List UInt8×Nat)) (r:Rs V):Prop:=match dupAt wi [] ps with
 | some o=>r= .er (o+1) 5
 | none=>∃k,r= .ok (objV (ps.map kv)) k
theorem rd_object {P:Nat} {ps:List (List UInt8×Nat)} {n:Nat} (h:∀p∈ps,validD p.1=true∧p.2<2000000∧p.1.length+ps.length+2≤n):KeysAns ps (rd (jw.Fn P) (n+1) 1 (123 :: (joinK wi ps++[125]))):=by
 unfold KeysAns
 by_cases hp:ps=[]
 ·subst hp
  exact rd_none _ n
 ·obtain ⟨k,hk⟩:=rd_keys (wt:=wi) (F:=jw.Fn P) (fun i hi=>wi_fn P i hi) hp h
  rw [hk]
  cases dupAt wi [] ps with
  | some o=>rfl
  | none=>exact ⟨k,by simp [outK]⟩
def AG (ps:List (List UInt8×Nat)):Int:=match dupAt wi [] ps with
 | some o=>(o:Int)+1
 | none=> -1
theorem ag_snoc (ps:List (List UInt8×Nat)) (p:List UInt8×Nat):AG (ps++[p])=if AG ps<0∧twice (ps.map kv) (p.1.map UInt8.toNat)=true then (((123 :: (joinK wi ps++comma ps)).length:Nat):Int) else AG ps:=by
 unfold AG
 rw [dupAt_snoc,List.nil_append]
 cases dupAt wi [] ps with
 | some o=>
   simp only
   rw [if_neg (by omega)]
 | none=>
   simp only
   by_cases h:twice (ps.map kv) (p.1.map UInt8.toNat)=true
   ·rw [if_pos h,if_pos ⟨by omega,h⟩]
    simp
   ·rw [if_neg h,if_neg fun h'=>h h'.2]
end Go.Proofs.YtjhhdnnblcbdbaaGreatDoor.jp
end
section
namespace Go.Proofs.YtjhhdnnblcbdbaaGreatDoor.mem
open Go.RowKit
section
variable {P:Program} (w:World)
theorem run_str2 (base:Nat) (t u ty e:TypeId) (i:TypeInfo) (ht:P.underlying t=some (.slice e)) (hu:P.underlying u=some .string) (hi:P.info? e=some i) (hz:i.zero=some (.int .u8 0)) (hsize:i.size=1) (hby:i.bytes=1)
  (v:Value) (n:Nat) (xs:List Value) (hown:w.ownsRow base e 1 v n xs) (s:ByteArray) (h63:n+s.size≤maxLen) (hbytes:n+s.size≤140737488355328) (hbase:base≤w.heap.size):
  ∃v' w',(Builtin.append_ #[t,u] ty #[v,.string s]).run P w= .ok v' w'∧w'.ownsRow base e 1 v' (n+s.size) (xs++Lib.strCells s)∧w.grownBy w' v.ownBlock∧(v'.ownBlock=v.ownBlock∨v'.ownBlock=some w.heap.size):=by
 obtain ⟨v',w',hr,h2,h3,h4⟩:=Lib.run_append_own_string (P:=P) w base t u ty e i ht hu hi hz hsize hby v n xs hown s h63 hbytes hbase
 refine ⟨v',w',hr,h2,h3,?_⟩
 rcases hown.2 with ⟨rfl,hx⟩ | ⟨g,cap,cur,rfl,hbg,hg,hnc,hcm,hcs,htake⟩
 ·have hn:n=0:=by have:=hown.1;rw [hx] at this;simp at this;omega
  by_cases hm:s.size=0
  ·exact .inl (by rw [h4.2 ⟨rfl,hm⟩])
  ·have hr2:=run_append_nil_string (P:=P) w t u ty e i (.int .u8 0) ht hu hi hz s (by omega) (by unfold maxLen at h63;omega) (by rw [hby];omega)
   subst hn
   rw [hr] at hr2
   injection hr2 with e1 e2
   subst e1
   exact .inr rfl
 ·by_cases hroom:n+s.size≤cap
  ·have hcs':cur.size=cap:=by simpa using hcs
   have hr2:=Lib.run_append_room_string (P:=P) w t u ty e i ht hu hi hsize g n cap cur hg s hroom (by omega)
   rw [hr] at hr2
   injection hr2 with e1 e2
   subst e1
   exact .inl rfl
  ·have holds:∀j u,xs[j]? =some u→w.cell? ((⟨g,0,none⟩:Addr).add j)=some u:=hown.cells (g:=g) rfl
   have hxl:xs.length=n:=by simpa using hown.1
   have hr2:=Lib.run_append_grow_string (P:=P) w t u ty e i (.int .u8 0) ht hu hi hz ⟨g,0,none⟩ n cap xs (by rw [hsize];omega) holds s (by omega) (by unfold maxLen at h63;omega) (by rw [hby];exact growslice_fits (by omega) (by omega))
   rw [hr] at hr2
   injection hr2 with e1 e2
   subst e1
   exact .inr rfl
theorem wpList_str2 {ops:Array Oper} {rest:List Oper} {o:Oper} {a:Act} {Q:Exit→Act→World→Prop} (hgd:o.guard=none) (sl x:Operand) (t u:TypeId)
  (ho:o.op= .call { callee:= .builtin .append,args:= #[sl,x],argTypes:= #[t,u]})
  (base:Nat) (e:TypeId) (i:TypeInfo) (ht:P.underlying t=some (.slice e)) (hu:P.underlying u=some .string) (hi:P.info? e=some i) (hz:i.zero=some (.int .u8 0)) (hsize:i.size=1) (hby:i.bytes=1)
  (v:Value) (n:Nat) (xs:List Value) (hs:a.eval sl=v) (hown:w.ownsRow base e 1 v n xs) (s:ByteArray) (hx:a.eval x= .string s) (h63:n+s.size≤maxLen) (hbytes:n+s.size≤140737488355328) (hbase:base≤w.heap.size)
  (h:∀v' w',w'.ownsRow base e 1 v' (n+s.size) (xs++Lib.strCells s)→w.grownBy w' v.ownBlock→(v'.ownBlock=v.ownBlock∨v'.ownBlock=some w.heap.size)→wpList P ops Q rest (a.put o.dst v') w'):wpList P ops Q (o :: rest) a w:=by
 refine wpList_plain hgd fun K hK=>?_
 obtain ⟨v',w',hr,h2,h3,h4⟩:=run_str2 (P:=P) w base t u o.type e i ht hu hi hz hsize hby v n xs hown s h63 hbytes hbase
 unfold Oper.wp execOp
 simp only [ho,resolve,invoke,builtin,Sem.run_bind,Sem.run_pure,Result.andThen_ok,List.map_toArray,List.map_cons,List.map_nil,hs,hx,hr]
 exact hK _ _ (h v' w' h2 h3 h4)
end
end Go.Proofs.YtjhhdnnblcbdbaaGreatDoor.mem
end
section
namespace Go.Proofs.YtjhhdnnblcbdbaaGreatDoor.jw
open Go.RowKit mem val jp
open _root_.Go.Proofs.YtjhhdnnblcbdbaaGreatDoor.look (Tabs textOf)
attribute [local go_sem] run_store_float
theorem infoStr:(Tryz.prog.info? 9).map (fun i=>(i.zero,i.size,i.bytes))=some (some (.string ⟨#[]⟩),1,16):=by kernel_rfl
theorem own_apart {w:World} {B B':Nat} {e e':TypeId} {s s' n n':Nat} {v v':Value} {xs xs':List Value} (h:w.ownsRow B e s v n xs) (h':w.ownsRow B' e' s' v' n' xs') (hne:e≠e'):v'.ownBlock=none∨v'.ownBlock≠v.ownBlock:=by
 cases hv:v'.ownBlock with
 | none=>exact .inl rfl
 | some g=>
   refine .inr fun he=>?_
   obtain ⟨c,f,h1⟩:=Lib.ownsRow_kind h g he.symm
   obtain ⟨c',f',h2⟩:=Lib.ownsRow_kind h' g hv
   rw [h1] at h2
   injection h2 with h2
   injection h2 with _ h2
   exact hne h2
theorem kept_other {w w':World} {B B':Nat} {e e':TypeId} {s s' n n':Nat} {v v':Value} {xs xs':List Value} {o:Obj} (h:w.ownsRow B e s v n xs) (h':w.ownsRow B' e' s' v' n' xs') (hne:e≠e') (hg:(w.alloc o).grownBy w' v.ownBlock):w'.ownsRow B' e' s' v' n' xs':=
 (h'.alloc o).kept hg (own_apart (h.alloc o) (h'.alloc o) hne)
def names (ps:List (List UInt8×Nat)):List ByteArray:=(ps.map kv).map (·.1)
def strsV (l:List ByteArray):List Value:=l.map .string
def SB (ps:List (List UInt8×Nat)):List Nat:=123 :: joinK wi ps
theorem strsV_len (l:List ByteArray):(strsV l).length=l.length:=by simp [strsV]
theorem names_len (ps:List (List UInt8×Nat)):(names ps).length=ps.length:=by simp [names]
theorem strsV_get {l:List ByteArray} {k:Nat} (h:k<l.length):(strsV l)[k]? =some (.string (l.getD k ByteArray.empty)):=by
 unfold strsV
 rw [List.getElem?_map,List.getElem?_eq_getElem h,List.getD_eq_getElem?_getD,List.getElem?_eq_getElem h]
 rfl
def totS (ks:List ByteArray):Nat→Nat
 | 0=>0
 | q+1=>totS ks q+(ks.getD q ByteArray.empty).size
theorem quote_len (s:ByteArray):(nts (txt.quoteZ s.data.toList)).length≤6*s.size+2:=by
 have e0:=Lib.size_eq s
 have:=txt.encZ_length s.data.toList.length s.data.toList (Nat.le_refl _)
 simp only [nts,List.length_map,txt.quoteZ,List.length_cons,List.length_append,List.length_nil]
 omega
theorem comma_len (ps:List (List UInt8×Nat)):(comma ps).length≤1:=by unfold comma;split <;> simp
theorem join_len (ks:List ByteArray):∀q:Nat,q≤2000000→(joinK wi (PS ks q)).length≤6*totS ks q+24*q
 | 0,_=>by simp [PS,joinK]
 | q+1,h=>by
   have ih:=join_len ks q (by omega)
   unfold PS totS
   split
   ·have h1:=quote_len (ks.getD q ByteArray.empty)
    have h2:=wi_len q (by omega)
    have h3:=comma_len (PS ks q)
    rw [joinK_snoc]
    simp only [List.length_append,pr,List.length_cons]
    omega
   ·omega
theorem join_byte (ks:List ByteArray):∀q:Nat,∀x∈joinK wi (PS ks q),x<256
 | 0=>fun x hx=>by simp [PS,joinK] at hx
 | q+1=>fun x hx=>by
   have ih:=join_byte ks q
   unfold PS at hx
   split at hx
   ·rw [joinK_snoc] at hx
    simp only [List.mem_append,pr,List.mem_cons] at hx
    rcases hx with hx | hx | hx | hx | hx
    ·exact ih x hx
    ·unfold comma at hx
     split at hx <;> simp at hx
     omega
    ·exact nts_lt _ x hx
    ·omega
    ·exact wi_byte q x hx
   ·exact ih x hx
theorem strN_bt (l:List Nat):big.strN l=bt l:=by
 apply ByteArray.ext
 apply Array.toList_inj.1
 rw [bt_data]
 simp [big.strN]
theorem cells_bt {l:List Nat} (h:∀x∈l,x<256):Lib.strCells (bt l)=us l:=by
 unfold Lib.strCells us
 rw [bt_data,List.map_map,List.map_map]
 refine List.map_congr_left fun x hx=>?_
 have:=h x hx
 simp only [Function.comp]
 rw [UInt8.toNat_ofNat']
 congr 1
 omega
def AJ (a L:Int) (b:Bool):Int:=if a<0∧b=true then L else a
theorem aj_false (a L:Int):AJ a L false=a:=by simp [AJ]
theorem aj_hit {a L:Int} {b:Bool} (h:AJ a L b<0) (hL:0≤L):AJ a L true=L:=by
 unfold AJ at h ⊢
 split at h
 ·omega
 ·rw [if_pos ⟨by omega,rfl⟩]
theorem aj_stay {a L:Int} {b:Bool} (h:¬AJ a L b<0):AJ a L b=AJ a L true:=by
 unfold AJ at h ⊢
 split at h
 ·rename_i h1
  rw [if_pos h1,if_pos ⟨h1.1,rfl⟩]
 ·rename_i h1
  rw [if_neg h1,if_neg fun h2=>by omega]
theorem twice_step {acc:List (ByteArray×V)} {key:List Nat} {j:Nat} {p:ByteArray×V} (h:acc[j]? =some p):twice (acc.take (j+1)) key=(twice (acc.take j) key||(p.1.data.toList==(bt key).data.toList)):=by
 unfold twice
 rw [List.take_add_one,h,Option.toList_some,List.any_append]
 simp
theorem tl_eq (s:ByteArray):s.toList=s.data.toList:=ByteArray.toList_eq s
theorem nx9 {w a b:World} (h:Hid (Below w.heap.size w a)) (k:Below a.heap.size a b):Hid (Below w.heap.size w b):=Lib.hid (h.out.trans (k.mono h.out.size))
theorem below_dn {B:Nat} {w w':World} (h:Below B w w') (n:Nat):Below B w (w'.drewN n):=⟨h.os,h.tape,h.output,h.size,h.block⟩
theorem dep1:dep 1=1:=by decide
theorem bt_app' (a b:List Nat):bt a++bt b=bt (a++b):=by
 unfold bt strOf
 rw [List.map_append,List.map_append]
 apply ByteArray.ext
 apply Array.toList_inj.1
 simp
theorem add_bt (a b:List Nat) {B:ByteArray} (hB:bt b=B) (h:a.length+b.length≤1099511627776) (W:World):(Op.stringOp .add (bt a) B).run Tryz.prog W= .ok (.string (bt (a++b))) W:=by
 rw [←hB,←bt_app']
 exact run_string_add_sum _ _ _ (by rw [bt_size,bt_size];omega)
theorem sb_snoc (ps:List (List UInt8×Nat)) (p:List UInt8×Nat):SB (ps++[p])=SB ps++comma ps++pr wi p:=by simp [SB,joinK_snoc]
theorem names_snoc (ps:List (List UInt8×Nat)) (s:ByteArray) (q:Nat):strsV (names (ps++[(s.data.toList,q)]))=strsV (names ps)++[.string s]:=by simp [names,strsV,kv,bt_nats2]
theorem ps_val {ks:List ByteArray} {q i:Nat} {p:ByteArray×V} (h:((PS ks q).map kv)[i]? =some p):∃k:Nat,p.2=numV 2 k 0:=by
 rw [List.getElem?_map] at h
 cases hx:(PS ks q)[i]? with
 | none=>rw [hx] at h;cases h
 | some x=>
   rw [hx] at h
   injection h with h
   subst h
   exact ⟨x.2,rfl⟩
set_option maxRecDepth 100000 in
set_option maxHeartbeats 4000000 in
theorem keys_any {P:Nat} (A:Option Addr) (c n:Nat) (ks:List ByteArray) (w:World) (hr:Rd w w.heap.size A (strsV ks)) (hl:ks.length=n) (hn:n≤1048576) (hsz:∀k,k<n→(ks.getD k ByteArray.empty).size≤1048576) (htot:∀q,totS ks q≤1048576)
  (hT:Tabs w) (htab:Lib.TabIs Tryz.prog w "internal/strconv.uint64pow10" .u64 Lib.pow10Tab) (hnum:NumOf (Fn P) w)
  (hfix:Calls Tryz.prog 12 #[] w fun e w'=>e= .returned (.bool true)∧Below w.heap.size w w'):
  Calls Tryz.prog 10 #[.slice A n c] w fun e w'=>e= .returned (.bool true)∧Below w.heap.size w w':=by
 have HFx:=Lib.hid hfix
 have HTx:=Lib.hid (fun (W:World) (s:ByteArray) (hs:s.size≤1048576) (hW:Below w.heap.size w W)=>_root_.Go.Proofs.YtjhhdnnblcbdbaaGreatDoor.look.text_any s (by omega) W (hT.below hW))
 have HWt:=Lib.hid (fun (W:World) (q:Nat) (hq:q≤1048576) (hW:Below w.heap.size w W)=>(pg.wholeT_any (q:Int) W (by omega) (by omega) (uw.tab_below htab hW)).mono (fun e w' (h:pg.StPost _ _ _ _)=>(⟨by rw [h.1,strN_bt];rfl,h.2⟩:e= .returned (.string (bt (wi q)))∧Below W.heap.size W w')))
 have HKc:=Lib.hid (fun (W:World) (hW:Below w.heap.size w W) (q:Nat) (hq:q<n)=>by
  obtain ⟨ad,hA,hb,hc⟩:=hr q _ (strsV_get (l:=ks) (k:=q) (by omega))
  exact (⟨ad,hA,fun wx hx=>(hx.cell (p:=ad.add q) (by rw [add_block];exact hb)).trans hc⟩:∃ad,A=some ad∧∀wx,Below w.heap.size w wx→wx.cell? (ad.add q)=some (.string (ks.getD q ByteArray.empty))))
 have HSz:=Lib.hid hsz
 have HJl:=Lib.hid (fun q (hq:q≤n)=>Nat.le_trans (join_len ks q (by omega)) (Nat.add_le_add (Nat.mul_le_mul_left 6 (htot q)) (Nat.mul_le_mul_left 24 hq)))
 have HJb:=Lib.hid (join_byte ks)
 obtain ⟨iv,hiv,hv0,hv1,hv2⟩:=info_get infoBy
 obtain ⟨is,his,hs0,hs1,hs2⟩:=info_get infoStr
 have HR:=Lib.hid (fun (W:World) (A':Option Addr) (c' m N:Nat) (src:List Nat) (hW:Below w.heap.size w W) (h1:src.length=m) (h2:m≤1099511627776) (h3:∀p,pE (src.drop p)≤1100000) (h4:∀x∈src,x<256) (h5:Rd W W.heap.size A' (us src)) (h6:m≤c') (h7:c'≤maxLen) (h8:2*m<N)=>read_any (F:=Fn P) A' m c' src 1 N W h1 h2 h3 h4 h5 (fun s hs W' hW'=>hnum s hs W' (hW.trans (hW'.mono hW.size))) (fn_nf P) h6 h7 h8)
 clear hfix hT htab hr hsz hnum htot hl
 go_enter Tryz.func10,Tryz.ntmps10
 go_wp2_with fail
 refine HFx.out.mono ?_
 rintro e w1 ⟨rfl,hb1⟩
 have hs1':=hb1.size
 have HB1:=Lib.hid hb1
 clear hb1 HFx
 go_wp2_with fail
 have hO0:(w1.alloc (.cells #[.int .u8 123] 5)).ownsRow w1.heap.size 5 1 (.slice (some ⟨w1.heap.size,0,none⟩) 1 1) 1 (us (SB (PS ks 0))):=⟨by simp [us,SB,PS,joinK],.inr ⟨w1.heap.size,1,#[.int .u8 123],rfl,Nat.le_refl _,heap_alloc_new _ _,by decide,by decide,by simp,by simp [us,SB,PS,joinK]⟩⟩
 have hb2:Below w1.heap.size w1 (w1.alloc (.cells #[.int .u8 123] 5)):=(Below.refl _ _).alloc (Nat.le_refl _) _
 generalize (w1.alloc (.cells #[.int .u8 123] 5))=w2 at*
 go_loopw [3,4,5,6] (fun v3 v4 v5 v6 W=>∃(q:Nat) (vs vl:Value),q≤n∧v6= .int .i64 (q:Int)∧v4= .int .i64 (AG (PS ks q))∧vs=v3∧vl=v5∧Hid (W.ownsRow w1.heap.size 5 1 vs (SB (PS ks q)).length (us (SB (PS ks q))))∧Hid (W.ownsRow w1.heap.size 9 1 vl (PS ks q).length (strsV (names (PS ks q))))∧Below w1.heap.size w1 W) (fun _ _ _ v6 _=>n-(intOf v6).toNat)
 case atStart=>exact ⟨0,_,_,Nat.zero_le _,rfl,rfl,rfl,rfl,Lib.hid hO0,Lib.hid (World.ownsRow_nil _ _ _ _),hb2⟩
 case round=>
  clear hO0 hb2
  obtain ⟨q,vs,vl,hq,rfl,rfl,rfl,rfl,HO,HL,hb⟩:=hrel
  have hszr:=hb.size
  have HBr:=Lib.hid (HB1.out.trans (hb.mono hs1'))
  have hpl:=ps_len ks q
  by_cases hlt:q<n
  ·obtain ⟨ad,rfl,hcell⟩:=HKc.out wr HBr.out q hlt
   have hkey:=HSz.out q hlt
   have hjl:=HJl.out q hq
   have HP:Hid (PS ks (q+1)=if Lib.validD (ks.getD q ByteArray.empty).data.toList=true then PS ks q++[((ks.getD q ByteArray.empty).data.toList,q)] else PS ks q):=Lib.hid rfl
   generalize ks.getD q ByteArray.empty=key at*
   have HCell:=Lib.hid hcell
   have hc1:=hcell wr HBr.out
   have HTk:=Lib.hid (HTx.out wr key hkey HBr.out)
   have hlq:(q:Int)<(n:Int):=by omega
   have h0q:(0:Int)≤(q:Int):=by omega
   generalize PS ks q=ps at*
   clear hcell
   go_wp2_with fail
   refine HTk.out.mono ?_
   rintro e w3 ⟨rfl,hb3⟩
   have HB3:=nx9 HBr hb3
   have HO3:=Lib.hid (own_below HO.out hb3)
   have HL3:=Lib.hid (own_below HL.out hb3)
   have hbw3:Below w1.heap.size w1 w3:=hb.trans (hb3.mono hszr)
   have hszr3:=hbw3.size
   clear hb3 HTk HO HL hb hc1 HBr hszr
   cases hv:Lib.validD key.data.toList with
   | false=>
     have HP1:Hid (PS ks (q+1)=ps):=Lib.hid (by rw [HP.out,hv];rfl)
     simp only [Bool.false_eq_true,if_false]
     go_wp2_with fail
     exact ⟨⟨q+1,_,_,by omega,by go_num,by rw [HP1.out],rfl,rfl,by rw [HP1.out];exact HO3,by rw [HP1.out];exact HL3,hbw3⟩,by simp [intOf];omega⟩
   | true=>
     have HP1:Hid (PS ks (q+1)=ps++[(key.data.toList,q)]):=Lib.hid (by rw [HP.out,hv];rfl)
     simp only [if_true]
     rw [textOf_bt key]
     have HTq:Hid (pr wi (key.data.toList,q)=nts (txt.quoteZ key.data.toList)++58 :: wi q):=Lib.hid rfl
     have hTl:=quote_len key
     have hTb:=nts_lt key.data.toList
     have hNl:=wi_len q (by omega)
     have hNb:=wi_byte q
     generalize nts (txt.quoteZ key.data.toList)=T at*
     have hbk:=bt_nats2 key
     have HAg:=Lib.hid (ag_snoc ps (key.data.toList,q))
     simp only at HAg
     generalize key.data.toList.map UInt8.toNat=kk at*
     have HMm:Hid ((ps.map kv).length=ps.length):=Lib.hid (by simp)
     have hcm:comma ps=if ps.length=0 then [] else [44]:=by
      unfold comma
      cases ps <;> simp
     have HSn:=Lib.hid (sb_snoc ps (key.data.toList,q))
     have HNs:=Lib.hid (names_snoc ps key q)
     have hsbl:(SB ps).length=(joinK wi ps).length+1:=by simp [SB]
     obtain ⟨A5,c5,rfl,hA5,hc5,hm5⟩:=own_form HL3.out
     have HNl:=Lib.hid (names_len ps)
     generalize hmm:ps.length=m at*
     have HMm2:=Lib.hid hmm
     clear hmm
     have HBk:=Lib.hid hbk
     have HTb:=Lib.hid hTb
     have HNb:=Lib.hid hNb
     clear hv hbk hTb hNb
     rcases Nat.eq_zero_or_pos m with hm0 | hm0
     ·have hgt:decide ((m:Int)>0)=false:=decide_eq_false (by omega)
      have hgt2:decide (0<m)=false:=decide_eq_false (by omega)
      have hgt3:¬(0<m):=by omega
      have HO4:Hid (w3.ownsRow w1.heap.size 5 1 vs (SB ps++comma ps).length (us (SB ps++comma ps))):=Lib.hid (by rw [hcm,if_pos hm0,List.append_nil];exact HO3.out)
      have hcl:(comma ps).length≤1:=comma_len ps
      have HL4:=HL3
      have HB4:=HB3
      have hb4:=hbw3
      clear HO3 HL3 HB3 hbw3 hszr3 hcm hm0
      go_wp2_with fail
      clear hgt hgt2 hgt3
      generalize vs=v1 at*
      generalize w3=w4 at*
      have hs4:=hb4.size
      obtain ⟨A3,c3,rfl,hA3,hc3,hm3⟩:=own_form HO4.out
      have hLj:(SB ps++comma ps).length=(joinK wi ps).length+1+(comma ps).length:=by rw [List.length_append,hsbl]
      generalize hLg:(SB ps++comma ps).length=L at*
      have HLg:=Lib.hid hLg
      have HLj:=Lib.hid hLj
      have hLle:L≤40000000:=by omega
      clear hLg hLj
      have hrl:=Rd.of_own HL4.out
      have HLc:Hid (∀W,Below w4.heap.size w4 W→∀j,j<m→∃(p:ByteArray×V) (a5:Addr),(ps.map kv)[j]? =some p∧A5=some a5∧W.cell? (a5.add j)=some (.string p.1)):=Lib.hid fun W hW j hj=>by
       obtain ⟨p,hp⟩:∃p,(ps.map kv)[j]? =some p:=⟨_,List.getElem?_eq_getElem (by rw [HMm.out];exact hj)⟩
       obtain ⟨a5,e5,hb5,hc5⟩:=hrl j (.string p.1) (by unfold strsV names;rw [List.getElem?_map,List.getElem?_map,hp];rfl)
       exact ⟨_,a5,hp,e5,(hW.cell (p:=a5.add j) (by rw [add_block];exact hb5)).trans hc5⟩
      clear hrl
      go_loopw [4,9] (fun v4 v9 W=>∃j:Nat,j≤m∧v9= .int .i64 (j:Int)∧v4= .int .i64 (AJ (AG ps) (L:Int) (twice ((ps.map kv).take j) kk))∧Hid (Below w4.heap.size w4 W)) (fun _ v9 _=>m-(intOf v9).toNat)
      case atStart=>exact ⟨0,Nat.zero_le _,rfl,by simp [twice,aj_false],Lib.hid (Below.refl _ _)⟩
      case round=>
       obtain ⟨j,hj,rfl,rfl,HBj⟩:=hrel
       by_cases hlj:j<m
       ·obtain ⟨p,a5,hp,rfl,hc⟩:=HLc.out wr HBj.out j hlj
        have hck:=HCell.out wr (HB4.out.trans (HBj.out.mono HB4.out.size))
        have HTw:=Lib.hid (twice_step (key:=kk) hp)
        rw [HBk.out] at HTw
        have hjm:(j:Int)<(m:Int):=by omega
        have h0j:(0:Int)≤(j:Int):=by omega
        have hL0:(0:Int)≤(L:Int):=by omega
        obtain ⟨s5,x5⟩:=p
        simp only at hc HTw
        obtain ⟨x,hx⟩:∃x,AJ (AG ps) (L:Int) (twice ((ps.map kv).take j) kk)=x:=⟨_,rfl⟩
        rw [hx]
        have HX:=Lib.hid hx
        clear hx hp
        by_cases heq:s5=key
        ·have hq':(s5.toList==key.toList)=true:=by rw [heq];simp
         have HTw2:Hid (twice ((ps.map kv).take (j+1)) kk=true):=Lib.hid (by rw [HTw.out,heq];simp)
         clear heq
         by_cases hneg:x<0
         ·have hd:decide (x<0)=true:=decide_eq_true hneg
          have HE:Hid ((L:Int)=AJ (AG ps) (L:Int) (twice ((ps.map kv).take (j+1)) kk)):=Lib.hid (by rw [HTw2.out];exact (aj_hit (by rw [HX.out];exact hneg) hL0).symm)
          clear hneg
          go_upto_region 15 with (fail)
          go_quiet (fail)
          go_wp2_with fail
          exact ⟨⟨j+1,by omega,by go_num,by rw [←HE.out],Lib.hid (below_dn HBj.out _)⟩,by simp [intOf];omega⟩
         ·have hd:decide (x<0)=false:=decide_eq_false hneg
          have HE:Hid (x=AJ (AG ps) (L:Int) (twice ((ps.map kv).take (j+1)) kk)):=Lib.hid (by rw [HTw2.out,←HX.out];exact aj_stay (by rw [HX.out];exact hneg))
          clear hneg
          go_upto_region 15 with (fail)
          go_quiet (fail)
          go_wp2_with fail
          exact ⟨⟨j+1,by omega,by go_num,by rw [←HE.out],Lib.hid (below_dn HBj.out _)⟩,by simp [intOf];omega⟩
        ·have hq':(s5.toList==key.toList)=false:=beq_false_of_ne (fun e=>heq (by rw [tl_eq,tl_eq] at e;exact ByteArray.ext (Array.toList_inj.mp e)))
         have HTw2:Hid (twice ((ps.map kv).take (j+1)) kk=twice ((ps.map kv).take j) kk):=Lib.hid (by rw [HTw.out,←tl_eq,←tl_eq,hq',Bool.or_false])
         have HE:Hid (x=AJ (AG ps) (L:Int) (twice ((ps.map kv).take (j+1)) kk)):=Lib.hid (by rw [HTw2.out];exact HX.out.symm)
         clear heq
         go_upto_region 15 with (fail)
         go_quiet (fail)
         go_wp2_with fail
         exact ⟨⟨j+1,by omega,by go_num,by rw [←HE.out],Lib.hid (below_dn HBj.out _)⟩,by simp [intOf];omega⟩
       ·obtain rfl:j=m:=by omega
        have HA2:Hid (AJ (AG ps) (L:Int) (twice ((ps.map kv).take j) kk)=AG (PS ks (q+1))):=Lib.hid (by
         rw [List.take_of_length_le (by rw [HMm.out];exact Nat.le_refl _),HP1.out,HAg.out]
         unfold AJ
         have:(123 :: (joinK wi ps++comma ps)).length=L:=by rw [←HLg.out];simp [SB]
         rw [this])
        have HO5:=Lib.hid (own_below HO4.out HBj.out)
        have HL5:=Lib.hid (own_below HL4.out HBj.out)
        have hck:=HCell.out wr (HB4.out.trans (HBj.out.mono HB4.out.size))
        have hb5:Below w1.heap.size w1 wr:=hb4.trans (HBj.out.mono hs4)
        have hs5:=hb5.size
        generalize AJ (AG ps) (L:Int) (twice ((ps.map kv).take j) kk)=ag at*
        clear HO4 HL4 HLc HBj hlj
        have z2:¬(9223372036854775807<(bt T).size+1):=by rw [bt_size];omega
        go_wp2_with (at_builtin;go_must (refine wpList_app _ rfl (.tmp 60) (.tmp 65) _ rfl w1.heap.size 9 is _ 1 16 Tryz.underlying58 his hs0 hs1 hs2 rfl (by omega) (.slice A5 j c5) j (strsV (names ps)) rfl (HL5.out.alloc _) (wr.heap.size+1) (some ⟨wr.heap.size,0,none⟩) 1 1 [.string key] rfl rfl (Rd.new wr _ 9) (fun h=>by cases h) (by simp;rfl) (by unfold maxLen;omega) (by omega) (by simp;omega) ?_);intro v5 w6 hown6 hgrow6 hat6)
        have HL6:Hid (w6.ownsRow w1.heap.size 9 1 v5 (j+1) (strsV (names ps)++[.string key])):=Lib.hid hown6
        have HO6:Hid (w6.ownsRow w1.heap.size 5 1 (.slice A3 L c3) L (us (SB ps++comma ps))):=Lib.hid (kept_other HL5.out HO5.out (by decide) hgrow6)
        have hb6:Below w1.heap.size w1 w6:=below_app1 hb5 HL5.out (Nat.le_refl _) hs5 hgrow6
        have HB6:=Lib.hid (HB1.out.trans (hb6.mono hs1'))
        have hs6:=hb6.size
        clear hown6 hgrow6 hat6 HL5 HO5 hb5 hs5 hck
        rw [show bt T++({ data:= #[58]}:ByteArray)=bt (T++[58]) from bt_app' T [58]]
        refine (HWt.out w6 q (by omega) HB6.out).mono ?_
        rintro e w7 ⟨rfl,hb7⟩
        have HL7:=Lib.hid (own_below HL6.out hb7)
        have HO7:=Lib.hid (own_below HO6.out hb7)
        have hbw7:Below w1.heap.size w1 w7:=hb6.trans (hb7.mono hs6)
        have hs7:=hbw7.size
        have z4:¬(9223372036854775807<(bt (T++[58])).size+(bt (wi q)).size):=by rw [bt_size,bt_size];simp;omega
        have zE:=Lib.hid (bt_app' (T++[58]) (wi q))
        have hzz:(bt (T++[58]++wi q)).size=T.length+1+(wi q).length:=by rw [bt_size];simp;omega
        clear HL6 HO6 hb6 HB6 hs6 hb7 z2
        go_wp2_with (at_builtin;go_must (refine wpList_str2 _ rfl _ _ _ _ rfl w1.heap.size 5 iv Tryz.underlying22 Tryz.underlying9 hiv hv0 hv1 hv2 (.slice A3 L c3) L (us (SB ps++comma ps)) rfl HO7.out (bt (T++[58])++bt (wi q)) rfl (by rw [zE.out,hzz];unfold maxLen;omega) (by rw [zE.out,hzz];omega) hs7 ?_;intro v8 w8 hown8 hgrow8 hat8))
        have hfin:us (SB ps++comma ps)++Lib.strCells (bt (T++[58]++wi q))=us (SB (PS ks (q+1))):=by
         rw [cells_bt (fun x hx=>?_),HP1.out,HSn.out,HTq.out,←us_app,List.append_assoc T]
         ·rfl
         ·simp only [List.mem_append,List.mem_cons,List.not_mem_nil,or_false] at hx
          rcases hx with (hx | hx) | hx
          ·exact HTb.out x hx
          ·omega
          ·exact HNb.out x hx
        have hfl:L+(bt (T++[58]++wi q)).size=(SB (PS ks (q+1))).length:=by
         rw [HP1.out,HSn.out,HTq.out,List.length_append,HLg.out,hzz,List.length_append,List.length_cons]
         omega
        rw [zE.out,hfin,hfl] at hown8
        have HO8:=Lib.hid hown8
        have HL8:Hid (w8.ownsRow w1.heap.size 9 1 v5 (PS ks (q+1)).length (strsV (names (PS ks (q+1))))):=Lib.hid (by
         have h:=HL7.out.kept hgrow8 (own_apart HO7.out HL7.out (by decide))
         rw [HP1.out,HNs.out,List.length_append,HMm2.out]
         exact h)
        have hb8:Below w1.heap.size w1 w8:=below_app hbw7 HO7.out (Nat.le_refl _) hs7 hgrow8
        clear hown8 hgrow8 hat8 HO7 HL7 hbw7 hfin hfl z4 zE hzz
        go_wp2_with fail
        exact ⟨⟨q+1,_,_,by omega,by go_num,by rw [HA2.out],rfl,rfl,HO8,HL8,hb8⟩,by simp [intOf];omega⟩
     ·have hgt:decide ((m:Int)>0)=true:=decide_eq_true (by omega)
      have hgt2:decide (0<m)=true:=decide_eq_true (by omega)
      have hgt3:0<m:=by omega
      go_wp2_with (at_builtin;go_must (refine wpList_app _ rfl (.tmp 36) (.tmp 37) _ rfl w1.heap.size 5 iv _ 1 1 Tryz.underlying22 hiv hv0 hv1 hv2 rfl (by omega) vs (SB ps).length (us (SB ps)) rfl (HO3.out.alloc _) (w3.heap.size+1) (some ⟨w3.heap.size,0,none⟩) 1 1 [.int .u8 44] rfl rfl (Rd.new w3 _ 5) (fun h=>by cases h) (by simp;rfl) (by unfold maxLen;omega) (by omega) (by simp;omega) ?_);intro v1 w4 hown hgrow hat)
      have hcl:(comma ps).length≤1:=comma_len ps
      have HO4:Hid (w4.ownsRow w1.heap.size 5 1 v1 (SB ps++comma ps).length (us (SB ps++comma ps))):=Lib.hid (by rw [hcm,if_neg (by omega),us_app,List.length_append];exact hown)
      have HL4:Hid (w4.ownsRow w1.heap.size 9 1 (.slice A5 m c5) m (strsV (names ps))):=Lib.hid (kept_other HO3.out HL3.out (by decide) hgrow)
      have hb4:Below w1.heap.size w1 w4:=below_app1 hbw3 HO3.out (Nat.le_refl _) hszr3 hgrow
      have HB4:=Lib.hid (HB1.out.trans (hb4.mono hs1'))
      clear HO3 HL3 HB3 hbw3 hszr3 hcm hm0 hown hgrow hat
      go_wp2_with fail
      clear hgt hgt2 hgt3
      have hs4:=hb4.size
      obtain ⟨A3,c3,rfl,hA3,hc3,hm3⟩:=own_form HO4.out
      have hLj:(SB ps++comma ps).length=(joinK wi ps).length+1+(comma ps).length:=by rw [List.length_append,hsbl]
      generalize hLg:(SB ps++comma ps).length=L at*
      have HLg:=Lib.hid hLg
      have HLj:=Lib.hid hLj
      have hLle:L≤40000000:=by omega
      clear hLg hLj
      have hrl:=Rd.of_own HL4.out
      have HLc:Hid (∀W,Below w4.heap.size w4 W→∀j,j<m→∃(p:ByteArray×V) (a5:Addr),(ps.map kv)[j]? =some p∧A5=some a5∧W.cell? (a5.add j)=some (.string p.1)):=Lib.hid fun W hW j hj=>by
       obtain ⟨p,hp⟩:∃p,(ps.map kv)[j]? =some p:=⟨_,List.getElem?_eq_getElem (by rw [HMm.out];exact hj)⟩
       obtain ⟨a5,e5,hb5,hc5⟩:=hrl j (.string p.1) (by unfold strsV names;rw [List.getElem?_map,List.getElem?_map,hp];rfl)
       exact ⟨_,a5,hp,e5,(hW.cell (p:=a5.add j) (by rw [add_block];exact hb5)).trans hc5⟩
      clear hrl
      go_loopw [4,9] (fun v4 v9 W=>∃j:Nat,j≤m∧v9= .int .i64 (j:Int)∧v4= .int .i64 (AJ (AG ps) (L:Int) (twice ((ps.map kv).take j) kk))∧Hid (Below w4.heap.size w4 W)) (fun _ v9 _=>m-(intOf v9).toNat)
      case atStart=>exact ⟨0,Nat.zero_le _,rfl,by simp [twice,aj_false],Lib.hid (Below.refl _ _)⟩
      case round=>
       obtain ⟨j,hj,rfl,rfl,HBj⟩:=hrel
       by_cases hlj:j<m
       ·obtain ⟨p,a5,hp,rfl,hc⟩:=HLc.out wr HBj.out j hlj
        have hck:=HCell.out wr (HB4.out.trans (HBj.out.mono HB4.out.size))
        have HTw:=Lib.hid (twice_step (key:=kk) hp)
        rw [HBk.out] at HTw
        have hjm:(j:Int)<(m:Int):=by omega
        have h0j:(0:Int)≤(j:Int):=by omega
        have hL0:(0:Int)≤(L:Int):=by omega
        obtain ⟨s5,x5⟩:=p
        simp only at hc HTw
        obtain ⟨x,hx⟩:∃x,AJ (AG ps) (L:Int) (twice ((ps.map kv).take j) kk)=x:=⟨_,rfl⟩
        rw [hx]
        have HX:=Lib.hid hx
        clear hx hp
        by_cases heq:s5=key
        ·have hq':(s5.toList==key.toList)=true:=by rw [heq];simp
         have HTw2:Hid (twice ((ps.map kv).take (j+1)) kk=true):=Lib.hid (by rw [HTw.out,heq];simp)
         clear heq
         by_cases hneg:x<0
         ·have hd:decide (x<0)=true:=decide_eq_true hneg
          have HE:Hid ((L:Int)=AJ (AG ps) (L:Int) (twice ((ps.map kv).take (j+1)) kk)):=Lib.hid (by rw [HTw2.out];exact (aj_hit (by rw [HX.out];exact hneg) hL0).symm)
          clear hneg
          go_upto_region 15 with (fail)
          go_quiet (fail)
          go_wp2_with fail
          exact ⟨⟨j+1,by omega,by go_num,by rw [←HE.out],Lib.hid (below_dn HBj.out _)⟩,by simp [intOf];omega⟩
         ·have hd:decide (x<0)=false:=decide_eq_false hneg
          have HE:Hid (x=AJ (AG ps) (L:Int) (twice ((ps.map kv).take (j+1)) kk)):=Lib.hid (by rw [HTw2.out,←HX.out];exact aj_stay (by rw [HX.out];exact hneg))
          clear hneg
          go_upto_region 15 with (fail)
          go_quiet (fail)
          go_wp2_with fail
          exact ⟨⟨j+1,by omega,by go_num,by rw [←HE.out],Lib.hid (below_dn HBj.out _)⟩,by simp [intOf];omega⟩
        ·have hq':(s5.toList==key.toList)=false:=beq_false_of_ne (fun e=>heq (by rw [tl_eq,tl_eq] at e;exact ByteArray.ext (Array.toList_inj.mp e)))
         have HTw2:Hid (twice ((ps.map kv).take (j+1)) kk=twice ((ps.map kv).take j) kk):=Lib.hid (by rw [HTw.out,←tl_eq,←tl_eq,hq',Bool.or_false])
         have HE:Hid (x=AJ (AG ps) (L:Int) (twice ((ps.map kv).take (j+1)) kk)):=Lib.hid (by rw [HTw2.out];exact HX.out.symm)
         clear heq
         go_upto_region 15 with (fail)
         go_quiet (fail)
         go_wp2_with fail
         exact ⟨⟨j+1,by omega,by go_num,by rw [←HE.out],Lib.hid (below_dn HBj.out _)⟩,by simp [intOf];omega⟩
       ·obtain rfl:j=m:=by omega
        have HA2:Hid (AJ (AG ps) (L:Int) (twice ((ps.map kv).take j) kk)=AG (PS ks (q+1))):=Lib.hid (by
         rw [List.take_of_length_le (by rw [HMm.out];exact Nat.le_refl _),HP1.out,HAg.out]
         unfold AJ
         have:(123 :: (joinK wi ps++comma ps)).length=L:=by rw [←HLg.out];simp [SB]
         rw [this])
        have HO5:=Lib.hid (own_below HO4.out HBj.out)
        have HL5:=Lib.hid (own_below HL4.out HBj.out)
        have hck:=HCell.out wr (HB4.out.trans (HBj.out.mono HB4.out.size))
        have hb5:Below w1.heap.size w1 wr:=hb4.trans (HBj.out.mono hs4)
        have hs5:=hb5.size
        generalize AJ (AG ps) (L:Int) (twice ((ps.map kv).take j) kk)=ag at*
        clear HO4 HL4 HLc HBj hlj
        have z2:¬(9223372036854775807<(bt T).size+1):=by rw [bt_size];omega
        go_wp2_with (at_builtin;go_must (refine wpList_app _ rfl (.tmp 60) (.tmp 65) _ rfl w1.heap.size 9 is _ 1 16 Tryz.underlying58 his hs0 hs1 hs2 rfl (by omega) (.slice A5 j c5) j (strsV (names ps)) rfl (HL5.out.alloc _) (wr.heap.size+1) (some ⟨wr.heap.size,0,none⟩) 1 1 [.string key] rfl rfl (Rd.new wr _ 9) (fun h=>by cases h) (by simp;rfl) (by unfold maxLen;omega) (by omega) (by simp;omega) ?_);intro v5 w6 hown6 hgrow6 hat6)
        have HL6:Hid (w6.ownsRow w1.heap.size 9 1 v5 (j+1) (strsV (names ps)++[.string key])):=Lib.hid hown6
        have HO6:Hid (w6.ownsRow w1.heap.size 5 1 (.slice A3 L c3) L (us (SB ps++comma ps))):=Lib.hid (kept_other HL5.out HO5.out (by decide) hgrow6)
        have hb6:Below w1.heap.size w1 w6:=below_app1 hb5 HL5.out (Nat.le_refl _) hs5 hgrow6
        have HB6:=Lib.hid (HB1.out.trans (hb6.mono hs1'))
        have hs6:=hb6.size
        clear hown6 hgrow6 hat6 HL5 HO5 hb5 hs5 hck
        rw [show bt T++({ data:= #[58]}:ByteArray)=bt (T++[58]) from bt_app' T [58]]
        refine (HWt.out w6 q (by omega) HB6.out).mono ?_
        rintro e w7 ⟨rfl,hb7⟩
        have HL7:=Lib.hid (own_below HL6.out hb7)
        have HO7:=Lib.hid (own_below HO6.out hb7)
        have hbw7:Below w1.heap.size w1 w7:=hb6.trans (hb7.mono hs6)
        have hs7:=hbw7.size
        have z4:¬(9223372036854775807<(bt (T++[58])).size+(bt (wi q)).size):=by rw [bt_size,bt_size];simp;omega
        have zE:=Lib.hid (bt_app' (T++[58]) (wi q))
        have hzz:(bt (T++[58]++wi q)).size=T.length+1+(wi q).length:=by rw [bt_size];simp;omega
        clear HL6 HO6 hb6 HB6 hs6 hb7 z2
        go_wp2_with (at_builtin;go_must (refine wpList_str2 _ rfl _ _ _ _ rfl w1.heap.size 5 iv Tryz.underlying22 Tryz.underlying9 hiv hv0 hv1 hv2 (.slice A3 L c3) L (us (SB ps++comma ps)) rfl HO7.out (bt (T++[58])++bt (wi q)) rfl (by rw [zE.out,hzz];unfold maxLen;omega) (by rw [zE.out,hzz];omega) hs7 ?_;intro v8 w8 hown8 hgrow8 hat8))
        have hfin:us (SB ps++comma ps)++Lib.strCells (bt (T++[58]++wi q))=us (SB (PS ks (q+1))):=by
         rw [cells_bt (fun x hx=>?_),HP1.out,HSn.out,HTq.out,←us_app,List.append_assoc T]
         ·rfl
         ·simp only [List.mem_append,List.mem_cons,List.not_mem_nil,or_false] at hx
          rcases hx with (hx | hx) | hx
          ·exact HTb.out x hx
          ·omega
          ·exact HNb.out x hx
        have hfl:L+(bt (T++[58]++wi q)).size=(SB (PS ks (q+1))).length:=by
         rw [HP1.out,HSn.out,HTq.out,List.length_append,HLg.out,hzz,List.length_append,List.length_cons]
         omega
        rw [zE.out,hfin,hfl] at hown8
        have HO8:=Lib.hid hown8
        have HL8:Hid (w8.ownsRow w1.heap.size 9 1 v5 (PS ks (q+1)).length (strsV (names (PS ks (q+1))))):=Lib.hid (by
         have h:=HL7.out.kept hgrow8 (own_apart HO7.out HL7.out (by decide))
         rw [HP1.out,HNs.out,List.length_append,HMm2.out]
         exact h)
        have hb8:Below w1.heap.size w1 w8:=below_app hbw7 HO7.out (Nat.le_refl _) hs7 hgrow8
        clear hown8 hgrow8 hat8 HO7 HL7 hbw7 hfin hfl z4 zE hzz
        go_wp2_with fail
        exact ⟨⟨q+1,_,_,by omega,by go_num,by rw [HA2.out],rfl,rfl,HO8,HL8,hb8⟩,by simp [intOf];omega⟩
  ·obtain rfl:q=n:=by omega
   have hjl:=HJl.out q (Nat.le_refl _)
   have hmem:∀p∈PS ks q,Lib.validD p.1=true∧p.2<2000000∧p.1.length≤1048576:=fun p hp=>by
    obtain ⟨h1,h2,h3⟩:=ps_mem hp
    have h4:=HSz.out p.2 h1
    have h5:=Lib.size_eq (ks.getD p.2 ByteArray.empty)
    rw [h2] at h3 ⊢
    exact ⟨h3,by omega,by omega⟩
   have hjb:=HJb.out q
   have HV:=Lib.hid (fun (i:Nat) (p:ByteArray×V) (h:((PS ks q).map kv)[i]? =some p)=>ps_val h)
   generalize PS ks q=ps at*
   obtain ⟨N,hN⟩:∃N,N=2*(SB ps).length+4000000:=⟨_,rfl⟩
   have HKA:=Lib.hid (rd_object (P:=P) (ps:=ps) (n:=N) (fun p hp=>⟨(hmem p hp).1,(hmem p hp).2.1,by have:=(hmem p hp).2.2;omega⟩))
   have HTok:=Lib.hid (tok_keys (wt:=wi) (m:=1100000) (ps:=ps) (fun p hp=>⟨(hmem p hp).1,by have:=(hmem p hp).2.2;omega,by have:=wi_len p.2 (hmem p hp).2.1;omega⟩))
   have hsbl:(SB ps).length=(joinK wi ps).length+1:=by simp [SB]
   have HBy:Hid (∀x∈SB ps++[125],x<256):=Lib.hid (fun x hx=>by
    simp only [SB,List.cons_append,List.mem_cons,List.mem_append,List.not_mem_nil,or_false] at hx
    rcases hx with hx | hx | hx
    ·omega
    ·exact hjb x hx
    ·omega)
   have HSb:Hid (SB ps++[125]=123 :: (joinK wi ps++[125])):=Lib.hid rfl
   rw [←HSb.out] at HKA HTok
   have hsl:(SB ps++[125]).length=(SB ps).length+1:=by simp
   obtain ⟨A5,c5,rfl,hA5,hc5,hm5⟩:=own_form HL.out
   have hrl:=Rd.of_own HL.out
   clear hmem hjb
   go_wp2_with (at_builtin;go_must (refine wpList_app _ rfl (.tmp 75) (.tmp 76) _ rfl w1.heap.size 5 iv _ 1 1 Tryz.underlying22 hiv hv0 hv1 hv2 rfl (by omega) vs (SB ps).length (us (SB ps)) rfl (HO.out.alloc _) (wr.heap.size+1) (some ⟨wr.heap.size,0,none⟩) 1 1 [.int .u8 125] rfl rfl (Rd.new wr _ 5) (fun h=>by cases h) (by simp;rfl) (by unfold maxLen;omega) (by omega) (by simp;omega) ?_);intro v1 w4 hown hgrow hat)
   have HL4:Hid (w4.ownsRow w1.heap.size 9 1 (.slice A5 ps.length c5) ps.length (strsV (names ps))):=Lib.hid (kept_other HO.out HL.out (by decide) hgrow)
   have hb4:Below w1.heap.size w1 w4:=below_app1 hb HO.out (Nat.le_refl _) hszr hgrow
   have HB4:=Lib.hid (HB1.out.trans (hb4.mono hs1'))
   obtain ⟨A3,c3,rfl,hA3,hc3,hm3⟩:=own_form hown
   have hR4:=HR.out w4 A3 c3 ((SB ps).length+1) (N+1) (SB ps++[125]) HB4.out hsl (by omega) HTok.out HBy.out (by rw [us_app];exact Rd.of_own hown) hc3 hm3 (by omega)
   rw [dep1] at hR4
   have HR4:=Lib.hid hR4
   clear hR4 hown hgrow hat HO HL hb hrl
   go_wp2_with fail
   refine HR4.out.mono ?_
   rintro e w5 hQ
   have HKA2:=HKA.out
   unfold KeysAns at HKA2
   have HAG:Hid (AG ps=match dupAt wi [] ps with | some o=>(o:Int)+1 | none=> -1):=Lib.hid rfl
   generalize AG ps=ag at*
   cases hd:dupAt wi [] ps with
   | some o=>
     rw [hd] at HKA2 HAG
     simp only at HKA2 HAG
     rw [HKA2] at hQ
     obtain ⟨hb5,rfl⟩:=hQ
     have HB5:=nx9 HB4 hb5
     have hge:decide (ag≥0)=true:=decide_eq_true (by rw [HAG.out];omega)
     have heq:((o:Int)+1==ag)=true:=by rw [HAG.out];simp
     clear HKA HKA2 HAG hd hb5 HR4 HL4
     go_wp2_with fail
     go_ret
     exact ⟨rfl,HB5.out.alloc HB5.out.size _⟩
   | none=>
     rw [hd] at HKA2 HAG
     simp only at HKA2 HAG
     obtain ⟨k,hk⟩:=HKA2
     rw [hk] at hQ
     obtain ⟨hb5,cs,rfl,hv5⟩:=hQ
     unfold objV at hv5
     simp only [IsV,List.length_nil] at hv5
     obtain ⟨A6,c6,A7,c7,rfl,_,h7,_,hF⟩:=hv5
     have HB5:=nx9 HB4 hb5
     have HL5:=Lib.hid (own_below HL4.out hb5)
     have hge:decide (ag≥0)=false:=decide_eq_false (by rw [HAG.out];omega)
     have hrl:=Rd.of_own HL5.out
     have HMl:Hid ((ps.map kv).length=ps.length):=Lib.hid (by simp)
     have hml:(ps.map kv).length=ps.length:=HMl.out
     rw [hml] at h7 ⊢
     generalize ps.length=m at*
     have g6:(w5.alloc (.cells #[.int .i64 6,.bool false,.int .i64 0,.float .f64 0,.string ByteArray.empty,.string ByteArray.empty,.slice A6 0 c6,.slice A7 m c7] 29)).heap[w5.heap.size]? =some (.cells #[.int .i64 6,.bool false,.int .i64 0,.float .f64 0,.string ByteArray.empty,.string ByteArray.empty,.slice A6 0 c6,.slice A7 m c7] 29):=heap_alloc_new _ _
     have hb6:Below w5.heap.size w5 (w5.alloc (.cells #[.int .i64 6,.bool false,.int .i64 0,.float .f64 0,.string ByteArray.empty,.string ByteArray.empty,.slice A6 0 c6,.slice A7 m c7] 29)):=(Below.refl _ _).alloc (Nat.le_refl _) _
     have hs6:w5.heap.size<(w5.alloc (.cells #[.int .i64 6,.bool false,.int .i64 0,.float .f64 0,.string ByteArray.empty,.string ByteArray.empty,.slice A6 0 c6,.slice A7 m c7] 29)).heap.size:=by simp
     clear HKA HAG hd hb5 HR4 HL4 hk hml
     go_upto_region 20 with fail
     generalize (w5.alloc (.cells #[.int .i64 6,.bool false,.int .i64 0,.float .f64 0,.string ByteArray.empty,.string ByteArray.empty,.slice A6 0 c6,.slice A7 m c7] 29))=w6 at*
     have HB6:=nx9 HB5 hb6
     have HFc:Hid (∀W:World,Below w6.heap.size w6 W→∀i:Nat,i<m→∃(s:ByteArray) (am a5:Addr),A7=some am∧A5=some a5∧W.cell? (am.add (i*9))=some (.string s)∧W.cell? ⟨(am.add (i*9)).block,(am.add (i*9)).off+1,none⟩=some (.int .i64 2)∧W.cell? (a5.add i)=some (.string s)):=Lib.hid fun W hW i hi=>by
      obtain ⟨p,hp⟩:∃p,(ps.map kv)[i]? =some p:=⟨_,List.getElem?_eq_getElem (by rw [HMl.out];exact hi)⟩
      obtain ⟨am,cm,rfl,hS,hC,hV⟩:=hF.at_ hp
      obtain ⟨kz,hkz⟩:=HV.out i p hp
      obtain ⟨s,x⟩:=p
      simp only at hkz hC hV
      subst hkz
      unfold numV at hV
      simp only [IsV] at hV
      obtain ⟨B1,d1,B2,d2,rfl,_⟩:=hV
      obtain ⟨n0,n1,_⟩:=hC.nine
      obtain ⟨a5,rfl,hb5',hc5'⟩:=hrl i (.string s) (by unfold strsV names;rw [List.getElem?_map,List.getElem?_map,hp];rfl)
      have hbW:Below w5.heap.size w5 W:=hb6.trans (hW.mono hb6.size)
      rw [Nat.zero_add] at n0 n1
      exact ⟨s,am,a5,rfl,rfl,(hbW.cell (p:=am.add (i*9)) (by rw [add_block];exact hS.2)).trans n0,(hbW.cell (p:=⟨(am.add (i*9)).block,(am.add (i*9)).off+1,none⟩) (by show (am.add (i*9)).block<_;rw [add_block];exact hS.2)).trans n1,(hbW.cell (p:=a5.add i) (by rw [add_block];exact hb5')).trans hc5'⟩
     obtain ⟨o0,o1,o2,o3,o4,o5,o6,o7⟩:=blk8 g6
     have HBx:Hid (∀W:World,Below w6.heap.size w6 W→W.cell? ⟨w5.heap.size,7,none⟩=some (.slice A7 m c7)):=Lib.hid fun W hW=>(hW.cell (p:=⟨w5.heap.size,7,none⟩) hs6).trans o7
     clear hF hrl h7 HV g6 hb6 HL5 o1 o2 o3 o4 o5 o6 hs6
     go_wp2_with fail
     go_loopw [13] (fun v13 W=>∃i:Nat,i≤m∧v13= .int .i64 (i:Int)∧Hid (Below w6.heap.size w6 W)) (fun v13 _=>m-(intOf v13).toNat)
     case atStart=>exact ⟨0,Nat.zero_le _,rfl,Lib.hid (Below.refl _ _)⟩
     case round=>
      obtain ⟨i,hi,rfl,HBi⟩:=hrel
      by_cases hlt2:i<m
      ·obtain ⟨s,am,a5,rfl,rfl,q0,q1,q2⟩:=HFc.out wr HBi.out i hlt2
       have qx:=HBx.out wr HBi.out
       have hlq:(i:Int)<(m:Int):=by omega
       have h0q:(0:Int)≤(i:Int):=by omega
       have hne:(s.toList !=s.toList)=false:=by simp
       clear o0 o7
       go_upto_region 27 with (fail)
       go_quiet (fail)
       go_wp2_with fail
       exact ⟨⟨i+1,by omega,by go_num,Lib.hid (below_dn HBi.out _)⟩,by simp [intOf];omega⟩
      ·obtain rfl:i=m:=by omega
       have hbe:=HB6.out.trans (HBi.out.mono HB6.out.size)
       clear o0 o7
       go_wp2_with fail
       go_ret
       exact ⟨rfl,hbe⟩
end Go.Proofs.YtjhhdnnblcbdbaaGreatDoor.jw
end
