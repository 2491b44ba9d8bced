/- The reference's decimal texts: Digits, WholeText. The reference's decimal texts, walked: Digits, WholeText. The reference's cut: a number text taken apart. -/
import Derived.Test.YtjhhdnnblcbdbaaGreatDoorGMem
import Derived.Deep.Cut
import Derived.Deep.QuietTactic
import Derived.BigQuiet
section
namespace Go.Proofs.YtjhhdnnblcbdbaaGreatDoor.big
open Go.RowKit mem fl
set_option linter.unusedVariables false
theorem infoB:(Tryz.prog.info? 5).map (fun i=>(i.zero,i.size,i.bytes))=some (some (.int .u8 0),1,1):=by kernel_rfl
def ns (l:List Nat):List Value:=l.map fun x:Nat=> .int .u8 (x:Int)
def strN (l:List Nat):ByteArray:=⟨(l.map UInt8.ofNat).toArray⟩
theorem strN_size (l:List Nat):(strN l).size=l.length:=by simp [strN,ByteArray.size]
theorem strN_list (l:List Nat):(strN l).data.toList=l.map UInt8.ofNat:=by simp [strN]
theorem ns_length (l:List Nat):(ns l).length=l.length:=by simp [ns]
theorem ns_app (a b:List Nat):ns (a++b)=ns a++ns b:=by simp [ns]
theorem ns_get {l:List Nat} {k:Nat} (h:k<l.length):(ns l)[k]? =some (.int .u8 (l.getD k 0:Int)):=by
 unfold ns
 rw [List.getElem?_map,List.getElem?_eq_getElem h,List.getD_eq_getElem?_getD,List.getElem?_eq_getElem h]
 rfl
theorem ns_none {w:World} {B:Nat} {A:Option Addr} {l:List Nat} (h:Rd w B A (ns l)):A=none→l.length=0:=by
 rintro rfl
 by_cases hz:l.length=0
 ·exact hz
 ·obtain ⟨ad,h1,_⟩:=h 0 _ (ns_get (l:=l) (k:=0) (by omega))
  cases h1
theorem conv_bytes {w:World} {B:Nat} (A:Option Addr) (l:List Nat) (c:Nat) (hr:Rd w B A (ns l)):(convert 22 9 (.slice A l.length c)).run Tryz.prog w= .ok (.string (strN l)) w:=by
 have h:=run_conv_bytes (P:=Tryz.prog) (w:=w) (B:=B) 22 9 5 A (l.map fun x:Nat=>(x:Int)) c Tryz.underlying22 Tryz.underlying5 Tryz.underlying9 (by
  have:(l.map fun x:Nat=>(x:Int)).map (Value.int .u8)=ns l:=by simp [ns]
  rw [this];exact hr) (by rw [List.length_map];exact ns_none hr)
 rw [List.length_map] at h
 have e:strOf (l.map fun x:Nat=>(x:Int))=strN l:=by simp [strOf,strN]
 rw [e] at h
 exact h
def dgF:Nat→Nat→List Nat
 | 0,_=>[]
 | f+1,u=>(48+u % 10) :: if u/10=0 then [] else dgF f (u/10)
def dg (u:Nat):List Nat:=dgF (u+1) u
def dgs (u:Nat):List Nat:=(dg u).reverse
theorem dgF_fuel:∀(f g u:Nat),u<f→u<g→dgF f u=dgF g u
 | 0,g,u,h,_=>by omega
 | f+1,0,u,_,h=>by omega
 | f+1,g+1,u,h1,h2=>by
   unfold dgF
   by_cases h:u/10=0
   ·rw [if_pos h,if_pos h]
   ·rw [if_neg h,if_neg h,dgF_fuel f g _ (by omega) (by omega)]
theorem dg_step (u:Nat):dg u=(48+u % 10) :: if u/10=0 then [] else dg (u/10):=by
 unfold dg
 show ((48+u % 10) :: if u/10=0 then [] else dgF u (u/10))=_
 by_cases h:u/10=0
 ·rw [if_pos h,if_pos h]
 ·rw [if_neg h,if_neg h,dgF_fuel u (u/10+1) _ (by omega) (by omega)]
theorem getD_ext {a b:List Nat} (hl:a.length=b.length) (h:∀j,j<a.length→a.getD j 0=b.getD j 0):a=b:=by
 apply List.ext_getElem hl
 intro j h1 h2
 have:=h j h1
 rw [List.getD_eq_getElem?_getD,List.getD_eq_getElem?_getD,List.getElem?_eq_getElem h1,List.getElem?_eq_getElem h2] at this
 simpa using this
theorem getD_set (l:List Nat) (i j x:Nat) (h:i<l.length):(l.set i x).getD j 0=if j=i then x else l.getD j 0:=by
 rw [List.getD_eq_getElem?_getD,List.getElem?_set]
 by_cases e:j=i
 ·subst e
  simp [h]
 ·rw [if_neg (fun h=>e h.symm),if_neg e,List.getD_eq_getElem?_getD]
theorem ns_set (l:List Nat) (i x:Nat):(ns l).set i (.int .u8 (x:Int))=ns (l.set i x):=by simp [ns,List.map_set]
end Go.Proofs.YtjhhdnnblcbdbaaGreatDoor.big
end
section
namespace Go.Proofs.YtjhhdnnblcbdbaaGreatDoor.big
open Go.RowKit mem fl
set_option linter.unusedVariables false
def wtx (n:Int):List Nat:=if n<0 then 45 :: dgs n.natAbs else dgs n.natAbs
theorem strN_app (a b:List Nat):strN a++strN b=strN (a++b):=by
 apply ByteArray.ext
 apply Array.toList_inj.1
 simp [strN]
end Go.Proofs.YtjhhdnnblcbdbaaGreatDoor.big
end
section
namespace Go.Proofs.YtjhhdnnblcbdbaaGreatDoor.big
open Go.RowKit mem fl
set_option linter.unusedVariables false
structure Cs where
 neg:Bool
 b:List Nat
 x:Int
 exp:Nat
 dot:Bool
 e:Bool
 down:Bool
 more:Bool
def Cs.start:Cs:=⟨false,[],0,0,false,false,false,false⟩
def cutStep (s:Cs) (c:Nat):Cs:=
 if c=46 then { s with dot:=true}
 else if c=101∨c=69 then { s with e:=true}
 else if c=45 then (if s.e then { s with down:=true} else { s with neg:=true})
 else if c=43 then s
 else if s.e then (if s.exp<1125899906842624 then { s with exp:=10*s.exp+(c-48)} else s)
 else if s.b.length=800 then { s with x:=(if s.dot then s.x-1 else s.x)+1,more:=s.more||c !=48}
 else if c≠48∨0<s.b.length then { s with x:=(if s.dot then s.x-1 else s.x),b:=s.b++[c]}
 else { s with x:=(if s.dot then s.x-1 else s.x)}
def cutF (l:List Nat):Cs:=l.foldl cutStep Cs.start
def nats (s:ByteArray):List Nat:=s.data.toList.map UInt8.toNat
theorem nats_length (s:ByteArray):(nats s).length=s.size:=by simp [nats]
theorem nats_get (s:ByteArray) (k:Nat) (h:k<s.size):(nats s)[k]'(by rw [nats_length];exact h)=(s[k]).toNat:=by
 simp [nats]
 rfl
theorem nats_snoc (s:ByteArray) (k:Nat) (h:k<s.size):(nats s).take (k+1)=(nats s).take k++[(s[k]).toNat]:=by
 rw [List.take_succ_eq_append_getElem (by rw [nats_length];exact h),nats_get s k h]
theorem nats_strN (l:List Nat) (h:∀c∈l,c<256):nats (strN l)=l:=by
 unfold nats
 rw [strN_list,List.map_map]
 refine (List.map_congr_left fun c hc=>?_).trans (List.map_id _)
 have:=h c hc
 simp only [Function.comp,UInt8.toNat_ofNat']
 exact Nat.mod_eq_of_lt this
end Go.Proofs.YtjhhdnnblcbdbaaGreatDoor.big
end
