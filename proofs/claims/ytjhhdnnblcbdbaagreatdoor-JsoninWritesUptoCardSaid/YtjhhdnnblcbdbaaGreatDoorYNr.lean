/- NumberReads, walked. -/
import Derived.Test.YtjhhdnnblcbdbaaGreatDoorGRga
import Derived.Test.YtjhhdnnblcbdbaaGreatDoorGRb
import Derived.Test.YtjhhdnnblcbdbaaGreatDoorGPfp
import Derived.Test.YtjhhdnnblcbdbaaGreatDoorGRe
import Derived.Test.YtjhhdnnblcbdbaaGreatDoorGFlt
import Derived.Deep.RegionHeld
import Derived.Deep.RegionHeld3
import Derived.Deep.RegionLaw
namespace Go.Proofs.YtjhhdnnblcbdbaaGreatDoor.dcm
open Go.RowKit mem fl big us uw pg
set_option linter.unusedVariables false
attribute [local go_sem] run_store_float
theorem ans_shape (l:List Nat) (R:Nat):∃(k v:Int) (b:Nat) (e:Int),ans l R=numV k v b e:=by
 unfold ans fltV
 split
 ·exact ⟨_,_,_,_,rfl⟩
 ·split
  ·exact ⟨_,_,_,_,rfl⟩
  ·split
   ·exact ⟨_,_,_,_,rfl⟩
   ·exact ⟨_,_,_,_,rfl⟩
theorem numV_inj {k v e k' v' e':Int} {b b':Nat} (h:numV k v b e=numV k' v' b' e'):k=k'∧v=v'∧b=b'∧e=e':=by
 unfold numV at h
 simpa [and_assoc] using h
def Nm (P:Nat) (l:List Nat) (k v:Int) (b:Nat) (e:Int):Prop:=∃R,(asks l→Sd P l R∧R≤9218868437227405312)∧ans l R=numV k v b e
theorem read_parts' {P z:Nat} (hz:z=1074) (hP:P=2^z) (s:ByteArray) (hn:s.size≤1100000) (w:World) (hE:REnv w):
  Calls Tryz.prog 17 #[.string s] w fun e w'=>∃(k v:Int) (b:Nat) (er:Int),Hid (Nm P (nats s) k v b er)∧e= .returned (.tuple #[.agg #[.int .i64 k,.int .i64 v,.float .f64 b],.int .i64 er])∧Below w.heap.size w w':=by
 refine (read_all hz hP s hn w hE).mono ?_
 rintro e w' ⟨R,hR,he,hb⟩
 obtain ⟨k,v,b,er,hs⟩:=ans_shape (nats s) R
 exact ⟨k,v,b,er,Lib.hid ⟨R,hR,hs⟩,by rw [he,hs];rfl,hb⟩
end Go.Proofs.YtjhhdnnblcbdbaaGreatDoor.dcm
