/- atof64 and ParseFloat, walked: where the exact way answers. atof64 and ParseFloat where no digit is cut off: the nearest float. -/
import Derived.Test.YtjhhdnnblcbdbaaGreatDoorYRh
import Derived.Test.YtjhhdnnblcbdbaaGreatDoorGFx
section
namespace Go.Proofs.YtjhhdnnblcbdbaaGreatDoor.uw
open Go.RowKit mem fl big us
set_option linter.unusedVariables false
def OptAt (w:World):Prop:=w.cell? ⟨7,0,none⟩=some (.bool true)
theorem b2u_ff (w:World):Calls Tryz.prog 156 #[.bool false] w fun e w'=>e= .returned (.int .u64 0)∧w=w':=(b2u_any false w).mono fun _ _ h=>h
end Go.Proofs.YtjhhdnnblcbdbaaGreatDoor.uw
end
section
namespace Go.Proofs.YtjhhdnnblcbdbaaGreatDoor.uw
open Go.RowKit mem fl big us
set_option linter.unusedVariables false
theorem dec_p64 (P d i R:Nat) (hP:P=2^1074) (h:Near (d*10^(i-348)*2^1074) (10^(348-i)) R):Dec P d ((i:Int)-348) R:=by
 unfold Dec
 rw [show ((i:Int)-348).toNat=i-348 by omega,show (-((i:Int)-348)).toNat=348-i by omega,hP]
 exact h
theorem dec_unique {P d:Nat} {p:Int} {r s:Nat} (h1:Dec P d p r) (h2:Dec P d p s):r=s:=Near.unique h1 h2 (Nat.pow_pos (by decide))
end Go.Proofs.YtjhhdnnblcbdbaaGreatDoor.uw
end
