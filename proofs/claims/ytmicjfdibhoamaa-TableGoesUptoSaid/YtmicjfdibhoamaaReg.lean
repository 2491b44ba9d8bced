/- A statement of a function's text, by its number. -/
import Derived.Test.YtmicjfdibhoamaaProg
namespace Go.Proofs.Ytmicjfdibhoamaa.val

/-- the region of this number -/
def regOf (n : Nat) : Code → Option Code
  | .region id ops d => if id = n then some (.region id ops d) else none
  | .seq a b => match regOf n a with
    | some c => some c
    | none => regOf n b
  | .block _ c => regOf n c
  | .scope c => regOf n c
  | .loop c => regOf n c
  | .cond _ a b => match regOf n a with
    | some c => some c
    | none => regOf n b
  | _ => none
end Go.Proofs.Ytmicjfdibhoamaa.val
