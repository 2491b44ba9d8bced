/- The plain law of number prefixes: the program's table of states and the document's answer read every list of characters alike. No condition: plain lists and numbers. -/
namespace Go.Proofs.Ytgmcglicnhafcaa.pfx

def dig (c : Int) : Bool := decide (48 ≤ c) && decide (c ≤ 57)

/-- the program's 'next' -/
def nx (s c : Int) : Int :=
  if s = 0 ∨ s = 1 then
    if c = 45 ∧ s = 0 then 1 else if c = 48 then 2 else if dig c then 3 else 9
  else if s = 2 ∨ s = 3 then
    if dig c ∧ s = 3 then 3 else if c = 46 then 4 else if c = 101 ∨ c = 69 then 6 else 9
  else if s = 4 ∨ s = 5 then
    if dig c then 5 else if s = 5 ∧ (c = 101 ∨ c = 69) then 6 else 9
  else if s = 6 ∨ s = 7 ∨ s = 8 then
    if dig c then 8 else if s = 6 ∧ (c = 43 ∨ c = 45) then 7 else 9
  else 9

/-- the form of a text that ends in a state -/
def fm (s : Int) : Int := if s = 2 ∨ s = 3 then 1 else if s = 5 ∨ s = 8 then 2 else 0

/-- the document's 'step' -/
def stp (s c : Int) : Int :=
  if s = 0 ∨ s = 1 then
    if c = 45 ∧ s = 0 then 1 else if c = 48 then 2 else if dig c then 3 else -1
  else if s = 2 ∨ s = 3 then
    if dig c ∧ s = 3 then 3 else if c = 46 then 4 else if c = 101 ∨ c = 69 then 6 else -1
  else if s = 4 then
    if dig c then 5 else -1
  else if s = 5 then
    if dig c then 5 else if c = 101 ∨ c = 69 then 6 else -1
  else if s = 6 then
    if dig c then 8 else if c = 43 ∨ c = 45 then 7 else -1
  else if s = 7 ∨ s = 8 then
    if dig c then 8 else -1
  else -1

theorem nx_range (s c : Int) : 0 ≤ nx s c ∧ nx s c ≤ 9 := by
  unfold nx
  repeat' split
  all_goals omega

theorem stp_nx (s c : Int) (h0 : 0 ≤ s) (h8 : s ≤ 8) : stp s c = if nx s c = 9 then -1 else nx s c := by
  have hs : s = 0 ∨ s = 1 ∨ s = 2 ∨ s = 3 ∨ s = 4 ∨ s = 5 ∨ s = 6 ∨ s = 7 ∨ s = 8 := by omega
  rcases hs with rfl | rfl | rfl | rfl | rfl | rfl | rfl | rfl | rfl <;> simp [stp, nx] <;> (repeat' split) <;> simp_all

/-- what 'Prefix' answers behind a state, the end, the stop and the form so far: i characters were read, cs are left -/
def run (st e f : Int) (i : Nat) : List Int → Int × Int × Int
  | [] => (e, (i : Int), f)
  | c :: r => if nx st c = 9 then (e, (i : Int), f) else if fm (nx st c) = 0 then run (nx st c) e f (i + 1) r else run (nx st c) ((i : Int) + 1) (fm (nx st c)) (i + 1) r

/-- 'Prefix' -/
def pf (cs : List Int) (at_ : Int) : Int × Int × Int :=
  if at_ < 0 ∨ (cs.length : Int) < at_ then (0, 0, 0) else run 0 at_ 0 at_.toNat (cs.drop at_.toNat)

theorem run_step (st e f : Int) (i : Nat) (cs : List Int) (h : i < cs.length) :
    run st e f i (cs.drop i) = if nx st (cs.getD i 0) = 9 then (e, (i : Int), f) else if fm (nx st (cs.getD i 0)) = 0 then run (nx st (cs.getD i 0)) e f (i + 1) (cs.drop (i + 1))
      else run (nx st (cs.getD i 0)) ((i : Int) + 1) (fm (nx st (cs.getD i 0))) (i + 1) (cs.drop (i + 1)) := by
  rw [List.drop_eq_getElem_cons h]
  have : cs.getD i 0 = cs[i] := by simp [h]
  rw [this]
  rfl

theorem run_end (st e f : Int) (cs : List Int) (i : Nat) (h : i = cs.length) : run st e f i (cs.drop i) = (e, (i : Int), f) := by
  subst h
  simp [run]
end Go.Proofs.Ytgmcglicnhafcaa.pfx
