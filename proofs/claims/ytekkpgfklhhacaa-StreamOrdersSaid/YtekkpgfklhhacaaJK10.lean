/- CheckAll, of the program and of the reference. -/
import Derived.Test.YtekkpgfklhhacaaJK9
import Derived.Test.YtekkpgfklhhacaaT1
set_option linter.all false
set_option maxRecDepth 2000
set_option maxHeartbeats 8000000
namespace Go.Proofs.Vl
open Go Go.RowKit
attribute [local irreducible] AWp OpTo Run DL Val UN DR AC Le thn inb nog
def chkT (t : Tk) : Int := chkI t.nm t.c t.t t.d t.j t.q t.p
theorem checkRT_ac (G) (t : Tk) (hs : t.nm.size ≤ maxLen) : AC Try.prog G 45 [.pag (tkP t)] [] (fun r _ => r = vi (chkT t)) := checkR_ac G t.nm hs t.c t.t t.d t.j t.q t.p
def goAll : List Tk → List Tk → Int × Int
  | seen, [] => (seen.length, 0)
  | seen, t :: r => if chkT t = 0 then (if seen.any (fun u => decide (u.nm = t.nm) || decide (u.p = t.p)) then (seen.length, 13) else goAll (seen ++ [t]) r) else (seen.length, chkT t)
def allI (l : List Tk) : Int × Int := if l.length = 0 ∨ 1024 < l.length then (0, 14) else goAll [] l
theorem goAll_at (l : List Tk) (j : Nat) (h : j < l.length) : goAll (l.take j) (l.drop j) = if chkT l[j] = 0 then (if (l.take j).any (fun u => decide (u.nm = l[j].nm) || decide (u.p = l[j].p)) then ((j : Int), 13) else goAll (l.take (j + 1)) (l.drop (j + 1))) else ((j : Int), chkT l[j]) := by
  rw [at_nat l j h, goAll, List.take_succ_eq_append_getElem h]
  have : (l.take j).length = j := by simp; omega
  rw [this]
end Go.Proofs.Vl
