import Derived.Test.YtekkpgfklhhacaaVC
import Derived.Test.YtekkpgfklhhacaaProg
import Derived.KernelRfl
set_option linter.all false
set_option maxRecDepth 2000
set_option maxHeartbeats 8000000
namespace Go.Proofs.Vl
open Go Go.RowKit
attribute [local irreducible] AWp OpTo Run DL Val UN DR AC Le thn inb nog
abbrev vc (n : Int) : AV := .c (.p (.s (.int .u8 n)))
abbrev vs (s : ByteArray) : AV := .c (.p (.s (.string s)))
def letB (c : Int) : Bool := (decide (bits .or .u8 c 32 ≥ 97) && decide (bits .or .u8 c 32 ≤ 122)) || c == 95
def digB (c : Int) : Bool := decide (c ≥ 48) && decide (c ≤ 57)
def goesB (c : Int) : Bool := c == 46 || c == 45 || letB c || digB c
def byt (s : ByteArray) (i : Nat) : Int := ((s.data.toList.getD i 0).toNat : Int)
/-- How many bytes, from the first on, are such ones. -/
def longN (p : Int → Bool) : List Int → Nat
  | [] => 0
  | c :: r => if p c then longN p r + 1 else 0
theorem longN_le (p : Int → Bool) : ∀ l, longN p l ≤ l.length
  | [] => Nat.le_refl _
  | c :: r => by unfold longN; split; exact Nat.succ_le_succ (longN_le p r); exact Nat.zero_le _
end Go.Proofs.Vl
