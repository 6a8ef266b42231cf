/- More: equality of truths. -/
import Derived.Test.YtjfpddgldfaahaaDoorV18
set_option linter.all false
namespace Go.Proofs.Vl
open Go Go.RowKit
section
variable {P : Program} {cx : Cx} {st : St} {a : Act} {w : World} {fz : Nat → Prop} {β : Nat → Option Nat}
variable {kp : Bool} {K : St → Prop} {dst : Option Tmp} {ty T T' E : TypeId} {pos : String} {af : Array Edge} {gd : Option (Nat × Bool)} {x y : Operand}
def boolOp (op : BinOp) (a b : Bool) : Option Bool := match op with
  | .eql => some (a == b)
  | .neq => some (!(a == b))
  | _ => none
theorem Val.boolB {op : BinOp} {tx t2 : TypeId} {u v z : Bool} (hu : P.underlying tx = some .bool) (hz : boolOp op u v = some z) (hx : st.op cx x = .c (.p (.s (.bool u)))) (hy : st.op cx y = .c (.p (.s (.bool v)))) (h1 : okOp x = true) (h2 : okOp y = true) :
    Val P cx true ⟨dst, .binOp op tx x y t2, ty, pos, af, gd⟩ st (.c (.p (.s (.bool z)))) := by
  refine Val.bin (z := .bool z) hx hy h1 h2 rfl (fun w => ?_) (fun w => ?_)
  · cases op <;> simp [boolOp] at hz <;> simp [binOp, run_equal_bool w tx u v hu, hz]
  · unfold eqGuard; split <;> simp
end
end Go.Proofs.Vl
