/- The five cases of TaskEnds. -/
import Derived.Test.YtcheokfoilcdoaaK4
set_option linter.all false
set_option maxHeartbeats 8000000
namespace Go.Proofs.Vl
open Go Go.RowKit
attribute [local irreducible] AWp OpTo Run DL Val UN DR AC Le thn inb nog
theorem four (a : Int) (h0 : 0 ≤ a) (h1 : a < 4) : a = 0 ∨ a = 1 ∨ a = 2 ∨ a = 3 := by omega
theorem c1 (a : Int) (h0 : 0 ≤ a) (h1 : a < 4) : (chkI cA 1 (2147483647 + a - 2) 1 0 1 1 == 0) = decide (a ≤ 2) := by
  rcases four a h0 h1 with rfl | rfl | rfl | rfl <;> decide +kernel
theorem c2 (d : Int) (h0 : 0 ≤ d) (h1 : d < 4) : (chkI cA 1 1 1 0 1 d == 0) = decide (d > 0) := by
  rcases four d h0 h1 with rfl | rfl | rfl | rfl <;> decide +kernel
theorem c3 (b : Int) (h0 : 0 ≤ b) (h1 : b < 4) : (chkI cA 1 1 1 0 1 (1048575 + b) == 0) = decide (b ≤ 1) := by
  rcases four b h0 h1 with rfl | rfl | rfl | rfl <;> decide +kernel
def nn (m : Nat) : ByteArray := ⟨(List.replicate m 110).toArray⟩
theorem c4 (m : Nat) (h0 : 30 ≤ m) (h1 : m ≤ 34) : (chkI (nn m) 1 1 1 0 1 1 == 0) = decide ((m : Int) ≤ 32) := by
  obtain rfl | rfl | rfl | rfl | rfl : m = 30 ∨ m = 31 ∨ m = 32 ∨ m = 33 ∨ m = 34 := by omega
  all_goals decide +kernel
theorem c5 (a b : Int) (h0 : 0 ≤ a) (h1 : a < 4) (g0 : 0 ≤ b) (g1 : b < 4) : (chkI cA 3 9 9 (4 + a) (1 + b) 1 == 0) = (decide (a ≤ 2) && decide (b ≤ 2)) := by
  rcases four a h0 h1 with rfl | rfl | rfl | rfl <;> rcases four b g0 g1 with rfl | rfl | rfl | rfl <;> decide +kernel
end Go.Proofs.Vl
