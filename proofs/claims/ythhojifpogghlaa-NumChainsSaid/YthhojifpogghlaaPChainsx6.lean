-- Laid by wip/printx.py, over the print of the kit.
import Derived.Test.YthhojifpogghlaaPChainsx0
namespace Go.Proofs.Ythhojifpogghlaa.PChains
open Go.RowKit Go.Proofs.YthhojifpogghlaaW.PrintWords Go.Proofs.YthhojifpogghlaaW.PrintLast Go.Proofs.YthhojifpogghlaaW.PrintMore
attribute [local go_sem] max2_int min2_int max_two min_two max_three min_three max_four min_four   -- for this text's walks alone
set_option linter.unusedVariables false
set_option linter.unusedSimpArgs false

/-! ### num_Add: function 22 -/
def num_Add.f (a0 a1 : Int) : Option (Int × Bool) := if 0 ≤ a0 ∧ a0 < 18446744073709551616 ∧ 0 ≤ a1 ∧ a1 < 18446744073709551616 then (if a0 + a1 < 18446744073709551616 then some (a0 + a1, true) else some (0, false)) else none
theorem num_Add.ext (x y : Int) (hx : 0 ≤ x) (hy : 0 ≤ y) (w : World) : (callFunc 40 #[.int .u64 x, .int .u64 y, .int .u64 0]).run Try.prog w = .ok (.value (.tuple #[.int .u64 ((x + y) % 18446744073709551616), .int .u64 ((x + y) / 18446744073709551616)])) w := by
  rw [run_callFunc_extern Try.func40 (by kernel_rfl) (by kernel_rfl) (by kernel_rfl) (e := add64Entry) (by kernel_rfl), run_add64 x y 0 hx hy (by omega) (by omega)]
  simp only [Result.andThen, Int.add_zero]
set_option maxHeartbeats 8000000 in
theorem num_Add.calls (a0 : Int) (a1 : Int) (r1 : Int) (r2 : Bool) (w : World) (h : num_Add.f a0 a1 = some (r1, r2)) :
    Calls Try.prog 22 #[.int .u64 a0, .int .u64 a1] w fun e w' => e = .returned (.tuple #[.int .u64 r1, .bool r2]) ∧ Drawn0 w w' := by
  unfold num_Add.f at h
  split at h
  · rename_i hr
    have hext := fun W => num_Add.ext a0 a1 hr.1 hr.2.2.1 W
    have h0 := hr.1
    have h1 := hr.2.1
    have h2 := hr.2.2.1
    have h3 := hr.2.2.2
    clear hr
    split at h
    · rename_i hlt
      obtain ⟨rfl, rfl⟩ : a0 + a1 = r1 ∧ true = r2 := by injection h with h; injection h with x y; exact ⟨x, y⟩
      clear h
      have hn : ¬ 0 < (a0 + a1) / 18446744073709551616 := by omega
      have hd : ∀ r : Int, r = a0 + a1 → (Ending.returned (.tuple #[.int .u64 r, .bool true])) = .returned (.tuple #[.int .u64 (a0 + a1), .bool true]) := fun r h => by rw [h]
      go_enter Try.func22, Try.ntmps22
      go_wp2
      go_ret2
      exact ⟨hd _ (by omega), ⟨⟨0, rfl⟩⟩⟩
    · rename_i hge
      obtain ⟨rfl, rfl⟩ : 0 = r1 ∧ false = r2 := by injection h with h; injection h with x y; exact ⟨x, y⟩
      clear h
      have hn : 0 < (a0 + a1) / 18446744073709551616 := by omega
      go_enter Try.func22, Try.ntmps22
      go_wp2
      go_ret2
      exact ⟨rfl, ⟨⟨0, rfl⟩⟩⟩
  · cases h

end Go.Proofs.Ythhojifpogghlaa.PChains
