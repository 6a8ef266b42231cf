/- A number is told as a narrow one just if that narrow type has it, of each narrow type, of any number and of its highest bits: the law NumFits answers true at every input. -/
import Derived.Test.YthhojifpogghlaaPAllx26
import Derived.Test.YthhojifpogghlaaLema
namespace Go.Proofs.Ythhojifpogghlaa.Pure
open Go.RowKit Go.Proofs.Ythhojifpogghlaa.PAll Go.Proofs.YthhojifpogghlaaW.PrintWords Go.Proofs.YthhojifpogghlaaW.PrintLast Go.Proofs.YthhojifpogghlaaW.PrintMore
open Go.Proofs.Ythhojifpogghlaa.Lema

theorem div_range (a m : Int) (hm : 0 < m) (h0 : -9223372036854775808 ≤ a) (h1 : a < 9223372036854775808) : -9223372036854775808 ≤ a / m ∧ a / m < 9223372036854775808 := by
  constructor
  · rw [Int.le_ediv_iff_mul_le hm]
    have : -9223372036854775808 * m ≤ -9223372036854775808 * 1 := Int.mul_le_mul_of_nonpos_left (by omega) (by omega)
    omega
  · rw [Int.ediv_lt_iff_lt_mul hm]
    have : 9223372036854775808 * 1 ≤ 9223372036854775808 * m := Int.mul_le_mul_of_nonneg_left (by omega) (by omega)
    omega
theorem NumFits : cadencylaw01_NumFits.Pure := by
  intro a0 a1 h0 h1
  obtain ⟨h0, h0'⟩ := wf_i64 h0
  refine ⟨5, ?_⟩
  unfold cadencylaw01_NumFits.f
  obtain ⟨s, hs⟩ : ∃ s, IntKind.u64.wrap (Go.bits .and .i64 a1 63) = s := ⟨_, rfl⟩
  have hs0 : 0 ≤ s := by rw [← hs, IntKind.wrap_u64]; omega
  have ft : ∀ a : Int, -9223372036854775808 ≤ a → a < 9223372036854775808 → cadencylaw01_fits.f a = some true := by
    intro a h h'
    unfold cadencylaw01_fits.f
    rw [if_pos ⟨h, h'⟩]
  have hd := div_range a0 (2 ^ min s.toNat IntKind.i64.bits) (Int.pow_pos (by omega)) h0 h0'
  rw [awake_at _ (by omega), hs, ft a0 h0 h0', ft (shr .i64 a0 s) hd.1 hd.2]
  simp only [Option.bind_some]
  rw [if_pos trivial, if_pos trivial, if_pos hs0]

end Go.Proofs.Ythhojifpogghlaa.Pure
