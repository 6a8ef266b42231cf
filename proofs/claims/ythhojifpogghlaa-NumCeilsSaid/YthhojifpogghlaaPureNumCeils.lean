/- For every number of 63 bits and every divisor above 0 of 31 bits the quotient from above is the least number whose product with the divisor is not below: the law NumCeils answers true at every input. -/
import Derived.Test.YthhojifpogghlaaPAllx22
import Derived.Test.YthhojifpogghlaaLema
namespace Go.Proofs.Ythhojifpogghlaa.Pure
open Go.RowKit Go.Proofs.Ythhojifpogghlaa.PAll Go.Proofs.YthhojifpogghlaaW.PrintWords Go.Proofs.YthhojifpogghlaaW.PrintLast
open Go.Proofs.Ythhojifpogghlaa.Lema

theorem NumCeils : cadencylaw01_NumCeils.Pure := by
  intro a0 a1 h0 h1
  obtain ⟨h0, h0'⟩ := wf_u64 h0
  obtain ⟨h1, h1'⟩ := wf_u64 h1
  obtain ⟨k, hk⟩ := awake
  refine ⟨k, ?_⟩
  unfold cadencylaw01_NumCeils.f
  rw [hk]
  simp only [Option.bind_some]
  obtain ⟨x, hx⟩ : ∃ x, a0 / 2 = x := ⟨_, rfl⟩
  obtain ⟨y, hy⟩ : ∃ y, IntKind.u64.wrap (a1 / 8589934592 + 1) = y := ⟨_, rfl⟩
  rw [hx, hy, ceil_zero]
  rw [IntKind.wrap_u64] at hy
  obtain ⟨n, p, hc, hp, hxp, r0, r1, q0, q1, hn⟩ := ceil_some (a := x) (b := y) (by omega) (by omega) (by omega)
  rw [hc]
  simp only [Option.bind_some]
  rw [if_pos trivial, if_neg (by simp)]
  have hpq : x / y ≤ p := by
    have : 1 * (x / y) ≤ y * (x / y) := Int.mul_le_mul_of_nonneg_right (by omega) q0
    omega
  have hq0 : x / y = 0 → p = 0 := by
    intro h
    rw [h] at hp
    omega
  generalize x % y = r at *
  generalize hq : x / y = q at *
  rw [if_neg (by omega), if_pos trivial]
  have hny : (0 < r ∧ n * y = p + y) ∨ (r = 0 ∧ n * y = p) := by
    rcases hn with ⟨h, rfl⟩ | ⟨h, rfl⟩
    · exact .inr ⟨h, by rw [Int.mul_comm]; omega⟩
    · exact .inl ⟨h, by rw [Int.add_mul, Int.mul_comm]; omega⟩
  have hny1 : (n - 1) * y = n * y - y := by rw [Int.sub_mul]; omega
  simp only [IntKind.wrap_u64]
  have e1 : n * y % 18446744073709551616 = n * y := by omega
  rw [e1, if_pos (by omega)]
  by_cases hn0 : n = 0
  · rw [if_pos hn0]
  · rw [if_neg hn0]
    have hy0 : 0 ≤ (n - 1) * y := Int.mul_nonneg (by omega) (by omega)
    have e2 : (n - 1) % 18446744073709551616 = n - 1 := by omega
    have e3 : (n - 1) * y % 18446744073709551616 = (n - 1) * y := by omega
    rw [e2, e3]
    congr 1
    rw [decide_eq_true_eq]
    omega

end Go.Proofs.Ythhojifpogghlaa.Pure
