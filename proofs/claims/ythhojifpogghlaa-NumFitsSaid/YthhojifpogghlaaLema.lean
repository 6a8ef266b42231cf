import Derived.Test.YthhojifpogghlaaPAllx9
import Derived.Laws.BitsAllLaws
/- Plain facts on the printed functions of package num: what they answer. -/
namespace Go.Proofs.Ythhojifpogghlaa.Lema
open Go.RowKit Go.Proofs.Ythhojifpogghlaa.PAll Go.Proofs.YthhojifpogghlaaW.PrintWords Go.Proofs.YthhojifpogghlaaW.PrintLast Go.Proofs.YthhojifpogghlaaW.PrintMore

theorem wf_u64 {a : Int} (h : (Lit.int .u64 a).wf = true) : 0 ≤ a ∧ a < 18446744073709551616 := by
  have h1 : IntKind.u64.min = 0 := rfl
  have h2 : IntKind.u64.max = 18446744073709551615 := rfl
  simp only [Lit.wf, Bool.and_eq_true, decide_eq_true_eq] at h
  omega
theorem wf_i64 {a : Int} (h : (Lit.int .i64 a).wf = true) : -9223372036854775808 ≤ a ∧ a < 9223372036854775808 := by
  have h1 : IntKind.i64.min = -9223372036854775808 := rfl
  have h2 : IntKind.i64.max = 9223372036854775807 := rfl
  simp only [Lit.wf, Bool.and_eq_true, decide_eq_true_eq] at h
  omega

theorem awake : ∃ k, cadencylaw01_awake.f k = some true := ⟨5, by decide +kernel⟩
theorem awake_at (k : Nat) (hk : 5 ≤ k) : cadencylaw01_awake.f k = some true := at_rounds cadencylaw01_awake.mono hk (show cadencylaw01_awake.f 5 = some true by decide +kernel)
theorem tmodN (a b : Nat) : Int.tmod (a : Int) (b : Int) = ((a % b : Nat) : Int) := (Int.ofNat_tmod a b).symm
theorem tdivN (a b : Nat) : Int.tdiv (a : Int) (b : Int) = ((a / b : Nat) : Int) := (Int.ofNat_tdiv a b).symm
theorem wrapN (a : Nat) (ha : a < 18446744073709551616) : IntKind.u64.wrap (a : Int) = (a : Int) := by rw [IntKind.wrap_u64]; omega

/-- A quotient, from above. -/
theorem ceil_zero (a : Int) : num_Ceil.f a 0 = some (0, false) := rfl
theorem ceil_some {a b : Int} (ha : 0 ≤ a) (ha2 : a < 18446744073709551616) (hb : 0 < b) : ∃ n p, num_Ceil.f a b = some (n, true) ∧ p = b * (a / b) ∧ a = p + a % b ∧ 0 ≤ a % b ∧ a % b < b ∧ 0 ≤ a / b ∧ a / b ≤ a ∧ ((a % b = 0 ∧ n = a / b) ∨ (0 < a % b ∧ n = a / b + 1)) := by
  have e := Int.mul_ediv_add_emod a b
  have r0 := Int.emod_nonneg a (show b ≠ 0 by omega)
  have r1 := Int.emod_lt_of_pos a hb
  have q0 := Int.ediv_nonneg ha (show 0 ≤ b by omega)
  have q1 : a / b ≤ a := Int.ediv_le_self _ ha
  have qb : 0 < a % b → a / b < 18446744073709551615 := by
    intro h
    have : 1 * (a / b) ≤ b * (a / b) := Int.mul_le_mul_of_nonneg_right (by omega) q0
    omega
  have hm : Int.tmod a b = a % b := Int.tmod_eq_emod_of_nonneg ha
  have hd : Int.tdiv a b = a / b := Int.tdiv_eq_ediv_of_nonneg ha
  by_cases h : 0 < a % b
  · refine ⟨a / b + 1, b * (a / b), ?_, rfl, by omega, r0, r1, q0, q1, .inr ⟨h, rfl⟩⟩
    unfold num_Ceil.f
    rw [if_neg (by omega), hm, hd, if_pos (by omega)]
    have := qb h
    simp only [IntKind.wrap_u64]
    congr 2
    omega
  · refine ⟨a / b, b * (a / b), ?_, rfl, by omega, r0, r1, q0, q1, .inl ⟨by omega, rfl⟩⟩
    unfold num_Ceil.f
    rw [if_neg (by omega), hm, hd, if_neg (by omega)]
    simp only [IntKind.wrap_u64]
    congr 2
    omega

/-- A product. -/
theorem mul64 (x y : Nat) (hx : x < 18446744073709551616) (hy : y < 18446744073709551616) : num_Mul.f x y = if x * y < 18446744073709551616 then some (((x * y : Nat) : Int), true) else some (0, false) := by
  unfold num_Mul.f bits_Mul64.f
  rw [if_pos ⟨by omega, by omega, by omega, by omega⟩]
  simp only [Int.toNat_natCast, Option.bind_some]
  by_cases h : x * y < 18446744073709551616
  · rw [if_pos h, if_neg (by omega), Nat.mod_eq_of_lt h]
  · rw [if_neg h, if_pos (by omega)]
theorem gcd64 (x y : Nat) (hx : x < 18446744073709551616) (hy : y < 18446744073709551616) : num_Gcd.f x y = some ((Nat.gcd x y : Nat) : Int) := by
  unfold num_Gcd.f
  rw [if_pos ⟨by omega, by omega, by omega, by omega⟩]
  simp only [Int.toNat_natCast]
/-- A least common multiple. -/
theorem lcm64 (x y : Nat) (hx : x < 18446744073709551616) (hy : y < 18446744073709551616) (k : Nat) : num_Lcm.f (k + 1) x y = if x = 0 ∨ y = 0 then some (0, false) else if x / Nat.gcd x y * y < 18446744073709551616 then some (((x / Nat.gcd x y * y : Nat) : Int), true) else some (0, false) := by
  unfold num_Lcm.f
  by_cases hx0 : x = 0
  · subst hx0
    rw [if_pos (by simp), if_pos (by simp)]
    simp only [num_Lcm.j0]
    exact if_pos trivial
  · by_cases hy0 : y = 0
    · subst hy0
      rw [if_neg (by omega), if_pos (by simp)]
      simp only [num_Lcm.j0]
      exact if_pos rfl
    · rw [if_neg (by omega), if_neg (by omega)]
      have hb : ((y : Int) == 0) = false := by simpa using hy0
      simp only [num_Lcm.j0]
      rw [hb, if_neg (by simp), gcd64 x y hx hy]
      simp only [Option.bind_some]
      have hg : 0 < Nat.gcd x y := Nat.gcd_pos_of_pos_left _ (by omega)
      rw [if_neg (by omega), Int.tdiv_eq_ediv_of_nonneg (by omega), IntKind.wrap_u64]
      have hd : x / Nat.gcd x y ≤ x := Nat.div_le_self _ _
      have e : ((x : Int) / ((Nat.gcd x y : Nat) : Int)) % 18446744073709551616 = ((x / Nat.gcd x y : Nat) : Int) := by
        rw [← Int.natCast_ediv]
        generalize x / Nat.gcd x y = q at *
        omega
      rw [e, mul64 _ y (by omega) hy]
      by_cases h : x / Nat.gcd x y * y < 18446744073709551616
      · rw [if_pos h]
        rfl
      · rw [if_neg h]
        rfl

end Go.Proofs.Ythhojifpogghlaa.Lema
