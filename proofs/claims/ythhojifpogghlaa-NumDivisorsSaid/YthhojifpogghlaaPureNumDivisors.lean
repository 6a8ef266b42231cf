/- Divisors, and multiples, are told, or refused, as the document's answer says, of any two numbers and of their highest bits: the law NumDivisors answers true at every input. -/
import Derived.Test.YthhojifpogghlaaPAllx18
import Derived.Test.YthhojifpogghlaaLema
namespace Go.Proofs.Ythhojifpogghlaa.Pure
open Go.RowKit Go.Proofs.Ythhojifpogghlaa.PAll Go.Proofs.YthhojifpogghlaaW.PrintWords Go.Proofs.YthhojifpogghlaaW.PrintLast Go.Proofs.YthhojifpogghlaaW.PrintMore
open Go.Proofs.Ythhojifpogghlaa.Lema

theorem refGcd (k : Nat) : ∀ x y : Nat, y < k → cadencyref01_Gcd.f k x y = some ((Nat.gcd x y : Nat) : Int) := by
  induction k with
  | zero => intro x y h; omega
  | succ k ih =>
    intro x y h
    simp only [cadencyref01_Gcd.f]
    by_cases hy : y = 0
    · subst hy
      rw [if_pos (by omega), Nat.gcd_zero_right]
    · have := Nat.mod_lt x (show 0 < y by omega)
      rw [if_neg (by omega), tmodN, ih y (x % y) (by omega)]
      simp only [Option.bind_some]
      rw [Nat.gcd_comm x y, Nat.gcd_rec y x, Nat.gcd_comm]
theorem refMul (x y : Nat) (_hx : x < 18446744073709551616) (hy : y < 18446744073709551616) : cadencyref01_Mul.f x y = if x * y < 18446744073709551616 then some (((x * y : Nat) : Int), true) else some (0, false) := by
  unfold cadencyref01_Mul.f
  by_cases hy0 : y = 0
  · subst hy0
    rw [if_neg (by omega), if_pos (by omega)]
    rfl
  · rw [if_pos (by omega), if_neg (by omega)]
    have e : Int.tdiv 18446744073709551615 (y : Int) = ((18446744073709551615 / y : Nat) : Int) := tdivN 18446744073709551615 y
    have hq : 18446744073709551615 / y ≤ 18446744073709551615 := Nat.div_le_self _ _
    have hd := Nat.div_lt_iff_lt_mul (x := 18446744073709551615) (y := x) (k := y) (by omega)
    rw [e, wrapN _ (by omega)]
    generalize 18446744073709551615 / y = q at *
    by_cases h : x * y < 18446744073709551616
    · have : ¬ q < x := fun h' => by have := hd.1 h'; omega
      rw [if_neg (by omega), if_pos h, ← Int.natCast_mul, wrapN _ h]
    · have : q < x := hd.2 (by omega)
      rw [if_pos (by omega), if_neg h]
theorem refLcm (x y : Nat) (hx : x < 18446744073709551616) (hy : y < 18446744073709551616) (k : Nat) (hk : y < k) : cadencyref01_Lcm.f (k + 1) x y = num_Lcm.f (k + 1) x y := by
  rw [lcm64 x y hx hy k]
  unfold cadencyref01_Lcm.f
  by_cases hx0 : x = 0
  · subst hx0
    rw [if_pos (by simp), if_pos (by simp)]
    simp only [cadencyref01_Lcm.j0]
    exact if_pos trivial
  · by_cases hy0 : y = 0
    · subst hy0
      rw [if_neg (by omega), if_pos (by simp)]
      simp only [cadencyref01_Lcm.j0]
      exact if_pos rfl
    · rw [if_neg (by omega), if_neg (by omega)]
      have hb : ((y : Int) == 0) = false := by simpa using hy0
      simp only [cadencyref01_Lcm.j0]
      rw [hb, if_neg (by simp), refGcd k x y hk]
      simp only [Option.bind_some]
      have hg : 0 < Nat.gcd x y := Nat.gcd_pos_of_pos_left _ (by omega)
      have hd : x / Nat.gcd x y ≤ x := Nat.div_le_self _ _
      rw [if_neg (by omega), tdivN, wrapN _ (by omega), refMul _ y (by omega) hy]
      by_cases h : x / Nat.gcd x y * y < 18446744073709551616
      · rw [if_pos h]
        rfl
      · rw [if_neg h]
        rfl
theorem divisors_true (x y : Nat) (hx : x < 18446744073709551616) (hy : y < 18446744073709551616) (k : Nat) (hk : y < k) : cadencylaw01_divisors.f (k + 1) x y = some true := by
  unfold cadencylaw01_divisors.f
  rw [refLcm x y hx hy k hk, refGcd (k + 1) x y (by omega), gcd64 x y hx hy, lcm64 x y hx hy k]
  (repeat' split) <;> simp_all
theorem at_least (n : Nat) : ∃ k, n ≤ k := ⟨n, Nat.le_refl n⟩
theorem NumDivisors : cadencylaw01_NumDivisors.Pure := by
  intro a0 a1 a2 h0 h1 h2
  obtain ⟨h0, h0'⟩ := wf_u64 h0
  obtain ⟨h1, h1'⟩ := wf_u64 h1
  obtain ⟨k, hk⟩ := at_least 18446744073709551616
  obtain ⟨x, rfl⟩ := Int.eq_ofNat_of_zero_le h0
  obtain ⟨y, rfl⟩ := Int.eq_ofNat_of_zero_le h1
  refine ⟨k + 1, ?_⟩
  unfold cadencylaw01_NumDivisors.f
  obtain ⟨s, hs⟩ : ∃ s, IntKind.u64.wrap (Go.bits .and .i64 a2 63) = s := ⟨_, rfl⟩
  have hs0 : 0 ≤ s := by rw [← hs, IntKind.wrap_u64]; omega
  have sh : ∀ a : Nat, shr .u64 (a : Int) s = ((a / 2 ^ min s.toNat IntKind.u64.bits : Nat) : Int) := by
    intro a
    unfold shr
    rw [Int.natCast_ediv, Int.natCast_pow]
    rfl
  rw [awake_at _ (by omega), hs]
  have q1 : x / 2 ^ min s.toNat IntKind.u64.bits ≤ x := Nat.div_le_self _ _
  have q2 : y / 2 ^ min s.toNat IntKind.u64.bits ≤ y := Nat.div_le_self _ _
  have d5 : cadencylaw01_divisors.f (k + 1) 0 y = some true := divisors_true 0 y (by omega) (by omega) k (by omega)
  have d4 : cadencylaw01_divisors.f (k + 1) x 0 = some true := divisors_true x 0 (by omega) (by omega) k (by omega)
  have d1 := divisors_true x y (by omega) (by omega) k (by omega)
  have d2 := divisors_true (x / 2 ^ min s.toNat IntKind.u64.bits) y (by omega) (by omega) k (by omega)
  have d3 := divisors_true (x / 2 ^ min s.toNat IntKind.u64.bits) (y / 2 ^ min s.toNat IntKind.u64.bits) (by omega) (by omega) k (by omega)
  rw [sh x, sh y]
  rw [d1, d2, d3, d4, d5]
  simp only [Option.bind_some]
  rw [if_pos trivial, if_pos trivial, if_pos hs0, if_pos trivial, if_pos trivial, if_pos trivial]

end Go.Proofs.Ythhojifpogghlaa.Pure
