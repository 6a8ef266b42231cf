/- A product with a sum is the sum of both products, a product of three does not hang on which two come first, and sums and products at their ends do not fall: the law NumChains answers true at every input. -/
import Derived.Test.YthhojifpogghlaaPChainsx11
namespace Go.Proofs.Ythhojifpogghlaa.Pure
open Go.RowKit Go.Proofs.Ythhojifpogghlaa.PChains Go.Proofs.YthhojifpogghlaaW.PrintWords Go.Proofs.YthhojifpogghlaaW.PrintLast
namespace Chains
theorem wf_u64 {a : Int} (h : (Lit.int .u64 a).wf = true) : 0 ≤ a ∧ a < 18446744073709551616 := by
  have h1 : IntKind.u64.min = 0 := rfl
  have h2 : IntKind.u64.max = 18446744073709551615 := rfl
  simp only [Lit.wf, Bool.and_eq_true, decide_eq_true_eq] at h
  omega
theorem wrapN (a : Nat) (ha : a < 18446744073709551616) : IntKind.u64.wrap (a : Int) = (a : Int) := by rw [IntKind.wrap_u64]; omega
theorem mul64 (x y : Nat) (hx : x < 18446744073709551616) (hy : y < 18446744073709551616) : num_Mul.f x y = if x * y < 18446744073709551616 then some (((x * y : Nat) : Int), true) else some (0, false) := by
  unfold num_Mul.f bits_Mul64.f
  rw [if_pos ⟨by omega, by omega, by omega, by omega⟩]
  simp only [Int.toNat_natCast, Option.bind_some]
  by_cases h : x * y < 18446744073709551616
  · rw [if_pos h, if_neg (by omega), Nat.mod_eq_of_lt h]
  · rw [if_neg h, if_pos (by omega)]
theorem add64 (x y : Nat) (hx : x < 18446744073709551616) (hy : y < 18446744073709551616) : num_Add.f x y = if x + y < 18446744073709551616 then some (((x + y : Nat) : Int), true) else some (0, false) := by
  unfold num_Add.f
  rw [if_pos ⟨by omega, by omega, by omega, by omega⟩]
  by_cases h : x + y < 18446744073709551616
  · rw [if_pos (by omega), if_pos h]; rfl
  · rw [if_neg (by omega), if_neg h]
theorem times64 (x y : Nat) (hx : x < 18446744073709551616) (hy : y < 18446744073709551616) : num_Times.f x y = some (if x * y < 18446744073709551616 then ((x * y : Nat) : Int) else 18446744073709551615) := by
  unfold num_Times.f
  rw [mul64 x y hx hy]
  by_cases h : x * y < 18446744073709551616
  · simp only [if_pos h, Option.bind_some, if_true]
  · simp only [if_neg h, Option.bind_some, Bool.false_eq_true, if_false]
theorem sum_one (x y : Nat) (hx : x < 18446744073709551616) (hy : y < 18446744073709551616) (k : Nat) (hk : 2 ≤ k) : num_Sum.f k x [(y : Int)] = some (if x + y < 18446744073709551616 then ((x + y : Nat) : Int) else 18446744073709551615) := by
  obtain ⟨k, rfl⟩ : ∃ m, k = m + 2 := ⟨k - 2, by omega⟩
  unfold num_Sum.f
  have e : rd [(y : Int)] 0 = y := rfl
  simp only [num_Sum.l0, e, add64 x y hx hy]
  rw [if_pos (by simp), if_pos (by omega), if_pos (by simp)]
  by_cases h : x + y < 18446744073709551616
  · simp only [if_pos h, Option.bind_some, if_true]
    rw [if_neg (by unfold wrap64; simp)]
  · simp only [if_neg h, Option.bind_some, Bool.false_eq_true, if_false]
theorem times_ge (x y : Nat) (hx : x ≠ 0) (hy : y < 18446744073709551616) : (y : Int) ≤ (if x * y < 18446744073709551616 then ((x * y : Nat) : Int) else 18446744073709551615) := by
  have h1 : y ≤ x * y := Nat.le_mul_of_pos_left y (by omega)
  generalize x * y = p at *
  by_cases h : p < 18446744073709551616
  · rw [if_pos h]; omega
  · rw [if_neg h]; omega
theorem sum_ge (a b : Nat) (ha : a < 18446744073709551616) (hb : b < 18446744073709551616) : ∃ s : Int, num_Sum.f 5 a [(b : Int)] = some s ∧ s ≥ a ∧ s ≥ b := by
  refine ⟨_, sum_one a b ha hb 5 (by omega), ?_, ?_⟩
  · by_cases h : a + b < 18446744073709551616
    · rw [if_pos h]; omega
    · rw [if_neg h]; omega
  · by_cases h : a + b < 18446744073709551616
    · rw [if_pos h]; omega
    · rw [if_neg h]; omega
theorem times_some (a b : Nat) (ha0 : a ≠ 0) (ha : a < 18446744073709551616) (hb : b < 18446744073709551616) : ∃ s : Int, num_Times.f a b = some s ∧ s ≥ b := ⟨_, times64 a b ha hb, times_ge a b ha0 hb⟩
theorem mul_some (x y : Nat) (hx : x < 18446744073709551616) (hy : y < 18446744073709551616) (h : x * y < 18446744073709551616) : num_Mul.f x y = some (((x * y : Nat) : Int), true) := by rw [mul64 x y hx hy, if_pos h]
theorem core (aw : Option Bool) (add : Option (Int × Bool)) (mul : Int → Int → Option (Int × Bool)) (tm sm : Option Int) (L : Option Bool) (x y z a b s1 p xy xz q t r s : Int)
    (haw : aw = some true) (hadd : add = some (s1, true)) (h1 : mul x s1 = some (p, true)) (h2 : mul x y = some (xy, true)) (h3 : mul x z = some (xz, true)) (h4 : mul xy z = some (q, true)) (ht : tm = some t) (h5 : mul x t = some (r, true)) (hs : sm = some s)
    (e1 : p = IntKind.u64.wrap (xy + xz)) (e2 : q = r) (g1 : s ≥ a) (g2 : s ≥ b) (hL : L = some true) :
    (aw.bind fun t125 => (add.bind fun bt126 => ((mul x bt126.1).bind fun bt128 => ((mul x y).bind fun bt130 => ((mul x z).bind fun bt132 => ((mul bt130.1 z).bind fun bt134 => (tm.bind fun t136 => ((mul x t136).bind fun bt137 => (if t125 = true then (if bt126.2 = true then (if bt128.2 = true then (if bt130.2 = true then (if bt132.2 = true then (if bt134.2 = true then (if bt137.2 = true then (if bt128.1 = (IntKind.u64.wrap (bt130.1 + bt132.1)) then (if bt134.1 = bt137.1 then (sm.bind fun t142 => (if t142 ≥ a then (sm.bind fun t146 => (if t146 ≥ b then L else none)) else none)) else none) else none) else none) else none) else none) else none) else none) else none) else none))))))))) = some true := by
  subst haw hadd ht hs
  simp only [Option.bind_some, h1, h2, h3, h4, h5, if_true]
  rw [if_pos e1, if_pos e2, if_pos g1, if_pos g2, hL]
theorem awake5 : cadencylaw01_awake.f 5 = some true := by decide +kernel
end Chains
open Chains
theorem NumChains : cadencylaw01_NumChains.Pure := by
  intro a00 a01 a02 a1 a2 h00 h01 h02 h1 h2
  obtain ⟨h00, h00'⟩ := wf_u64 h00
  obtain ⟨h01, h01'⟩ := wf_u64 h01
  obtain ⟨h02, h02'⟩ := wf_u64 h02
  obtain ⟨h1, h1'⟩ := wf_u64 h1
  obtain ⟨h2, h2'⟩ := wf_u64 h2
  obtain ⟨x, hx⟩ : ∃ x : Nat, a00 / 8796093022208 = x := ⟨(a00 / 8796093022208).toNat, by omega⟩
  obtain ⟨y, hy⟩ : ∃ x : Nat, a01 / 8796093022208 = x := ⟨(a01 / 8796093022208).toNat, by omega⟩
  obtain ⟨z, hz⟩ : ∃ x : Nat, a02 / 8796093022208 = x := ⟨(a02 / 8796093022208).toNat, by omega⟩
  obtain ⟨a, rfl⟩ := Int.eq_ofNat_of_zero_le h1
  obtain ⟨b, rfl⟩ := Int.eq_ofNat_of_zero_le h2
  have bx : x < 2097152 := by omega
  have by_ : y < 2097152 := by omega
  have bz : z < 2097152 := by omega
  have m1 : x * y ≤ 2097151 * 2097151 := Nat.mul_le_mul (by omega) (by omega)
  have m2 : x * z ≤ 2097151 * 2097151 := Nat.mul_le_mul (by omega) (by omega)
  have m3 : y * z ≤ 2097151 * 2097151 := Nat.mul_le_mul (by omega) (by omega)
  have m4 : x * (y * z) ≤ 2097151 * (2097151 * 2097151) := Nat.mul_le_mul (by omega) m3
  have e1 : x * (y + z) = x * y + x * z := Nat.mul_add _ _ _
  have e2 : x * y * z = x * (y * z) := Nat.mul_assoc _ _ _
  refine ⟨5, ?_⟩
  unfold cadencylaw01_NumChains.f
  have ha1 : num_Add.f y z = some (((y + z : Nat) : Int), true) := by rw [add64 y z (by omega) (by omega), if_pos (by omega)]
  have ht1 : num_Times.f y z = some ((y * z : Nat) : Int) := by rw [times64 y z (by omega) (by omega), if_pos (by omega)]
  have hm1 := mul_some x (y + z) (by omega) (by omega) (by omega)
  have hm2 := mul_some x y (by omega) (by omega) (by omega)
  have hm3 := mul_some x z (by omega) (by omega) (by omega)
  have hm4 := mul_some (x * y) z (by omega) (by omega) (by omega)
  have hm5 := mul_some x (y * z) (by omega) (by omega) (by omega)
  obtain ⟨s, hs, g1, g2⟩ := sum_ge a b (by omega) (by omega)
  have q1 : (((x * (y + z) : Nat)) : Int) = IntKind.u64.wrap (((x * y : Nat) : Int) + ((x * z : Nat) : Int)) := by
    rw [← Int.natCast_add, wrapN _ (by omega), e1]
  have hlast : (if (a : Int) = 0 then some true else (num_Times.f a b).bind fun t => some (decide (t ≥ (b : Int)))) = some true := by
    by_cases ha : (a : Int) = 0
    · rw [if_pos ha]
    · obtain ⟨t, ht, g⟩ := times_some a b (by omega) (by omega) (by omega)
      rw [if_neg ha, ht, Option.bind_some]
      exact congrArg some (decide_eq_true g)
  rw [hx, hy, hz]
  exact core _ _ num_Mul.f _ _ _ _ _ _ _ _ _ _ _ _ _ _ _ _ awake5 ha1 hm1 hm2 hm3 hm4 ht1 hm5 hs q1 (by rw [e2]) g1 g2 hlast

end Go.Proofs.Ythhojifpogghlaa.Pure
