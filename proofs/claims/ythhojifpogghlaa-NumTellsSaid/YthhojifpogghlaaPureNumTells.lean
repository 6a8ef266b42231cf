/- Sums, products, and quotients are told, or refused, as the document's answer says, of any two numbers and of their highest bits: the law NumTells answers true at every input. -/
import Derived.Test.YthhojifpogghlaaPAllx29
import Derived.Test.YthhojifpogghlaaLema
namespace Go.Proofs.Ythhojifpogghlaa.Pure
open Go.RowKit Go.Proofs.Ythhojifpogghlaa.PAll Go.Proofs.YthhojifpogghlaaW.PrintWords Go.Proofs.YthhojifpogghlaaW.PrintLast Go.Proofs.YthhojifpogghlaaW.PrintMore
open Go.Proofs.Ythhojifpogghlaa.Lema
namespace Tells
theorem refAdd (x y : Nat) (_hx : x < 18446744073709551616) (hy : y < 18446744073709551616) : cadencyref01_Add.f x y = if x + y < 18446744073709551616 then some (((x + y : Nat) : Int), true) else some (0, false) := by
  unfold cadencyref01_Add.f
  have e : IntKind.u64.wrap (18446744073709551615 - (y : Int)) = 18446744073709551615 - (y : Int) := by rw [IntKind.wrap_u64]; omega
  rw [e]
  by_cases h : x + y < 18446744073709551616
  · rw [if_neg (by omega), if_pos h, ← Int.natCast_add, wrapN _ h]
  · rw [if_pos (by omega), if_neg h]
theorem refMul (x y : Nat) (_hx : x < 18446744073709551616) (hy : y < 18446744073709551616) : cadencyref01_Mul.f x y = if x * y < 18446744073709551616 then some (((x * y : Nat) : Int), true) else some (0, false) := by
  unfold cadencyref01_Mul.f
  by_cases hy0 : y = 0
  · subst hy0
    rw [if_neg (by omega), if_pos (by omega)]
    rfl
  · rw [if_pos (by omega), if_neg (by omega)]
    have e : Int.tdiv 18446744073709551615 (y : Int) = ((18446744073709551615 / y : Nat) : Int) := tdivN 18446744073709551615 y
    have hq : 18446744073709551615 / y ≤ 18446744073709551615 := Nat.div_le_self _ _
    have hd := Nat.div_lt_iff_lt_mul (x := 18446744073709551615) (y := x) (k := y) (by omega)
    rw [e, wrapN _ (by omega)]
    generalize 18446744073709551615 / y = q at *
    by_cases h : x * y < 18446744073709551616
    · have : ¬ q < x := fun h' => by have := hd.1 h'; omega
      rw [if_neg (by omega), if_pos h, ← Int.natCast_mul, wrapN _ h]
    · have : q < x := hd.2 (by omega)
      rw [if_pos (by omega), if_neg h]
theorem add64 (x y : Nat) (hx : x < 18446744073709551616) (hy : y < 18446744073709551616) : num_Add.f x y = if x + y < 18446744073709551616 then some (((x + y : Nat) : Int), true) else some (0, false) := by
  unfold num_Add.f
  rw [if_pos ⟨by omega, by omega, by omega, by omega⟩]
  by_cases h : x + y < 18446744073709551616
  · rw [if_pos (by omega), if_pos h]; rfl
  · rw [if_neg (by omega), if_neg h]
theorem refCeil (x y : Int) : cadencyref01_Ceil.f x y = num_Ceil.f x y := rfl
theorem ceil_any (x y : Int) : ∃ n b, num_Ceil.f x y = some (n, b) := by
  unfold num_Ceil.f
  (repeat' split) <;> exact ⟨_, _, rfl⟩
theorem sum_one (x y : Nat) (hx : x < 18446744073709551616) (hy : y < 18446744073709551616) (k : Nat) (hk : 2 ≤ k) : num_Sum.f k x [(y : Int)] = some (if x + y < 18446744073709551616 then ((x + y : Nat) : Int) else 18446744073709551615) := by
  obtain ⟨k, rfl⟩ : ∃ m, k = m + 2 := ⟨k - 2, by omega⟩
  unfold num_Sum.f
  have e : rd [(y : Int)] 0 = y := rfl
  simp only [num_Sum.l0, e, add64 x y hx hy]
  rw [if_pos (by simp), if_pos (by omega), if_pos (by simp)]
  by_cases h : x + y < 18446744073709551616
  · simp only [if_pos h, Option.bind_some, if_true]
    rw [if_neg (by unfold wrap64; simp)]
  · simp only [if_neg h, Option.bind_some, Bool.false_eq_true, if_false]
theorem tells_true (x y : Nat) (hx : x < 18446744073709551616) (hy : y < 18446744073709551616) (k : Nat) (hk : 2 ≤ k) : cadencylaw01_tells.f k x y = some true := by
  unfold cadencylaw01_tells.f num_Times.f cadencyref01_End.f
  obtain ⟨n, b, hc⟩ := ceil_any x y
  rw [sum_one x y hx hy k hk, refCeil, hc, refAdd x y hx hy, add64 x y hx hy, refMul x y hx hy, mul64 x y hx hy]
  by_cases h1 : x + y < 18446744073709551616 <;> by_cases h2 : x * y < 18446744073709551616 <;> simp [h1, h2]
end Tells
open Tells
theorem NumTells : cadencylaw01_NumTells.Pure := by
  intro a0 a1 a2 h0 h1 h2
  obtain ⟨h0, h0'⟩ := wf_u64 h0
  obtain ⟨h1, h1'⟩ := wf_u64 h1
  obtain ⟨x, rfl⟩ := Int.eq_ofNat_of_zero_le h0
  obtain ⟨y, rfl⟩ := Int.eq_ofNat_of_zero_le h1
  refine ⟨5, ?_⟩
  unfold cadencylaw01_NumTells.f
  obtain ⟨s, hs⟩ : ∃ s, IntKind.u64.wrap (Go.bits .and .i64 a2 63) = s := ⟨_, rfl⟩
  obtain ⟨t, ht⟩ : ∃ t, IntKind.u64.wrap (64 - s) = t := ⟨_, rfl⟩
  have hs0 : 0 ≤ s := by rw [← hs, IntKind.wrap_u64]; omega
  have ht0 : 0 ≤ t := by rw [← ht, IntKind.wrap_u64]; omega
  have sh : ∀ (a : Nat) (s : Int), shr .u64 (a : Int) s = ((a / 2 ^ min s.toNat IntKind.u64.bits : Nat) : Int) := by
    intro a s
    unfold shr
    rw [Int.natCast_ediv, Int.natCast_pow]
    rfl
  have le : ∀ (a m : Nat), a < 18446744073709551616 → a / m < 18446744073709551616 := fun a m h => Nat.lt_of_le_of_lt (Nat.div_le_self _ _) h
  rw [awake_at _ (by omega), hs, ht, sh x s, sh y t, sh y s]
  rw [tells_true x y (by omega) (by omega) 5 (by omega), tells_true (x / _) y (le _ _ (by omega)) (by omega) 5 (by omega), tells_true (x / _) (y / _) (le _ _ (by omega)) (le _ _ (by omega)) 5 (by omega), tells_true (y / _) x (le _ _ (by omega)) (by omega) 5 (by omega)]
  simp only [Option.bind_some]
  rw [if_pos trivial, if_pos trivial, if_pos hs0, if_pos trivial, if_pos ht0, if_pos trivial]

end Go.Proofs.Ythhojifpogghlaa.Pure
