/- The row 'LoadCompares', by values. -/
import Derived.Test.YtjpmbklfaoejmaaDoorG6
set_option linter.all false
set_option maxHeartbeats 8000000
namespace Go.Proofs.Vl
open Go Go.RowKit
attribute [local irreducible] AWp OpTo Run DL Val UN DR AC Le thn inb nog
theorem i64_and63 (n : Int) : Go.bits .and .i64 n 63 = n % 64 := by
  have h63 : (BitVec.ofInt 64 63).toNat = 2 ^ 6 - 1 := by decide
  have key : (BitVec.ofInt 64 n &&& BitVec.ofInt 64 63).toNat = (n % ((2 ^ 64 : Nat) : Int)).toNat % 2 ^ 6 := by
    rw [BitVec.toNat_and, BitVec.toNat_ofInt, h63, Nat.and_two_pow_sub_one_eq_mod]
  show IntKind.i64.wrap ((BitVec.ofInt 64 n &&& BitVec.ofInt 64 63).toNat : Nat) = n % 64
  rw [key, IntKind.wrap_i64]
  omega
theorem shr_to (a : Nat) (k : Int) : ∃ x : Nat, x ≤ a ∧ (a : Int).fdiv (2 ^ (min k.toNat IntKind.u64.bits)) = (x : Int) := by
  refine ⟨a / 2 ^ (min k.toNat IntKind.u64.bits), Nat.div_le_self _ _, ?_⟩
  rw [Int.fdiv_eq_ediv_of_nonneg _ (Int.le_of_lt (Int.pow_pos (by decide)))]
  simp
theorem shr8 (a : Nat) : (a : Int).fdiv (2 ^ (min 8 IntKind.u64.bits)) = ((a / 256 : Nat) : Int) := by
  rw [Int.fdiv_eq_ediv_of_nonneg _ (Int.le_of_lt (Int.pow_pos (by decide)))]
  show (a : Int) / 256 = _
  omega
theorem cmp_scale (x y m : Nat) (h : 0 < m) : cmpN (x, y) (x * m, y * m) = 0 := by
  unfold cmpN
  dsimp only
  rw [show x * (y * m) = x * m * y by rw [Nat.mul_comm y m, Nat.mul_assoc]]
  repeat' split
  all_goals omega
theorem mul_s (x m : Nat) (hx : x < 18446744073709551616) (hm : m < 200) : 0 ≤ ((x / 256 : Nat) : Int) * (1 + (m : Int)) ∧ ((x / 256 : Nat) : Int) * (1 + (m : Int)) < 18446744073709551616 := by
  have h1 : x / 256 < 72057594037927936 := by omega
  have h2 : x / 256 * (1 + m) ≤ 72057594037927936 * (1 + m) := Nat.mul_le_mul_right _ (by omega)
  have h3 : x / 256 * (1 + m) < 18446744073709551616 := by omega
  exact mul_c (x / 256) (1 + m) h3
theorem compares_top (a b : Nat × Nat) (n : Int) (ha : lOk a) (hb : lOk b) : AC Tryd.prog GL 3 [.pag (ldP a), .pag (ldP b), vi n] [] (fun r _ => r = vb true) := by
  obtain ⟨an, ad⟩ := a
  obtain ⟨bn, bd⟩ := b
  have hA := ha
  have hB := hb
  obtain ⟨ha1, ha2⟩ := ha
  obtain ⟨hb1, hb2⟩ := hb
  dsimp only at ha1 ha2 hb1 hb2
  refine AC.body' Tryd.func3 Tryd.ntmps3 rfl ?_
  intro cx hd hG
  refine nrmL (k := ?_)
  repeat refine w1 (k := ?_)
  obtain ⟨w0, fz0, β0, df, G0⟩ := cx
  obtain rfl : G0 = GL := hG
  refine callN (hc := by exact awake_ac) (h := ?_)
  repeat refine w1 (k := ?_)
  rw [i64_and63]
  have k1 := Int.emod_nonneg n (show (64 : Int) ≠ 0 by decide)
  have k2 := Int.emod_lt_of_pos n (show (0 : Int) < 64 by decide)
  repeat refine w1 (k := ?_)
  rw [show IntKind.u64.wrap (n % 64) = n % 64 by rw [IntKind.wrap_u64]; omega]
  first | refine ofN (hv := by exact Val.shr rfl rfl rfl rfl (by omega)) (h := ?_) | refine dlN (hv := by exact Val.shr rfl rfl rfl rfl (by omega)) (h := ?_) | refine dlgN (hv := by exact Val.shr rfl rfl rfl rfl (by omega)) (h := ?_) | refine ofN (hv := by exact Val.shr rfl rfl rfl rfl (by omega)) (h := ?_)
  obtain ⟨x1, hx1, ex1⟩ := shr_to an (n % 64)
  rw [ex1]
  repeat refine w1 (k := ?_)
  first | refine ofN (hv := by exact Val.shr rfl rfl rfl rfl (by omega)) (h := ?_) | refine dlN (hv := by exact Val.shr rfl rfl rfl rfl (by omega)) (h := ?_) | refine dlgN (hv := by exact Val.shr rfl rfl rfl rfl (by omega)) (h := ?_) | refine ofN (hv := by exact Val.shr rfl rfl rfl rfl (by omega)) (h := ?_)
  obtain ⟨x2, hx2, ex2⟩ := shr_to ad (n % 64)
  rw [ex2]
  repeat refine w1 (k := ?_)
  rw [shr8 an, shr8 ad]
  refine callN (hc := by exact rest12_ac _ n 200 (by decide) (by decide)) (h := ?_)
  repeat refine w1 (k := ?_)
  have k3 := Int.emod_nonneg n (show (200 : Int) ≠ 0 by decide)
  have k4 := Int.emod_lt_of_pos n (show (0 : Int) < 200 by decide)
  obtain ⟨m, hm⟩ := Int.eq_ofNat_of_zero_le k3
  rw [hm] at k3 k4 ⊢
  obtain ⟨g1, g2⟩ := mul_s an m ha1 (by omega)
  obtain ⟨g3, g4⟩ := mul_s ad m ha2 (by omega)
  repeat refine w1 (k := ?_)
  rw [show ((an / 256 : Nat) : Int) * (1 + (m : Int)) = ((an / 256 * (1 + m) : Nat) : Int) from rfl, show ((ad / 256 : Nat) : Int) * (1 + (m : Int)) = ((ad / 256 * (1 + m) : Nat) : Int) from rfl] at *
  rw [wrapN (an / 256 * (1 + m)) (by omega), wrapN (ad / 256 * (1 + m)) (by omega)]
  refine callN (hc := by exact cmp_ac _ (an / 256, ad / 256) (an / 256 * (1 + m), ad / 256 * (1 + m)) ⟨by dsimp only; omega, by dsimp only; omega⟩ ⟨by dsimp only; omega, by dsimp only; omega⟩) (h := ?_)
  repeat refine w1 (k := ?_)
  rw [cmp_scale _ _ _ (by omega)]
  repeat refine w1 (k := ?_)
  refine callN (hc := by exact compares_ac _ (an, ad) (bn, bd) hA hB) (h := ?_)
  repeat refine w1 (k := ?_)
  refine callN (hc := by exact compares_ac _ (x1, x2) (bn, bd) ⟨by dsimp only; omega, by dsimp only; omega⟩ hB) (h := ?_)
  repeat refine w1 (k := ?_)
  refine callN (hc := by exact compares_ac _ (an, ad) (x1, x2) hA ⟨by dsimp only; omega, by dsimp only; omega⟩) (h := ?_)
  repeat refine w1 (k := ?_)
  refine callN (hc := by exact compares_ac _ (bn, bd) (bn, bd) hB hB) (h := ?_)
  repeat refine w1 (k := ?_)
  refine ⟨[.c _], .cons (.tmp rfl) .nil, ?_⟩
  rfl
end Go.Proofs.Vl
