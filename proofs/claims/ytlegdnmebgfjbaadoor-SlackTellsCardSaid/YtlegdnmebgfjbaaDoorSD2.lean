/- Sets of numbers: package marks, its simple functions. -/
import Derived.Test.YtlegdnmebgfjbaaDoorM1
import Derived.Test.YtlegdnmebgfjbaaDoorProg
set_option linter.all false
set_option maxRecDepth 2000
set_option maxHeartbeats 8000000
namespace Go.Proofs.Vl
open Go Go.RowKit
attribute [local irreducible] AWp OpTo Run DL Val UN DR AC Le thn inb nog
theorem in_ac (G) (n : Int) : AC Tryd.prog G 88 [vi n] [] (fun r _ => r = vb (inB n)) := by
  refine AC.body' Tryd.func88 Tryd.ntmps88 rfl ?_
  intro cx hd hG
  refine nrmL (k := ?_)
  repeat refine w1 (k := ?_)
  first | refine bothTN (h1 := fun h1 => ?_) (h0 := fun h1 => ?_) | refine bothFN (h1 := fun h1 => ?_) (h0 := fun h1 => ?_)
  all_goals repeat refine w1 (k := ?_)
  all_goals refine ⟨[.c _], .cons (.tmp rfl) .nil, ?_⟩
  all_goals simp_all [tupOf, TV.av, inB]
  all_goals (intros; omega)
theorem shr6 (n : Nat) : ((n : Int).fdiv (2 ^ min 6 IntKind.i64.bits)) = ((n / 64 : Nat) : Int) := by
  rw [show min 6 IntKind.i64.bits = 6 from rfl, Int.fdiv_eq_ediv_of_nonneg _ (by decide)]; rfl
theorem and63 (n : Nat) (h : n < 1024) : bits .and .i64 (n : Int) 63 = ((n % 64 : Nat) : Int) := by
  have := bits_mask .i64 63 (by decide) (fun m h0 h1 => by rw [IntKind.wrap_i64]; omega) 6 (by decide) (n : Int) (by omega) (by omega)
  rw [show (63 : Int) = 2 ^ 6 - 1 from rfl, this]; rfl
theorem shl1 (n : Nat) (h : n < 64) : IntKind.u64.wrap (1 * 2 ^ (min (Int.toNat ((n : Nat) : Int)) IntKind.u64.bits)) = ((2 ^ n : Nat) : Int) := by
  have e : min (Int.toNat ((n : Nat) : Int)) IntKind.u64.bits = n := by
    rw [Int.toNat_natCast]
    exact Nat.min_eq_left (show n ≤ 64 by omega)
  rw [e, Int.one_mul, show ((2 : Int) ^ n) = ((2 ^ n : Nat) : Int) by simp]
  have : 2 ^ n < 18446744073709551616 := Nat.pow_lt_pow_right (show 1 < 2 by decide) h
  have h0 : 0 < 2 ^ n := Nat.two_pow_pos n
  generalize 2 ^ n = m at *
  exact wrap_idu (by omega) (by omega)
theorem pow64 (n : Nat) (h : n < 64) : 2 ^ n < M64 := Nat.pow_lt_pow_right (show 1 < 2 by decide) h
theorem sz24 (x : Nat) : 0 + x * (Tryd.prog.types[48]'(by decide +kernel)).size = x := by
  have : (Tryd.prog.types[48]'(by decide +kernel)).size = 1 := by kernel_rfl
  rw [this]; omega
theorem with_ac (G) (s : Nat) (n : Int) : AC Tryd.prog G 87 [.pag (setP s), vi n] [] (fun r _ => r = .pag (setP (wth s n))) := by
  refine AC.body' Tryd.func87 Tryd.ntmps87 rfl ?_
  intro cx hd hG
  refine nrmL (k := ?_)
  repeat refine w1 (k := ?_)
  refine callN (hc := by exact in_ac _ n) (h := ?_)
  repeat refine w1 (k := ?_)
  refine condN (h1 := fun h => ?_) (h0 := fun h => ?_)
  ·
    have hn : 0 ≤ n ∧ n < 1024 := by simp [inB] at h; omega
    obtain ⟨n, rfl⟩ := Int.eq_ofNat_of_zero_le hn.1
    have hn2 : n < 1024 := by omega
    repeat refine w1 (k := ?_)
    rw [shr6, and63 n hn2]
    first | refine ofN (hv := by exact Val.ixA (sz := 1) Tryd.underlying100 (by kernel_rfl) rfl rfl rfl rfl (by omega) (by omega)) (h := ?_) | refine dlN (hv := by exact Val.ixA (sz := 1) Tryd.underlying100 (by kernel_rfl) rfl rfl rfl rfl (by omega) (by omega)) (h := ?_) | refine dlgN (hv := by exact Val.ixA (sz := 1) Tryd.underlying100 (by kernel_rfl) rfl rfl rfl rfl (by omega) (by omega)) (h := ?_) | refine ofN (hv := by exact Val.ixA (sz := 1) Tryd.underlying100 (by kernel_rfl) rfl rfl rfl rfl (by omega) (by omega)) (h := ?_)
    simp only [Nat.mul_one, Nat.zero_add, Int.toNat_natCast]
    first | refine ofN (hv := by exact Val.ld1 rfl rfl rfl (setP_at s _ (by omega))) (h := ?_) | refine dlN (hv := by exact Val.ld1 rfl rfl rfl (setP_at s _ (by omega))) (h := ?_) | refine dlgN (hv := by exact Val.ld1 rfl rfl rfl (setP_at s _ (by omega))) (h := ?_) | refine ofN (hv := by exact Val.ld1 rfl rfl rfl (setP_at s _ (by omega))) (h := ?_)
    repeat refine w1 (k := ?_)
    rw [shl1 _ (by omega), bits_or_N _ _ (wd_lt _ _) (pow64 _ (by omega)), sz24]
    refine OpTo.stP rfl rfl rfl rfl rfl (by kernel_rfl) (by rw [setP_len]; simp only [List.length_cons, List.length_nil]; omega) ?_
    rw [setP_wth _ _ hn2]
    refine nrm (k := ?_)
    repeat refine w1 (k := ?_)
    refine ⟨[.pag _], .cons (.ldF rfl rfl rfl rfl) .nil, ?_⟩
    rw [wth, if_pos h]; rfl
  ·
    repeat refine w1 (k := ?_)
    refine ⟨[.pag _], .cons (.ldF rfl rfl rfl rfl) .nil, ?_⟩
    rw [wth, if_neg (by simp [h])]; rfl