/- The chapter's example; what a row of numbers makes. -/
import Derived.Test.YtcheokfoilcdoaaDoorU4
import Derived.Test.YtcheokfoilcdoaaDoorVC
set_option linter.all false
set_option maxRecDepth 2000
set_option maxHeartbeats 8000000
namespace Go.Proofs.Vl
open Go Go.RowKit
attribute [local irreducible] AWp OpTo Run DL Val UN DR AC Le thn inb nog
attribute [local irreducible] els nxO
theorem bit_eq (s n : Nat) : (bits BinOp.and IntKind.u64 ((wd s (n / 64) / 2 ^ (n % 64) : Nat) : Int) 1 == 1) = s.testBit n := by
  have hlt : wd s (n / 64) / 2 ^ (n % 64) < M64 := Nat.lt_of_le_of_lt (Nat.div_le_self _ _) (wd_lt _ _)
  have h := bits_and_u64_nat (wd s (n / 64) / 2 ^ (n % 64)) 1 hlt (by decide)
  have h2 := wd_bit s (n / 64) (n % 64)
  rw [show 64 * (n / 64) + n % 64 = n by omega, Nat.testBit_eq_decide_div_mod_eq] at h2
  rw [show ((1 : Nat) : Int) = 1 from rfl] at h
  rw [h, Nat.and_one_is_mod]
  have h3 : n % 64 < 64 := by omega
  simp only [h3, decide_true, Bool.true_and] at h2
  rw [← h2]
  generalize wd s (n / 64) / 2 ^ (n % 64) = x
  rcases Nat.mod_two_eq_zero_or_one x with h | h <;> rw [h] <;> rfl
theorem has_ac (G) (s : Nat) (n : Int) : AC Tryd.prog G 13 [.pag (setP s), vi n] [] (fun r _ => r = vb (inB n && s.testBit n.toNat)) := by
  refine AC.body' Tryd.func13 Tryd.ntmps13 rfl ?_
  intro cx hd hG
  refine nrmL (k := ?_)
  repeat refine w1 (k := ?_)
  refine callN (hc := by exact in_ac _ _) (h := ?_)
  repeat refine w1 (k := ?_)
  first | refine bothTN (h1 := fun h => ?_) (h0 := fun h => ?_) | refine bothFN (h1 := fun h => ?_) (h0 := fun h => ?_)
  all_goals repeat refine w1 (k := ?_)
  ·
    have hn : 0 ≤ n ∧ n < 1024 := by simp [inB] at h; omega
    obtain ⟨n, rfl⟩ := Int.eq_ofNat_of_zero_le hn.1
    have hn2 : n < 1024 := by omega
    repeat refine w1 (k := ?_)
    rw [shr6]
    repeat refine w1 (k := ?_)
    rw [sz24]
    first | refine ofN (hv := by exact Val.ld1 rfl rfl rfl (setP_at s _ (by omega))) (h := ?_) | refine dlN (hv := by exact Val.ld1 rfl rfl rfl (setP_at s _ (by omega))) (h := ?_) | refine dlgN (hv := by exact Val.ld1 rfl rfl rfl (setP_at s _ (by omega))) (h := ?_) | refine ofN (hv := by exact Val.ld1 rfl rfl rfl (setP_at s _ (by omega))) (h := ?_)
    repeat refine w1 (k := ?_)
    rw [and63 n hn2]
    repeat refine w1 (k := ?_)
    rw [shrN _ _ (by omega)]
    repeat refine w1 (k := ?_)
    rw [bit_eq]
    refine ⟨[.c _], .cons (.tmp rfl) .nil, ?_⟩
    rw [h]; rfl
  ·
    repeat refine w1 (k := ?_)
    refine ⟨[.c _], .cons (.tmp rfl) .nil, ?_⟩
    rw [h]; rfl
