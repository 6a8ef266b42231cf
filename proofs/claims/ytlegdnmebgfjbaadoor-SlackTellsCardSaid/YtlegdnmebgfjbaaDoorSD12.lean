/- The laws' helpers: awake, rest, tells, great. -/
import Derived.Test.YtlegdnmebgfjbaaDoorSD11
set_option linter.all false
set_option maxRecDepth 2000
set_option maxHeartbeats 8000000
namespace Go.Proofs.Vl
open Go Go.RowKit
attribute [local irreducible] AWp OpTo Run DL Val UN DR AC Le thn inb nog
attribute [local irreducible] els nxO
abbrev aw3 : List Tk := [⟨⟨#[97]⟩, 1, 4, 4, 0, 1, 1⟩, ⟨⟨#[98]⟩, 2, 9, 9, 0, 1, 2⟩, ⟨⟨#[99]⟩, 3, 20, 20, 0, 3, 3⟩]
theorem aw_b : blkA aw3 1 = 2 := by decide +kernel
theorem aw_h : hghA aw3 1 5 = 2 := by decide +kernel
theorem aw_n : needA aw3 1 5 = 6 := by decide +kernel
theorem aw_nm : ∀ t ∈ aw3, t.nm.size ≤ maxLen := by
  intro t h
  simp only [aw3, List.mem_cons, List.not_mem_nil, or_false] at h
  rcases h with rfl | rfl | rfl <;> exact (by decide : 1 ≤ 2 ^ 63 - 1)
theorem and25 (n : Int) : bits .and .i64 n 33554431 = n % 33554432 := by
  have h63 : (BitVec.ofInt 64 33554431).toNat = 2 ^ 25 - 1 := by decide
  have key : (BitVec.ofInt 64 n &&& BitVec.ofInt 64 33554431).toNat = (n % ((2 ^ 64 : Nat) : Int)).toNat % 2 ^ 25 := by
    rw [BitVec.toNat_and, BitVec.toNat_ofInt, h63, Nat.and_two_pow_sub_one_eq_mod]
  show IntKind.i64.wrap ((BitVec.ofInt 64 n &&& BitVec.ofInt 64 33554431).toNat : Nat) = n % 33554432
  rw [key, IntKind.wrap_i64]
  omega
def bigT (k : Int) (t : Tk) : Tk := ⟨t.nm, t.c * k, t.t * k, t.d * k, t.j * k, t.q * k, t.p⟩
def bigL (l : List Tk) (n : Int) : List Tk := l.map (bigT (1 + n % 33554432))
structure Small (t : Tk) : Prop where
  hc : 0 ≤ t.c ∧ t.c ≤ 100
  ht : 0 ≤ t.t ∧ t.t ≤ 100
  hd : 0 ≤ t.d ∧ t.d ≤ 100
  hj : 0 ≤ t.j ∧ t.j ≤ 100
  hq : 0 ≤ t.q ∧ t.q ≤ 100
theorem mul_b {a k : Int} (h : 0 ≤ a ∧ a ≤ 100) (h1 : 1 ≤ k) (h2 : k ≤ 33554432) : 0 ≤ a * k ∧ a * k ≤ 3355443200 :=
  ⟨Int.mul_nonneg h.1 (by omega), Int.le_trans (Int.mul_le_mul h.2 h2 (by omega) (by decide)) (by decide)⟩
