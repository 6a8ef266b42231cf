/- TaskEnds answers true. -/
import Derived.Test.YtcheokfoilcdoaaK6
import Derived.Test.YtcheokfoilcdoaaT2
set_option linter.all false
set_option maxHeartbeats 8000000
namespace Go.Proofs.Vl
open Go Go.RowKit
attribute [local irreducible] AWp OpTo Run DL Val UN DR AC Le thn inb nog
theorem nn_size (m : Nat) : (nn m).size = m := by simp [nn, ByteArray.size]
theorem nn_succ (m : Nat) : nn m ++ (⟨#[110]⟩ : ByteArray) = nn (m + 1) := by
  apply ByteArray.ext
  apply Array.ext'
  rw [ByteArray.data_append, Array.toList_append]
  show (List.replicate m 110) ++ [110] = List.replicate (m + 1) 110
  rw [List.replicate_succ']
theorem ends_ac (G) (q0 q1 q2 q3 : Int) : AC Try.prog G 3 [.pag [.s (.int .i64 q0), .s (.int .i64 q1), .s (.int .i64 q2), .s (.int .i64 q3)]] [] (fun r _ => r = vb true) := by
  refine AC.body' Try.func3 Try.ntmps3 rfl ?_
  intro cx hd hG
  refine nrmL (k := ?_)
  repeat refine w1 (k := ?_)
  refine callN (hc := by exact awake_ac _) (h := ?_)
  repeat refine w1 (k := ?_)
  refine callN (hc := by exact rest_ac _ q0 4 (by decide) (by decide)) (h := ?_)
  repeat refine w1 (k := ?_)
  refine callN (hc := by exact rest_ac _ q1 4 (by decide) (by decide)) (h := ?_)
  repeat refine w1 (k := ?_)
  have h5 := Int.emod_nonneg q2 (show (5 : Int) ≠ 0 by decide)
  have h6 := Int.emod_lt_of_pos q2 (show (0 : Int) < 5 by decide)
  have a0 := Int.emod_nonneg q0 (show (4 : Int) ≠ 0 by decide)
  have a1 := Int.emod_lt_of_pos q0 (show (0 : Int) < 4 by decide)
  have b0 := Int.emod_nonneg q1 (show (4 : Int) ≠ 0 by decide)
  have b1 := Int.emod_lt_of_pos q1 (show (0 : Int) < 4 by decide)
  have d0 := Int.emod_nonneg q3 (show (4 : Int) ≠ 0 by decide)
  have d1 := Int.emod_lt_of_pos q3 (show (0 : Int) < 4 by decide)
  obtain ⟨m, hm⟩ : ∃ m : Nat, (m : Int) = 30 + q2 % 5 := ⟨(30 + q2 % 5).toNat, by omega⟩
  refine loopN [(20, 9)] (α := Nat) (fun j => [(6, vs (nn j))]) (fun j => [(1, .pcells 22 [.s (.int .i64 q0), .s (.int .i64 q1), .s (.int .i64 q2), .s (.int .i64 q3)])]) (fun j => m - j) (fun j => j ≤ m) (x0 := 0) (h0 := by first | omega | simp | (refine ⟨?_, ?_⟩ <;> first | omega | simp)) (hr := ?_)
  intro j hI
  refine nrmL (k := ?_)
  repeat refine w1 (k := ?_)
  refine callN (hc := by exact rest_ac _ q2 5 (by decide) (by decide)) (h := ?_)
  repeat refine w1 (k := ?_)
  rw [nn_size, ← hm]
  refine condN (h1 := fun hb => ?_) (h0 := fun hb => ?_)
  ·
    repeat refine w1 (k := ?_)
    first | refine ofN (hv := by exact Val.strAdd rfl rfl rfl rfl (by rw [nn_size]; show j + 1 ≤ _; omega)) (h := ?_) | refine dlN (hv := by exact Val.strAdd rfl rfl rfl rfl (by rw [nn_size]; show j + 1 ≤ _; omega)) (h := ?_) | refine dlgN (hv := by exact Val.strAdd rfl rfl rfl rfl (by rw [nn_size]; show j + 1 ≤ _; omega)) (h := ?_) | refine ofN (hv := by exact Val.strAdd rfl rfl rfl rfl (by rw [nn_size]; show j + 1 ≤ _; omega)) (h := ?_)
    rw [nn_succ]
    repeat refine w1 (k := ?_)
    refine ⟨j + 1, by omega, by first | omega | (refine ⟨?_, ?_⟩ <;> omega), frg⟩
  ·
    have : j = m := by omega
    subst this
    repeat refine w1 (k := ?_)
    refine callN (hc := by exact rest_ac _ q3 4 (by decide) (by decide)) (h := ?_)
    repeat refine w1 (k := ?_)
    refine callN (hc := by exact check_ac _ cA (by decide) 1 (2147483647 + q0 % 4 - 2) 1 0 1 1) (h := ?_)
    repeat refine w1 (k := ?_)
    rw [c1 _ a0 a1]
    repeat refine w1 (k := ?_)
    first | refine ofN (hv := by exact Val.boolB (u := decide (q0 % 4 ≤ 2)) (v := decide (q0 % 4 ≤ 2)) Try.underlying4 rfl rfl rfl rfl rfl) (h := ?_) | refine dlN (hv := by exact Val.boolB (u := decide (q0 % 4 ≤ 2)) (v := decide (q0 % 4 ≤ 2)) Try.underlying4 rfl rfl rfl rfl rfl) (h := ?_) | refine dlgN (hv := by exact Val.boolB (u := decide (q0 % 4 ≤ 2)) (v := decide (q0 % 4 ≤ 2)) Try.underlying4 rfl rfl rfl rfl rfl) (h := ?_) | refine ofN (hv := by exact Val.boolB (u := decide (q0 % 4 ≤ 2)) (v := decide (q0 % 4 ≤ 2)) Try.underlying4 rfl rfl rfl rfl rfl) (h := ?_)
    simp only [beq_self_eq_true]
    repeat refine w1 (k := ?_)
    refine DL.takeG 2 rfl (by decide +kernel) rfl rfl rfl rfl (Val.ixL rfl rfl rfl rfl rfl (by decide)) ?_
    refine nrm (k := ?_)
    repeat refine w1 (k := ?_)
    refine callN (hc := by exact check_ac _ cA (by decide) 1 1 1 0 1 (q3 % 4)) (h := ?_)
    repeat refine w1 (k := ?_)
    rw [c2 _ d0 d1]
    refine callN (hc := by exact rest_ac _ q3 4 (by decide) (by decide)) (h := ?_)
    repeat refine w1 (k := ?_)
    first | refine ofN (hv := by exact Val.boolB (u := decide (q3 % 4 > 0)) (v := decide (q3 % 4 > 0)) Try.underlying4 rfl rfl rfl rfl rfl) (h := ?_) | refine dlN (hv := by exact Val.boolB (u := decide (q3 % 4 > 0)) (v := decide (q3 % 4 > 0)) Try.underlying4 rfl rfl rfl rfl rfl) (h := ?_) | refine dlgN (hv := by exact Val.boolB (u := decide (q3 % 4 > 0)) (v := decide (q3 % 4 > 0)) Try.underlying4 rfl rfl rfl rfl rfl) (h := ?_) | refine ofN (hv := by exact Val.boolB (u := decide (q3 % 4 > 0)) (v := decide (q3 % 4 > 0)) Try.underlying4 rfl rfl rfl rfl rfl) (h := ?_)
    simp only [beq_self_eq_true]
    repeat refine w1 (k := ?_)
    refine callN (hc := by exact check_ac _ cA (by decide) 1 1 1 0 1 (1048575 + q1 % 4)) (h := ?_)
    repeat refine w1 (k := ?_)
    rw [c3 _ b0 b1]
    repeat refine w1 (k := ?_)
    first | refine ofN (hv := by exact Val.boolB (u := decide (q1 % 4 ≤ 1)) (v := decide (q1 % 4 ≤ 1)) Try.underlying4 rfl rfl rfl rfl rfl) (h := ?_) | refine dlN (hv := by exact Val.boolB (u := decide (q1 % 4 ≤ 1)) (v := decide (q1 % 4 ≤ 1)) Try.underlying4 rfl rfl rfl rfl rfl) (h := ?_) | refine dlgN (hv := by exact Val.boolB (u := decide (q1 % 4 ≤ 1)) (v := decide (q1 % 4 ≤ 1)) Try.underlying4 rfl rfl rfl rfl rfl) (h := ?_) | refine ofN (hv := by exact Val.boolB (u := decide (q1 % 4 ≤ 1)) (v := decide (q1 % 4 ≤ 1)) Try.underlying4 rfl rfl rfl rfl rfl) (h := ?_)
    simp only [beq_self_eq_true]
    repeat refine w1 (k := ?_)
    refine callN (hc := by exact check_ac _ (nn j) (by rw [nn_size]; simp [maxLen]; omega) 1 1 1 0 1 1) (h := ?_)
    repeat refine w1 (k := ?_)
    rw [c4 j (by omega) (by omega), nn_size]
    repeat refine w1 (k := ?_)
    first | refine ofN (hv := by exact Val.boolB (u := decide ((j : Int) ≤ 32)) (v := decide ((j : Int) ≤ 32)) Try.underlying4 rfl rfl rfl rfl rfl) (h := ?_) | refine dlN (hv := by exact Val.boolB (u := decide ((j : Int) ≤ 32)) (v := decide ((j : Int) ≤ 32)) Try.underlying4 rfl rfl rfl rfl rfl) (h := ?_) | refine dlgN (hv := by exact Val.boolB (u := decide ((j : Int) ≤ 32)) (v := decide ((j : Int) ≤ 32)) Try.underlying4 rfl rfl rfl rfl rfl) (h := ?_) | refine ofN (hv := by exact Val.boolB (u := decide ((j : Int) ≤ 32)) (v := decide ((j : Int) ≤ 32)) Try.underlying4 rfl rfl rfl rfl rfl) (h := ?_)
    simp only [beq_self_eq_true]
    repeat refine w1 (k := ?_)
    refine callN (hc := by exact check_ac _ cA (by decide) 3 9 9 (4 + q0 % 4) (1 + q1 % 4) 1) (h := ?_)
    repeat refine w1 (k := ?_)
    rw [c5 _ _ a0 a1 b0 b1]
    cases hq : decide (q0 % 4 ≤ 2)
    ·
      simp only [Bool.false_and]
      repeat refine w1 (k := ?_)
      first | refine ofN (hv := by exact Val.boolB (u := false) (v := false) Try.underlying4 rfl rfl rfl rfl rfl) (h := ?_) | refine dlN (hv := by exact Val.boolB (u := false) (v := false) Try.underlying4 rfl rfl rfl rfl rfl) (h := ?_) | refine dlgN (hv := by exact Val.boolB (u := false) (v := false) Try.underlying4 rfl rfl rfl rfl rfl) (h := ?_) | refine ofN (hv := by exact Val.boolB (u := false) (v := false) Try.underlying4 rfl rfl rfl rfl rfl) (h := ?_)
      simp only [beq_self_eq_true]
      repeat refine w1 (k := ?_)
      refine ⟨[.c _], .cons (.tmp rfl) .nil, ?_⟩
      rfl
    ·
      simp only [Bool.true_and]
      repeat refine w1 (k := ?_)
      first | refine ofN (hv := by exact Val.boolB (u := decide (q1 % 4 ≤ 2)) (v := decide (q1 % 4 ≤ 2)) Try.underlying4 rfl rfl rfl rfl rfl) (h := ?_) | refine dlN (hv := by exact Val.boolB (u := decide (q1 % 4 ≤ 2)) (v := decide (q1 % 4 ≤ 2)) Try.underlying4 rfl rfl rfl rfl rfl) (h := ?_) | refine dlgN (hv := by exact Val.boolB (u := decide (q1 % 4 ≤ 2)) (v := decide (q1 % 4 ≤ 2)) Try.underlying4 rfl rfl rfl rfl rfl) (h := ?_) | refine ofN (hv := by exact Val.boolB (u := decide (q1 % 4 ≤ 2)) (v := decide (q1 % 4 ≤ 2)) Try.underlying4 rfl rfl rfl rfl rfl) (h := ?_)
      simp only [beq_self_eq_true]
      repeat refine w1 (k := ?_)
      refine ⟨[.c _], .cons (.tmp rfl) .nil, ?_⟩
      rfl
theorem ends_top (q : List Int) (hq : IntsOk 4 q) : AC Try.prog (fun _ => none) 3 [.pag (intsP q)] [] (fun r _ => r = vb true) := by
  obtain ⟨a, b, c, d, rfl⟩ := four_ hq.1
  exact ends_ac _ a b c d
end Go.Proofs.Vl
