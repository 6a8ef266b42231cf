/- MarksBelow. -/
import Derived.Test.YtjfpddgldfaahaaDoorM5
set_option linter.all false
set_option maxHeartbeats 8000000
namespace Go.Proofs.Vl
open Go Go.RowKit
attribute [local irreducible] AWp OpTo Run DL Val UN DR AC Le thn inb nog
attribute [local irreducible] els nxO
theorem low_bit (b j : Nat) : (2 ^ b - 1).testBit j = decide (j < b) := Nat.testBit_two_pow_sub_one b j
theorem els_low (b : Nat) (hb : b ≤ 1024) : (els (2 ^ b - 1)).length = b := by
  unfold els
  have e : (fun m => (2 ^ b - 1).testBit m) = fun m => decide (m < b) := funext fun m => low_bit b m
  rw [e]
  rw [← List.countP_eq_length_filter]
  have : ∀ n, (List.range n).countP (fun m => decide (m < b)) = min n b := by
    intro n
    induction n with
    | zero => simp
    | succ n ih => rw [List.range_succ, List.countP_append, ih]; simp [List.countP_cons]; split <;> omega
  rw [this]; omega
theorem nx_low (b f : Nat) (hb : b ≤ 1024) : nxO (2 ^ b - 1) f = if f < b then some f else none := by
  split
  · rename_i h; exact nxO_some (Nat.le_refl _) (by rw [low_bit]; simp [h]) (by omega) (fun j h1 h2 => by omega)
  · rename_i h; exact nxO_none (fun j h1 h2 => by rw [low_bit]; simp; omega)
def ok64 (c : Int) : Prop := -9223372036854775808 ≤ c ∧ c < 9223372036854775808
theorem tm_b (x : Int) : -1034 < x.tmod 1034 ∧ x.tmod 1034 < 1034 := ⟨Int.lt_tmod_of_pos x (by decide), Int.tmod_lt_of_pos x (by decide)⟩
theorem kk (x : Int) : ∃ k : Int, -3 ≤ k ∧ k ≤ 1030 ∧ IntKind.i64.wrap ((IntKind.i64.wrap (x.tmod 1034 + 1034)).tmod 1034 - 3) = k := by
  obtain ⟨h1, h2⟩ := tm_b x
  rw [show IntKind.i64.wrap (x.tmod 1034 + 1034) = x.tmod 1034 + 1034 by rw [IntKind.wrap_i64]; omega]
  obtain ⟨h3, h4⟩ := tm_b (x.tmod 1034 + 1034)
  have h5 : 0 ≤ (x.tmod 1034 + 1034).tmod 1034 := Int.tmod_nonneg _ (by omega)
  exact ⟨(x.tmod 1034 + 1034).tmod 1034 - 3, by omega, by omega, by rw [IntKind.wrap_i64]; omega⟩
theorem belN_le (n : Int) : belN n ≤ 1024 := by unfold belN; omega
theorem belN_eq (n : Int) : (if 1024 < if 0 > n then 0 else n then 1024 else if 0 > n then 0 else n) = ((belN n : Nat) : Int) := by
  unfold belN; split <;> split at * <;> omega
theorem below1_ac (n o : Int) (hn : ok64 n) (ho : ok64 o) : AC Tryd.prog GL 20 [vi n, vi o] [] (fun r _ => r = vb true) := by
  refine AC.body' Tryd.func20 Tryd.ntmps20 rfl ?_
  intro cx hd hG
  refine nrmL (k := ?_)
  repeat refine w1 (k := ?_)
  obtain ⟨w0, fz0, β0, df, G0⟩ := cx
  obtain rfl : G0 = GL := hG
  obtain ⟨ho1, ho2⟩ := ho
  refine callN (hc := by exact awake_ac) (h := ?_)
  repeat refine w1 (k := ?_)
  refine callN (hc := by exact below_ac _ n) (h := ?_)
  repeat refine w1 (k := ?_)
  obtain ⟨k, k1, k2, ek⟩ := kk o
  rw [ek, belN_eq]
  have hb := belN_le n
  generalize belN n = b at *
  refine callN (hc := by exact next_ac _ k (by omega)) (h := ?_)
  repeat refine w1 (k := ?_)
  rw [nx_low b _ hb]
  refine callN (hc := by exact len_ac _) (h := ?_)
  repeat refine w1 (k := ?_)
  rw [els_low b hb]
  repeat refine w1 (k := ?_)
  simp only [beq_self_eq_true, cond_true]
  repeat refine w1 (k := ?_)
  refine callN (hc := by exact has_ac _ _ k) (h := ?_)
  repeat refine w1 (k := ?_)
  have hh : (inB k && (2 ^ b - 1).testBit k.toNat) = (decide (k ≥ 0) && decide (k < (b : Int))) := by
    rw [low_bit]; unfold inB
    by_cases h1 : 0 ≤ k <;> by_cases h2 : k < (b : Int) <;> simp [h1, h2] <;> omega
  rw [hh]
  have hf : (fromN k : Int) = (if 0 > k + 1 then 0 else k + 1) := by unfold fromN; split <;> omega
  by_cases hk0 : k ≥ 0
  ·
    rw [show decide (k ≥ 0) = true by simp [hk0], Bool.true_and]
    repeat refine w1 (k := ?_)
    first | refine ofN (hv := by exact Val.boolB (u := decide (k < (b : Int))) (v := decide (k < (b : Int))) Tryd.underlying4 rfl rfl rfl rfl rfl) (h := ?_) | refine dlN (hv := by exact Val.boolB (u := decide (k < (b : Int))) (v := decide (k < (b : Int))) Tryd.underlying4 rfl rfl rfl rfl rfl) (h := ?_) | refine dlgN (hv := by exact Val.boolB (u := decide (k < (b : Int))) (v := decide (k < (b : Int))) Tryd.underlying4 rfl rfl rfl rfl rfl) (h := ?_) | refine ofN (hv := by exact Val.boolB (u := decide (k < (b : Int))) (v := decide (k < (b : Int))) Tryd.underlying4 rfl rfl rfl rfl rfl) (h := ?_)
    simp only [beq_self_eq_true, cond_true]
    repeat refine w1 (k := ?_)
    by_cases h5 : fromN k < b
    ·
      rw [if_pos h5]
      dsimp only [Option.getD_some, Option.isSome_some]
      first | refine bothTN (h1 := fun h6 => ?_) (h0 := fun h6 => ?_) | refine bothFN (h1 := fun h6 => ?_) (h0 := fun h6 => ?_)
      all_goals repeat refine w1 (k := ?_)
      ·
        repeat refine w1 (k := ?_)
        rw [show decide ((b : Int) > 0) = true by simp; omega]
        first | refine ofN (hv := by exact Val.boolB (u := true) (v := true) Tryd.underlying4 rfl rfl rfl rfl rfl) (h := ?_) | refine dlN (hv := by exact Val.boolB (u := true) (v := true) Tryd.underlying4 rfl rfl rfl rfl rfl) (h := ?_) | refine dlgN (hv := by exact Val.boolB (u := true) (v := true) Tryd.underlying4 rfl rfl rfl rfl rfl) (h := ?_) | refine ofN (hv := by exact Val.boolB (u := true) (v := true) Tryd.underlying4 rfl rfl rfl rfl rfl) (h := ?_)
        simp only [beq_self_eq_true, cond_true]
        repeat refine w1 (k := ?_)
        rw [hf]
        simp only [beq_self_eq_true, cond_true]
        repeat refine w1 (k := ?_)
        exact ⟨[.c _], .cons (.tmp rfl) .nil, rfl⟩
      · omega
    ·
      rw [if_neg h5]
      dsimp only [Option.getD_none, Option.isSome_none]
      first | refine bothTN (h1 := fun h6 => ?_) (h0 := fun h6 => ?_) | refine bothFN (h1 := fun h6 => ?_) (h0 := fun h6 => ?_)
      all_goals repeat refine w1 (k := ?_)
      ·
        repeat refine w1 (k := ?_)
        rw [show decide ((b : Int) > 0) = false by simp; omega]
        first | refine ofN (hv := by exact Val.boolB (u := false) (v := false) Tryd.underlying4 rfl rfl rfl rfl rfl) (h := ?_) | refine dlN (hv := by exact Val.boolB (u := false) (v := false) Tryd.underlying4 rfl rfl rfl rfl rfl) (h := ?_) | refine dlgN (hv := by exact Val.boolB (u := false) (v := false) Tryd.underlying4 rfl rfl rfl rfl rfl) (h := ?_) | refine ofN (hv := by exact Val.boolB (u := false) (v := false) Tryd.underlying4 rfl rfl rfl rfl rfl) (h := ?_)
        simp only [beq_self_eq_true, cond_true]
        repeat refine w1 (k := ?_)
        exact ⟨[.c _], .cons (.tmp rfl) .nil, rfl⟩
      ·
        repeat refine w1 (k := ?_)
        first | refine ofN (hv := by exact Val.boolB (u := false) (v := false) Tryd.underlying4 rfl rfl rfl rfl rfl) (h := ?_) | refine dlN (hv := by exact Val.boolB (u := false) (v := false) Tryd.underlying4 rfl rfl rfl rfl rfl) (h := ?_) | refine dlgN (hv := by exact Val.boolB (u := false) (v := false) Tryd.underlying4 rfl rfl rfl rfl rfl) (h := ?_) | refine ofN (hv := by exact Val.boolB (u := false) (v := false) Tryd.underlying4 rfl rfl rfl rfl rfl) (h := ?_)
        simp only [beq_self_eq_true, cond_true]
        repeat refine w1 (k := ?_)
        exact ⟨[.c _], .cons (.tmp rfl) .nil, rfl⟩
  ·
    rw [show decide (k ≥ 0) = false by simp; omega, Bool.false_and]
    repeat refine w1 (k := ?_)
    first | refine ofN (hv := by exact Val.boolB (u := false) (v := false) Tryd.underlying4 rfl rfl rfl rfl rfl) (h := ?_) | refine dlN (hv := by exact Val.boolB (u := false) (v := false) Tryd.underlying4 rfl rfl rfl rfl rfl) (h := ?_) | refine dlgN (hv := by exact Val.boolB (u := false) (v := false) Tryd.underlying4 rfl rfl rfl rfl rfl) (h := ?_) | refine ofN (hv := by exact Val.boolB (u := false) (v := false) Tryd.underlying4 rfl rfl rfl rfl rfl) (h := ?_)
    simp only [beq_self_eq_true, cond_true]
    repeat refine w1 (k := ?_)
    by_cases h5 : fromN k < b
    ·
      rw [if_pos h5]
      dsimp only [Option.getD_some, Option.isSome_some]
      first | refine bothTN (h1 := fun h6 => ?_) (h0 := fun h6 => ?_) | refine bothFN (h1 := fun h6 => ?_) (h0 := fun h6 => ?_)
      all_goals repeat refine w1 (k := ?_)
      ·
        repeat refine w1 (k := ?_)
        rw [show decide ((b : Int) > 0) = true by simp; omega]
        first | refine ofN (hv := by exact Val.boolB (u := true) (v := true) Tryd.underlying4 rfl rfl rfl rfl rfl) (h := ?_) | refine dlN (hv := by exact Val.boolB (u := true) (v := true) Tryd.underlying4 rfl rfl rfl rfl rfl) (h := ?_) | refine dlgN (hv := by exact Val.boolB (u := true) (v := true) Tryd.underlying4 rfl rfl rfl rfl rfl) (h := ?_) | refine ofN (hv := by exact Val.boolB (u := true) (v := true) Tryd.underlying4 rfl rfl rfl rfl rfl) (h := ?_)
        simp only [beq_self_eq_true, cond_true]
        repeat refine w1 (k := ?_)
        rw [hf]
        simp only [beq_self_eq_true, cond_true]
        repeat refine w1 (k := ?_)
        exact ⟨[.c _], .cons (.tmp rfl) .nil, rfl⟩
      · omega
    ·
      rw [if_neg h5]
      dsimp only [Option.getD_none, Option.isSome_none]
      first | refine bothTN (h1 := fun h6 => ?_) (h0 := fun h6 => ?_) | refine bothFN (h1 := fun h6 => ?_) (h0 := fun h6 => ?_)
      all_goals repeat refine w1 (k := ?_)
      ·
        repeat refine w1 (k := ?_)
        rw [show decide ((b : Int) > 0) = false by simp; omega]
        first | refine ofN (hv := by exact Val.boolB (u := false) (v := false) Tryd.underlying4 rfl rfl rfl rfl rfl) (h := ?_) | refine dlN (hv := by exact Val.boolB (u := false) (v := false) Tryd.underlying4 rfl rfl rfl rfl rfl) (h := ?_) | refine dlgN (hv := by exact Val.boolB (u := false) (v := false) Tryd.underlying4 rfl rfl rfl rfl rfl) (h := ?_) | refine ofN (hv := by exact Val.boolB (u := false) (v := false) Tryd.underlying4 rfl rfl rfl rfl rfl) (h := ?_)
        simp only [beq_self_eq_true, cond_true]
        repeat refine w1 (k := ?_)
        exact ⟨[.c _], .cons (.tmp rfl) .nil, rfl⟩
      ·
        repeat refine w1 (k := ?_)
        first | refine ofN (hv := by exact Val.boolB (u := false) (v := false) Tryd.underlying4 rfl rfl rfl rfl rfl) (h := ?_) | refine dlN (hv := by exact Val.boolB (u := false) (v := false) Tryd.underlying4 rfl rfl rfl rfl rfl) (h := ?_) | refine dlgN (hv := by exact Val.boolB (u := false) (v := false) Tryd.underlying4 rfl rfl rfl rfl rfl) (h := ?_) | refine ofN (hv := by exact Val.boolB (u := false) (v := false) Tryd.underlying4 rfl rfl rfl rfl rfl) (h := ?_)
        simp only [beq_self_eq_true, cond_true]
        repeat refine w1 (k := ?_)
        exact ⟨[.c _], .cons (.tmp rfl) .nil, rfl⟩
