/- Sets of numbers: package marks, its simple functions. -/
import Derived.Test.YtcheokfoilcdoaaDoorM1
import Derived.Test.YtcheokfoilcdoaaDoorProg
set_option linter.all false
set_option maxRecDepth 2000
set_option maxHeartbeats 8000000
namespace Go.Proofs.Vl
open Go Go.RowKit
attribute [local irreducible] AWp OpTo Run DL Val UN DR AC Le thn inb nog
theorem in_ac (G) (n : Int) : AC Tryd.prog G 26 [vi n] [] (fun r _ => r = vb (inB n)) := by
  refine AC.body' Tryd.func26 Tryd.ntmps26 rfl ?_
  intro cx hd hG
  refine nrmL (k := ?_)
  repeat refine w1 (k := ?_)
  first | refine bothTN (h1 := fun h1 => ?_) (h0 := fun h1 => ?_) | refine bothFN (h1 := fun h1 => ?_) (h0 := fun h1 => ?_)
  all_goals repeat refine w1 (k := ?_)
  all_goals refine ⟨[.c _], .cons (.tmp rfl) .nil, ?_⟩
  all_goals simp_all [tupOf, TV.av, inB]
  all_goals (intros; omega)
theorem shr6 (n : Nat) : ((n : Int).fdiv (2 ^ min 6 IntKind.i64.bits)) = ((n / 64 : Nat) : Int) := by
  rw [show min 6 IntKind.i64.bits = 6 from rfl, Int.fdiv_eq_ediv_of_nonneg _ (by decide)]; rfl
theorem and63 (n : Nat) (h : n < 1024) : bits .and .i64 (n : Int) 63 = ((n % 64 : Nat) : Int) := by
  have := bits_mask .i64 63 (by decide) (fun m h0 h1 => by rw [IntKind.wrap_i64]; omega) 6 (by decide) (n : Int) (by omega) (by omega)
  rw [show (63 : Int) = 2 ^ 6 - 1 from rfl, this]; rfl
theorem shl1 (n : Nat) (h : n < 64) : IntKind.u64.wrap (1 * 2 ^ (min (Int.toNat ((n : Nat) : Int)) IntKind.u64.bits)) = ((2 ^ n : Nat) : Int) := by
  have e : min (Int.toNat ((n : Nat) : Int)) IntKind.u64.bits = n := by
    rw [Int.toNat_natCast]
    exact Nat.min_eq_left (show n ≤ 64 by omega)
  rw [e, Int.one_mul, show ((2 : Int) ^ n) = ((2 ^ n : Nat) : Int) by simp]
  have : 2 ^ n < 18446744073709551616 := Nat.pow_lt_pow_right (show 1 < 2 by decide) h
  have h0 : 0 < 2 ^ n := Nat.two_pow_pos n
  generalize 2 ^ n = m at *
  exact wrap_idu (by omega) (by omega)
theorem pow64 (n : Nat) (h : n < 64) : 2 ^ n < M64 := Nat.pow_lt_pow_right (show 1 < 2 by decide) h
theorem sz24 (x : Nat) : 0 + x * (Tryd.prog.types[29]'(by decide +kernel)).size = x := by
  have : (Tryd.prog.types[29]'(by decide +kernel)).size = 1 := by kernel_rfl
  rw [this]; omega
theorem with_ac (G) (s : Nat) (n : Int) : AC Tryd.prog G 33 [.pag (setP s), vi n] [] (fun r _ => r = .pag (setP (wth s n))) := by
  refine AC.body' Tryd.func33 Tryd.ntmps33 rfl ?_
  intro cx hd hG
  refine nrmL (k := ?_)
  repeat refine w1 (k := ?_)
  refine callN (hc := by exact in_ac _ n) (h := ?_)
  repeat refine w1 (k := ?_)
  refine condN (h1 := fun h => ?_) (h0 := fun h => ?_)
  ·
    have hn : 0 ≤ n ∧ n < 1024 := by simp [inB] at h; omega
    obtain ⟨n, rfl⟩ := Int.eq_ofNat_of_zero_le hn.1
    have hn2 : n < 1024 := by omega
    repeat refine w1 (k := ?_)
    rw [shr6, and63 n hn2]
    first | refine ofN (hv := by exact Val.ixA (sz := 1) Tryd.underlying31 (by kernel_rfl) rfl rfl rfl rfl (by omega) (by omega)) (h := ?_) | refine dlN (hv := by exact Val.ixA (sz := 1) Tryd.underlying31 (by kernel_rfl) rfl rfl rfl rfl (by omega) (by omega)) (h := ?_) | refine dlgN (hv := by exact Val.ixA (sz := 1) Tryd.underlying31 (by kernel_rfl) rfl rfl rfl rfl (by omega) (by omega)) (h := ?_) | refine ofN (hv := by exact Val.ixA (sz := 1) Tryd.underlying31 (by kernel_rfl) rfl rfl rfl rfl (by omega) (by omega)) (h := ?_)
    simp only [Nat.mul_one, Nat.zero_add, Int.toNat_natCast]
    first | refine ofN (hv := by exact Val.ld1 rfl rfl rfl (setP_at s _ (by omega))) (h := ?_) | refine dlN (hv := by exact Val.ld1 rfl rfl rfl (setP_at s _ (by omega))) (h := ?_) | refine dlgN (hv := by exact Val.ld1 rfl rfl rfl (setP_at s _ (by omega))) (h := ?_) | refine ofN (hv := by exact Val.ld1 rfl rfl rfl (setP_at s _ (by omega))) (h := ?_)
    repeat refine w1 (k := ?_)
    rw [shl1 _ (by omega), bits_or_N _ _ (wd_lt _ _) (pow64 _ (by omega)), sz24]
    refine OpTo.stP rfl rfl rfl rfl rfl (by kernel_rfl) (by rw [setP_len]; simp only [List.length_cons, List.length_nil]; omega) ?_
    rw [setP_wth _ _ hn2]
    refine nrm (k := ?_)
    repeat refine w1 (k := ?_)
    refine ⟨[.pag _], .cons (.ldF rfl rfl rfl rfl) .nil, ?_⟩
    rw [wth, if_pos h]; rfl
  ·
    repeat refine w1 (k := ?_)
    refine ⟨[.pag _], .cons (.ldF rfl rfl rfl rfl) .nil, ?_⟩
    rw [wth, if_neg (by simp [h])]; rfl
theorem wd_mod (o i j : Nat) : wd (o % 2 ^ (64 * i)) j = if j < i then wd o j else 0 := by
  refine Nat.eq_of_testBit_eq fun b => ?_
  rw [wd_bit, Nat.testBit_mod_two_pow]
  split
  · rename_i h
    rw [wd_bit]
    by_cases hb : b < 64
    · have : 64 * j + b < 64 * i := by omega
      simp [hb, this]
    · simp [hb]
  · rename_i h
    rw [Nat.zero_testBit]
    by_cases hb : b < 64
    · have : ¬ 64 * j + b < 64 * i := by omega
      simp [hb, this]
    · simp [hb]
def orM (s o i : Nat) : Nat := s ||| o % 2 ^ (64 * i)
def andM (s o i : Nat) : Nat := andN s (o % 2 ^ (64 * i))
theorem orM_0 (s o : Nat) : orM s o 0 = s := by simp [orM, Nat.mod_one]
theorem andM_0 (s o : Nat) : andM s o 0 = s := by simp [andM, Nat.mod_one, andN_zero]
theorem orM_n (s o i : Nat) (ho : o < bigN (64 * i)) : orM s o i = s ||| o := by unfold orM; unfold bigN at ho; rw [Nat.mod_eq_of_lt ho]
theorem orM_16 (s o : Nat) (ho : o < TOP) : orM s o 16 = s ||| o := orM_n s o 16 ho
theorem andM_n (s o i : Nat) (ho : o < bigN (64 * i)) : andM s o i = andN s o := by unfold andM; unfold bigN at ho; rw [Nat.mod_eq_of_lt ho]
theorem andM_16 (s o : Nat) (ho : o < TOP) : andM s o 16 = andN s o := andM_n s o 16 ho
theorem setP_or (s o i : Nat) (h : i < 16) : splice (setP (orM s o i)) i [.s (.int .u64 ((wd (orM s o i) i ||| wd o i : Nat) : Int))] = setP (orM s o (i + 1)) := by
  unfold orM
  refine setP_set _ _ i _ h ?_ fun j hj => ?_
  · simp only [wd_or, wd_mod]; rw [if_pos (by omega), if_neg (by omega)]; simp
  · simp only [wd_or, wd_mod]
    by_cases hji : j < i
    · rw [if_pos hji, if_pos (by omega)]
    · rw [if_neg hji, if_neg (by omega)]
theorem setP_andN (s o i : Nat) (h : i < 16) : splice (setP (andM s o i)) i [.s (.int .u64 ((andN (wd (andM s o i) i) (wd o i) : Nat) : Int))] = setP (andM s o (i + 1)) := by
  unfold andM
  refine setP_set _ _ i _ h ?_ fun j hj => ?_
  · simp only [wd_andN, wd_mod]; rw [if_pos (by omega), if_neg (by omega), andN_zero]
  · simp only [wd_andN, wd_mod]
    by_cases hji : j < i
    · rw [if_pos hji, if_pos (by omega)]
    · rw [if_neg hji, if_neg (by omega)]
theorem or_ac (G) (s o : Nat) (ho : o < TOP) : AC Tryd.prog G 12 [.pag (setP s), .pag (setP o)] [] (fun r _ => r = .pag (setP (s ||| o))) := by
  refine AC.body' Tryd.func12 Tryd.ntmps12 rfl ?_
  intro cx hd hG
  refine nrmL (k := ?_)
  repeat refine w1 (k := ?_)
  rw [show setP s = setP (orM s o 0) by rw [orM_0]]
  refine loopN [(5, 1), (7, 11)] (α := Nat) (fun i => [(6, vi (i : Int))]) (fun i => [(2, .pcells 31 (setP (orM s o i))), (3, .pcells 31 (setP o)), (4, .pcells 31 (setP 0))]) (fun i => 16 - i) (fun i => i ≤ 16) (x0 := 0) (h0 := by first | omega | simp | (refine ⟨?_, ?_⟩ <;> first | omega | simp)) (hr := ?_)
  intro i hI
  refine nrmL (k := ?_)
  repeat refine w1 (k := ?_)
  refine condN (h1 := fun h => ?_) (h0 := fun h => ?_)
  ·
    repeat refine w1 (k := ?_)
    rw [sz24]
    first | refine ofN (hv := by exact Val.ld1 rfl rfl rfl (setP_at _ i (by omega))) (h := ?_) | refine dlN (hv := by exact Val.ld1 rfl rfl rfl (setP_at _ i (by omega))) (h := ?_) | refine dlgN (hv := by exact Val.ld1 rfl rfl rfl (setP_at _ i (by omega))) (h := ?_) | refine ofN (hv := by exact Val.ld1 rfl rfl rfl (setP_at _ i (by omega))) (h := ?_)
    repeat refine w1 (k := ?_)
    rw [sz24]
    first | refine ofN (hv := by exact Val.ld1 rfl rfl rfl (setP_at o i (by omega))) (h := ?_) | refine dlN (hv := by exact Val.ld1 rfl rfl rfl (setP_at o i (by omega))) (h := ?_) | refine dlgN (hv := by exact Val.ld1 rfl rfl rfl (setP_at o i (by omega))) (h := ?_) | refine ofN (hv := by exact Val.ld1 rfl rfl rfl (setP_at o i (by omega))) (h := ?_)
    repeat refine w1 (k := ?_)
    rw [bits_or_N _ _ (wd_lt _ _) (wd_lt _ _), sz24]
    refine OpTo.stP rfl rfl rfl rfl rfl (by kernel_rfl) (by rw [setP_len]; simp only [List.length_cons, List.length_nil]; omega) ?_
    rw [setP_or _ _ _ (by omega)]
    refine nrm (k := ?_)
    repeat refine w1 (k := ?_)
    refine ⟨i + 1, by omega, by first | omega | (refine ⟨?_, ?_⟩ <;> omega), frg⟩
  ·
    repeat refine w1 (k := ?_)
    have : i = 16 := by omega
    subst this
    refine ⟨[.pag _], .cons (.ldF rfl rfl rfl rfl) .nil, ?_⟩
    rw [← orM_16 s o ho]; rfl
theorem minus_ac (G) (s o : Nat) (ho : o < TOP) : AC Tryd.prog G 15 [.pag (setP s), .pag (setP o)] [] (fun r _ => r = .pag (setP (andN s o))) := by
  refine AC.body' Tryd.func15 Tryd.ntmps15 rfl ?_
  intro cx hd hG
  refine nrmL (k := ?_)
  repeat refine w1 (k := ?_)
  rw [show setP s = setP (andM s o 0) by rw [andM_0]]
  refine loopN [(5, 1), (7, 11)] (α := Nat) (fun i => [(6, vi (i : Int))]) (fun i => [(2, .pcells 31 (setP (andM s o i))), (3, .pcells 31 (setP o)), (4, .pcells 31 (setP 0))]) (fun i => 16 - i) (fun i => i ≤ 16) (x0 := 0) (h0 := by first | omega | simp | (refine ⟨?_, ?_⟩ <;> first | omega | simp)) (hr := ?_)
  intro i hI
  refine nrmL (k := ?_)
  repeat refine w1 (k := ?_)
  refine condN (h1 := fun h => ?_) (h0 := fun h => ?_)
  ·
    repeat refine w1 (k := ?_)
    rw [sz24]
    first | refine ofN (hv := by exact Val.ld1 rfl rfl rfl (setP_at _ i (by omega))) (h := ?_) | refine dlN (hv := by exact Val.ld1 rfl rfl rfl (setP_at _ i (by omega))) (h := ?_) | refine dlgN (hv := by exact Val.ld1 rfl rfl rfl (setP_at _ i (by omega))) (h := ?_) | refine ofN (hv := by exact Val.ld1 rfl rfl rfl (setP_at _ i (by omega))) (h := ?_)
    repeat refine w1 (k := ?_)
    rw [sz24]
    first | refine ofN (hv := by exact Val.ld1 rfl rfl rfl (setP_at o i (by omega))) (h := ?_) | refine dlN (hv := by exact Val.ld1 rfl rfl rfl (setP_at o i (by omega))) (h := ?_) | refine dlgN (hv := by exact Val.ld1 rfl rfl rfl (setP_at o i (by omega))) (h := ?_) | refine ofN (hv := by exact Val.ld1 rfl rfl rfl (setP_at o i (by omega))) (h := ?_)
    repeat refine w1 (k := ?_)
    rw [bits_andNot_N _ _ (wd_lt _ _) (wd_lt _ _), sz24]
    refine OpTo.stP rfl rfl rfl rfl rfl (by kernel_rfl) (by rw [setP_len]; simp only [List.length_cons, List.length_nil]; omega) ?_
    rw [setP_andN _ _ _ (by omega)]
    refine nrm (k := ?_)
    repeat refine w1 (k := ?_)
    refine ⟨i + 1, by omega, by first | omega | (refine ⟨?_, ?_⟩ <;> omega), frg⟩
  ·
    repeat refine w1 (k := ?_)
    have : i = 16 := by omega
    subst this
    refine ⟨[.pag _], .cons (.ldF rfl rfl rfl rfl) .nil, ?_⟩
    rw [← andM_16 s o ho]; rfl