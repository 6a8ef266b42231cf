/- A number is shifted, or not, as the document's answer says, and there and back it is what it was, if nothing fell off: the law NumShifts answers true at every input. -/
import Derived.Test.YthhojifpogghlaaPAllx12
import Derived.Test.YthhojifpogghlaaLema
namespace Go.Proofs.Ythhojifpogghlaa.Pure
open Go.RowKit Go.Proofs.Ythhojifpogghlaa.PAll Go.Proofs.YthhojifpogghlaaW.PrintWords Go.Proofs.YthhojifpogghlaaW.PrintLast Go.Proofs.YthhojifpogghlaaW.PrintMore
open Go.Proofs.Ythhojifpogghlaa.Lema

/-- What a shift answers. -/
def shiftS (a : Nat) (n : Int) : Int × Bool := if n < 0 then (((a / 2 ^ min 64 (-n).toNat : Nat) : Int), true) else if a * 2 ^ n.toNat < 18446744073709551616 then (((a * 2 ^ n.toNat : Nat) : Int), true) else (0, false)

theorem lt_of_bitLen : ∀ (k x : Nat), x < 18446744073709551616 → Lib.bitLen x ≤ k → x < 2 ^ k := by
  intro k
  induction k with
  | zero =>
    intro x hx h
    by_cases h0 : x = 0
    · subst h0; decide
    · have := Lib.bitLen_half x h0 (by omega)
      omega
  | succ k ih =>
    intro x hx h
    by_cases h0 : x = 0
    · subst h0; exact Nat.two_pow_pos _
    · have := Lib.bitLen_half x h0 (by omega)
      have := ih (x / 2) (by omega) (by omega)
      rw [Nat.pow_succ]
      omega
theorem bitLen_iff (x k : Nat) (hx : x < 18446744073709551616) (hk : k ≤ 64) : Lib.bitLen x ≤ k ↔ x < 2 ^ k := ⟨lt_of_bitLen k x hx, Lib.bitLen_le x k hk⟩
theorem pow_split (a n : Nat) (hn : n ≤ 64) : a * 2 ^ n < 18446744073709551616 ↔ a < 2 ^ (64 - n) := by
  have e : 18446744073709551616 = 2 ^ (64 - n) * 2 ^ n := by
    rw [← Nat.pow_add, show 64 - n + n = 64 by omega]
  rw [e]
  exact Nat.mul_lt_mul_right (Nat.two_pow_pos n)
theorem pow_big (a n : Nat) (ha : 0 < a) (hn : 64 ≤ n) : ¬ a * 2 ^ n < 18446744073709551616 := by
  have h1 : 2 ^ 64 ≤ 2 ^ n := Nat.pow_le_pow_right (by omega) hn
  have h2 : 1 * 2 ^ n ≤ a * 2 ^ n := Nat.mul_le_mul_right _ ha
  have h3 : (2 : Nat) ^ 64 = 18446744073709551616 := by decide
  omega
theorem div_small (a n : Nat) (ha : a < 18446744073709551616) (hn : 64 ≤ n) : a / 2 ^ n = 0 := by
  have h1 : 2 ^ 64 ≤ 2 ^ n := Nat.pow_le_pow_right (by omega) hn
  have h3 : (2 : Nat) ^ 64 = 18446744073709551616 := by decide
  exact Nat.div_eq_of_lt (by omega)
theorem shift_eq (a : Nat) (n : Int) (ha : a < 18446744073709551616) (h0 : -9223372036854775808 ≤ n) (h1 : n < 9223372036854775808) : num_Shift.f a n = some (shiftS a n) := by
  unfold num_Shift.f shiftS
  by_cases c1 : n ≤ -64
  · rw [if_pos c1, if_pos (by omega), show min 64 (-n).toNat = 64 by omega, div_small a 64 ha (by omega)]
    rfl
  · rw [if_neg c1]
    by_cases c2 : n < 0
    · have e : IntKind.u64.wrap (wrap64 (-n)) = -n := by rw [IntKind.wrap_u64]; unfold wrap64; omega
      rw [if_pos c2, if_pos c2, e, if_pos (by omega)]
      unfold shr
      rw [show min (-n).toNat IntKind.u64.bits = min 64 (-n).toNat from by rw [Nat.min_comm]; rfl, Int.natCast_ediv, Int.natCast_pow]
      rfl
    · rw [if_neg c2, if_neg c2]
      by_cases c3 : a = 0
      · subst c3
        rw [if_pos (by omega), if_pos (by omega)]
        simp
      · rw [if_neg (by omega)]
        unfold bits_LeadingZeros64.f
        rw [if_pos ⟨by omega, by omega⟩]
        simp only [Option.bind_some, Int.toNat_natCast]
        have hb64 := Lib.bitLen_le a 64 (by omega) ha
        by_cases c4 : n ≤ 64
        · have hb := bitLen_iff a (64 - n.toNat) ha (by omega)
          have hp := pow_split a n.toNat (by omega)
          have e : IntKind.u64.wrap n = n := by rw [IntKind.wrap_u64]; omega
          by_cases c5 : n > 64 - (Lib.bitLen a : Int)
          · rw [if_pos c5]
            have : ¬ a < 2 ^ (64 - n.toNat) := fun h => by have := hb.2 h; omega
            rw [if_neg (fun h => this (hp.1 h))]
          · have : a < 2 ^ (64 - n.toNat) := hb.1 (by omega)
            have hlt := hp.2 this
            rw [if_neg c5, if_pos hlt, e, if_pos (by omega)]
            unfold shl
            have e2 : (a : Int) * 2 ^ min n.toNat IntKind.u64.bits = ((a * 2 ^ n.toNat : Nat) : Int) := by
              rw [show min n.toNat IntKind.u64.bits = n.toNat from Nat.min_eq_left (show n.toNat ≤ 64 by omega), Int.natCast_mul, Int.natCast_pow]
              rfl
            rw [e2, wrapN _ hlt]
        · rw [if_pos (by omega), if_neg (pow_big a n.toNat (by omega) (by omega))]

theorem refAdd (x y : Nat) (_hx : x < 18446744073709551616) (hy : y < 18446744073709551616) : cadencyref01_Add.f x y = if x + y < 18446744073709551616 then some (((x + y : Nat) : Int), true) else some (0, false) := by
  unfold cadencyref01_Add.f
  have e : IntKind.u64.wrap (18446744073709551615 - (y : Int)) = 18446744073709551615 - (y : Int) := by rw [IntKind.wrap_u64]; omega
  rw [e]
  by_cases h : x + y < 18446744073709551616
  · rw [if_neg (by omega), if_pos h, ← Int.natCast_add, wrapN _ h]
  · rw [if_pos (by omega), if_neg h]

/-- The state of the loop that doubles: what is there behind i rounds. -/
def dbl (a i : Nat) : Int × Bool := if a * 2 ^ i < 18446744073709551616 then (((a * 2 ^ i : Nat) : Int), true) else (0, false)

/-- The second loop: d halvings are left. -/
theorem ref_l1 (d : Nat) : ∀ (k : Nat) (n i : Int) (x : Nat) (b : Bool), x < 18446744073709551616 → -9223372036854775808 ≤ n → n < 9223372036854775808 → i ≤ 0 → -64 ≤ i → (d : Int) = max 0 (i - max n (-64)) → d < k →
    cadencyref01_Shift.l1 k n i x b = some (((x / 2 ^ d : Nat) : Int), b) := by
  induction d with
  | zero =>
    intro k n i x b hx h0 h1 hi hi2 hd hk
    obtain ⟨k, rfl⟩ : ∃ m, k = m + 1 := ⟨k - 1, by omega⟩
    simp only [cadencyref01_Shift.l1]
    by_cases c : i > n
    · rw [if_pos c, if_neg (by omega)]; simp
    · rw [if_neg c]; simp
  | succ d ih =>
    intro k n i x b hx h0 h1 hi hi2 hd hk
    obtain ⟨k, rfl⟩ : ∃ m, k = m + 1 := ⟨k - 1, by omega⟩
    simp only [cadencyref01_Shift.l1]
    rw [if_pos (by omega), if_pos (by omega)]
    have e : wrap64 (i - 1) = i - 1 := by unfold wrap64; omega
    have e2 : IntKind.u64.wrap (Int.tdiv (x : Int) 2) = ((x / 2 : Nat) : Int) := by
      rw [show Int.tdiv (x : Int) 2 = ((x / 2 : Nat) : Int) from tdivN x 2]
      rw [IntKind.wrap_u64]
      omega
    rw [e, e2, ih k n (i - 1) (x / 2) b (by omega) h0 h1 (by omega) (by omega) (by omega) (by omega), Nat.div_div_eq_div_mul, Nat.pow_succ, Nat.mul_comm]

theorem dbl_nat (a i : Nat) : ∃ x : Nat, x < 18446744073709551616 ∧ (dbl a i).1 = x := by
  unfold dbl
  by_cases h : a * 2 ^ i < 18446744073709551616
  · exact ⟨_, h, by rw [if_pos h]⟩
  · exact ⟨0, by omega, by rw [if_neg h]; rfl⟩
theorem dbl_next (a i : Nat) : dbl a (i + 1) = if (dbl a i).2 = true then (if (dbl a i).1.toNat + (dbl a i).1.toNat < 18446744073709551616 then ((((dbl a i).1.toNat + (dbl a i).1.toNat : Nat) : Int), true) else (0, false)) else dbl a i := by
  have e : a * 2 ^ (i + 1) = a * 2 ^ i + a * 2 ^ i := by rw [Nat.pow_succ, ← Nat.mul_assoc]; omega
  unfold dbl
  rw [e]
  by_cases h : a * 2 ^ i < 18446744073709551616
  · simp only [if_pos h, if_true, Int.toNat_natCast]
  · rw [if_neg (by omega)]
    simp [h]
theorem ref_l0 (a : Nat) (n : Int) (ha : a < 18446744073709551616) (h0 : -9223372036854775808 ≤ n) (h1 : n < 9223372036854775808) (d : Nat) : ∀ (k i : Nat), i ≤ 64 → (i : Int) ≤ max 0 n → (d : Int) = max 0 (min 64 n - i) → 2 * d + 70 < k →
    cadencyref01_Shift.l0 k a n i (dbl a i).1 (dbl a i).2 = some (shiftS a n) := by
  induction d with
  | zero =>
    intro k i hi hin hd hk
    obtain ⟨k, rfl⟩ : ∃ m, k = m + 3 := ⟨k - 3, by omega⟩
    obtain ⟨x, hx, hxe⟩ := dbl_nat a i
    have hj : cadencyref01_Shift.j1 (k + 2) a n i false (dbl a i).1 (dbl a i).2 = some (shiftS a n) := by
      simp only [cadencyref01_Shift.j1, Bool.false_eq_true, if_false]
      by_cases hn : n ≥ 64
      · rw [if_pos hn]
        obtain rfl : i = 64 := by omega
        by_cases ha0 : a = 0
        · subst ha0
          have e1 : decide (((0 : Nat) : Int) > 0) = false := by simp
          simp only [cadencyref01_Shift.j2, e1, Bool.false_eq_true, if_false]
          rw [hxe, ref_l1 0 _ n 0 x _ hx h0 h1 (by omega) (by omega) (by omega) (by omega)]
          unfold shiftS
          rw [if_neg (by omega), if_pos (by omega)]
          rw [Nat.pow_zero, Nat.div_one, ← hxe]
          unfold dbl
          simp
        · have e1 : decide ((a : Int) > 0) = true := by simp; omega
          simp only [cadencyref01_Shift.j2, e1, if_true]
          unfold shiftS
          rw [if_neg (by omega), if_neg (pow_big a _ (by omega) (by omega))]
      · rw [if_neg hn]
        simp only [cadencyref01_Shift.j2, Bool.false_eq_true, if_false]
        by_cases hn0 : n < 0
        · obtain rfl : i = 0 := by omega
          rw [hxe, ref_l1 (min 64 (-n).toNat) _ n 0 x _ hx h0 h1 (by omega) (by omega) (by omega) (by omega)]
          unfold shiftS
          rw [if_pos hn0]
          have e : dbl a 0 = ((a : Int), true) := by unfold dbl; rw [Nat.pow_zero, Nat.mul_one, if_pos ha]
          rw [e] at hxe ⊢
          have : a = x := by have h := hxe; simp only at h; omega
          subst this
          rfl
        · rw [hxe, ref_l1 0 _ n 0 x _ hx h0 h1 (by omega) (by omega) (by omega) (by omega), Nat.pow_zero, Nat.div_one, ← hxe]
          unfold shiftS dbl
          rw [if_neg hn0, show n.toNat = i by omega]
    simp only [cadencyref01_Shift.l0]
    by_cases hi64 : (i : Int) < 64
    · rw [if_pos hi64, show decide ((i : Int) < n) = false by simp; omega]
      exact hj
    · rw [if_neg hi64]
      exact hj
  | succ d ih =>
    intro k i hi hin hd hk
    obtain ⟨k, rfl⟩ : ∃ m, k = m + 2 := ⟨k - 2, by omega⟩
    obtain ⟨x, hx, hxe⟩ := dbl_nat a i
    have hrec := ih k (i + 1) (by omega) (by omega) (by omega) (by omega)
    have hw : wrap64 ((i : Int) + 1) = ((i + 1 : Nat) : Int) := by unfold wrap64; omega
    simp only [cadencyref01_Shift.l0]
    rw [if_pos (by omega), show decide ((i : Int) < n) = true by simp; omega]
    simp only [cadencyref01_Shift.j1, if_true]
    rw [hw]
    rw [dbl_next a i] at hrec
    by_cases hb : (dbl a i).2 = true
    · rw [if_pos hb]
      rw [if_pos hb] at hrec
      rw [hxe] at hrec ⊢
      rw [Int.toNat_natCast] at hrec
      rw [refAdd x x hx hx]
      by_cases hlt : x + x < 18446744073709551616
      · rw [if_pos hlt] at hrec ⊢
        simp only [Option.bind_some]
        exact hrec
      · rw [if_neg hlt] at hrec ⊢
        simp only [Option.bind_some]
        exact hrec
    · rw [if_neg hb]
      rw [if_neg hb] at hrec
      exact hrec
theorem refShift (a : Nat) (n : Int) (ha : a < 18446744073709551616) (h0 : -9223372036854775808 ≤ n) (h1 : n < 9223372036854775808) (k : Nat) (hk : 200 < k) : cadencyref01_Shift.f k a n = some (shiftS a n) := by
  unfold cadencyref01_Shift.f
  have e : dbl a 0 = ((a : Int), true) := by unfold dbl; rw [Nat.pow_zero, Nat.mul_one, if_pos ha]
  have h := ref_l0 a n ha h0 h1 (max 0 (min 64 n)).toNat k 0 (by omega) (by omega) (by omega) (by omega)
  rw [e] at h
  exact h

theorem NumShifts : cadencylaw01_NumShifts.Pure := by
  intro a0 n h0 h1
  obtain ⟨h0, h0'⟩ := wf_u64 h0
  obtain ⟨h1, h1'⟩ := wf_i64 h1
  obtain ⟨a, rfl⟩ := Int.eq_ofNat_of_zero_le h0
  have ha : a < 18446744073709551616 := by omega
  refine ⟨201, ?_⟩
  unfold cadencylaw01_NumShifts.f
  obtain ⟨m, hm⟩ : ∃ m, Int.tmod n 71 = m := ⟨_, rfl⟩
  have hm0 : -71 < m ∧ m < 71 := by
    have := Int.lt_tmod_of_pos n (show (0 : Int) < 71 by omega)
    have := Int.tmod_lt_of_pos n (show (0 : Int) < 71 by omega)
    omega
  rw [hm, awake_at 201 (by omega), shift_eq a n ha h1 h1', shift_eq a m ha (by omega) (by omega), refShift a n ha h1 h1' 201 (by omega), refShift a m ha (by omega) (by omega) 201 (by omega)]
  simp only [Option.bind_some, if_true, bne_self_eq_false, Bool.false_eq_true, if_false]
  simp only [cadencylaw01_NumShifts.j0, Bool.false_eq_true, if_false]
  by_cases hmn : m ≥ 0
  · rw [if_pos hmn]
    by_cases hok : (shiftS a m).2 = true
    · rw [if_pos hok]
      have e : wrap64 (-m) = -m := by unfold wrap64; omega
      unfold shiftS at hok ⊢
      rw [if_neg (by omega)] at hok ⊢
      by_cases hlt : a * 2 ^ m.toNat < 18446744073709551616
      · rw [if_pos hlt, e, shift_eq _ (-m) hlt (by omega) (by omega)]
        simp only [Option.bind_some, if_true]
        unfold shiftS
        by_cases hm1 : m = 0
        · subst hm1
          simp at hlt ⊢
          rw [if_pos hlt]
          simp
        · rw [if_pos (show -m < 0 by omega)]
          by_cases ha0 : a = 0
          · subst ha0
            simp
          · have : m.toNat < 64 := by
              rcases Nat.lt_or_ge m.toNat 64 with h | h
              · exact h
              · exact absurd hlt (pow_big a _ (by omega) h)
            simp only [Int.neg_neg]
            rw [show min 64 m.toNat = m.toNat by omega, Nat.mul_div_cancel _ (Nat.two_pow_pos _)]
            simp
      · rw [if_neg hlt] at hok
        simp at hok
    · rw [if_neg hok]
  · rw [if_neg hmn]

end Go.Proofs.Ythhojifpogghlaa.Pure
