/- Sets of numbers below 1024, as one number; its words. -/
import Derived.Test.YtlegdnmebgfjbaaDoorVC
import Derived.Laws.Bits64b
set_option linter.all false
set_option maxHeartbeats 1000000
namespace Go.Proofs.Vl
open Go Go.RowKit
abbrev M64 : Nat := 18446744073709551616
def wd (s i : Nat) : Nat := (s >>> (64 * i)) % M64
def setP (s : Nat) : List PV := (List.range 16).map fun i => .s (.int .u64 (wd s i : Nat))
theorem wd_lt (s i : Nat) : wd s i < M64 := Nat.mod_lt _ (by decide)
theorem wd_bit (s i j : Nat) : (wd s i).testBit j = (decide (j < 64) && s.testBit (64 * i + j)) := by
  unfold wd
  rw [show M64 = 2 ^ 64 from rfl, Nat.testBit_mod_two_pow, Nat.testBit_shiftRight]
theorem setP_len (s : Nat) : (setP s).length = 16 := by simp [setP]
theorem setP_at (s i : Nat) (h : i < 16) : ((setP s).drop i)[0]? = some (.s (.int .u64 (wd s i : Nat))) := by
  simp [setP, h]
theorem setP_set (s s' i : Nat) (w : Nat) (h : i < 16) (h1 : wd s' i = w) (h2 : ∀ j, j ≠ i → wd s' j = wd s j) : splice (setP s) i [.s (.int .u64 (w : Nat))] = setP s' := by
  rw [splice_one _ _ _ (by rw [setP_len]; exact h)]
  refine List.ext_getElem (by simp [setP_len]) fun j hj1 hj2 => ?_
  rw [List.getElem_set]
  split
  · rename_i e; subst e; simp [setP, h1]
  · rename_i e; simp [setP, h2 j (Ne.symm e)]
/-- All but. -/
def andN (a b : Nat) : Nat := a ^^^ (a &&& b)
theorem andN_bit (a b j : Nat) : (andN a b).testBit j = (a.testBit j && !b.testBit j) := by
  unfold andN
  rw [Nat.testBit_xor, Nat.testBit_and]
  cases a.testBit j <;> cases b.testBit j <;> rfl
theorem wd_or (a b i : Nat) : wd (a ||| b) i = wd a i ||| wd b i := by
  refine Nat.eq_of_testBit_eq fun j => ?_
  rw [Nat.testBit_or, wd_bit, wd_bit, wd_bit, Nat.testBit_or]
  cases decide (j < 64) <;> simp
theorem wd_andN (a b i : Nat) : wd (andN a b) i = andN (wd a i) (wd b i) := by
  refine Nat.eq_of_testBit_eq fun j => ?_
  rw [andN_bit, wd_bit, wd_bit, wd_bit, andN_bit]
  cases decide (j < 64) <;> simp
theorem wd_pow (n i : Nat) : wd (2 ^ n) i = if i = n / 64 then 2 ^ (n % 64) else 0 := by
  refine Nat.eq_of_testBit_eq fun j => ?_
  rw [wd_bit, Nat.testBit_two_pow]
  by_cases h : i = n / 64
  · rw [if_pos h, Nat.testBit_two_pow]
    by_cases hj : j < 64
    · simp only [hj, decide_true, Bool.true_and]
      congr 1
      apply propext
      omega
    · have : ¬ n % 64 = j := by omega
      simp [hj, this]
  · rw [if_neg h, Nat.zero_testBit]
    by_cases hj : j < 64
    · have : ¬ n = 64 * i + j := by omega
      simp [hj, this]
    · simp [hj]
theorem andN_zero (a : Nat) : andN a 0 = a := by unfold andN; simp
theorem bits_or_N (a b : Nat) (ha : a < M64) (hb : b < M64) : Go.bits .or .u64 (a : Int) (b : Int) = ((a ||| b : Nat) : Int) := bits_or_u64_nat a b ha hb
theorem bits_andNot_N (a b : Nat) (ha : a < M64) (hb : b < M64) : Go.bits .andNot .u64 (a : Int) (b : Int) = ((andN a b : Nat) : Int) := by
  have e1 : BitVec.ofInt 64 (a : Int) = BitVec.ofNat 64 a := by simp
  have e2 : BitVec.ofInt 64 (b : Int) = BitVec.ofNat 64 b := by simp
  have e3 : (BitVec.ofNat 64 a &&& ~~~ BitVec.ofNat 64 b) = BitVec.ofNat 64 (andN a b) := by
    refine BitVec.eq_of_getLsbD_eq fun j hj => ?_
    simp only [BitVec.getLsbD_and, BitVec.getLsbD_not, BitVec.getLsbD_ofNat, andN_bit, hj, decide_true, Bool.true_and]
  have hlt : andN a b < M64 := by
    show andN a b < 2 ^ 64
    refine Nat.lt_pow_two_of_testBit _ fun j hj => ?_
    rw [andN_bit, Nat.testBit_lt_two_pow (x := a) (Nat.lt_of_lt_of_le ha (Nat.pow_le_pow_right (show 0 < 2 by decide) hj))]
    rfl
  show IntKind.wrap .u64 ((BitVec.ofInt 64 (a : Int) &&& ~~~ BitVec.ofInt 64 (b : Int)).toNat : Int) = _
  rw [e1, e2, e3, BitVec.toNat_ofNat, Nat.mod_eq_of_lt hlt]
  exact wrap_idu (by omega) (by have : andN a b < M64 := hlt; simp only [M64] at this; omega)
def inB (n : Int) : Bool := decide (0 ≤ n) && decide (n < 1024)
def wth (s : Nat) (n : Int) : Nat := if inB n then s ||| 2 ^ n.toNat else s
def wout (s : Nat) (n : Int) : Nat := if inB n then andN s (2 ^ n.toNat) else s
theorem setP_wth (s n : Nat) (h : n < 1024) : splice (setP s) (n / 64) [.s (.int .u64 ((wd s (n / 64) ||| 2 ^ (n % 64) : Nat) : Int))] = setP (s ||| 2 ^ n) := by
  refine setP_set s _ (n / 64) _ (by omega) (by rw [wd_or, wd_pow, if_pos rfl]) fun j hj => ?_
  rw [wd_or, wd_pow, if_neg hj, Nat.or_zero]
theorem setP_wout (s n : Nat) (h : n < 1024) : splice (setP s) (n / 64) [.s (.int .u64 ((andN (wd s (n / 64)) (2 ^ (n % 64)) : Nat) : Int))] = setP (andN s (2 ^ n)) := by
  refine setP_set s _ (n / 64) _ (by omega) (by rw [wd_andN, wd_pow, if_pos rfl]) fun j hj => ?_
  rw [wd_andN, wd_pow, if_neg hj, andN_zero]
/-- A power of 2, not told. -/
def bigN (n : Nat) : Nat := 2 ^ n
theorem bigN_pos (n : Nat) : 0 < bigN n := Nat.two_pow_pos n
theorem bit_geN {n s : Nat} (h : s < bigN n) {j : Nat} (hj : n ≤ j) : s.testBit j = false := Nat.testBit_lt_two_pow (Nat.lt_of_lt_of_le h (Nat.pow_le_pow_right (show 0 < 2 by decide) hj))
theorem lt_of_bitsN {n s : Nat} (h : ∀ j, n ≤ j → s.testBit j = false) : s < bigN n := Nat.lt_pow_two_of_testBit _ h
theorem pow_ltN {n m : Nat} (h : n < m) : 2 ^ n < bigN m := Nat.pow_lt_pow_right (show 1 < 2 by decide) h
abbrev TOP : Nat := bigN 1024
/-- Numbers with the same words are the same. -/
theorem wd_inj {a b : Nat} (ha : a < TOP) (hb : b < TOP) (h : ∀ i, i < 16 → wd a i = wd b i) : a = b := by
  refine Nat.eq_of_testBit_eq fun j => ?_
  by_cases hj : j < 1024
  · have h1 := congrArg (fun x => x.testBit (j % 64)) (h (j / 64) (by omega))
    simp only [wd_bit] at h1
    rw [show 64 * (j / 64) + j % 64 = j by omega] at h1
    have h2 : j % 64 < 64 := by omega
    simpa [h2] using h1
  · rw [bit_geN ha (by omega), bit_geN hb (by omega)]
theorem setP_inj {a b : Nat} (ha : a < TOP) (hb : b < TOP) (h : setP a = setP b) : a = b := by
  refine wd_inj ha hb fun i hi => ?_
  have h1 := congrArg (fun l => l[i]?) h
  simp [setP, hi] at h1
  omega
theorem or_lt {a b : Nat} (ha : a < TOP) (hb : b < TOP) : a ||| b < TOP := lt_of_bitsN fun j hj => by rw [Nat.testBit_or, bit_geN ha hj, bit_geN hb hj]; rfl
theorem andN_lt {a : Nat} (b : Nat) (ha : a < TOP) : andN a b < TOP := lt_of_bitsN fun j hj => by rw [andN_bit, bit_geN ha hj]; rfl
theorem pow_lt {n : Nat} (h : n < 1024) : 2 ^ n < TOP := pow_ltN h
theorem wth_lt {s : Nat} {n : Int} (h : s < TOP) : wth s n < TOP := by
  unfold wth
  split
  · rename_i hn
    simp only [inB, Bool.and_eq_true, decide_eq_true_eq] at hn
    exact or_lt h (pow_lt (by omega))
  · exact h
theorem wout_lt {s : Nat} {n : Int} (h : s < TOP) : wout s n < TOP := by
  unfold wout
  split
  · exact andN_lt _ h
  · exact h
def ofL (l : List Int) : Nat := l.foldl wth 0
theorem ofL_lt (l : List Int) : ofL l < TOP := by
  unfold ofL
  suffices ∀ (l : List Int) s, s < TOP → l.foldl wth s < TOP from this l 0 (bigN_pos 1024)
  intro l
  induction l with
  | nil => exact fun s h => h
  | cons a l ih => exact fun s h => ih _ (wth_lt h)
end Go.Proofs.Vl
