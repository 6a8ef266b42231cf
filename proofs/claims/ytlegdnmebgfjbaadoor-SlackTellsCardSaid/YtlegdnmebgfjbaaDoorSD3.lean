/- Lowest bits; the numbers of a set, in order. -/
import Derived.Test.YtlegdnmebgfjbaaDoorSD2
set_option linter.all false
set_option maxRecDepth 2000
set_option maxHeartbeats 8000000
namespace Go.Proofs.Vl
open Go Go.RowKit
attribute [local irreducible] AWp OpTo Run DL Val UN DR AC Le thn inb nog
/-- The first bit from a number on. -/
def nxO (s f : Nat) : Option Nat := (List.range 1024).find? fun m => decide (f ≤ m) && s.testBit m
def els (s : Nat) : List Nat := (List.range 1024).filter fun m => s.testBit m
theorem nxO_some {s f m : Nat} (h1 : f ≤ m) (h2 : s.testBit m = true) (h3 : m < 1024) (h4 : ∀ j, f ≤ j → j < m → s.testBit j = false) : nxO s f = some m := by
  unfold nxO
  rw [List.find?_range_eq_some]
  refine ⟨by simp [h1, h2], List.mem_range.2 h3, fun j hj => ?_⟩
  by_cases hf : f ≤ j
  · simp [h4 j hf hj]
  · simp [hf]
theorem nxO_none {s f : Nat} (h : ∀ j, f ≤ j → j < 1024 → s.testBit j = false) : nxO s f = none := by
  unfold nxO
  rw [List.find?_range_eq_none]
  intro j hj
  by_cases hf : f ≤ j
  · simp [h j hf hj]
  · simp [hf]
theorem nxO_spec {s f m : Nat} (h : nxO s f = some m) : f ≤ m ∧ s.testBit m = true ∧ m < 1024 ∧ ∀ j, f ≤ j → j < m → s.testBit j = false := by
  unfold nxO at h
  rw [List.find?_range_eq_some] at h
  obtain ⟨h1, h2, h3⟩ := h
  simp only [Bool.and_eq_true, decide_eq_true_eq] at h1
  refine ⟨h1.1, h1.2, List.mem_range.1 h2, fun j hf hj => ?_⟩
  have := h3 j hj
  simpa [hf] using this
theorem nxO_spec0 {s f : Nat} (h : nxO s f = none) : ∀ j, f ≤ j → j < 1024 → s.testBit j = false := by
  unfold nxO at h
  rw [List.find?_range_eq_none] at h
  intro j hf hj
  have := h j hj
  simpa [hf] using this
theorem sorted_next : ∀ {l : List Nat}, l.Pairwise (· < ·) → ∀ i (hi : i < l.length), l.find? (fun m => decide (l[i] + 1 ≤ m)) = l[i + 1]?
  | [], _, i, hi => by simp at hi
  | a :: l, h, i, hi => by
    obtain ⟨h1, h2⟩ := List.pairwise_cons.1 h
    cases i with
    | zero =>
      simp only [List.getElem_cons_zero, List.getElem?_cons_succ, List.find?_cons]
      have : decide (a + 1 ≤ a) = false := by simp
      rw [this]
      cases l with
      | nil => rfl
      | cons b l =>
        have hb := h1 b List.mem_cons_self
        rw [List.find?_cons]
        have : decide (a + 1 ≤ b) = true := by simp; omega
        rw [this]; rfl
    | succ i =>
      have hi' : i < l.length := by simpa using hi
      simp only [List.getElem_cons_succ, List.getElem?_cons_succ, List.find?_cons]
      have hb := h1 l[i] (List.getElem_mem hi')
      have : decide (l[i] + 1 ≤ a) = false := by simp; omega
      rw [this]
      exact sorted_next h2 i hi'
theorem els_sorted (s : Nat) : (els s).Pairwise (· < ·) := List.Pairwise.filter _ List.pairwise_lt_range
theorem nxO_els (s f : Nat) : nxO s f = (els s).find? fun m => decide (f ≤ m) := by
  unfold nxO els
  rw [List.find?_filter]
  congr 1
  funext m
  simp [Bool.and_comm]
theorem nxO_zero (s : Nat) : nxO s 0 = (els s)[0]? := by
  rw [nxO_els]
  cases els s with
  | nil => rfl
  | cons a l => simp [List.find?_cons]
theorem nxO_succ (s i : Nat) (hi : i < (els s).length) : nxO s ((els s)[i] + 1) = (els s)[i + 1]? := by
  rw [nxO_els]; exact sorted_next (els_sorted s) i hi
theorem els_mem {s m : Nat} : m ∈ els s ↔ m < 1024 ∧ s.testBit m = true := by simp [els]
theorem els_len (s : Nat) : (els s).length ≤ 1024 := Nat.le_trans (List.length_filter_le _ _) (by simp)

/-! ### The lowest bit of a word -/
theorem low_split {x k : Nat} (h1 : x.testBit k = true) (h2 : ∀ j, j < k → x.testBit j = false) : x = 2 ^ (k + 1) * (x / 2 ^ (k + 1)) + 2 ^ k := by
  have h3 : x % 2 ^ (k + 1) = 2 ^ k := by
    refine Nat.eq_of_testBit_eq fun j => ?_
    rw [Nat.testBit_mod_two_pow, Nat.testBit_two_pow]
    by_cases hjk : j = k
    · subst hjk; simp [h1]
    · by_cases hlt : j < k
      · simp [h2 j hlt, Ne.symm hjk]
      · have h4 : ¬ j < k + 1 := by omega
        simp [h4, Ne.symm hjk]
  have := Nat.div_add_mod x (2 ^ (k + 1))
  rw [h3] at this; exact this.symm
theorem low_and {x k : Nat} (hx : x < 2 ^ 64) (h1 : x.testBit k = true) (h2 : ∀ j, j < k → x.testBit j = false) : x &&& (2 ^ 64 - x) = 2 ^ k := by
  have hs := low_split h1 h2
  generalize x / 2 ^ (k + 1) = m at hs
  have hp : 0 < 2 ^ k := Nat.two_pow_pos k
  have hlt : 2 ^ k < 2 ^ (k + 1) := Nat.pow_lt_pow_right (by decide) (Nat.lt_succ_self k)
  have h0 : 0 < x := by omega
  have e : 2 ^ 64 - x = 2 ^ 64 - ((x - 1) + 1) := by rw [Nat.sub_add_cancel h0]
  have e1 : x - 1 = 2 ^ (k + 1) * m + (2 ^ k - 1) := by omega
  refine Nat.eq_of_testBit_eq fun j => ?_
  rw [Nat.testBit_and, e, Nat.testBit_two_pow_sub_succ (by omega), Nat.testBit_two_pow]
  by_cases hj : j < k + 1
  · have a1 : x.testBit j = decide (k = j) := by
      by_cases h : k = j
      · subst h; simp [h1]
      · simp [h, h2 j (by omega)]
    have a2 : (x - 1).testBit j = decide (j < k) := by
      rw [e1, Nat.testBit_two_pow_mul_add _ (by omega), if_pos hj, Nat.testBit_two_pow_sub_one]
    have a3 : j < 64 := by
      have : k < 64 := by
        refine Nat.lt_of_not_le fun hk => ?_
        rw [Nat.testBit_lt_two_pow (Nat.lt_of_lt_of_le hx (Nat.pow_le_pow_right (by decide) hk))] at h1
        cases h1
      omega
    rw [a1, a2]
    by_cases h : k = j
    · subst h; simp [a3]
    · simp [h]
  · have a1 : x.testBit j = m.testBit (j - (k + 1)) := by
      rw [hs, Nat.testBit_two_pow_mul_add _ hlt, if_neg hj]
    have a2 : (x - 1).testBit j = m.testBit (j - (k + 1)) := by
      rw [e1, Nat.testBit_two_pow_mul_add _ (by omega), if_neg hj]
    have a3 : ¬ k = j := by omega
    rw [a1, a2]
    cases m.testBit (j - (k + 1)) <;> simp [a3]
def tzT : List Nat := [0, 1, 56, 2, 57, 49, 28, 3, 61, 58, 42, 50, 38, 29, 17, 4, 62, 47, 59, 36, 45, 43, 51, 22, 53, 39, 33, 30, 24, 18, 12, 5, 63, 55, 48, 27, 60, 41, 37, 16, 46, 35, 44, 21, 52, 32, 23, 11, 54, 26, 40, 15, 34, 20, 31, 10, 25, 14, 19, 9, 13, 8, 7, 6]
def tzP : List PV := tzT.map fun (x : Nat) => .s (.int .u8 (x : Int))
/-- The package variable bits.deBruijn64tab. -/
def GL : Nat → Option (List PV)
  | 0 => some tzP
  | _ => none
theorem tz_at : ∀ k, k < 64 → tzT[(2 ^ k * 285870213051353865) % 18446744073709551616 / 288230376151711744]? = some k := by decide +kernel
theorem tz_idx (n : Nat) : n % 18446744073709551616 / 288230376151711744 < 64 := by omega
theorem fd58 (n : Nat) : (n : Int).fdiv (2 ^ min 58 IntKind.u64.bits) = ((n / 288230376151711744 : Nat) : Int) := by
  rw [show min 58 IntKind.u64.bits = 58 from rfl, Int.fdiv_eq_ediv_of_nonneg _ (by decide)]; rfl
theorem tz_ix (x k : Nat) (hx : x < M64) (h1 : x.testBit k = true) (h2 : ∀ j, j < k → x.testBit j = false) :
    (IntKind.u64.wrap (bits BinOp.and IntKind.u64 (x : Int) (IntKind.u64.wrap (0 - (x : Int))) * 285870213051353865)).fdiv (2 ^ min 58 IntKind.u64.bits) = ((2 ^ k * 285870213051353865 % 18446744073709551616 / 288230376151711744 : Nat) : Int) := by
  have h0 : x ≠ 0 := by intro e; subst e; simp at h1
  have e1 : IntKind.u64.wrap (0 - (x : Int)) = ((18446744073709551616 - x : Nat) : Int) := by
    simp only [M64] at hx
    rw [IntKind.wrap_u64]; omega
  have e2 : x &&& (18446744073709551616 - x) = 2 ^ k := low_and hx h1 h2
  rw [e1, bits_and_u64_nat x (18446744073709551616 - x) hx (by omega), e2]
  have e3 : IntKind.u64.wrap (((2 ^ k : Nat) : Int) * 285870213051353865) = ((2 ^ k * 285870213051353865 % 18446744073709551616 : Nat) : Int) := by
    rw [IntKind.wrap_u64]
    generalize 2 ^ k = m
    omega
  rw [e3, fd58]
theorem tzP_at (k : Nat) (hk : k < 64) : (tzP.drop (2 ^ k * 285870213051353865 % 18446744073709551616 / 288230376151711744))[0]? = some (.s (.int .u8 (k : Int))) := by
  rw [List.getElem?_drop, Nat.add_zero]
  unfold tzP
  rw [List.getElem?_map, tz_at k hk]; rfl
theorem sz5 (x : Nat) : x * (Tryd.prog.types[5]'(by decide +kernel)).size = x := by
  have : (Tryd.prog.types[5]'(by decide +kernel)).size = 1 := by kernel_rfl
  rw [this, Nat.mul_one]
theorem tz_ac (x k : Nat) (hx : x < M64) (h1 : x.testBit k = true) (h2 : ∀ j, j < k → x.testBit j = false) : AC Tryd.prog GL 89 [vu (x : Int)] [] (fun r _ => r = vi (k : Int)) := by
  refine AC.body' Tryd.func89 Tryd.ntmps89 rfl ?_
  intro cx hd hG
  refine nrmL (k := ?_)
  repeat refine w1 (k := ?_)
  obtain ⟨w0, fz0, β0, df, G0⟩ := cx
  obtain rfl : G0 = GL := hG
  have h0 : x ≠ 0 := by intro e; subst e; simp at h1
  have hk : k < 64 := by
    refine Nat.lt_of_not_le fun hk => ?_
    rw [Nat.testBit_lt_two_pow (Nat.lt_of_lt_of_le (show x < 2 ^ 64 from hx) (Nat.pow_le_pow_right (by decide) hk))] at h1
    cases h1
  refine condN (h1 := fun h => ?_) (h0 := fun h => ?_)
  · omega
  ·
    repeat refine w1 (k := ?_)
    rw [tz_ix x k hx h1 h2]
    have hi := tz_idx (2 ^ k * 285870213051353865)
    have hz := tzP_at k hk
    generalize 2 ^ k * 285870213051353865 % 18446744073709551616 / 288230376151711744 = ix at *
    repeat refine w1 (k := ?_)
    simp only [GL, sz5]
    first | refine ofN (hv := by exact Val.ld1 rfl rfl rfl hz) (h := ?_) | refine dlN (hv := by exact Val.ld1 rfl rfl rfl hz) (h := ?_) | refine dlgN (hv := by exact Val.ld1 rfl rfl rfl hz) (h := ?_) | refine ofN (hv := by exact Val.ld1 rfl rfl rfl hz) (h := ?_)
    repeat refine w1 (k := ?_)
    exact ⟨[.c _], .cons (.tmp rfl) .nil, rfl⟩
