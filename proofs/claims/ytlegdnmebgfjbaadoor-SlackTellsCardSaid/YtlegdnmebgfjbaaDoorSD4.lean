/- A set's next number; all of them, one by one. -/
import Derived.Test.YtlegdnmebgfjbaaDoorSD3
set_option linter.all false
set_option maxRecDepth 2000
set_option maxHeartbeats 8000000
namespace Go.Proofs.Vl
open Go Go.RowKit
attribute [local irreducible] AWp OpTo Run DL Val UN DR AC Le thn inb nog
attribute [local irreducible] els nxO
/-- The bits from a number on. -/
def hiB (s f : Nat) : Nat := (s >>> f) <<< f
theorem hiB_bit (s f j : Nat) : (hiB s f).testBit j = (decide (f ≤ j) && s.testBit j) := by
  unfold hiB
  rw [Nat.testBit_shiftLeft, Nat.testBit_shiftRight]
  by_cases h : f ≤ j
  · simp [h, show f + (j - f) = j by omega]
  · simp [h]
theorem wd_hi_first (s f : Nat) : wd (hiB s f) (f / 64) = wd s (f / 64) / 2 ^ (f % 64) * 2 ^ (f % 64) := by
  rw [← Nat.shiftRight_eq_div_pow, ← Nat.shiftLeft_eq]
  refine Nat.eq_of_testBit_eq fun j => ?_
  rw [wd_bit, hiB_bit, Nat.testBit_shiftLeft, Nat.testBit_shiftRight, wd_bit]
  by_cases h : f % 64 ≤ j
  · have h1 : f ≤ 64 * (f / 64) + j := by omega
    have h2 : f % 64 + (j - f % 64) = j := by omega
    simp [h, h1, h2]
  · have h1 : ¬ f ≤ 64 * (f / 64) + j := by omega
    simp [h, h1]
theorem wd_hi_later (s f i : Nat) (h : f / 64 < i) : wd (hiB s f) i = wd s i := by
  refine Nat.eq_of_testBit_eq fun j => ?_
  rw [wd_bit, hiB_bit, wd_bit]
  have h1 : f ≤ 64 * i + j := by omega
  simp [h1]
theorem shrN (a k : Nat) (h : k < 64) : (a : Int).fdiv (2 ^ min (Int.toNat ((k : Nat) : Int)) IntKind.u64.bits) = ((a / 2 ^ k : Nat) : Int) := by
  have e : min (Int.toNat ((k : Nat) : Int)) IntKind.u64.bits = k := by
    rw [Int.toNat_natCast]; exact Nat.min_eq_left (show k ≤ 64 by omega)
  rw [e, show ((2 : Int) ^ k) = ((2 ^ k : Nat) : Int) by simp, Int.fdiv_eq_ediv_of_nonneg _ (Int.natCast_nonneg _)]
  rfl
theorem shlN (a k : Nat) (h : k < 64) (ha : a * 2 ^ k < M64) : IntKind.u64.wrap ((a : Int) * 2 ^ (min (Int.toNat ((k : Nat) : Int)) IntKind.u64.bits)) = ((a * 2 ^ k : Nat) : Int) := by
  have e : min (Int.toNat ((k : Nat) : Int)) IntKind.u64.bits = k := by
    rw [Int.toNat_natCast]; exact Nat.min_eq_left (show k ≤ 64 by omega)
  rw [e, show ((2 : Int) ^ k) = ((2 ^ k : Nat) : Int) by simp, ← Int.natCast_mul]
  simp only [M64] at ha
  exact wrap_idu (by omega) (by omega)
theorem shl6 (n : Nat) (h : n < 16) : IntKind.i64.wrap ((n : Int) * 2 ^ (min 6 IntKind.i64.bits)) = ((64 * n : Nat) : Int) := by
  rw [show min 6 IntKind.i64.bits = 6 from rfl, IntKind.wrap_i64]; omega
theorem low_ex {x : Nat} (h : x ≠ 0) : ∃ k, x.testBit k = true ∧ ∀ j, j < k → x.testBit j = false := by
  obtain ⟨k, hk⟩ := Nat.exists_testBit_of_ne_zero h
  have : ∀ n, (∃ k, k ≤ n ∧ x.testBit k = true) → ∃ k, x.testBit k = true ∧ ∀ j, j < k → x.testBit j = false := by
    intro n
    induction n with
    | zero => rintro ⟨k, hk, h1⟩; exact ⟨k, h1, fun j hj => by omega⟩
    | succ n ih =>
      rintro ⟨k, hk, h1⟩
      by_cases h2 : ∃ k, k ≤ n ∧ x.testBit k = true
      · exact ih h2
      · refine ⟨k, h1, fun j hj => ?_⟩
        cases hj2 : x.testBit j with
        | false => rfl
        | true => exact absurd ⟨j, by omega, hj2⟩ h2
  exact this k ⟨k, Nat.le_refl _, hk⟩
abbrev tOI (o : Option Nat) : List TV := [.c (.p (.s (.int .i64 ((o.getD 0 : Nat) : Int)))), .c (.p (.s (.bool o.isSome)))]
abbrev fromN (n : Int) : Nat := (max n (-1) + 1).toNat
theorem next_ac (s : Nat) (n : Int) (hn : n < 9223372036854775807) : AC Tryd.prog GL 83 [.pag (setP s), vi n] [] (fun r _ => r = .tup (tOI (nxO s (fromN n)))) := by
  refine AC.body' Tryd.func83 Tryd.ntmps83 rfl ?_
  intro cx hd hG
  refine nrmL (k := ?_)
  repeat refine w1 (k := ?_)
  obtain ⟨w0, fz0, β0, df, G0⟩ := cx
  obtain rfl : G0 = GL := hG
  refine callN (hc := by exact in_ac _ _) (h := ?_)
  repeat refine w1 (k := ?_)
  have e : (if -1 > n then -1 else n) + 1 = ((fromN n : Nat) : Int) := by unfold fromN; split <;> omega
  rw [e]
  generalize fromN n = f
  refine condN (h1 := fun h => ?_) (h0 := fun h => ?_)
  ·
    have hf : 1024 ≤ f := by simp [inB] at h; omega
    repeat refine w1 (k := ?_)
    refine ⟨[.c _, .c _], .cons (.tmp rfl) (.cons (.tmp rfl) .nil), ?_⟩
    rw [nxO_none (fun j h1 h2 => by omega)]; rfl
  ·
    have hf : f < 1024 := by simp [inB] at h; omega
    repeat refine w1 (k := ?_)
    rw [shr6]
    repeat refine w1 (k := ?_)
    rw [sz24]
    first | refine ofN (hv := by exact Val.ld1 rfl rfl rfl (setP_at s _ (by omega))) (h := ?_) | refine dlN (hv := by exact Val.ld1 rfl rfl rfl (setP_at s _ (by omega))) (h := ?_) | refine dlgN (hv := by exact Val.ld1 rfl rfl rfl (setP_at s _ (by omega))) (h := ?_) | refine ofN (hv := by exact Val.ld1 rfl rfl rfl (setP_at s _ (by omega))) (h := ?_)
    repeat refine w1 (k := ?_)
    rw [and63 f hf]
    repeat refine w1 (k := ?_)
    rw [shrN _ _ (by omega)]
    repeat refine w1 (k := ?_)
    rw [and63 f hf]
    repeat refine w1 (k := ?_)
    rw [shlN _ _ (by omega) (by have := wd_hi_first s f; have := wd_lt (hiB s f) (f / 64); omega), ← wd_hi_first]
    repeat refine w1 (k := ?_)
    rw [shr6]
    repeat refine w1 (k := ?_)
    refine loopN [(4, 2), (27, 14)] (α := Nat) (fun i => [(7, vu (wd (hiB s f) i : Nat)), (8, vi (i : Int))]) (fun i => [(2, .pcells 100 (setP s))]) (fun i => 16 - i) (fun i => f / 64 ≤ i ∧ i < 16 ∧ ∀ j, f ≤ j → j < 64 * i → s.testBit j = false) (x0 := f / 64) (h0 := by refine ⟨Nat.le_refl _, by omega, fun j h1 h2 => by omega⟩) (hr := ?_)
    intro i hI
    refine nrmL (k := ?_)
    obtain ⟨g1, g2, g3⟩ := hI
    repeat refine w1 (k := ?_)
    refine condN (h1 := fun h2 => ?_) (h0 := fun h2 => ?_)
    ·
      have hne : wd (hiB s f) i ≠ 0 := by omega
      obtain ⟨k, k1, k2⟩ := low_ex hne
      have kb := wd_bit (hiB s f) i k
      rw [k1, hiB_bit] at kb
      simp only [Bool.true_eq, Bool.and_eq_true, decide_eq_true_eq] at kb
      repeat refine w1 (k := ?_)
      rw [shl6 i g2]
      refine callN (hc := by exact tz_ac _ k (wd_lt _ _) k1 k2) (h := ?_)
      repeat refine w1 (k := ?_)
      have hno : nxO s f = some (64 * i + k) := nxO_some kb.2.1 kb.2.2 (by omega) fun j h1 h2 => by
        by_cases hj : j < 64 * i
        · exact g3 j h1 hj
        · have := k2 (j - 64 * i) (by omega)
          rw [wd_bit, hiB_bit] at this
          have e1 : 64 * i + (j - 64 * i) = j := by omega
          have e2 : j - 64 * i < 64 := by omega
          simpa [e1, e2, h1] using this
      refine ⟨[.c _, .c _], .cons (.tmp rfl) (.cons (.tmp rfl) .nil), ?_⟩
      rw [hno]; rfl
    ·
      have hz : wd (hiB s f) i = 0 := by omega
      have g4 : ∀ j, f ≤ j → j < 64 * (i + 1) → s.testBit j = false := fun j h1 h2 => by
        by_cases hj : j < 64 * i
        · exact g3 j h1 hj
        · have := wd_bit (hiB s f) i (j - 64 * i)
          rw [hz, Nat.zero_testBit, hiB_bit] at this
          have e1 : 64 * i + (j - 64 * i) = j := by omega
          have e2 : j - 64 * i < 64 := by omega
          simpa [e1, e2, h1] using this.symm
      repeat refine w1 (k := ?_)
      refine condN (h1 := fun h3 => ?_) (h0 := fun h3 => ?_)
      ·
        repeat refine w1 (k := ?_)
        have : i = 15 := by omega
        subst this
        refine ⟨[.c _, .c _], .cons (.tmp rfl) (.cons (.tmp rfl) .nil), ?_⟩
        rw [nxO_none (fun j h1 h2 => g4 j h1 (by omega))]; rfl
      ·
        rw [show (i : Int) + 1 = ((i + 1 : Nat) : Int) from rfl]
        have h4 : i + 1 < 16 := by omega
        repeat refine w1 (k := ?_)
        rw [sz24]
        first | refine ofN (hv := by exact Val.ld1 rfl rfl rfl (setP_at s (i + 1) (by omega))) (h := ?_) | refine dlN (hv := by exact Val.ld1 rfl rfl rfl (setP_at s (i + 1) (by omega))) (h := ?_) | refine dlgN (hv := by exact Val.ld1 rfl rfl rfl (setP_at s (i + 1) (by omega))) (h := ?_) | refine ofN (hv := by exact Val.ld1 rfl rfl rfl (setP_at s (i + 1) (by omega))) (h := ?_)
        repeat refine w1 (k := ?_)
        rw [← wd_hi_later s f (i + 1) (by omega)]
        refine ⟨i + 1, by omega, by exact ⟨by omega, by omega, g4⟩, frg⟩
theorem mfirst_ac (s : Nat) : AC Tryd.prog GL 82 [.pag (setP s)] [] (fun r _ => r = .tup (tOI (els s)[0]?)) := by
  refine AC.body' Tryd.func82 Tryd.ntmps82 rfl ?_
  intro cx hd hG
  refine nrmL (k := ?_)
  repeat refine w1 (k := ?_)
  obtain ⟨w0, fz0, β0, df, G0⟩ := cx
  obtain rfl : G0 = GL := hG
  refine callN (hc := by exact next_ac s (-1) (by decide)) (h := ?_)
  repeat refine w1 (k := ?_)
  rw [show fromN (-1) = 0 from rfl, nxO_zero]
  repeat refine w1 (k := ?_)
  exact ⟨[.c _, .c _], .cons (.tmp rfl) (.cons (.tmp rfl) .nil), rfl⟩
/-- The iterator of all numbers: what it yields. -/
def yN (l : List Nat) : List YV := l.map fun (m : Nat) => ⟨[vi (m : Int)], none⟩
def allF : Nat := 81
theorem mall_ac (G) (s : Nat) : AC Tryd.prog G 74 [.pag (setP s)] [] (fun r _ => r = .c (.fn allF [.fz (setP s)])) := by
  refine AC.body' Tryd.func74 Tryd.ntmps74 rfl ?_
  intro cx hd hG
  refine nrmL (k := ?_)
  iterate 5 refine w1 (k := ?_)
  first | refine zbA 1 (h := ?_) | refine zbO 1 (h := ?_)
  repeat refine w1 (k := ?_)
  exact ⟨[.c _], .cons (.tmp rfl) .nil, rfl⟩
theorem yN_len (l : List Nat) : (yN l).length = l.length := by simp [yN]
theorem yN_at (l : List Nat) (i : Nat) (h : i < l.length) : (yN l)[i]? = some ⟨[vi (l[i] : Int)], none⟩ := by simp [yN, h]
theorem mall_it (s : Nat) : IC Tryd.prog GL allF [.c (.eptr (setP s))] (yN (els s)) := by
  unfold IC
  refine GC.body Tryd.func81 Tryd.ntmps81 rfl (fun _ => rfl) ?_
  intro cx l J Jx hd hG hrd hml hbs hrr hR
  obtain ⟨w0, fz0, β0, df, G0, rd, rr, ml, bs⟩ := cx
  dsimp only at hd hG hrd hml hbs hrr hR
  subst hd hG hrd hml hbs hrr
  refine nrmL (k := ?_)
  repeat refine w1 (k := ?_)
  refine callN (hc := by exact mfirst_ac s) (h := ?_)
  repeat refine w1 (k := ?_)
  refine loopN [(10, 11)] (α := Nat) (fun i => [(3, vi (((els s)[i]?.getD 0 : Nat) : Int)), (4, vb (els s)[i]?.isSome)]) (fun i => [(TK, .tok fz0 (J i))]) (fun i => (els s).length - i) (fun i => i ≤ (els s).length) (x0 := 0) (h0 := by first | omega | simp | (refine ⟨?_, ?_⟩ <;> first | omega | simp)) (hr := ?_)
  intro i hI
  refine nrmL (k := ?_)
  repeat refine w1 (k := ?_)
  refine condN (h1 := fun h => ?_) (h0 := fun h => ?_)
  ·
    have hi : i < (els s).length := by
      refine Nat.lt_of_not_le fun hk => ?_
      rw [List.getElem?_eq_none hk] at h; cases h
    have he : (els s)[i] < 1024 := (els_mem.1 (List.getElem_mem hi)).1
    rw [List.getElem?_eq_getElem hi]
    dsimp only [Option.getD_some, Option.isSome_some]
    repeat refine w1 (k := ?_)
    refine OpTo.yield (i := i) (y := ⟨[vi ((els s)[i] : Int)], none⟩) hR (yN_at _ _ hi) rfl rfl rfl rfl rfl rfl rfl rfl rfl rfl ?_ ?_
    ·
      refine nrm (k := ?_)
      repeat refine w1 (k := ?_)
      refine callN (hc := by exact next_ac s ((els s)[i] : Int) (by omega)) (h := ?_)
      repeat refine w1 (k := ?_)
      rw [show fromN ((els s)[i] : Int) = (els s)[i] + 1 by unfold fromN; omega, nxO_succ s i hi]
      repeat refine w1 (k := ?_)
      refine ⟨i + 1, by omega, by first | omega | (refine ⟨?_, ?_⟩ <;> omega), frg⟩
    ·
      refine nrm (k := ?_)
      repeat refine w1 (k := ?_)
      exact ⟨[], .nil, rfl, rfl, .inr ⟨trivial, rfl⟩⟩
  ·
    have hi : i = (els s).length := by
      rcases Nat.lt_or_ge i (els s).length with hk | hk
      · rw [List.getElem?_eq_getElem hk] at h; cases h
      · omega
    repeat refine w1 (k := ?_)
    refine ⟨[], .nil, rfl, rfl, .inl ⟨trivial, ?_⟩⟩
    rw [yN_len, ← hi]; rfl
theorem yN_get {l : List Nat} {i : Nat} {y : YV} (h : (yN l)[i]? = some y) : ∃ hi : i < l.length, y = ⟨[vi (l[i] : Int)], none⟩ := by
  have hi : i < l.length := by have := (List.getElem?_eq_some_iff.1 h).1; rwa [yN_len] at this
  rw [yN_at l i hi] at h
  exact ⟨hi, (Option.some.inj h).symm⟩