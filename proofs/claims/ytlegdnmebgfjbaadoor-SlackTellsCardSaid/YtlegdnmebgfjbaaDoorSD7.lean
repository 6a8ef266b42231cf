/- Quotients rounded up, and sums up to the end. -/
import Derived.Test.YtlegdnmebgfjbaaDoorSD6
set_option linter.all false
set_option maxRecDepth 2000
set_option maxHeartbeats 8000000
namespace Go.Proofs.Vl
open Go Go.RowKit
attribute [local irreducible] AWp OpTo Run DL Val UN DR AC Le thn inb nog
abbrev M64' : Nat := 18446744073709551616
def satN (n : Nat) : Nat := min n 18446744073709551615
theorem satN_lt (n : Nat) : satN n < 18446744073709551616 := by unfold satN; omega
def ceilN (a b : Nat) : Nat := a / b + (if a % b > 0 then 1 else 0)
theorem ceilN_lt {a b : Nat} (ha : a < 18446744073709551616) (hb : 0 < b) : ceilN a b < 18446744073709551616 := by
  unfold ceilN
  split
  · rename_i h
    have : b ≠ 1 := by intro e; subst e; simp [Nat.mod_one] at h
    have : a / b ≤ a / 2 := Nat.div_le_div_left (by omega) (by decide)
    omega
  · have := Nat.div_le_self a b; omega
theorem ceil_ac (G) (a b : Nat) (ha : a < 18446744073709551616) (hb0 : 0 < b) (hb : b < 18446744073709551616) : AC Tryd.prog G 86 [vn a, vn b] [] (fun r _ => r = .tup [tu (ceilN a b : Nat), tb true]) := by
  refine AC.body' Tryd.func86 Tryd.ntmps86 rfl ?_
  intro cx hd hG
  refine nrmL (k := ?_)
  repeat refine w1 (k := ?_)
  have hl := ceilN_lt ha hb0
  rw [show (a : Int) / (b : Int) = ((a / b : Nat) : Int) from rfl, show (a : Int) % (b : Int) = ((a % b : Nat) : Int) from rfl]
  refine condN (h1 := fun h => ?_) (h0 := fun h => ?_)
  ·
    have e : ceilN a b = a / b + 1 := by unfold ceilN; rw [if_pos (by omega)]
    repeat refine w1 (k := ?_)
    refine ⟨[.c _, .c _], .cons (.tmp rfl) (.cons (.tmp rfl) .nil), ?_⟩
    rw [e]; rfl
  ·
    have e : ceilN a b = a / b := by unfold ceilN; rw [if_neg (by omega)]; rfl
    repeat refine w1 (k := ?_)
    refine ⟨[.c _, .c _], .cons (.tmp rfl) (.cons (.tmp rfl) .nil), ?_⟩
    rw [e]; rfl
theorem rceil_ac (G) (a b : Nat) (ha : a < 18446744073709551616) (hb0 : 0 < b) (hb : b < 18446744073709551616) : AC Tryd.prog G 70 [vn a, vn b] [] (fun r _ => r = .pag (numP (ceilN a b : Nat) true)) := by
  refine AC.body' Tryd.func70 Tryd.ntmps70 rfl ?_
  intro cx hd hG
  refine nrmL (k := ?_)
  repeat refine w1 (k := ?_)
  have hl := ceilN_lt ha hb0
  rw [show (a : Int) / (b : Int) = ((a / b : Nat) : Int) from rfl, show (a : Int) % (b : Int) = ((a % b : Nat) : Int) from rfl]
  refine condN (h1 := fun h => ?_) (h0 := fun h => ?_)
  ·
    have e : ceilN a b = a / b + 1 := by unfold ceilN; rw [if_pos (by omega)]
    repeat refine w1 (k := ?_)
    refine ⟨[.pag _], .cons (.ldF rfl rfl rfl rfl) .nil, ?_⟩
    rw [e]; rfl
  ·
    have e : ceilN a b = a / b := by unfold ceilN; rw [if_neg (by omega)]; rfl
    repeat refine w1 (k := ?_)
    refine ⟨[.pag _], .cons (.ldF rfl rfl rfl rfl) .nil, ?_⟩
    rw [e]; rfl
theorem times_ac (G) (x y : Nat) (hx : x < 18446744073709551616) (hy : y < 18446744073709551616) : AC Tryd.prog G 76 [vn x, vn y] [] (fun r _ => r = vn (satN (x * y))) := by
  refine AC.body' Tryd.func76 Tryd.ntmps76 rfl ?_
  intro cx hd hG
  refine nrmL (k := ?_)
  repeat refine w1 (k := ?_)
  refine callN (hc := by exact mul_ac _ x y hx hy) (h := ?_)
  repeat refine w1 (k := ?_)
  unfold okN okB
  by_cases hb : x * y < 18446744073709551616
  ·
    rw [if_pos hb, decide_eq_true hb]
    repeat refine w1 (k := ?_)
    refine ⟨[.c _], .cons (.tmp rfl) .nil, ?_⟩
    rw [show satN (x * y) = x * y by unfold satN; omega]; rfl
  ·
    rw [if_neg hb, decide_eq_false hb]
    repeat refine w1 (k := ?_)
    refine ⟨[.c _], .cons (.tmp rfl) .nil, ?_⟩
    rw [show satN (x * y) = 18446744073709551615 by unfold satN; omega]; rfl
theorem end_ac (G) (n : Int) (b : Bool) : AC Tryd.prog G 68 [.pag (numP n b)] [] (fun r _ => r = vu (if b then n else 18446744073709551615)) := by
  refine AC.body' Tryd.func68 Tryd.ntmps68 rfl ?_
  intro cx hd hG
  refine nrmL (k := ?_)
  repeat refine w1 (k := ?_)
  cases b with
  | true =>
    repeat refine w1 (k := ?_)
    exact ⟨[.c _], .cons (.tmp rfl) .nil, rfl⟩
  | false =>
    repeat refine w1 (k := ?_)
    exact ⟨[.c _], .cons (.tmp rfl) .nil, rfl⟩
theorem end_add (x y : Nat) : (if okB (x + y) = true then okN (x + y) else 18446744073709551615) = ((satN (x + y) : Nat) : Int) := by
  unfold okB okN satN
  by_cases h : x + y < 18446744073709551616
  · rw [if_pos (by simpa using h), if_pos h]; omega
  · rw [if_neg (by simpa using h)]; omega
theorem end_mul (x y : Nat) : (if okB (x * y) = true then okN (x * y) else 18446744073709551615) = ((satN (x * y) : Nat) : Int) := by
  unfold okB okN satN
  generalize x * y = z
  by_cases h : z < 18446744073709551616
  · rw [if_pos (by simpa using h), if_pos h]; omega
  · rw [if_neg (by simpa using h)]; omega
abbrev pvW (n : Nat) : List PV := pvI .u64 (n : Int)
def sumS (x : Nat) (l : List Nat) : Nat := l.foldl (fun a y => satN (a + y)) x
theorem sumS_top : ∀ l : List Nat, sumS 18446744073709551615 l = 18446744073709551615
  | [] => rfl
  | a :: l => by
    have : satN (18446744073709551615 + a) = 18446744073709551615 := by unfold satN; omega
    show sumS (satN (18446744073709551615 + a)) l = _
    rw [this]; exact sumS_top l
theorem sumS_at (x : Nat) (l : List Nat) (j : Nat) (h : j < l.length) : sumS x (l.drop j) = sumS (satN (x + l[j])) (l.drop (j + 1)) := by
  rw [List.drop_eq_getElem_cons h]; rfl
theorem nsum_ac (G) (x : Nat) (l : List Nat) (hx : x < 18446744073709551616) (hl : ∀ y ∈ l, y < 18446744073709551616) (hn : l.length ≤ maxLen) : AC Tryd.prog G 63 [vn x, .c (.p (.fro (l.map pvW)))] [] (fun r _ => r = vn (sumS x l)) := by
  refine AC.body' Tryd.func63 Tryd.ntmps63 rfl ?_
  intro cx hd hG
  refine nrmL (k := ?_)
  repeat refine w1 (k := ?_)
  have hm : l.length ≤ 9223372036854775807 := hn
  refine loopN [(4, 1), (6, 3), (12, 13)] (α := Nat × Nat) (fun y => [(0, vn y.2), (11, vi (y.1 : Int))]) (fun y => []) (fun y => l.length - y.1) (fun y => y.1 ≤ l.length ∧ y.2 < 18446744073709551616 ∧ sumS y.2 (l.drop y.1) = sumS x l) (x0 := (0, x)) (h0 := by exact ⟨Nat.zero_le _, hx, by rw [List.drop_zero]⟩) (hr := ?_)
  intro y hI
  refine nrmL (k := ?_)
  obtain ⟨j, a⟩ := y
  dsimp only at hI ⊢
  obtain ⟨h1, h2, h3⟩ := hI
  repeat refine w1 (k := ?_)
  refine condN (h1 := fun h => ?_) (h0 := fun h => ?_)
  ·
    have hj : j < l.length := by omega
    have hy := hl _ (List.getElem_mem hj)
    rw [sumS_at a l j hj] at h3
    repeat refine w1 (k := ?_)
    refine callN (hc := by exact add_ac _ a l[j] h2 hy) (h := ?_)
    repeat refine w1 (k := ?_)
    unfold okN okB
    by_cases hb : a + l[j] < 18446744073709551616
    ·
      rw [if_pos hb, decide_eq_true hb]
      repeat refine w1 (k := ?_)
      rw [show satN (a + l[j]) = a + l[j] by unfold satN; omega] at h3
      refine ⟨(j + 1, a + l[j]), by omega, by exact ⟨by omega, hb, h3⟩, frg⟩
    ·
      rw [if_neg hb, decide_eq_false hb]
      repeat refine w1 (k := ?_)
      refine ⟨[.c _], .cons (.tmp rfl) .nil, ?_⟩
      rw [← h3, show satN (a + l[j]) = 18446744073709551615 by unfold satN; omega, sumS_top]; rfl
  ·
    repeat refine w1 (k := ?_)
    refine ⟨[.c _], .cons (.tmp rfl) .nil, ?_⟩
    rw [List.drop_of_length_le (by omega)] at h3
    rw [← h3]; rfl
theorem rsum_ac (G) (l : List Nat) (hl : ∀ y ∈ l, y < 18446744073709551616) (hn : l.length ≤ maxLen) : AC Tryd.prog G 58 [.c (.p (.fro (l.map pvW)))] [] (fun r _ => r = vn (sumS 0 l)) := by
  refine AC.body' Tryd.func58 Tryd.ntmps58 rfl ?_
  intro cx hd hG
  refine nrmL (k := ?_)
  repeat refine w1 (k := ?_)
  have hm : l.length ≤ 9223372036854775807 := hn
  refine loopN [(5, 13)] (α := Nat × Nat) (fun y => [(3, vn y.2), (4, vi (y.1 : Int))]) (fun y => []) (fun y => l.length - y.1) (fun y => y.1 ≤ l.length ∧ y.2 < 18446744073709551616 ∧ sumS y.2 (l.drop y.1) = sumS 0 l) (x0 := (0, 0)) (h0 := by exact ⟨Nat.zero_le _, by decide, by rw [List.drop_zero]⟩) (hr := ?_)
  intro y hI
  refine nrmL (k := ?_)
  obtain ⟨j, a⟩ := y
  dsimp only at hI ⊢
  obtain ⟨h1, h2, h3⟩ := hI
  repeat refine w1 (k := ?_)
  refine condN (h1 := fun h => ?_) (h0 := fun h => ?_)
  ·
    have hj : j < l.length := by omega
    have hy := hl _ (List.getElem_mem hj)
    rw [sumS_at a l j hj] at h3
    repeat refine w1 (k := ?_)
    refine callN (hc := by exact radd_ac _ a l[j] h2 hy) (h := ?_)
    repeat refine w1 (k := ?_)
    refine callN (hc := by exact end_ac _ _ _) (h := ?_)
    repeat refine w1 (k := ?_)
    rw [end_add]
    refine ⟨(j + 1, satN (a + l[j])), by omega, by exact ⟨by omega, satN_lt _, h3⟩, frg⟩
  ·
    repeat refine w1 (k := ?_)
    refine ⟨[.c _], .cons (.tmp rfl) .nil, ?_⟩
    rw [List.drop_of_length_le (by omega)] at h3
    rw [← h3]; rfl
