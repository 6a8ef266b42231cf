/- Chapter 14: all bounds; whether all have one. Chapter 22: of what nothing is told. -/
import Derived.Test.YtlegdnmebgfjbaaDoorW3
set_option linter.all false
set_option maxRecDepth 2000
set_option maxHeartbeats 8000000
namespace Go.Proofs.Vl
open Go Go.RowKit
attribute [local irreducible] AWp OpTo Run DL Val UN DR AC Le thn inb nog
def bdL (l : List Tk) (j : Nat) : List Int := (List.range j).map fun (i : Nat) => bdR l (i : Int)
def misL (l : List Tk) (j : Nat) : List Int := ((List.range j).filter fun (i : Nat) => !fitA l (i : Int)).map fun (i : Nat) => (i : Int)
theorem bdL_succ (l : List Tk) (j : Nat) : bdL l j ++ [bdR l (j : Int)] = bdL l (j + 1) := by unfold bdL; rw [List.range_succ, List.map_append]; rfl
theorem misL_succ (l : List Tk) (j : Nat) : misL l (j + 1) = if fitA l (j : Int) then misL l j else misL l j ++ [(j : Int)] := by
  unfold misL
  rw [List.range_succ, List.filter_append, List.map_append]
  cases h : fitA l (j : Int) <;> simp [h]
theorem misL_len (l : List Tk) (j : Nat) : (misL l j).length ≤ j := by
  unfold misL
  rw [List.length_map]
  exact Nat.le_trans (List.length_filter_le _ _) (by simp)
theorem bdL_len (l : List Tk) (j : Nat) : (bdL l j).length = j := by simp [bdL]
theorem misL_nil (l : List Tk) (n : Nat) : decide ((misL l n).length = 0) = (List.range n).all fun (i : Nat) => fitA l (i : Int) := by
  unfold misL
  rw [List.length_map, Bool.eq_iff_iff, decide_eq_true_eq, List.length_eq_zero_iff, List.filter_eq_nil_iff, List.all_eq_true]
  simp
def allE (l : List Tk) : Int := if (allI l).2 = 0 then if testsB l then 0 else 16 else 1
theorem is_in {l : List Tk} (h : (allI l).2 = 0) {j : Nat} (hj : j < l.length) : isB l (j : Int) = true := by
  unfold isB
  simp only [Bool.and_eq_true, decide_eq_true_eq]
  exact ⟨⟨h, by omega⟩, by omega⟩
theorem rall_ac (l : List Tk) (hl : ∀ t ∈ l, t.nm.size ≤ maxLen) (hn : l.length ≤ maxLen) : AC Tryd.prog GL 33 [fro tkP l] [] (fun r _ => ∃ x y : PV, r = .tup [.c (.p x), .c (.p y), ti (allE l)]) := by
  refine AC.body' Tryd.func33 Tryd.ntmps33 rfl ?_
  intro cx hd hG
  refine nrmL (k := ?_)
  repeat refine w1 (k := ?_)
  obtain ⟨w0, fz0, β0, df, G0⟩ := cx
  obtain rfl : G0 = GL := hG
  refine callN (hc := by exact all_ac _ l hl hn) (h := ?_)
  repeat refine w1 (k := ?_)
  refine condN (h1 := fun h0 => ?_) (h0 := fun h0 => ?_)
  ·
    repeat refine w1 (k := ?_)
    rw [show allE l = 1 by unfold allE; rw [if_neg (by omega)]]
    exact ⟨[.c _, .c _, .c _], .cons (.tmp rfl) (.cons (.tmp rfl) (.cons (.tmp rfl) .nil)), _, _, rfl⟩
  ·
    have h1 : (allI l).2 = 0 := by omega
    repeat refine w1 (k := ?_)
    simp only [List.length_map]
    refine seedA 7 77 1 2 (h := ?_)
    refine seedA 8 78 1 3 (h := ?_)
    refine loopN [(9, 3), (22, 19)] (α := Nat) (fun j => [(7, .c (.own 77 1 (bdL l j).length)), (8, .c (.own 78 1 (misL l j).length)), (21, vi (j : Int))]) (fun j => [(77, .row 2 1 ((bdL l j).map (pvI .i64))), (78, .row 3 1 ((misL l j).map (pvI .i64)))]) (fun j => l.length - j) (fun j => j ≤ l.length) (x0 := 0) (h0 := by first | omega | simp | (refine ⟨?_, ?_⟩ <;> first | omega | simp)) (hr := ?_)
    intro j hI
    refine nrmL (k := ?_)
    have h1024 : l.length ≤ 1024 := by
      unfold allI at h1
      by_cases h4 : l.length = 0 ∨ 1024 < l.length
      · rw [if_pos h4] at h1; cases h1
      · omega
    repeat refine w1 (k := ?_)
    refine condN (h1 := fun h2 => ?_) (h0 := fun h2 => ?_)
    ·
      have hj : j < l.length := by omega
      have hb := is_in h1 hj
      have hbl := bdL_len l j
      have hml := misL_len l j
      have hbd := bound_ac l (j : Int) hl hn
      have hms := misL_succ l j
      unfold bdE at hbd
      rw [if_pos hb] at hbd
      repeat refine w1 (k := ?_)
      refine callN (hc := by exact hbd) (h := ?_)
      repeat refine w1 (k := ?_)
      refine litA (pvI .i64) [bdR l (j : Int)] (h := ?_)
      repeat refine w1 (k := ?_)
      refine appA 77 8 (pvI .i64) (bdL l j) [bdR l (j : Int)] (hb := by simp only [List.length_cons, List.length_nil]; omega) (hm := by simp only [List.length_cons, List.length_nil]; omega) (h := ?_)
      rw [bdL_succ]
      repeat refine w1 (k := ?_)
      cases hf : fitA l (j : Int) with
      | true =>
        rw [hf, if_pos rfl] at hms
        repeat refine w1 (k := ?_)
        rw [← hms]
        refine ⟨j + 1, by omega, by first | omega | (refine ⟨?_, ?_⟩ <;> omega), frg⟩
      | false =>
        rw [hf, if_neg (by simp)] at hms
        repeat refine w1 (k := ?_)
        refine litA (pvI .i64) [(j : Int)] (h := ?_)
        repeat refine w1 (k := ?_)
        refine appA 78 8 (pvI .i64) (misL l j) [(j : Int)] (hb := by simp only [List.length_cons, List.length_nil]; omega) (hm := by simp only [List.length_cons, List.length_nil]; omega) (h := ?_)
        rw [← hms]
        repeat refine w1 (k := ?_)
        refine ⟨j + 1, by omega, by first | omega | (refine ⟨?_, ?_⟩ <;> omega), frg⟩
    ·
      repeat refine w1 (k := ?_)
      have : j = l.length := by omega
      subst this
      first | refine zA 77 (h := ?_) | refine zO 77 (h := ?_) | refine zL 77 (h := ?_) | refine zL3 77 (h := ?_)
      simp only [show ((78 : Nat) == 77) = false from rfl, cond_false]
      first | refine zA 78 (h := ?_) | refine zO 78 (h := ?_) | refine zL 78 (h := ?_) | refine zL3 78 (h := ?_)
      try simp only [show ((77 : Nat) == 78) = false from rfl, cond_false]
      repeat refine w1 (k := ?_)
      try simp only [List.length_map]
      have hnl := misL_nil l l.length
      have hte : testsB l = decide ((misL l l.length).length = 0) := by unfold testsB; rw [hnl, decide_eq_true h1]; rfl
      by_cases hm : (misL l l.length).length = 0
      ·
        rw [show decide (((misL l l.length).length : Int) > 0) = false from decide_eq_false (by omega)]
        repeat refine w1 (k := ?_)
        rw [show allE l = 0 by unfold allE; rw [if_pos h1, hte, decide_eq_true hm]; rfl]
        exact ⟨[.c _, .c _, .c _], .cons (.tmp rfl) (.cons (.tmp rfl) (.cons (.tmp rfl) .nil)), _, _, rfl⟩
      ·
        rw [show decide (((misL l l.length).length : Int) > 0) = true from decide_eq_true (by omega)]
        repeat refine w1 (k := ?_)
        rw [show allE l = 16 by unfold allE; rw [if_pos h1, hte, decide_eq_false hm]; rfl]
        exact ⟨[.c _, .c _, .c _], .cons (.tmp rfl) (.cons (.tmp rfl) (.cons (.tmp rfl) .nil)), _, _, rfl⟩
theorem tests_ac (l : List Tk) (hl : ∀ t ∈ l, t.nm.size ≤ maxLen) (hn : l.length ≤ maxLen) : AC Tryd.prog GL 24 [fro tkP l] [] (fun r _ => r = vb (testsB l)) := by
  refine AC.bodyM Tryd.func24 Tryd.ntmps24 rfl ?_
  intro cx hd hG hrd hml hbs
  obtain ⟨w0, fz0, β0, df, G0, rd, rr, ml, bs⟩ := cx
  dsimp only at hd hG hrd hml hbs
  subst hd hG hrd hml hbs
  refine nrmL (k := ?_)
  repeat refine w1 (k := ?_)
  refine OpTo.callAO (by rfl) (by rfl) (by rfl) (by rfl) (rall_ac l hl hn) ?_
  rintro r os' ⟨x, y, rfl⟩
  refine ⟨_, .val rfl, ?_⟩
  refine nrm (k := ?_)
  repeat refine w1 (k := ?_)
  have : (allE l == 0) = testsB l := by
    unfold allE testsB
    by_cases h : (allI l).2 = 0
    · rw [if_pos h, decide_eq_true h]
      generalize ((List.range l.length).all fun (i : Nat) => fitA l (i : Int)) = b
      cases b <;> rfl
    · rw [if_neg h, decide_eq_false h]; rfl
  rw [this]
  exact ⟨rfl, [.c _], .cons (.tmp rfl) .nil, rfl⟩
