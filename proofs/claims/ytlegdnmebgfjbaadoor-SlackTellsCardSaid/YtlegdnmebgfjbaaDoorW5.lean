/- Chapter 22: of what nothing is told; halves. -/
import Derived.Test.YtlegdnmebgfjbaaDoorSE2
set_option linter.all false
set_option maxRecDepth 2000
set_option maxHeartbeats 8000000
namespace Go.Proofs.Vl
open Go Go.RowKit
attribute [local irreducible] AWp OpTo Run DL Val UN DR AC Le thn inb nog
theorem clone_ac (G) (l : List Tk) (hl : l.length ≤ 2000) : AC Tryd.prog G 22 [fro tkP l] [] (fun r os => r = .c (.own 5 7 l.length) ∧ find os 5 = some (.row 27 7 (l.map tkP))) := by
  refine AC.body' Tryd.func22 Tryd.ntmps22 rfl ?_
  intro cx hd hG
  refine nrmL (k := ?_)
  repeat refine w1 (k := ?_)
  refine OpTo.nilS rfl rfl Tryd.underlying24 fun b hb => ?_
  refine nrm (k := ?_)
  cases b
  ·
    repeat refine w1 (k := ?_)
    refine litA tkP [] (h := ?_)
    repeat refine w1 (k := ?_)
    refine appA 5 64 tkP [] l (h := ?_)
    repeat refine w1 (k := ?_)
    exact ⟨[.c _], .cons (.tmp rfl) .nil, rfl, rfl⟩
  ·
    have h0 : l = [] := by
      cases l with
      | nil => rfl
      | cons a l => cases hb (by simp)
    subst h0
    first | ((iterate 2 (refine w1 (k := ?_))); refine seedA 2 5 7 27 (h := ?_); (repeat (refine w1 (k := ?_))); exact ⟨[.c _], .cons (.tmp rfl) .nil, rfl, rfl⟩) | ((iterate 3 (refine w1 (k := ?_))); refine seedA 2 5 7 27 (h := ?_); (repeat (refine w1 (k := ?_))); exact ⟨[.c _], .cons (.tmp rfl) .nil, rfl, rfl⟩) | ((iterate 4 (refine w1 (k := ?_))); refine seedA 2 5 7 27 (h := ?_); (repeat (refine w1 (k := ?_))); exact ⟨[.c _], .cons (.tmp rfl) .nil, rfl, rfl⟩) | ((iterate 5 (refine w1 (k := ?_))); refine seedA 2 5 7 27 (h := ?_); (repeat (refine w1 (k := ?_))); exact ⟨[.c _], .cons (.tmp rfl) .nil, rfl, rfl⟩) | ((iterate 6 (refine w1 (k := ?_))); refine seedA 2 5 7 27 (h := ?_); (repeat (refine w1 (k := ?_))); exact ⟨[.c _], .cons (.tmp rfl) .nil, rfl, rfl⟩) | ((iterate 7 (refine w1 (k := ?_))); refine seedA 2 5 7 27 (h := ?_); (repeat (refine w1 (k := ?_))); exact ⟨[.c _], .cons (.tmp rfl) .nil, rfl, rfl⟩) | ((iterate 8 (refine w1 (k := ?_))); refine seedA 2 5 7 27 (h := ?_); (repeat (refine w1 (k := ?_))); exact ⟨[.c _], .cons (.tmp rfl) .nil, rfl, rfl⟩) | ((iterate 9 (refine w1 (k := ?_))); refine seedA 2 5 7 27 (h := ?_); (repeat (refine w1 (k := ?_))); exact ⟨[.c _], .cons (.tmp rfl) .nil, rfl, rfl⟩) | ((iterate 10 (refine w1 (k := ?_))); refine seedA 2 5 7 27 (h := ?_); (repeat (refine w1 (k := ?_))); exact ⟨[.c _], .cons (.tmp rfl) .nil, rfl, rfl⟩) | ((iterate 11 (refine w1 (k := ?_))); refine seedA 2 5 7 27 (h := ?_); (repeat (refine w1 (k := ?_))); exact ⟨[.c _], .cons (.tmp rfl) .nil, rfl, rfl⟩) | ((iterate 12 (refine w1 (k := ?_))); refine seedA 2 5 7 27 (h := ?_); (repeat (refine w1 (k := ?_))); exact ⟨[.c _], .cons (.tmp rfl) .nil, rfl, rfl⟩) | ((iterate 13 (refine w1 (k := ?_))); refine seedA 2 5 7 27 (h := ?_); (repeat (refine w1 (k := ?_))); exact ⟨[.c _], .cons (.tmp rfl) .nil, rfl, rfl⟩)
theorem may_ac (l : List Tk) (i : Int) (hl : ∀ t ∈ l, t.nm.size ≤ maxLen) (hn : l.length ≤ maxLen) : AC Tryd.prog GL 21 [fro tkP l, vi i] [] (fun r _ => r = vi (mayE l i)) := by
  refine AC.body' Tryd.func21 Tryd.ntmps21 rfl ?_
  intro cx hd hG
  refine nrmL (k := ?_)
  repeat refine w1 (k := ?_)
  obtain ⟨w0, fz0, β0, df, G0⟩ := cx
  obtain rfl : G0 = GL := hG
  refine callN (hc := by exact all_ac _ l hl hn) (h := ?_)
  repeat refine w1 (k := ?_)
  first | refine bothTN (h1 := fun h1 => ?_) (h0 := fun h1 => ?_) | refine bothFN (h1 := fun h1 => ?_) (h0 := fun h1 => ?_)
  all_goals repeat refine w1 (k := ?_)
  ·
    first | refine bothTN (h1 := fun h2 => ?_) (h0 := fun h2 => ?_) | refine bothFN (h1 := fun h2 => ?_) (h0 := fun h2 => ?_)
    all_goals repeat refine w1 (k := ?_)
    ·
      simp only [List.length_map]
      by_cases h3 : i < (l.length : Int)
      ·
        have hb : isB l i = true := by unfold isB; simp only [Bool.and_eq_true, decide_eq_true_eq]; exact ⟨⟨h1, by omega⟩, h3⟩
        rw [show mayE l i = if testsB l then 0 else 16 by unfold mayE; rw [if_pos hb]]
        rw [show decide (i ≥ (l.length : Int)) = false from decide_eq_false (by omega)]
        repeat refine w1 (k := ?_)
        refine callN (hc := by exact tests_ac l hl hn) (h := ?_)
        repeat refine w1 (k := ?_)
        cases testsB l with
        | true =>
          rw [Bool.not_true]
          repeat refine w1 (k := ?_)
          exact ⟨[.c _], .cons (.tmp rfl) .nil, rfl⟩
        | false =>
          rw [Bool.not_false]
          repeat refine w1 (k := ?_)
          exact ⟨[.c _], .cons (.tmp rfl) .nil, rfl⟩
      ·
        have hb : isB l i = false := by unfold isB; rw [decide_eq_false h3, Bool.and_false]
        rw [show mayE l i = 1 by unfold mayE; rw [hb]; rfl]
        rw [show decide (i ≥ (l.length : Int)) = true from decide_eq_true (by omega)]
        repeat refine w1 (k := ?_)
        exact ⟨[.c _], .cons (.tmp rfl) .nil, rfl⟩
    ·
      have hb : isB l i = false := by unfold isB; rw [decide_eq_false (show ¬ i ≥ 0 by omega), Bool.and_false]; rfl
      rw [show mayE l i = 1 by unfold mayE; rw [hb]; rfl]
      exact ⟨[.c _], .cons (.tmp rfl) .nil, rfl⟩
  ·
    have hb : isB l i = false := by unfold isB; rw [decide_eq_false h1]; rfl
    rw [show mayE l i = 1 by unfold mayE; rw [hb]; rfl]
    exact ⟨[.c _], .cons (.tmp rfl) .nil, rfl⟩
def zTk : Tk := ⟨⟨#[]⟩, 0, 0, 0, 0, 0, 0⟩
def atT (l : List Tk) (i : Int) : Tk := if i < 0 then zTk else (l[i.toNat]?).getD zTk
theorem at_ac (G) (l : List Tk) (i : Int) (hn : l.length ≤ maxLen) : AC Tryd.prog G 18 [fro tkP l, vi i] [] (fun r _ => r = .pag (tkP (atT l i))) := by
  refine AC.body' Tryd.func18 Tryd.ntmps18 rfl ?_
  intro cx hd hG
  refine nrmL (k := ?_)
  repeat refine w1 (k := ?_)
  first | refine bothTN (h1 := fun h1 => ?_) (h0 := fun h1 => ?_) | refine bothFN (h1 := fun h1 => ?_) (h0 := fun h1 => ?_)
  all_goals repeat refine w1 (k := ?_)
  ·
    simp only [List.length_map]
    by_cases h3 : i < (l.length : Int)
    ·
      obtain ⟨k, rfl⟩ := Int.eq_ofNat_of_zero_le h1
      have hk : k < l.length := by omega
      rw [show atT l (k : Int) = l[k] by unfold atT; rw [if_neg (by omega), Int.toNat_natCast, List.getElem?_eq_getElem hk]; rfl]
      rw [show decide ((k : Int) ≥ (l.length : Int)) = false from decide_eq_false (by omega)]
      repeat refine w1 (k := ?_)
      exact ⟨[.pag _], .cons (.ldN (n := 7) rfl rfl rfl (Nat.le_refl _)) .nil, rfl⟩
    ·
      rw [show atT l i = zTk by unfold atT; rw [if_neg (by omega), List.getElem?_eq_none (by omega)]; rfl]
      rw [show decide (i ≥ (l.length : Int)) = true from decide_eq_true (by omega)]
      repeat refine w1 (k := ?_)
      exact ⟨[.pag _], .cons (.ldN (n := 7) rfl rfl rfl (Nat.le_refl _)) .nil, rfl⟩
  ·
    rw [show atT l i = zTk by unfold atT; rw [if_pos h1]]
    exact ⟨[.pag _], .cons (.ldN (n := 7) rfl rfl rfl (Nat.le_refl _)) .nil, rfl⟩
