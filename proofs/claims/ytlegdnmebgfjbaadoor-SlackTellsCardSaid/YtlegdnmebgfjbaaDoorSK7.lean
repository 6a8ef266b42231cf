/- The references' Word and Check (packages cadencyref03, cadencyref04) answer as the program's. -/
import Derived.Test.YtlegdnmebgfjbaaDoorSK3
set_option linter.all false
set_option maxRecDepth 2000
set_option maxHeartbeats 8000000
namespace Go.Proofs.Vl
open Go Go.RowKit
attribute [local irreducible] AWp OpTo Run DL Val UN DR AC Le thn inb nog
def letR (c : Int) : Bool := (decide (97 ≤ c) && decide (c ≤ 122)) || (decide (65 ≤ c) && decide (c ≤ 90)) || c == 95
theorem digR_ac (G) (c : Int) : AC Tryd.prog G 67 [vc c] [] (fun r _ => r = vb (digB c)) := by
  refine AC.body' Tryd.func67 Tryd.ntmps67 rfl ?_
  intro cx hd hG
  refine nrmL (k := ?_)
  repeat refine w1 (k := ?_)
  refine Run.bothT rfl rfl rfl (fun hb => ?_) (fun hb => ?_)
  all_goals (try dsimp only [iop] at hb)
  all_goals rw [hb]
  all_goals refine nrm (k := ?_)
  all_goals repeat refine w1 (k := ?_)
  all_goals refine ⟨[.c _], .cons (.tmp rfl) .nil, ?_⟩
  all_goals unfold digB
  all_goals rw [hb]
  all_goals rfl
theorem letR_ac (G) (c : Int) : AC Tryd.prog G 66 [vc c] [] (fun r _ => r = vb (letR c)) := by
  refine AC.body' Tryd.func66 Tryd.ntmps66 rfl ?_
  intro cx hd hG
  refine nrmL (k := ?_)
  repeat refine w1 (k := ?_)
  iterate 4 (all_goals (try ((first | refine bothTN (h1 := fun h => ?_) (h0 := fun h => ?_) | refine bothFN (h1 := fun h => ?_) (h0 := fun h => ?_) | refine condN (h1 := fun h => ?_) (h0 := fun h => ?_)) <;> (repeat refine w1 (k := ?_)))))
  all_goals refine ⟨[.c _], .cons (.tmp rfl) .nil, ?_⟩
  all_goals simp only [tupOf, TV.av, letR]
  all_goals congr 4
  all_goals rw [Bool.eq_iff_iff]
  all_goals simp
  all_goals omega
theorem inR_ac (G) (n a b : Int) : AC Tryd.prog G 50 [vi n, vi a, vi b] [] (fun r _ => r = vb (decide (a ≤ n) && decide (n ≤ b))) := by
  refine AC.body' Tryd.func50 Tryd.ntmps50 rfl ?_
  intro cx hd hG
  refine nrmL (k := ?_)
  repeat refine w1 (k := ?_)
  iterate 1 (all_goals (try ((first | refine bothTN (h1 := fun h => ?_) (h0 := fun h => ?_) | refine bothFN (h1 := fun h => ?_) (h0 := fun h => ?_) | refine condN (h1 := fun h => ?_) (h0 := fun h => ?_)) <;> (repeat refine w1 (k := ?_)))))
  all_goals refine ⟨[.c _], .cons (.tmp rfl) .nil, ?_⟩
  all_goals simp only [tupOf, TV.av]
  all_goals congr 4
  all_goals rw [Bool.eq_iff_iff]
  all_goals simp
  all_goals omega
end Go.Proofs.Vl
