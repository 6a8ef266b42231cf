/- Where more is needed: the walk. -/
import Derived.Test.YtacgfbdeobmiaaaDoorD21
set_option linter.all false
set_option maxRecDepth 2000
set_option maxHeartbeats 8000000
namespace Go.Proofs.Vl
open Go Go.RowKit
attribute [local irreducible] AWp OpTo Run DL Val UN DR AC Le thn inb nog
attribute [local irreducible] els nxO
theorem stpF_len (s : List Tk) (i : Int) (n : Nat) : (stpF s i n).length ≤ n := by unfold stpF; exact Nat.le_trans (List.length_filter_le _ _) (by simp)
theorem rsteps_ac (G) (s : List Tk) (i : Int) (most : Nat) (hm : most < 1000) (hl : ∀ t ∈ s, t.nm.size ≤ maxLen) (hn : s.length ≤ maxLen) : AC Tryd.prog G 17 [fro tkP s, vi i, vn most] [] (fun r os => r = .c (.own 77 1 (stpF s i (most + 1)).length) ∧ find os 77 = some (.row 24 1 ((stpF s i (most + 1)).map pvW))) := by
  refine AC.body' Tryd.func17 Tryd.ntmps17 rfl ?_
  intro cx hd hG
  refine nrmL (k := ?_)
  repeat refine w1 (k := ?_)
  refine seedA 7 77 1 24 (h := ?_)
  have hs1 : stpF s i 1 = [] := by
    unfold stpF
    refine List.filter_eq_nil_iff.2 fun v hv => ?_
    obtain rfl : v = 0 := by have := List.mem_range.1 hv; omega
    simp [stpB]
  rw [show (Ob.row 24 1 []) = Ob.row 24 1 ((stpF s i 1).map pvW) from by rw [hs1]; rfl, show (CV.own 77 1 0) = CV.own 77 1 (stpF s i 1).length from by rw [hs1]; rfl]
  refine loopN [(9, 24)] (α := Nat) (fun w => [(7, .c (.own 77 1 (stpF s i w).length)), (8, vn w)]) (fun w => [(77, .row 24 1 ((stpF s i w).map pvW))]) (fun w => most + 1 - w) (fun w => 1 ≤ w ∧ w ≤ most + 1) (x0 := 1) (h0 := by first | omega | simp | (refine ⟨?_, ?_⟩ <;> first | omega | simp)) (hr := ?_)
  intro w hI
  refine nrmL (k := ?_)
  have hlen := stpF_len s i w
  have hsucc := stpF_succ s i w
  obtain ⟨hI1, hI2⟩ := hI
  repeat refine w1 (k := ?_)
  first | refine bothTN (h1 := fun h => ?_) (h0 := fun h => ?_) | refine bothFN (h1 := fun h => ?_) (h0 := fun h => ?_)
  all_goals repeat refine w1 (k := ?_)
  ·
    repeat refine w1 (k := ?_)
    refine callN (hc := by exact rhigher_ac _ s i w (by omega) hl hn) (h := ?_)
    repeat refine w1 (k := ?_)
    rw [show (w : Int) - 1 = ((w - 1 : Nat) : Int) by omega]
    refine callN (hc := by exact rhigher_ac _ s i (w - 1) (by omega) hl hn) (h := ?_)
    repeat refine w1 (k := ?_)
    refine condN (h1 := fun h2 => ?_) (h0 := fun h2 => ?_)
    ·
      repeat refine w1 (k := ?_)
      refine litA pvW [w] (h := ?_)
      repeat refine w1 (k := ?_)
      refine appA 77 8 pvW (stpF s i w) [w] (hb := by simp; omega) (hm := by simp; omega) (h := ?_)
      repeat refine w1 (k := ?_)
      rw [show stpF s i w ++ [w] = stpF s i (w + 1) by rw [hsucc, if_pos (by unfold stpB; rw [decide_eq_true (show 1 ≤ w by omega), decide_eq_true (by omega)]; rfl)]]
      refine ⟨w + 1, by omega, by first | omega | (refine ⟨?_, ?_⟩ <;> omega), frg⟩
    ·
      repeat refine w1 (k := ?_)
      rw [show stpF s i w = stpF s i (w + 1) by rw [hsucc, if_neg (by unfold stpB; rw [decide_eq_false (show ¬ hghA s i (w - 1) < hghA s i w by omega)]; simp)]; simp]
      refine ⟨w + 1, by omega, by first | omega | (refine ⟨?_, ?_⟩ <;> omega), frg⟩
  ·
    repeat refine w1 (k := ?_)
    have : w = most + 1 := by omega
    subst this
    exact ⟨[.c _], .cons (.tmp rfl) .nil, rfl, rfl⟩
