/- Chapter 22: the example; which of the four. -/
import Derived.Test.YtlegdnmebgfjbaaDoorWA
set_option linter.all false
set_option maxRecDepth 2000
set_option maxHeartbeats 8000000
namespace Go.Proofs.Vl
open Go Go.RowKit
attribute [local irreducible] AWp OpTo Run DL Val UN DR AC Le thn inb nog
theorem rest22_ac (G) (a b : Int) (hb : 0 < b) (hb2 : b < 4611686018427387904) : AC Tryd.prog G 9 [vi a, vi b] [] (fun r _ => r = vi (a % b)) := by
  refine AC.body' Tryd.func9 Tryd.ntmps9 rfl ?_
  intro cx hd hG
  refine nrmL (k := ?_)
  repeat refine w1 (k := ?_)
  first | refine ofN (hv := by exact Val.rem rfl rfl rfl rfl (by omega)) (h := ?_) | refine dlN (hv := by exact Val.rem rfl rfl rfl rfl (by omega)) (h := ?_) | refine dlgN (hv := by exact Val.rem rfl rfl rfl rfl (by omega)) (h := ?_) | refine ofN (hv := by exact Val.rem rfl rfl rfl rfl (by omega)) (h := ?_)
  repeat refine w1 (k := ?_)
  first | refine ofN (hv := by exact Val.rem rfl rfl rfl rfl (by omega)) (h := ?_) | refine dlN (hv := by exact Val.rem rfl rfl rfl rfl (by omega)) (h := ?_) | refine dlgN (hv := by exact Val.rem rfl rfl rfl rfl (by omega)) (h := ?_) | refine ofN (hv := by exact Val.rem rfl rfl rfl rfl (by omega)) (h := ?_)
  repeat refine w1 (k := ?_)
  refine ⟨[.c _], .cons (.tmp rfl) .nil, ?_⟩
  rw [rest_w a b hb hb2]
  rfl
abbrev aw22 : List Tk := [⟨⟨#[97]⟩, 1, 4, 4, 0, 1, 1⟩, ⟨⟨#[98]⟩, 2, 8, 8, 0, 1, 2⟩]
theorem aw22_w0 : msN aw22 0 (atT aw22 0).c (atT aw22 0).d sC = 3 := by decide +kernel
theorem aw22_w1 : msN aw22 1 (atT aw22 1).c (atT aw22 1).d sC = 6 := by decide +kernel
theorem aw22_p : prN aw22 0 (atT aw22 0).t = 4 := by decide +kernel
theorem aw22_e0 : mayE aw22 0 = 0 := by decide +kernel
theorem aw22_e1 : mayE aw22 1 = 0 := by decide +kernel
theorem aw22_nm : ∀ t ∈ aw22, t.nm.size ≤ maxLen := by
  intro t h
  simp only [aw22, List.mem_cons, List.not_mem_nil, or_false] at h
  rcases h with rfl | rfl <;> exact (by decide : 1 ≤ 2 ^ 63 - 1)
theorem awake22_ac : AC Tryd.prog GL 6 [] [] (fun r _ => r = vb true) := by
  refine AC.body' Tryd.func6 Tryd.ntmps6 rfl ?_
  intro cx hd hG
  refine nrmL (k := ?_)
  repeat refine w1 (k := ?_)
  obtain ⟨w0, fz0, β0, df, G0⟩ := cx
  obtain rfl : G0 = GL := hG
  refine litA tkP aw22 (h := ?_)
  repeat refine w1 (k := ?_)
  have h0 := work_ac aw22 0 aw22_nm (by simp [maxLen])
  have h1 := work_ac aw22 1 aw22_nm (by simp [maxLen])
  have h2 := period_ac aw22 0 aw22_nm (by simp [maxLen])
  rw [aw22_w0, aw22_e0] at h0
  rw [aw22_w1, aw22_e1] at h1
  rw [aw22_p, aw22_e0] at h2
  refine callN (hc := by exact h0) (h := ?_)
  repeat refine w1 (k := ?_)
  repeat refine w1 (k := ?_)
  refine callN (hc := by exact h1) (h := ?_)
  repeat refine w1 (k := ?_)
  repeat refine w1 (k := ?_)
  refine callN (hc := by exact h2) (h := ?_)
  repeat refine w1 (k := ?_)
  repeat refine w1 (k := ?_)
  exact ⟨[.c _], .cons (.tmp rfl) .nil, rfl⟩
def moN (l : List Tk) (i which : Int) : Int := if which = 0 then msN l i (atT l i).c (atT l i).d sC else if which = 1 then msN l i (atT l i).q (atT l i).c sQ else if which = 2 then msN l i (atT l i).j (atT l i).d sJ else prN l i (atT l i).t
theorem more_ac (l : List Tk) (i which : Int) (hl : ∀ t ∈ l, t.nm.size ≤ maxLen) (hn : l.length ≤ maxLen) : AC Tryd.prog GL 16 [fro tkP l, vi i, vi which] [] (fun r _ => r = .tup [ti (moN l i which), ti (mayE l i)]) := by
  refine AC.body' Tryd.func16 Tryd.ntmps16 rfl ?_
  intro cx hd hG
  refine nrmL (k := ?_)
  repeat refine w1 (k := ?_)
  obtain ⟨w0, fz0, β0, df, G0⟩ := cx
  obtain rfl : G0 = GL := hG
  unfold moN
  refine condN (h1 := fun h0 => ?_) (h0 := fun h0 => ?_)
  ·
    subst h0
    repeat refine w1 (k := ?_)
    refine callN (hc := by exact work_ac l i hl hn) (h := ?_)
    repeat refine w1 (k := ?_)
    repeat refine w1 (k := ?_)
    exact ⟨[.c _, .c _], .cons (.tmp rfl) (.cons (.tmp rfl) .nil), rfl⟩
  ·
    repeat refine w1 (k := ?_)
    refine condN (h1 := fun h1 => ?_) (h0 := fun h1 => ?_)
    ·
      subst h1
      repeat refine w1 (k := ?_)
      refine callN (hc := by exact section_ac l i hl hn) (h := ?_)
      repeat refine w1 (k := ?_)
      repeat refine w1 (k := ?_)
      exact ⟨[.c _, .c _], .cons (.tmp rfl) (.cons (.tmp rfl) .nil), rfl⟩
    ·
      repeat refine w1 (k := ?_)
      refine condN (h1 := fun h2 => ?_) (h0 := fun h2 => ?_)
      ·
        subst h2
        repeat refine w1 (k := ?_)
        refine callN (hc := by exact late_ac l i hl hn) (h := ?_)
        repeat refine w1 (k := ?_)
        repeat refine w1 (k := ?_)
        exact ⟨[.c _, .c _], .cons (.tmp rfl) (.cons (.tmp rfl) .nil), rfl⟩
      ·
        repeat refine w1 (k := ?_)
        rw [if_neg h0, if_neg h1, if_neg h2]
        refine callN (hc := by exact period_ac l i hl hn) (h := ?_)
        repeat refine w1 (k := ?_)
        repeat refine w1 (k := ?_)
        exact ⟨[.c _, .c _], .cons (.tmp rfl) (.cons (.tmp rfl) .nil), rfl⟩
