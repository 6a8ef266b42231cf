/- The row 'MarksBelow', by values. -/
import Derived.Test.YtjfpddgldfaahaaDoorM7
set_option linter.all false
set_option maxHeartbeats 8000000
namespace Go.Proofs.Vl
open Go Go.RowKit
attribute [local irreducible] AWp OpTo Run DL Val UN DR AC Le thn inb nog
attribute [local irreducible] els nxO
theorem marksBelow_ac (n o : Int) (hn : ok64 n) (ho : ok64 o) : AC Tryd.prog GL 6 [vi n, vi o] [] (fun r _ => r = vb true) := by
  refine AC.body' Tryd.func6 Tryd.ntmps6 rfl ?_
  intro cx hd hG
  refine nrmL (k := ?_)
  repeat refine w1 (k := ?_)
  obtain ⟨w0, fz0, β0, df, G0⟩ := cx
  obtain rfl : G0 = GL := hG
  refine callN (hc := by exact below1_ac n o hn ho) (h := ?_)
  repeat refine w1 (k := ?_)
  obtain ⟨k, k1, k2, ek⟩ := kk n
  rw [ek]
  refine callN (hc := by exact below1_ac k o ⟨by omega, by omega⟩ ho) (h := ?_)
  repeat refine w1 (k := ?_)
  exact ⟨[.c _], .cons (.tmp rfl) .nil, rfl⟩
