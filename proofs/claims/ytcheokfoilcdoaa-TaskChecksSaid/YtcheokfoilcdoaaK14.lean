/- TaskChecks, at arguments as they are read. -/
import Derived.Test.YtcheokfoilcdoaaK13
import Derived.Test.YtcheokfoilcdoaaT2
set_option linter.all false
set_option maxHeartbeats 8000000
namespace Go.Proofs.Vl
open Go Go.RowKit
attribute [local irreducible] AWp OpTo Run DL Val UN DR AC Le thn inb nog
theorem tchecks_top (raw : List Tk) (l : List Sp) (q : List Int) (hraw : raw.length ≤ maxLen ∧ ∀ t ∈ raw, TkOk t) (hl : l.length ≤ maxLen) (hq : IntsOk 5 q) : AC Try.prog (fun _ => none) 5 [fro tkP raw, fro spP l, .pag (intsP q)] [] (fun r _ => r = vb true) := by
  obtain ⟨a, b, c, d, e, rfl⟩ := five hq.1
  exact tchecks_ac _ raw l a b c d e (fun t h => (hraw.2 t h).nm) hraw.1 hl
end Go.Proofs.Vl
