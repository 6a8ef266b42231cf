/-
  No cell of these rows narrows 'for every input' (looked for: loops, veiled, ifaces, maps, wideKeys, modest, calm, conditions, laid).
  DERIVED. THE GIVEN ROWS OF THIS SEAT. 4 by the template 'for every input the law returns true; each argument reads behind the call as it read before'; 0 by the template 'total and deterministic' (their statements: YtcheokfoilcdoaaTotals.lean).
  GIVEN WITH THE SEED: the statements are not yours to turn. If you find one false, say at which input.
  Laid BY PROGRAM, IN A SANDBOX (cutbox-rows.mjs): the forced cells as the released guide's own fill.sh prints them over the translation 984526d35219476c… (all of the seat's roots in one cut). By AI agents, Wed Nov 11 2026. No macro, syntax, notation, axiom, sorry.
-/
import Derived.Test.YtcheokfoilcdoaaChecked
import GoSem.Claim
import GoSem.ClaimJoined
import GoSem.ClaimMapViews
import Derived.JoinedTies
import Derived.KernelRfl
namespace Go.Proofs.Ytcheokfoilcdoaa
/- THE CELL 'sum', in the pinned program and in every row, IS THE sha256 OF THE DUMP (.gsa) THAT YtcheokfoilcdoaaProg.lean LOADS. Nothing in Lean hashes anything: it is a label: what it is worth is what the hold of that sum in a sandbox is worth. -/
noncomputable def Try.pinned : Pinned := { name := "ytcheokfoilcdoaa", sum := "984526d35219476ce21fc3a0040e82c4eb1e551d4c7a27773f868a95d793d335", checked := Try.checked }
namespace Rows
def none {H : Type} : Left H := { results := [], args := [] }

/-- 'cadencylaw04.TaskEnds': WHATEVER THE INPUT: true; the input reads as it did. -/
def taskEndsSpec : ChangeSpec := { name := "taskEnds", fn := fun _ => fun
  | [d] => { results := [.lit (.bool true)], args := [d] }
  | _ => none }
def taskEndsRow : OpenClaim := { program := "ytcheokfoilcdoaa", sum := "984526d35219476ce21fc3a0040e82c4eb1e551d4c7a27773f868a95d793d335", func := "cadency/cadencylaw04.TaskEnds", spec := "taskEnds", unfollowed := true, recurses := true, apart := false }
def TaskEndsSaid : Prop := taskEndsRow.holds Try.pinned (OpenSpec.ofChange taskEndsSpec)

/-- ITS FALSE NEIGHBOUR: 'it returns false'. Refute it at one input. -/
def taskEndsWrong : ChangeSpec := { name := "taskEnds", fn := fun _ => fun
  | [d] => { results := [.lit (.bool false)], args := [d] }
  | _ => none }
def TaskEndsWrongFalsely : Prop := taskEndsRow.holds Try.pinned (OpenSpec.ofChange taskEndsWrong)

/-- 'cadencylaw04.TaskFinds': WHATEVER THE INPUT: true; the input reads as it did. -/
def taskFindsSpec : ChangeSpec := { name := "taskFinds", fn := fun _ => fun
  | [d1, d2, d3] => { results := [.lit (.bool true)], args := [d1, d2, d3] }
  | _ => none }
def taskFindsRow : OpenClaim := { program := "ytcheokfoilcdoaa", sum := "984526d35219476ce21fc3a0040e82c4eb1e551d4c7a27773f868a95d793d335", func := "cadency/cadencylaw04.TaskFinds", spec := "taskFinds", unfollowed := true, recurses := true, apart := false }
def TaskFindsSaid : Prop := taskFindsRow.holds Try.pinned (OpenSpec.ofChange taskFindsSpec)

/-- ITS FALSE NEIGHBOUR: 'it returns false'. Refute it at one input. -/
def taskFindsWrong : ChangeSpec := { name := "taskFinds", fn := fun _ => fun
  | [d1, d2, d3] => { results := [.lit (.bool false)], args := [d1, d2, d3] }
  | _ => none }
def TaskFindsWrongFalsely : Prop := taskFindsRow.holds Try.pinned (OpenSpec.ofChange taskFindsWrong)

/-- 'cadencylaw04.TaskChecks': WHATEVER THE INPUT: true; the input reads as it did. -/
def taskChecksSpec : ChangeSpec := { name := "taskChecks", fn := fun _ => fun
  | [d1, d2, d3] => { results := [.lit (.bool true)], args := [d1, d2, d3] }
  | _ => none }
def taskChecksRow : OpenClaim := { program := "ytcheokfoilcdoaa", sum := "984526d35219476ce21fc3a0040e82c4eb1e551d4c7a27773f868a95d793d335", func := "cadency/cadencylaw04.TaskChecks", spec := "taskChecks", unfollowed := true, recurses := true, apart := false }
def TaskChecksSaid : Prop := taskChecksRow.holds Try.pinned (OpenSpec.ofChange taskChecksSpec)

/-- ITS FALSE NEIGHBOUR: 'it returns false'. Refute it at one input. -/
def taskChecksWrong : ChangeSpec := { name := "taskChecks", fn := fun _ => fun
  | [d1, d2, d3] => { results := [.lit (.bool false)], args := [d1, d2, d3] }
  | _ => none }
def TaskChecksWrongFalsely : Prop := taskChecksRow.holds Try.pinned (OpenSpec.ofChange taskChecksWrong)

/-- 'cadencylaw04.TaskMany': WHATEVER THE INPUT: true; the input reads as it did. -/
def taskManySpec : ChangeSpec := { name := "taskMany", fn := fun _ => fun
  | [d1, d2] => { results := [.lit (.bool true)], args := [d1, d2] }
  | _ => none }
def taskManyRow : OpenClaim := { program := "ytcheokfoilcdoaa", sum := "984526d35219476ce21fc3a0040e82c4eb1e551d4c7a27773f868a95d793d335", func := "cadency/cadencylaw04.TaskMany", spec := "taskMany", unfollowed := true, recurses := true, apart := false }
def TaskManySaid : Prop := taskManyRow.holds Try.pinned (OpenSpec.ofChange taskManySpec)

/-- ITS FALSE NEIGHBOUR: 'it returns false'. Refute it at one input. -/
def taskManyWrong : ChangeSpec := { name := "taskMany", fn := fun _ => fun
  | [d1, d2] => { results := [.lit (.bool false)], args := [d1, d2] }
  | _ => none }
def TaskManyWrongFalsely : Prop := taskManyRow.holds Try.pinned (OpenSpec.ofChange taskManyWrong)

/- THE SECOND FORM. 'bulk': how many values and letters a reading holds, each counted each time it is reached (what is shared counts as often as it is met; a slice's spare places count too). A statement '..UptoSaid' is the law's where the arguments, and the package variables that the reading takes, are together of bulk at most 1048576: NARROWER than '..Said'. Prove '..Said' where nothing that the law and all that it calls make is longer than what came in: it says more and counts as full. Else prove '..UptoSaid'. A law counts once. -/
mutual
def uptoBulk {H : Type} : DataW H → Nat
  | .lit (.string bytes) => bytes.length + 1
  | .lit _ => 1
  | .nil => 1
  | .ptr d => uptoBulk d + 1
  | .slice elems spare => uptoBulkAll elems + uptoBulkAll spare + 1
  | .agg parts => uptoBulkAll parts + 1
  | .iface _ d => uptoBulk d + 1
  | .map entries => uptoBulkEntries entries + 1
  | .held _ => 1
def uptoBulkAll {H : Type} : List (DataW H) → Nat
  | [] => 0
  | d :: r => uptoBulk d + uptoBulkAll r
def uptoBulkEntries {H : Type} : List (Lit × DataW H) → Nat
  | [] => 0
  | x :: r => uptoBulkEntry x + uptoBulkEntries r
def uptoBulkEntry {H : Type} : Lit × DataW H → Nat
  | (.string bytes, d) => bytes.length + uptoBulk d + 1
  | (_, d) => uptoBulk d + 1
 end
def uptoSmall : (H : Type) → List (DataW H) → Bool := fun _ ds => decide (uptoBulkAll ds ≤ 1048576)
def OpenSpec.upto (s : _root_.Go.ChangeSpec) : _root_.Go.OpenSpec := { _root_.Go.OpenSpec.ofChange s with cond := some uptoSmall }

/-- 'cadencylaw04.TaskEnds', WHERE WHAT IT READS IS OF BULK AT MOST 1048576: true; the input reads as it did. -/
def taskEndsUptoRow : OpenClaim := { program := "ytcheokfoilcdoaa", sum := "984526d35219476ce21fc3a0040e82c4eb1e551d4c7a27773f868a95d793d335", func := "cadency/cadencylaw04.TaskEnds", spec := "taskEnds", unfollowed := true, recurses := true, apart := false, narrowed := true }
def TaskEndsUptoSaid : Prop := taskEndsUptoRow.holds Try.pinned (OpenSpec.upto taskEndsSpec)

/-- 'cadencylaw04.TaskFinds', WHERE WHAT IT READS IS OF BULK AT MOST 1048576: true; the input reads as it did. -/
def taskFindsUptoRow : OpenClaim := { program := "ytcheokfoilcdoaa", sum := "984526d35219476ce21fc3a0040e82c4eb1e551d4c7a27773f868a95d793d335", func := "cadency/cadencylaw04.TaskFinds", spec := "taskFinds", unfollowed := true, recurses := true, apart := false, narrowed := true }
def TaskFindsUptoSaid : Prop := taskFindsUptoRow.holds Try.pinned (OpenSpec.upto taskFindsSpec)

/-- 'cadencylaw04.TaskChecks', WHERE WHAT IT READS IS OF BULK AT MOST 1048576: true; the input reads as it did. -/
def taskChecksUptoRow : OpenClaim := { program := "ytcheokfoilcdoaa", sum := "984526d35219476ce21fc3a0040e82c4eb1e551d4c7a27773f868a95d793d335", func := "cadency/cadencylaw04.TaskChecks", spec := "taskChecks", unfollowed := true, recurses := true, apart := false, narrowed := true }
def TaskChecksUptoSaid : Prop := taskChecksUptoRow.holds Try.pinned (OpenSpec.upto taskChecksSpec)

/-- 'cadencylaw04.TaskMany', WHERE WHAT IT READS IS OF BULK AT MOST 1048576: true; the input reads as it did. -/
def taskManyUptoRow : OpenClaim := { program := "ytcheokfoilcdoaa", sum := "984526d35219476ce21fc3a0040e82c4eb1e551d4c7a27773f868a95d793d335", func := "cadency/cadencylaw04.TaskMany", spec := "taskMany", unfollowed := true, recurses := true, apart := false, narrowed := true }
def TaskManyUptoSaid : Prop := taskManyUptoRow.holds Try.pinned (OpenSpec.upto taskManySpec)

end Rows
end Go.Proofs.Ytcheokfoilcdoaa
