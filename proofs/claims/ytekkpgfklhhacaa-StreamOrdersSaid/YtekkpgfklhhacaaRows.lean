/-
  No cell of these rows narrows 'for every input' (looked for: loops, veiled, ifaces, maps, wideKeys, modest, calm, conditions, laid).
  DERIVED. THE GIVEN ROWS OF THIS SEAT. 6 by the template 'for every input the law returns true; each argument reads behind the call as it read before'; 0 by the template 'total and deterministic' (their statements: YtekkpgfklhhacaaTotals.lean).
  GIVEN WITH THE SEED: the statements are not yours to turn. If you find one false, say at which input.
  Laid BY PROGRAM, IN A SANDBOX (cutbox-rows.mjs): the forced cells as the released guide's own fill.sh prints them over the translation 46432ff44f9983cf… (all of the seat's roots in one cut). By AI agents, Wed Nov 11 2026. No macro, syntax, notation, axiom, sorry.
-/
import Derived.Test.YtekkpgfklhhacaaChecked
import GoSem.Claim
import GoSem.ClaimJoined
import GoSem.ClaimMapViews
import Derived.JoinedTies
import Derived.KernelRfl
namespace Go.Proofs.Ytekkpgfklhhacaa
/- THE CELL 'sum', in the pinned program and in every row, IS THE sha256 OF THE DUMP (.gsa) THAT YtekkpgfklhhacaaProg.lean LOADS. Nothing in Lean hashes anything: it is a label: what it is worth is what the hold of that sum in a sandbox is worth. -/
noncomputable def Try.pinned : Pinned := { name := "ytekkpgfklhhacaa", sum := "46432ff44f9983cf576ccfd0c5a15ffa3f6be4b937d04cd28246585b67044a9c", checked := Try.checked }
namespace Rows
def none {H : Type} : Left H := { results := [], args := [] }

/-- 'cadencylaw09.StreamMerges': WHATEVER THE INPUT: true; the input reads as it did. -/
def streamMergesSpec : ChangeSpec := { name := "streamMerges", fn := fun _ => fun
  | [d] => { results := [.lit (.bool true)], args := [d] }
  | _ => none }
def streamMergesRow : OpenClaim := { program := "ytekkpgfklhhacaa", sum := "46432ff44f9983cf576ccfd0c5a15ffa3f6be4b937d04cd28246585b67044a9c", func := "cadency/cadencylaw09.StreamMerges", spec := "streamMerges", unfollowed := true, recurses := true, apart := false }
def StreamMergesSaid : Prop := streamMergesRow.holds Try.pinned (OpenSpec.ofChange streamMergesSpec)

/-- ITS FALSE NEIGHBOUR: 'it returns false'. Refute it at one input. -/
def streamMergesWrong : ChangeSpec := { name := "streamMerges", fn := fun _ => fun
  | [d] => { results := [.lit (.bool false)], args := [d] }
  | _ => none }
def StreamMergesWrongFalsely : Prop := streamMergesRow.holds Try.pinned (OpenSpec.ofChange streamMergesWrong)

/-- 'cadencylaw09.StreamSorted': WHATEVER THE INPUT: true; the input reads as it did. -/
def streamSortedSpec : ChangeSpec := { name := "streamSorted", fn := fun _ => fun
  | [d] => { results := [.lit (.bool true)], args := [d] }
  | _ => none }
def streamSortedRow : OpenClaim := { program := "ytekkpgfklhhacaa", sum := "46432ff44f9983cf576ccfd0c5a15ffa3f6be4b937d04cd28246585b67044a9c", func := "cadency/cadencylaw09.StreamSorted", spec := "streamSorted", unfollowed := true, recurses := true, apart := false }
def StreamSortedSaid : Prop := streamSortedRow.holds Try.pinned (OpenSpec.ofChange streamSortedSpec)

/-- ITS FALSE NEIGHBOUR: 'it returns false'. Refute it at one input. -/
def streamSortedWrong : ChangeSpec := { name := "streamSorted", fn := fun _ => fun
  | [d] => { results := [.lit (.bool false)], args := [d] }
  | _ => none }
def StreamSortedWrongFalsely : Prop := streamSortedRow.holds Try.pinned (OpenSpec.ofChange streamSortedWrong)

/-- 'cadencylaw09.StreamStops': WHATEVER THE INPUT: true; the input reads as it did. -/
def streamStopsSpec : ChangeSpec := { name := "streamStops", fn := fun _ => fun
  | [d1, d2] => { results := [.lit (.bool true)], args := [d1, d2] }
  | _ => none }
def streamStopsRow : OpenClaim := { program := "ytekkpgfklhhacaa", sum := "46432ff44f9983cf576ccfd0c5a15ffa3f6be4b937d04cd28246585b67044a9c", func := "cadency/cadencylaw09.StreamStops", spec := "streamStops", unfollowed := true, recurses := true, apart := false }
def StreamStopsSaid : Prop := streamStopsRow.holds Try.pinned (OpenSpec.ofChange streamStopsSpec)

/-- ITS FALSE NEIGHBOUR: 'it returns false'. Refute it at one input. -/
def streamStopsWrong : ChangeSpec := { name := "streamStops", fn := fun _ => fun
  | [d1, d2] => { results := [.lit (.bool false)], args := [d1, d2] }
  | _ => none }
def StreamStopsWrongFalsely : Prop := streamStopsRow.holds Try.pinned (OpenSpec.ofChange streamStopsWrong)

/-- 'cadencylaw09.StreamParts': WHATEVER THE INPUT: true; the input reads as it did. -/
def streamPartsSpec : ChangeSpec := { name := "streamParts", fn := fun _ => fun
  | [d1, d2] => { results := [.lit (.bool true)], args := [d1, d2] }
  | _ => none }
def streamPartsRow : OpenClaim := { program := "ytekkpgfklhhacaa", sum := "46432ff44f9983cf576ccfd0c5a15ffa3f6be4b937d04cd28246585b67044a9c", func := "cadency/cadencylaw09.StreamParts", spec := "streamParts", unfollowed := true, recurses := true, apart := false }
def StreamPartsSaid : Prop := streamPartsRow.holds Try.pinned (OpenSpec.ofChange streamPartsSpec)

/-- ITS FALSE NEIGHBOUR: 'it returns false'. Refute it at one input. -/
def streamPartsWrong : ChangeSpec := { name := "streamParts", fn := fun _ => fun
  | [d1, d2] => { results := [.lit (.bool false)], args := [d1, d2] }
  | _ => none }
def StreamPartsWrongFalsely : Prop := streamPartsRow.holds Try.pinned (OpenSpec.ofChange streamPartsWrong)

/-- 'cadencylaw09.StreamOrders': WHATEVER THE INPUT: true; the input reads as it did. -/
def streamOrdersSpec : ChangeSpec := { name := "streamOrders", fn := fun _ => fun
  | [d1, d2, d3] => { results := [.lit (.bool true)], args := [d1, d2, d3] }
  | _ => none }
def streamOrdersRow : OpenClaim := { program := "ytekkpgfklhhacaa", sum := "46432ff44f9983cf576ccfd0c5a15ffa3f6be4b937d04cd28246585b67044a9c", func := "cadency/cadencylaw09.StreamOrders", spec := "streamOrders", unfollowed := true, recurses := true, apart := false }
def StreamOrdersSaid : Prop := streamOrdersRow.holds Try.pinned (OpenSpec.ofChange streamOrdersSpec)

/-- ITS FALSE NEIGHBOUR: 'it returns false'. Refute it at one input. -/
def streamOrdersWrong : ChangeSpec := { name := "streamOrders", fn := fun _ => fun
  | [d1, d2, d3] => { results := [.lit (.bool false)], args := [d1, d2, d3] }
  | _ => none }
def StreamOrdersWrongFalsely : Prop := streamOrdersRow.holds Try.pinned (OpenSpec.ofChange streamOrdersWrong)

/-- 'cadencylaw09.StreamSteps': WHATEVER THE INPUT: true; the input reads as it did. -/
def streamStepsSpec : ChangeSpec := { name := "streamSteps", fn := fun _ => fun
  | [d] => { results := [.lit (.bool true)], args := [d] }
  | _ => none }
def streamStepsRow : OpenClaim := { program := "ytekkpgfklhhacaa", sum := "46432ff44f9983cf576ccfd0c5a15ffa3f6be4b937d04cd28246585b67044a9c", func := "cadency/cadencylaw09.StreamSteps", spec := "streamSteps", unfollowed := true, recurses := true, apart := false }
def StreamStepsSaid : Prop := streamStepsRow.holds Try.pinned (OpenSpec.ofChange streamStepsSpec)

/-- ITS FALSE NEIGHBOUR: 'it returns false'. Refute it at one input. -/
def streamStepsWrong : ChangeSpec := { name := "streamSteps", fn := fun _ => fun
  | [d] => { results := [.lit (.bool false)], args := [d] }
  | _ => none }
def StreamStepsWrongFalsely : Prop := streamStepsRow.holds Try.pinned (OpenSpec.ofChange streamStepsWrong)

/- THE SECOND FORM. 'bulk': how many values and letters a reading holds, each counted each time it is reached (what is shared counts as often as it is met; a slice's spare places count too). A statement '..UptoSaid' is the law's where the arguments, and the package variables that the reading takes, are together of bulk at most 1048576: NARROWER than '..Said'. Prove '..Said' where nothing that the law and all that it calls make is longer than what came in: it says more and counts as full. Else prove '..UptoSaid'. A law counts once. -/
mutual
def uptoBulk {H : Type} : DataW H → Nat
  | .lit (.string bytes) => bytes.length + 1
  | .lit _ => 1
  | .nil => 1
  | .ptr d => uptoBulk d + 1
  | .slice elems spare => uptoBulkAll elems + uptoBulkAll spare + 1
  | .agg parts => uptoBulkAll parts + 1
  | .iface _ d => uptoBulk d + 1
  | .map entries => uptoBulkEntries entries + 1
  | .held _ => 1
def uptoBulkAll {H : Type} : List (DataW H) → Nat
  | [] => 0
  | d :: r => uptoBulk d + uptoBulkAll r
def uptoBulkEntries {H : Type} : List (Lit × DataW H) → Nat
  | [] => 0
  | x :: r => uptoBulkEntry x + uptoBulkEntries r
def uptoBulkEntry {H : Type} : Lit × DataW H → Nat
  | (.string bytes, d) => bytes.length + uptoBulk d + 1
  | (_, d) => uptoBulk d + 1
 end
def uptoSmall : (H : Type) → List (DataW H) → Bool := fun _ ds => decide (uptoBulkAll ds ≤ 1048576)
def OpenSpec.upto (s : _root_.Go.ChangeSpec) : _root_.Go.OpenSpec := { _root_.Go.OpenSpec.ofChange s with cond := some uptoSmall }

/-- 'cadencylaw09.StreamMerges', WHERE WHAT IT READS IS OF BULK AT MOST 1048576: true; the input reads as it did. -/
def streamMergesUptoRow : OpenClaim := { program := "ytekkpgfklhhacaa", sum := "46432ff44f9983cf576ccfd0c5a15ffa3f6be4b937d04cd28246585b67044a9c", func := "cadency/cadencylaw09.StreamMerges", spec := "streamMerges", unfollowed := true, recurses := true, apart := false, narrowed := true }
def StreamMergesUptoSaid : Prop := streamMergesUptoRow.holds Try.pinned (OpenSpec.upto streamMergesSpec)

/-- 'cadencylaw09.StreamSorted', WHERE WHAT IT READS IS OF BULK AT MOST 1048576: true; the input reads as it did. -/
def streamSortedUptoRow : OpenClaim := { program := "ytekkpgfklhhacaa", sum := "46432ff44f9983cf576ccfd0c5a15ffa3f6be4b937d04cd28246585b67044a9c", func := "cadency/cadencylaw09.StreamSorted", spec := "streamSorted", unfollowed := true, recurses := true, apart := false, narrowed := true }
def StreamSortedUptoSaid : Prop := streamSortedUptoRow.holds Try.pinned (OpenSpec.upto streamSortedSpec)

/-- 'cadencylaw09.StreamStops', WHERE WHAT IT READS IS OF BULK AT MOST 1048576: true; the input reads as it did. -/
def streamStopsUptoRow : OpenClaim := { program := "ytekkpgfklhhacaa", sum := "46432ff44f9983cf576ccfd0c5a15ffa3f6be4b937d04cd28246585b67044a9c", func := "cadency/cadencylaw09.StreamStops", spec := "streamStops", unfollowed := true, recurses := true, apart := false, narrowed := true }
def StreamStopsUptoSaid : Prop := streamStopsUptoRow.holds Try.pinned (OpenSpec.upto streamStopsSpec)

/-- 'cadencylaw09.StreamParts', WHERE WHAT IT READS IS OF BULK AT MOST 1048576: true; the input reads as it did. -/
def streamPartsUptoRow : OpenClaim := { program := "ytekkpgfklhhacaa", sum := "46432ff44f9983cf576ccfd0c5a15ffa3f6be4b937d04cd28246585b67044a9c", func := "cadency/cadencylaw09.StreamParts", spec := "streamParts", unfollowed := true, recurses := true, apart := false, narrowed := true }
def StreamPartsUptoSaid : Prop := streamPartsUptoRow.holds Try.pinned (OpenSpec.upto streamPartsSpec)

/-- 'cadencylaw09.StreamOrders', WHERE WHAT IT READS IS OF BULK AT MOST 1048576: true; the input reads as it did. -/
def streamOrdersUptoRow : OpenClaim := { program := "ytekkpgfklhhacaa", sum := "46432ff44f9983cf576ccfd0c5a15ffa3f6be4b937d04cd28246585b67044a9c", func := "cadency/cadencylaw09.StreamOrders", spec := "streamOrders", unfollowed := true, recurses := true, apart := false, narrowed := true }
def StreamOrdersUptoSaid : Prop := streamOrdersUptoRow.holds Try.pinned (OpenSpec.upto streamOrdersSpec)

/-- 'cadencylaw09.StreamSteps', WHERE WHAT IT READS IS OF BULK AT MOST 1048576: true; the input reads as it did. -/
def streamStepsUptoRow : OpenClaim := { program := "ytekkpgfklhhacaa", sum := "46432ff44f9983cf576ccfd0c5a15ffa3f6be4b937d04cd28246585b67044a9c", func := "cadency/cadencylaw09.StreamSteps", spec := "streamSteps", unfollowed := true, recurses := true, apart := false, narrowed := true }
def StreamStepsUptoSaid : Prop := streamStepsUptoRow.holds Try.pinned (OpenSpec.upto streamStepsSpec)

end Rows
end Go.Proofs.Ytekkpgfklhhacaa
