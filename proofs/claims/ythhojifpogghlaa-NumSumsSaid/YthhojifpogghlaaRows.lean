/-
  No cell of these rows narrows 'for every input' (looked for: loops, veiled, ifaces, maps, wideKeys, modest, calm, conditions, laid).
  DERIVED. THE GIVEN ROWS OF THIS SEAT. 8 by the template 'for every input the law returns true; each argument reads behind the call as it read before'; 0 by the template 'total and deterministic' (their statements: YthhojifpogghlaaTotals.lean).
  GIVEN WITH THE SEED: the statements are not yours to turn. If you find one false, say at which input.
  Laid BY PROGRAM, IN A SANDBOX (cutbox-rows.mjs): the forced cells as the released guide's own fill.sh prints them over the translation 5791cdc1290d7b15… (all of the seat's roots in one cut). By AI agents, Wed Nov 11 2026. No macro, syntax, notation, axiom, sorry.
-/
import Derived.Test.YthhojifpogghlaaChecked
import GoSem.Claim
import GoSem.ClaimJoined
import GoSem.ClaimMapViews
import Derived.JoinedTies
import Derived.KernelRfl
namespace Go.Proofs.Ythhojifpogghlaa
/- THE CELL 'sum', in the pinned program and in every row, IS THE sha256 OF THE DUMP (.gsa) THAT YthhojifpogghlaaProg.lean LOADS. Nothing in Lean hashes anything: it is a label: what it is worth is what the hold of that sum in a sandbox is worth. -/
noncomputable def Try.pinned : Pinned := { name := "ythhojifpogghlaa", sum := "5791cdc1290d7b15ffc0251382d7b76d2e4e9d2c60c5200f1a1cb773c3454121", checked := Try.checked }
namespace Rows
def none {H : Type} : Left H := { results := [], args := [] }

/-- 'cadencylaw01.NumShifts': WHATEVER THE INPUT: true; the input reads as it did. -/
def numShiftsSpec : ChangeSpec := { name := "numShifts", fn := fun _ => fun
  | [d1, d2] => { results := [.lit (.bool true)], args := [d1, d2] }
  | _ => none }
def numShiftsRow : OpenClaim := { program := "ythhojifpogghlaa", sum := "5791cdc1290d7b15ffc0251382d7b76d2e4e9d2c60c5200f1a1cb773c3454121", func := "cadency/cadencylaw01.NumShifts", spec := "numShifts", inPlace := ["math/bits.Add64"], apart := false }
def NumShiftsSaid : Prop := numShiftsRow.holds Try.pinned (OpenSpec.ofChange numShiftsSpec)

/-- ITS FALSE NEIGHBOUR: 'it returns false'. Refute it at one input. -/
def numShiftsWrong : ChangeSpec := { name := "numShifts", fn := fun _ => fun
  | [d1, d2] => { results := [.lit (.bool false)], args := [d1, d2] }
  | _ => none }
def NumShiftsWrongFalsely : Prop := numShiftsRow.holds Try.pinned (OpenSpec.ofChange numShiftsWrong)

/-- 'cadencylaw01.NumDivides': WHATEVER THE INPUT: true; the input reads as it did. -/
def numDividesSpec : ChangeSpec := { name := "numDivides", fn := fun _ => fun
  | [d1, d2, d3] => { results := [.lit (.bool true)], args := [d1, d2, d3] }
  | _ => none }
def numDividesRow : OpenClaim := { program := "ythhojifpogghlaa", sum := "5791cdc1290d7b15ffc0251382d7b76d2e4e9d2c60c5200f1a1cb773c3454121", func := "cadency/cadencylaw01.NumDivides", spec := "numDivides", inPlace := ["math/bits.Add64"], apart := false }
def NumDividesSaid : Prop := numDividesRow.holds Try.pinned (OpenSpec.ofChange numDividesSpec)

/-- ITS FALSE NEIGHBOUR: 'it returns false'. Refute it at one input. -/
def numDividesWrong : ChangeSpec := { name := "numDivides", fn := fun _ => fun
  | [d1, d2, d3] => { results := [.lit (.bool false)], args := [d1, d2, d3] }
  | _ => none }
def NumDividesWrongFalsely : Prop := numDividesRow.holds Try.pinned (OpenSpec.ofChange numDividesWrong)

/-- 'cadencylaw01.NumDivisors': WHATEVER THE INPUT: true; the input reads as it did. -/
def numDivisorsSpec : ChangeSpec := { name := "numDivisors", fn := fun _ => fun
  | [d1, d2, d3] => { results := [.lit (.bool true)], args := [d1, d2, d3] }
  | _ => none }
def numDivisorsRow : OpenClaim := { program := "ythhojifpogghlaa", sum := "5791cdc1290d7b15ffc0251382d7b76d2e4e9d2c60c5200f1a1cb773c3454121", func := "cadency/cadencylaw01.NumDivisors", spec := "numDivisors", inPlace := ["math/bits.Add64"], recurses := true, apart := false }
def NumDivisorsSaid : Prop := numDivisorsRow.holds Try.pinned (OpenSpec.ofChange numDivisorsSpec)

/-- ITS FALSE NEIGHBOUR: 'it returns false'. Refute it at one input. -/
def numDivisorsWrong : ChangeSpec := { name := "numDivisors", fn := fun _ => fun
  | [d1, d2, d3] => { results := [.lit (.bool false)], args := [d1, d2, d3] }
  | _ => none }
def NumDivisorsWrongFalsely : Prop := numDivisorsRow.holds Try.pinned (OpenSpec.ofChange numDivisorsWrong)

/-- 'cadencylaw01.NumSums': WHATEVER THE INPUT: true; the input reads as it did. -/
def numSumsSpec : ChangeSpec := { name := "numSums", fn := fun _ => fun
  | [d1, d2] => { results := [.lit (.bool true)], args := [d1, d2] }
  | _ => none }
def numSumsRow : OpenClaim := { program := "ythhojifpogghlaa", sum := "5791cdc1290d7b15ffc0251382d7b76d2e4e9d2c60c5200f1a1cb773c3454121", func := "cadency/cadencylaw01.NumSums", spec := "numSums", inPlace := ["math/bits.Add64"], apart := false }
def NumSumsSaid : Prop := numSumsRow.holds Try.pinned (OpenSpec.ofChange numSumsSpec)

/-- ITS FALSE NEIGHBOUR: 'it returns false'. Refute it at one input. -/
def numSumsWrong : ChangeSpec := { name := "numSums", fn := fun _ => fun
  | [d1, d2] => { results := [.lit (.bool false)], args := [d1, d2] }
  | _ => none }
def NumSumsWrongFalsely : Prop := numSumsRow.holds Try.pinned (OpenSpec.ofChange numSumsWrong)

/-- 'cadencylaw01.NumCeils': WHATEVER THE INPUT: true; the input reads as it did. -/
def numCeilsSpec : ChangeSpec := { name := "numCeils", fn := fun _ => fun
  | [d1, d2] => { results := [.lit (.bool true)], args := [d1, d2] }
  | _ => none }
def numCeilsRow : OpenClaim := { program := "ythhojifpogghlaa", sum := "5791cdc1290d7b15ffc0251382d7b76d2e4e9d2c60c5200f1a1cb773c3454121", func := "cadency/cadencylaw01.NumCeils", spec := "numCeils", inPlace := ["math/bits.Add64"], apart := false }
def NumCeilsSaid : Prop := numCeilsRow.holds Try.pinned (OpenSpec.ofChange numCeilsSpec)

/-- ITS FALSE NEIGHBOUR: 'it returns false'. Refute it at one input. -/
def numCeilsWrong : ChangeSpec := { name := "numCeils", fn := fun _ => fun
  | [d1, d2] => { results := [.lit (.bool false)], args := [d1, d2] }
  | _ => none }
def NumCeilsWrongFalsely : Prop := numCeilsRow.holds Try.pinned (OpenSpec.ofChange numCeilsWrong)

/-- 'cadencylaw01.NumFits': WHATEVER THE INPUT: true; the input reads as it did. -/
def numFitsSpec : ChangeSpec := { name := "numFits", fn := fun _ => fun
  | [d1, d2] => { results := [.lit (.bool true)], args := [d1, d2] }
  | _ => none }
def numFitsRow : OpenClaim := { program := "ythhojifpogghlaa", sum := "5791cdc1290d7b15ffc0251382d7b76d2e4e9d2c60c5200f1a1cb773c3454121", func := "cadency/cadencylaw01.NumFits", spec := "numFits", inPlace := ["math/bits.Add64"], apart := false }
def NumFitsSaid : Prop := numFitsRow.holds Try.pinned (OpenSpec.ofChange numFitsSpec)

/-- ITS FALSE NEIGHBOUR: 'it returns false'. Refute it at one input. -/
def numFitsWrong : ChangeSpec := { name := "numFits", fn := fun _ => fun
  | [d1, d2] => { results := [.lit (.bool false)], args := [d1, d2] }
  | _ => none }
def NumFitsWrongFalsely : Prop := numFitsRow.holds Try.pinned (OpenSpec.ofChange numFitsWrong)

/-- 'cadencylaw01.NumTells': WHATEVER THE INPUT: true; the input reads as it did. -/
def numTellsSpec : ChangeSpec := { name := "numTells", fn := fun _ => fun
  | [d1, d2, d3] => { results := [.lit (.bool true)], args := [d1, d2, d3] }
  | _ => none }
def numTellsRow : OpenClaim := { program := "ythhojifpogghlaa", sum := "5791cdc1290d7b15ffc0251382d7b76d2e4e9d2c60c5200f1a1cb773c3454121", func := "cadency/cadencylaw01.NumTells", spec := "numTells", inPlace := ["math/bits.Add64"], apart := false }
def NumTellsSaid : Prop := numTellsRow.holds Try.pinned (OpenSpec.ofChange numTellsSpec)

/-- ITS FALSE NEIGHBOUR: 'it returns false'. Refute it at one input. -/
def numTellsWrong : ChangeSpec := { name := "numTells", fn := fun _ => fun
  | [d1, d2, d3] => { results := [.lit (.bool false)], args := [d1, d2, d3] }
  | _ => none }
def NumTellsWrongFalsely : Prop := numTellsRow.holds Try.pinned (OpenSpec.ofChange numTellsWrong)

/-- 'cadencylaw01.NumChains': WHATEVER THE INPUT: true; the input reads as it did. -/
def numChainsSpec : ChangeSpec := { name := "numChains", fn := fun _ => fun
  | [d1, d2, d3] => { results := [.lit (.bool true)], args := [d1, d2, d3] }
  | _ => none }
def numChainsRow : OpenClaim := { program := "ythhojifpogghlaa", sum := "5791cdc1290d7b15ffc0251382d7b76d2e4e9d2c60c5200f1a1cb773c3454121", func := "cadency/cadencylaw01.NumChains", spec := "numChains", inPlace := ["math/bits.Add64"], apart := false }
def NumChainsSaid : Prop := numChainsRow.holds Try.pinned (OpenSpec.ofChange numChainsSpec)

/-- ITS FALSE NEIGHBOUR: 'it returns false'. Refute it at one input. -/
def numChainsWrong : ChangeSpec := { name := "numChains", fn := fun _ => fun
  | [d1, d2, d3] => { results := [.lit (.bool false)], args := [d1, d2, d3] }
  | _ => none }
def NumChainsWrongFalsely : Prop := numChainsRow.holds Try.pinned (OpenSpec.ofChange numChainsWrong)

/- THE SECOND FORM. 'bulk': how many values and letters a reading holds, each counted each time it is reached (what is shared counts as often as it is met; a slice's spare places count too). A statement '..UptoSaid' is the law's where the arguments, and the package variables that the reading takes, are together of bulk at most 1048576: NARROWER than '..Said'. Prove '..Said' where nothing that the law and all that it calls make is longer than what came in: it says more and counts as full. Else prove '..UptoSaid'. A law counts once. -/
mutual
def uptoBulk {H : Type} : DataW H → Nat
  | .lit (.string bytes) => bytes.length + 1
  | .lit _ => 1
  | .nil => 1
  | .ptr d => uptoBulk d + 1
  | .slice elems spare => uptoBulkAll elems + uptoBulkAll spare + 1
  | .agg parts => uptoBulkAll parts + 1
  | .iface _ d => uptoBulk d + 1
  | .map entries => uptoBulkEntries entries + 1
  | .held _ => 1
def uptoBulkAll {H : Type} : List (DataW H) → Nat
  | [] => 0
  | d :: r => uptoBulk d + uptoBulkAll r
def uptoBulkEntries {H : Type} : List (Lit × DataW H) → Nat
  | [] => 0
  | x :: r => uptoBulkEntry x + uptoBulkEntries r
def uptoBulkEntry {H : Type} : Lit × DataW H → Nat
  | (.string bytes, d) => bytes.length + uptoBulk d + 1
  | (_, d) => uptoBulk d + 1
 end
def uptoSmall : (H : Type) → List (DataW H) → Bool := fun _ ds => decide (uptoBulkAll ds ≤ 1048576)
def OpenSpec.upto (s : _root_.Go.ChangeSpec) : _root_.Go.OpenSpec := { _root_.Go.OpenSpec.ofChange s with cond := some uptoSmall }

/-- 'cadencylaw01.NumShifts', WHERE WHAT IT READS IS OF BULK AT MOST 1048576: true; the input reads as it did. -/
def numShiftsUptoRow : OpenClaim := { program := "ythhojifpogghlaa", sum := "5791cdc1290d7b15ffc0251382d7b76d2e4e9d2c60c5200f1a1cb773c3454121", func := "cadency/cadencylaw01.NumShifts", spec := "numShifts", inPlace := ["math/bits.Add64"], apart := false, narrowed := true }
def NumShiftsUptoSaid : Prop := numShiftsUptoRow.holds Try.pinned (OpenSpec.upto numShiftsSpec)

/-- 'cadencylaw01.NumDivides', WHERE WHAT IT READS IS OF BULK AT MOST 1048576: true; the input reads as it did. -/
def numDividesUptoRow : OpenClaim := { program := "ythhojifpogghlaa", sum := "5791cdc1290d7b15ffc0251382d7b76d2e4e9d2c60c5200f1a1cb773c3454121", func := "cadency/cadencylaw01.NumDivides", spec := "numDivides", inPlace := ["math/bits.Add64"], apart := false, narrowed := true }
def NumDividesUptoSaid : Prop := numDividesUptoRow.holds Try.pinned (OpenSpec.upto numDividesSpec)

/-- 'cadencylaw01.NumDivisors', WHERE WHAT IT READS IS OF BULK AT MOST 1048576: true; the input reads as it did. -/
def numDivisorsUptoRow : OpenClaim := { program := "ythhojifpogghlaa", sum := "5791cdc1290d7b15ffc0251382d7b76d2e4e9d2c60c5200f1a1cb773c3454121", func := "cadency/cadencylaw01.NumDivisors", spec := "numDivisors", inPlace := ["math/bits.Add64"], recurses := true, apart := false, narrowed := true }
def NumDivisorsUptoSaid : Prop := numDivisorsUptoRow.holds Try.pinned (OpenSpec.upto numDivisorsSpec)

/-- 'cadencylaw01.NumSums', WHERE WHAT IT READS IS OF BULK AT MOST 1048576: true; the input reads as it did. -/
def numSumsUptoRow : OpenClaim := { program := "ythhojifpogghlaa", sum := "5791cdc1290d7b15ffc0251382d7b76d2e4e9d2c60c5200f1a1cb773c3454121", func := "cadency/cadencylaw01.NumSums", spec := "numSums", inPlace := ["math/bits.Add64"], apart := false, narrowed := true }
def NumSumsUptoSaid : Prop := numSumsUptoRow.holds Try.pinned (OpenSpec.upto numSumsSpec)

/-- 'cadencylaw01.NumCeils', WHERE WHAT IT READS IS OF BULK AT MOST 1048576: true; the input reads as it did. -/
def numCeilsUptoRow : OpenClaim := { program := "ythhojifpogghlaa", sum := "5791cdc1290d7b15ffc0251382d7b76d2e4e9d2c60c5200f1a1cb773c3454121", func := "cadency/cadencylaw01.NumCeils", spec := "numCeils", inPlace := ["math/bits.Add64"], apart := false, narrowed := true }
def NumCeilsUptoSaid : Prop := numCeilsUptoRow.holds Try.pinned (OpenSpec.upto numCeilsSpec)

/-- 'cadencylaw01.NumFits', WHERE WHAT IT READS IS OF BULK AT MOST 1048576: true; the input reads as it did. -/
def numFitsUptoRow : OpenClaim := { program := "ythhojifpogghlaa", sum := "5791cdc1290d7b15ffc0251382d7b76d2e4e9d2c60c5200f1a1cb773c3454121", func := "cadency/cadencylaw01.NumFits", spec := "numFits", inPlace := ["math/bits.Add64"], apart := false, narrowed := true }
def NumFitsUptoSaid : Prop := numFitsUptoRow.holds Try.pinned (OpenSpec.upto numFitsSpec)

/-- 'cadencylaw01.NumTells', WHERE WHAT IT READS IS OF BULK AT MOST 1048576: true; the input reads as it did. -/
def numTellsUptoRow : OpenClaim := { program := "ythhojifpogghlaa", sum := "5791cdc1290d7b15ffc0251382d7b76d2e4e9d2c60c5200f1a1cb773c3454121", func := "cadency/cadencylaw01.NumTells", spec := "numTells", inPlace := ["math/bits.Add64"], apart := false, narrowed := true }
def NumTellsUptoSaid : Prop := numTellsUptoRow.holds Try.pinned (OpenSpec.upto numTellsSpec)

/-- 'cadencylaw01.NumChains', WHERE WHAT IT READS IS OF BULK AT MOST 1048576: true; the input reads as it did. -/
def numChainsUptoRow : OpenClaim := { program := "ythhojifpogghlaa", sum := "5791cdc1290d7b15ffc0251382d7b76d2e4e9d2c60c5200f1a1cb773c3454121", func := "cadency/cadencylaw01.NumChains", spec := "numChains", inPlace := ["math/bits.Add64"], apart := false, narrowed := true }
def NumChainsUptoSaid : Prop := numChainsUptoRow.holds Try.pinned (OpenSpec.upto numChainsSpec)

end Rows
end Go.Proofs.Ythhojifpogghlaa
