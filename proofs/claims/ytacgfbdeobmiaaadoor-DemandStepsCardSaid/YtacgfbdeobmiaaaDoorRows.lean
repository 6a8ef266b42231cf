/-
  NARROWER THAN 'FOR EVERY INPUT', by the rows' own cells (each row's printed sentence says how): DemandTells: laid · DemandGrows: laid · DemandUrgent: laid · DemandScales: laid · DemandParts: laid · DemandSteps: laid.
  DERIVED. THE GIVEN ROWS OF THIS SEAT. 6 by the template 'for every input the law returns true; each argument reads behind the call as it read before'; 0 by the template 'total and deterministic' (their statements: YtacgfbdeobmiaaaDoorTotals.lean).
  GIVEN WITH THE SEED: the statements are not yours to turn. If you find one false, say at which input.
  Laid BY PROGRAM, IN A SANDBOX (cutbox-rows.mjs): the forced cells as the released guide's own fill.sh prints them over the translation f429f114b0b76e4d… (all of the seat's roots in one cut). By AI agents, Wed Nov 11 2026. No macro, syntax, notation, axiom, sorry.
-/
import Derived.Test.YtacgfbdeobmiaaaDoorChecked
import GoSem.Claim
import GoSem.ClaimJoined
import GoSem.ClaimMapViews
import Derived.JoinedTies
import Derived.KernelRfl
namespace Go.Proofs.YtacgfbdeobmiaaaDoor
/- THE CELL 'sum', in the pinned program and in every row, IS THE sha256 OF THE DUMP (.gsa) THAT YtacgfbdeobmiaaaDoorProg.lean LOADS. Nothing in Lean hashes anything: it is a label: what it is worth is what the hold of that sum in a sandbox is worth. -/
noncomputable def Tryd.pinned : Pinned := { name := "ytacgfbdeobmiaaadoor", sum := "f429f114b0b76e4dd0bd0d93768e63439283a6b84533d602a8187b923be2d1b3", checked := Tryd.checked }
namespace Rows
def none {H : Type} : Left H := { results := [], args := [] }

/- WHAT THE LISTED PACKAGE-LEVEL VARIABLES READ AS WHEN THE CALL BEGINS. Each datum BY PROGRAM (the guide's laid-datum.mjs) off the statement by which the dump's own 'gosem.cut.vars' lays the variable. In a bare row this is a premise. The card (YtacgfbdeobmiaaaDoorCards.lean) ties it to the program's text. -/
def laid_math_bits_deBruijn64tab {H : Type} : DataW H := .agg [.lit (.int .u8 0), .lit (.int .u8 1), .lit (.int .u8 56), .lit (.int .u8 2), .lit (.int .u8 57), .lit (.int .u8 49), .lit (.int .u8 28), .lit (.int .u8 3), .lit (.int .u8 61), .lit (.int .u8 58), .lit (.int .u8 42), .lit (.int .u8 50), .lit (.int .u8 38), .lit (.int .u8 29), .lit (.int .u8 17), .lit (.int .u8 4), .lit (.int .u8 62), .lit (.int .u8 47), .lit (.int .u8 59), .lit (.int .u8 36), .lit (.int .u8 45), .lit (.int .u8 43), .lit (.int .u8 51), .lit (.int .u8 22), .lit (.int .u8 53), .lit (.int .u8 39), .lit (.int .u8 33), .lit (.int .u8 30), .lit (.int .u8 24), .lit (.int .u8 18), .lit (.int .u8 12), .lit (.int .u8 5), .lit (.int .u8 63), .lit (.int .u8 55), .lit (.int .u8 48), .lit (.int .u8 27), .lit (.int .u8 60), .lit (.int .u8 41), .lit (.int .u8 37), .lit (.int .u8 16), .lit (.int .u8 46), .lit (.int .u8 35), .lit (.int .u8 44), .lit (.int .u8 21), .lit (.int .u8 52), .lit (.int .u8 32), .lit (.int .u8 23), .lit (.int .u8 11), .lit (.int .u8 54), .lit (.int .u8 26), .lit (.int .u8 40), .lit (.int .u8 15), .lit (.int .u8 34), .lit (.int .u8 20), .lit (.int .u8 31), .lit (.int .u8 10), .lit (.int .u8 25), .lit (.int .u8 14), .lit (.int .u8 19), .lit (.int .u8 9), .lit (.int .u8 13), .lit (.int .u8 8), .lit (.int .u8 7), .lit (.int .u8 6)]

/-- 'cadencylaw13.DemandTells': WHATEVER THE INPUT: true; the input reads as it did. -/
def demandTellsSpec : ChangeSpec := { name := "demandTells", fn := fun _ => fun
  | [d1, d2, d3] => { results := [.lit (.bool true)], args := [d1, d2, d3] }
  | _ => none }
def demandTellsRow : OpenClaim := { program := "ytacgfbdeobmiaaadoor", sum := "f429f114b0b76e4dd0bd0d93768e63439283a6b84533d602a8187b923be2d1b3", func := "cadency/cadencylaw13.DemandTells", spec := "demandTells", inPlace := ["math/bits.Add64"], unfollowed := true, recurses := true, named := ["math/bits.deBruijn64tab"], apart := false, laid := [("math/bits.deBruijn64tab", laid_math_bits_deBruijn64tab)] }
def DemandTellsSaid : Prop := demandTellsRow.holds Tryd.pinned (OpenSpec.ofChange demandTellsSpec)

/-- ITS FALSE NEIGHBOUR: 'it returns false'. Refute it at one input. -/
def demandTellsWrong : ChangeSpec := { name := "demandTells", fn := fun _ => fun
  | [d1, d2, d3] => { results := [.lit (.bool false)], args := [d1, d2, d3] }
  | _ => none }
def DemandTellsWrongFalsely : Prop := demandTellsRow.holds Tryd.pinned (OpenSpec.ofChange demandTellsWrong)

/-- 'cadencylaw13.DemandGrows': WHATEVER THE INPUT: true; the input reads as it did. -/
def demandGrowsSpec : ChangeSpec := { name := "demandGrows", fn := fun _ => fun
  | [d1, d2, d3] => { results := [.lit (.bool true)], args := [d1, d2, d3] }
  | _ => none }
def demandGrowsRow : OpenClaim := { program := "ytacgfbdeobmiaaadoor", sum := "f429f114b0b76e4dd0bd0d93768e63439283a6b84533d602a8187b923be2d1b3", func := "cadency/cadencylaw13.DemandGrows", spec := "demandGrows", inPlace := ["math/bits.Add64"], unfollowed := true, recurses := true, named := ["math/bits.deBruijn64tab"], apart := false, laid := [("math/bits.deBruijn64tab", laid_math_bits_deBruijn64tab)] }
def DemandGrowsSaid : Prop := demandGrowsRow.holds Tryd.pinned (OpenSpec.ofChange demandGrowsSpec)

/-- ITS FALSE NEIGHBOUR: 'it returns false'. Refute it at one input. -/
def demandGrowsWrong : ChangeSpec := { name := "demandGrows", fn := fun _ => fun
  | [d1, d2, d3] => { results := [.lit (.bool false)], args := [d1, d2, d3] }
  | _ => none }
def DemandGrowsWrongFalsely : Prop := demandGrowsRow.holds Tryd.pinned (OpenSpec.ofChange demandGrowsWrong)

/-- 'cadencylaw13.DemandUrgent': WHATEVER THE INPUT: true; the input reads as it did. -/
def demandUrgentSpec : ChangeSpec := { name := "demandUrgent", fn := fun _ => fun
  | [d1, d2, d3] => { results := [.lit (.bool true)], args := [d1, d2, d3] }
  | _ => none }
def demandUrgentRow : OpenClaim := { program := "ytacgfbdeobmiaaadoor", sum := "f429f114b0b76e4dd0bd0d93768e63439283a6b84533d602a8187b923be2d1b3", func := "cadency/cadencylaw13.DemandUrgent", spec := "demandUrgent", inPlace := ["math/bits.Add64"], unfollowed := true, recurses := true, named := ["math/bits.deBruijn64tab"], apart := false, laid := [("math/bits.deBruijn64tab", laid_math_bits_deBruijn64tab)] }
def DemandUrgentSaid : Prop := demandUrgentRow.holds Tryd.pinned (OpenSpec.ofChange demandUrgentSpec)

/-- ITS FALSE NEIGHBOUR: 'it returns false'. Refute it at one input. -/
def demandUrgentWrong : ChangeSpec := { name := "demandUrgent", fn := fun _ => fun
  | [d1, d2, d3] => { results := [.lit (.bool false)], args := [d1, d2, d3] }
  | _ => none }
def DemandUrgentWrongFalsely : Prop := demandUrgentRow.holds Tryd.pinned (OpenSpec.ofChange demandUrgentWrong)

/-- 'cadencylaw13.DemandScales': WHATEVER THE INPUT: true; the input reads as it did. -/
def demandScalesSpec : ChangeSpec := { name := "demandScales", fn := fun _ => fun
  | [d1, d2, d3] => { results := [.lit (.bool true)], args := [d1, d2, d3] }
  | _ => none }
def demandScalesRow : OpenClaim := { program := "ytacgfbdeobmiaaadoor", sum := "f429f114b0b76e4dd0bd0d93768e63439283a6b84533d602a8187b923be2d1b3", func := "cadency/cadencylaw13.DemandScales", spec := "demandScales", inPlace := ["math/bits.Add64"], unfollowed := true, recurses := true, named := ["math/bits.deBruijn64tab"], apart := false, laid := [("math/bits.deBruijn64tab", laid_math_bits_deBruijn64tab)] }
def DemandScalesSaid : Prop := demandScalesRow.holds Tryd.pinned (OpenSpec.ofChange demandScalesSpec)

/-- ITS FALSE NEIGHBOUR: 'it returns false'. Refute it at one input. -/
def demandScalesWrong : ChangeSpec := { name := "demandScales", fn := fun _ => fun
  | [d1, d2, d3] => { results := [.lit (.bool false)], args := [d1, d2, d3] }
  | _ => none }
def DemandScalesWrongFalsely : Prop := demandScalesRow.holds Tryd.pinned (OpenSpec.ofChange demandScalesWrong)

/-- 'cadencylaw13.DemandParts': WHATEVER THE INPUT: true; the input reads as it did. -/
def demandPartsSpec : ChangeSpec := { name := "demandParts", fn := fun _ => fun
  | [d1, d2, d3] => { results := [.lit (.bool true)], args := [d1, d2, d3] }
  | _ => none }
def demandPartsRow : OpenClaim := { program := "ytacgfbdeobmiaaadoor", sum := "f429f114b0b76e4dd0bd0d93768e63439283a6b84533d602a8187b923be2d1b3", func := "cadency/cadencylaw13.DemandParts", spec := "demandParts", inPlace := ["math/bits.Add64"], unfollowed := true, recurses := true, named := ["math/bits.deBruijn64tab"], apart := false, laid := [("math/bits.deBruijn64tab", laid_math_bits_deBruijn64tab)] }
def DemandPartsSaid : Prop := demandPartsRow.holds Tryd.pinned (OpenSpec.ofChange demandPartsSpec)

/-- ITS FALSE NEIGHBOUR: 'it returns false'. Refute it at one input. -/
def demandPartsWrong : ChangeSpec := { name := "demandParts", fn := fun _ => fun
  | [d1, d2, d3] => { results := [.lit (.bool false)], args := [d1, d2, d3] }
  | _ => none }
def DemandPartsWrongFalsely : Prop := demandPartsRow.holds Tryd.pinned (OpenSpec.ofChange demandPartsWrong)

/-- 'cadencylaw13.DemandSteps': WHATEVER THE INPUT: true; the input reads as it did. -/
def demandStepsSpec : ChangeSpec := { name := "demandSteps", fn := fun _ => fun
  | [d1, d2] => { results := [.lit (.bool true)], args := [d1, d2] }
  | _ => none }
def demandStepsRow : OpenClaim := { program := "ytacgfbdeobmiaaadoor", sum := "f429f114b0b76e4dd0bd0d93768e63439283a6b84533d602a8187b923be2d1b3", func := "cadency/cadencylaw13.DemandSteps", spec := "demandSteps", inPlace := ["math/bits.Add64"], unfollowed := true, recurses := true, named := ["math/bits.deBruijn64tab"], apart := false, laid := [("math/bits.deBruijn64tab", laid_math_bits_deBruijn64tab)] }
def DemandStepsSaid : Prop := demandStepsRow.holds Tryd.pinned (OpenSpec.ofChange demandStepsSpec)

/-- ITS FALSE NEIGHBOUR: 'it returns false'. Refute it at one input. -/
def demandStepsWrong : ChangeSpec := { name := "demandSteps", fn := fun _ => fun
  | [d1, d2] => { results := [.lit (.bool false)], args := [d1, d2] }
  | _ => none }
def DemandStepsWrongFalsely : Prop := demandStepsRow.holds Tryd.pinned (OpenSpec.ofChange demandStepsWrong)

/- THE SECOND FORM. 'bulk': how many values and letters a reading holds, each counted each time it is reached (what is shared counts as often as it is met; a slice's spare places count too). A statement '..UptoSaid' is the law's where the arguments, and the package variables that the reading takes, are together of bulk at most 1048576: NARROWER than '..Said'. Prove '..Said' where nothing that the law and all that it calls make is longer than what came in: it says more and counts as full. Else prove '..UptoSaid'. A law counts once. -/
mutual
def uptoBulk {H : Type} : DataW H → Nat
  | .lit (.string bytes) => bytes.length + 1
  | .lit _ => 1
  | .nil => 1
  | .ptr d => uptoBulk d + 1
  | .slice elems spare => uptoBulkAll elems + uptoBulkAll spare + 1
  | .agg parts => uptoBulkAll parts + 1
  | .iface _ d => uptoBulk d + 1
  | .map entries => uptoBulkEntries entries + 1
  | .held _ => 1
def uptoBulkAll {H : Type} : List (DataW H) → Nat
  | [] => 0
  | d :: r => uptoBulk d + uptoBulkAll r
def uptoBulkEntries {H : Type} : List (Lit × DataW H) → Nat
  | [] => 0
  | x :: r => uptoBulkEntry x + uptoBulkEntries r
def uptoBulkEntry {H : Type} : Lit × DataW H → Nat
  | (.string bytes, d) => bytes.length + uptoBulk d + 1
  | (_, d) => uptoBulk d + 1
 end
def uptoSmall : (H : Type) → List (DataW H) → Bool := fun _ ds => decide (uptoBulkAll ds ≤ 1048576)
def OpenSpec.upto (s : _root_.Go.ChangeSpec) : _root_.Go.OpenSpec := { _root_.Go.OpenSpec.ofChange s with cond := some uptoSmall }

/-- 'cadencylaw13.DemandTells', WHERE WHAT IT READS IS OF BULK AT MOST 1048576: true; the input reads as it did. -/
def demandTellsUptoRow : OpenClaim := { program := "ytacgfbdeobmiaaadoor", sum := "f429f114b0b76e4dd0bd0d93768e63439283a6b84533d602a8187b923be2d1b3", func := "cadency/cadencylaw13.DemandTells", spec := "demandTells", inPlace := ["math/bits.Add64"], unfollowed := true, recurses := true, named := ["math/bits.deBruijn64tab"], apart := false, laid := [("math/bits.deBruijn64tab", laid_math_bits_deBruijn64tab)], narrowed := true }
def DemandTellsUptoSaid : Prop := demandTellsUptoRow.holds Tryd.pinned (OpenSpec.upto demandTellsSpec)

/-- 'cadencylaw13.DemandGrows', WHERE WHAT IT READS IS OF BULK AT MOST 1048576: true; the input reads as it did. -/
def demandGrowsUptoRow : OpenClaim := { program := "ytacgfbdeobmiaaadoor", sum := "f429f114b0b76e4dd0bd0d93768e63439283a6b84533d602a8187b923be2d1b3", func := "cadency/cadencylaw13.DemandGrows", spec := "demandGrows", inPlace := ["math/bits.Add64"], unfollowed := true, recurses := true, named := ["math/bits.deBruijn64tab"], apart := false, laid := [("math/bits.deBruijn64tab", laid_math_bits_deBruijn64tab)], narrowed := true }
def DemandGrowsUptoSaid : Prop := demandGrowsUptoRow.holds Tryd.pinned (OpenSpec.upto demandGrowsSpec)

/-- 'cadencylaw13.DemandUrgent', WHERE WHAT IT READS IS OF BULK AT MOST 1048576: true; the input reads as it did. -/
def demandUrgentUptoRow : OpenClaim := { program := "ytacgfbdeobmiaaadoor", sum := "f429f114b0b76e4dd0bd0d93768e63439283a6b84533d602a8187b923be2d1b3", func := "cadency/cadencylaw13.DemandUrgent", spec := "demandUrgent", inPlace := ["math/bits.Add64"], unfollowed := true, recurses := true, named := ["math/bits.deBruijn64tab"], apart := false, laid := [("math/bits.deBruijn64tab", laid_math_bits_deBruijn64tab)], narrowed := true }
def DemandUrgentUptoSaid : Prop := demandUrgentUptoRow.holds Tryd.pinned (OpenSpec.upto demandUrgentSpec)

/-- 'cadencylaw13.DemandScales', WHERE WHAT IT READS IS OF BULK AT MOST 1048576: true; the input reads as it did. -/
def demandScalesUptoRow : OpenClaim := { program := "ytacgfbdeobmiaaadoor", sum := "f429f114b0b76e4dd0bd0d93768e63439283a6b84533d602a8187b923be2d1b3", func := "cadency/cadencylaw13.DemandScales", spec := "demandScales", inPlace := ["math/bits.Add64"], unfollowed := true, recurses := true, named := ["math/bits.deBruijn64tab"], apart := false, laid := [("math/bits.deBruijn64tab", laid_math_bits_deBruijn64tab)], narrowed := true }
def DemandScalesUptoSaid : Prop := demandScalesUptoRow.holds Tryd.pinned (OpenSpec.upto demandScalesSpec)

/-- 'cadencylaw13.DemandParts', WHERE WHAT IT READS IS OF BULK AT MOST 1048576: true; the input reads as it did. -/
def demandPartsUptoRow : OpenClaim := { program := "ytacgfbdeobmiaaadoor", sum := "f429f114b0b76e4dd0bd0d93768e63439283a6b84533d602a8187b923be2d1b3", func := "cadency/cadencylaw13.DemandParts", spec := "demandParts", inPlace := ["math/bits.Add64"], unfollowed := true, recurses := true, named := ["math/bits.deBruijn64tab"], apart := false, laid := [("math/bits.deBruijn64tab", laid_math_bits_deBruijn64tab)], narrowed := true }
def DemandPartsUptoSaid : Prop := demandPartsUptoRow.holds Tryd.pinned (OpenSpec.upto demandPartsSpec)

/-- 'cadencylaw13.DemandSteps', WHERE WHAT IT READS IS OF BULK AT MOST 1048576: true; the input reads as it did. -/
def demandStepsUptoRow : OpenClaim := { program := "ytacgfbdeobmiaaadoor", sum := "f429f114b0b76e4dd0bd0d93768e63439283a6b84533d602a8187b923be2d1b3", func := "cadency/cadencylaw13.DemandSteps", spec := "demandSteps", inPlace := ["math/bits.Add64"], unfollowed := true, recurses := true, named := ["math/bits.deBruijn64tab"], apart := false, laid := [("math/bits.deBruijn64tab", laid_math_bits_deBruijn64tab)], narrowed := true }
def DemandStepsUptoSaid : Prop := demandStepsUptoRow.holds Tryd.pinned (OpenSpec.upto demandStepsSpec)

end Rows
end Go.Proofs.YtacgfbdeobmiaaaDoor
