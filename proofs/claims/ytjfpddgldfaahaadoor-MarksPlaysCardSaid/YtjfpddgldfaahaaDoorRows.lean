/-
  NARROWER THAN 'FOR EVERY INPUT', by the rows' own cells (each row's printed sentence says how): MarksSame: laid · MarksStops: laid · MarksTells: laid · MarksBelow: laid · MarksSums: laid · MarksPlays: laid.
  DERIVED. THE GIVEN ROWS OF THIS SEAT. 6 by the template 'for every input the law returns true; each argument reads behind the call as it read before'; 0 by the template 'total and deterministic' (their statements: YtjfpddgldfaahaaDoorTotals.lean).
  GIVEN WITH THE SEED: the statements are not yours to turn. If you find one false, say at which input.
  Laid BY PROGRAM, IN A SANDBOX (cutbox-rows.mjs): the forced cells as the released guide's own fill.sh prints them over the translation 7e57c6a4c244549e… (all of the seat's roots in one cut). By AI agents, Wed Nov 11 2026. No macro, syntax, notation, axiom, sorry.
-/
import Derived.Test.YtjfpddgldfaahaaDoorChecked
import GoSem.Claim
import GoSem.ClaimJoined
import GoSem.ClaimMapViews
import Derived.JoinedTies
import Derived.KernelRfl
namespace Go.Proofs.YtjfpddgldfaahaaDoor
/- THE CELL 'sum', in the pinned program and in every row, IS THE sha256 OF THE DUMP (.gsa) THAT YtjfpddgldfaahaaDoorProg.lean LOADS. Nothing in Lean hashes anything: it is a label: what it is worth is what the hold of that sum in a sandbox is worth. -/
noncomputable def Tryd.pinned : Pinned := { name := "ytjfpddgldfaahaadoor", sum := "7e57c6a4c244549e6472f7fcda68928b5f4b32d64116d8c135d8b67746c129d2", checked := Tryd.checked }
namespace Rows
def none {H : Type} : Left H := { results := [], args := [] }

/- WHAT THE LISTED PACKAGE-LEVEL VARIABLES READ AS WHEN THE CALL BEGINS. Each datum BY PROGRAM (the guide's laid-datum.mjs) off the statement by which the dump's own 'gosem.cut.vars' lays the variable. In a bare row this is a premise. The card (YtjfpddgldfaahaaDoorCards.lean) ties it to the program's text. -/
def laid_math_bits_deBruijn64tab {H : Type} : DataW H := .agg [.lit (.int .u8 0), .lit (.int .u8 1), .lit (.int .u8 56), .lit (.int .u8 2), .lit (.int .u8 57), .lit (.int .u8 49), .lit (.int .u8 28), .lit (.int .u8 3), .lit (.int .u8 61), .lit (.int .u8 58), .lit (.int .u8 42), .lit (.int .u8 50), .lit (.int .u8 38), .lit (.int .u8 29), .lit (.int .u8 17), .lit (.int .u8 4), .lit (.int .u8 62), .lit (.int .u8 47), .lit (.int .u8 59), .lit (.int .u8 36), .lit (.int .u8 45), .lit (.int .u8 43), .lit (.int .u8 51), .lit (.int .u8 22), .lit (.int .u8 53), .lit (.int .u8 39), .lit (.int .u8 33), .lit (.int .u8 30), .lit (.int .u8 24), .lit (.int .u8 18), .lit (.int .u8 12), .lit (.int .u8 5), .lit (.int .u8 63), .lit (.int .u8 55), .lit (.int .u8 48), .lit (.int .u8 27), .lit (.int .u8 60), .lit (.int .u8 41), .lit (.int .u8 37), .lit (.int .u8 16), .lit (.int .u8 46), .lit (.int .u8 35), .lit (.int .u8 44), .lit (.int .u8 21), .lit (.int .u8 52), .lit (.int .u8 32), .lit (.int .u8 23), .lit (.int .u8 11), .lit (.int .u8 54), .lit (.int .u8 26), .lit (.int .u8 40), .lit (.int .u8 15), .lit (.int .u8 34), .lit (.int .u8 20), .lit (.int .u8 31), .lit (.int .u8 10), .lit (.int .u8 25), .lit (.int .u8 14), .lit (.int .u8 19), .lit (.int .u8 9), .lit (.int .u8 13), .lit (.int .u8 8), .lit (.int .u8 7), .lit (.int .u8 6)]

/-- 'cadencylaw02.MarksSame': WHATEVER THE INPUT: true; the input reads as it did. -/
def marksSameSpec : ChangeSpec := { name := "marksSame", fn := fun _ => fun
  | [d] => { results := [.lit (.bool true)], args := [d] }
  | _ => none }
def marksSameRow : OpenClaim := { program := "ytjfpddgldfaahaadoor", sum := "7e57c6a4c244549e6472f7fcda68928b5f4b32d64116d8c135d8b67746c129d2", func := "cadency/cadencylaw02.MarksSame", spec := "marksSame", unfollowed := true, recurses := true, named := ["math/bits.deBruijn64tab"], plainKeys := false, apart := false, laid := [("math/bits.deBruijn64tab", laid_math_bits_deBruijn64tab)] }
def MarksSameSaid : Prop := marksSameRow.holds Tryd.pinned (OpenSpec.ofChange marksSameSpec)

/-- ITS FALSE NEIGHBOUR: 'it returns false'. Refute it at one input. -/
def marksSameWrong : ChangeSpec := { name := "marksSame", fn := fun _ => fun
  | [d] => { results := [.lit (.bool false)], args := [d] }
  | _ => none }
def MarksSameWrongFalsely : Prop := marksSameRow.holds Tryd.pinned (OpenSpec.ofChange marksSameWrong)

/-- 'cadencylaw02.MarksStops': WHATEVER THE INPUT: true; the input reads as it did. -/
def marksStopsSpec : ChangeSpec := { name := "marksStops", fn := fun _ => fun
  | [d1, d2] => { results := [.lit (.bool true)], args := [d1, d2] }
  | _ => none }
def marksStopsRow : OpenClaim := { program := "ytjfpddgldfaahaadoor", sum := "7e57c6a4c244549e6472f7fcda68928b5f4b32d64116d8c135d8b67746c129d2", func := "cadency/cadencylaw02.MarksStops", spec := "marksStops", unfollowed := true, recurses := true, named := ["math/bits.deBruijn64tab"], plainKeys := false, apart := false, laid := [("math/bits.deBruijn64tab", laid_math_bits_deBruijn64tab)] }
def MarksStopsSaid : Prop := marksStopsRow.holds Tryd.pinned (OpenSpec.ofChange marksStopsSpec)

/-- ITS FALSE NEIGHBOUR: 'it returns false'. Refute it at one input. -/
def marksStopsWrong : ChangeSpec := { name := "marksStops", fn := fun _ => fun
  | [d1, d2] => { results := [.lit (.bool false)], args := [d1, d2] }
  | _ => none }
def MarksStopsWrongFalsely : Prop := marksStopsRow.holds Tryd.pinned (OpenSpec.ofChange marksStopsWrong)

/-- 'cadencylaw02.MarksTells': WHATEVER THE INPUT: true; the input reads as it did. -/
def marksTellsSpec : ChangeSpec := { name := "marksTells", fn := fun _ => fun
  | [d1, d2] => { results := [.lit (.bool true)], args := [d1, d2] }
  | _ => none }
def marksTellsRow : OpenClaim := { program := "ytjfpddgldfaahaadoor", sum := "7e57c6a4c244549e6472f7fcda68928b5f4b32d64116d8c135d8b67746c129d2", func := "cadency/cadencylaw02.MarksTells", spec := "marksTells", unfollowed := true, recurses := true, named := ["math/bits.deBruijn64tab"], plainKeys := false, apart := false, laid := [("math/bits.deBruijn64tab", laid_math_bits_deBruijn64tab)] }
def MarksTellsSaid : Prop := marksTellsRow.holds Tryd.pinned (OpenSpec.ofChange marksTellsSpec)

/-- ITS FALSE NEIGHBOUR: 'it returns false'. Refute it at one input. -/
def marksTellsWrong : ChangeSpec := { name := "marksTells", fn := fun _ => fun
  | [d1, d2] => { results := [.lit (.bool false)], args := [d1, d2] }
  | _ => none }
def MarksTellsWrongFalsely : Prop := marksTellsRow.holds Tryd.pinned (OpenSpec.ofChange marksTellsWrong)

/-- 'cadencylaw02.MarksBelow': WHATEVER THE INPUT: true; the input reads as it did. -/
def marksBelowSpec : ChangeSpec := { name := "marksBelow", fn := fun _ => fun
  | [d1, d2] => { results := [.lit (.bool true)], args := [d1, d2] }
  | _ => none }
def marksBelowRow : OpenClaim := { program := "ytjfpddgldfaahaadoor", sum := "7e57c6a4c244549e6472f7fcda68928b5f4b32d64116d8c135d8b67746c129d2", func := "cadency/cadencylaw02.MarksBelow", spec := "marksBelow", unfollowed := true, recurses := true, named := ["math/bits.deBruijn64tab"], plainKeys := false, apart := false, laid := [("math/bits.deBruijn64tab", laid_math_bits_deBruijn64tab)] }
def MarksBelowSaid : Prop := marksBelowRow.holds Tryd.pinned (OpenSpec.ofChange marksBelowSpec)

/-- ITS FALSE NEIGHBOUR: 'it returns false'. Refute it at one input. -/
def marksBelowWrong : ChangeSpec := { name := "marksBelow", fn := fun _ => fun
  | [d1, d2] => { results := [.lit (.bool false)], args := [d1, d2] }
  | _ => none }
def MarksBelowWrongFalsely : Prop := marksBelowRow.holds Tryd.pinned (OpenSpec.ofChange marksBelowWrong)

/-- 'cadencylaw02.MarksSums': WHATEVER THE INPUT: true; the input reads as it did. -/
def marksSumsSpec : ChangeSpec := { name := "marksSums", fn := fun _ => fun
  | [d1, d2] => { results := [.lit (.bool true)], args := [d1, d2] }
  | _ => none }
def marksSumsRow : OpenClaim := { program := "ytjfpddgldfaahaadoor", sum := "7e57c6a4c244549e6472f7fcda68928b5f4b32d64116d8c135d8b67746c129d2", func := "cadency/cadencylaw02.MarksSums", spec := "marksSums", unfollowed := true, recurses := true, named := ["math/bits.deBruijn64tab"], plainKeys := false, apart := false, laid := [("math/bits.deBruijn64tab", laid_math_bits_deBruijn64tab)] }
def MarksSumsSaid : Prop := marksSumsRow.holds Tryd.pinned (OpenSpec.ofChange marksSumsSpec)

/-- ITS FALSE NEIGHBOUR: 'it returns false'. Refute it at one input. -/
def marksSumsWrong : ChangeSpec := { name := "marksSums", fn := fun _ => fun
  | [d1, d2] => { results := [.lit (.bool false)], args := [d1, d2] }
  | _ => none }
def MarksSumsWrongFalsely : Prop := marksSumsRow.holds Tryd.pinned (OpenSpec.ofChange marksSumsWrong)

/-- 'cadencylaw02.MarksPlays': WHATEVER THE INPUT: true; the input reads as it did. -/
def marksPlaysSpec : ChangeSpec := { name := "marksPlays", fn := fun _ => fun
  | [d] => { results := [.lit (.bool true)], args := [d] }
  | _ => none }
def marksPlaysRow : OpenClaim := { program := "ytjfpddgldfaahaadoor", sum := "7e57c6a4c244549e6472f7fcda68928b5f4b32d64116d8c135d8b67746c129d2", func := "cadency/cadencylaw02.MarksPlays", spec := "marksPlays", unfollowed := true, recurses := true, named := ["math/bits.deBruijn64tab"], plainKeys := false, apart := false, laid := [("math/bits.deBruijn64tab", laid_math_bits_deBruijn64tab)] }
def MarksPlaysSaid : Prop := marksPlaysRow.holds Tryd.pinned (OpenSpec.ofChange marksPlaysSpec)

/-- ITS FALSE NEIGHBOUR: 'it returns false'. Refute it at one input. -/
def marksPlaysWrong : ChangeSpec := { name := "marksPlays", fn := fun _ => fun
  | [d] => { results := [.lit (.bool false)], args := [d] }
  | _ => none }
def MarksPlaysWrongFalsely : Prop := marksPlaysRow.holds Tryd.pinned (OpenSpec.ofChange marksPlaysWrong)

/- THE SECOND FORM. 'bulk': how many values and letters a reading holds, each counted each time it is reached (what is shared counts as often as it is met; a slice's spare places count too). A statement '..UptoSaid' is the law's where the arguments, and the package variables that the reading takes, are together of bulk at most 1048576: NARROWER than '..Said'. Prove '..Said' where nothing that the law and all that it calls make is longer than what came in: it says more and counts as full. Else prove '..UptoSaid'. A law counts once. -/
mutual
def uptoBulk {H : Type} : DataW H → Nat
  | .lit (.string bytes) => bytes.length + 1
  | .lit _ => 1
  | .nil => 1
  | .ptr d => uptoBulk d + 1
  | .slice elems spare => uptoBulkAll elems + uptoBulkAll spare + 1
  | .agg parts => uptoBulkAll parts + 1
  | .iface _ d => uptoBulk d + 1
  | .map entries => uptoBulkEntries entries + 1
  | .held _ => 1
def uptoBulkAll {H : Type} : List (DataW H) → Nat
  | [] => 0
  | d :: r => uptoBulk d + uptoBulkAll r
def uptoBulkEntries {H : Type} : List (Lit × DataW H) → Nat
  | [] => 0
  | x :: r => uptoBulkEntry x + uptoBulkEntries r
def uptoBulkEntry {H : Type} : Lit × DataW H → Nat
  | (.string bytes, d) => bytes.length + uptoBulk d + 1
  | (_, d) => uptoBulk d + 1
 end
def uptoSmall : (H : Type) → List (DataW H) → Bool := fun _ ds => decide (uptoBulkAll ds ≤ 1048576)
def OpenSpec.upto (s : _root_.Go.ChangeSpec) : _root_.Go.OpenSpec := { _root_.Go.OpenSpec.ofChange s with cond := some uptoSmall }

/-- 'cadencylaw02.MarksSame', WHERE WHAT IT READS IS OF BULK AT MOST 1048576: true; the input reads as it did. -/
def marksSameUptoRow : OpenClaim := { program := "ytjfpddgldfaahaadoor", sum := "7e57c6a4c244549e6472f7fcda68928b5f4b32d64116d8c135d8b67746c129d2", func := "cadency/cadencylaw02.MarksSame", spec := "marksSame", unfollowed := true, recurses := true, named := ["math/bits.deBruijn64tab"], plainKeys := false, apart := false, laid := [("math/bits.deBruijn64tab", laid_math_bits_deBruijn64tab)], narrowed := true }
def MarksSameUptoSaid : Prop := marksSameUptoRow.holds Tryd.pinned (OpenSpec.upto marksSameSpec)

/-- 'cadencylaw02.MarksStops', WHERE WHAT IT READS IS OF BULK AT MOST 1048576: true; the input reads as it did. -/
def marksStopsUptoRow : OpenClaim := { program := "ytjfpddgldfaahaadoor", sum := "7e57c6a4c244549e6472f7fcda68928b5f4b32d64116d8c135d8b67746c129d2", func := "cadency/cadencylaw02.MarksStops", spec := "marksStops", unfollowed := true, recurses := true, named := ["math/bits.deBruijn64tab"], plainKeys := false, apart := false, laid := [("math/bits.deBruijn64tab", laid_math_bits_deBruijn64tab)], narrowed := true }
def MarksStopsUptoSaid : Prop := marksStopsUptoRow.holds Tryd.pinned (OpenSpec.upto marksStopsSpec)

/-- 'cadencylaw02.MarksTells', WHERE WHAT IT READS IS OF BULK AT MOST 1048576: true; the input reads as it did. -/
def marksTellsUptoRow : OpenClaim := { program := "ytjfpddgldfaahaadoor", sum := "7e57c6a4c244549e6472f7fcda68928b5f4b32d64116d8c135d8b67746c129d2", func := "cadency/cadencylaw02.MarksTells", spec := "marksTells", unfollowed := true, recurses := true, named := ["math/bits.deBruijn64tab"], plainKeys := false, apart := false, laid := [("math/bits.deBruijn64tab", laid_math_bits_deBruijn64tab)], narrowed := true }
def MarksTellsUptoSaid : Prop := marksTellsUptoRow.holds Tryd.pinned (OpenSpec.upto marksTellsSpec)

/-- 'cadencylaw02.MarksBelow', WHERE WHAT IT READS IS OF BULK AT MOST 1048576: true; the input reads as it did. -/
def marksBelowUptoRow : OpenClaim := { program := "ytjfpddgldfaahaadoor", sum := "7e57c6a4c244549e6472f7fcda68928b5f4b32d64116d8c135d8b67746c129d2", func := "cadency/cadencylaw02.MarksBelow", spec := "marksBelow", unfollowed := true, recurses := true, named := ["math/bits.deBruijn64tab"], plainKeys := false, apart := false, laid := [("math/bits.deBruijn64tab", laid_math_bits_deBruijn64tab)], narrowed := true }
def MarksBelowUptoSaid : Prop := marksBelowUptoRow.holds Tryd.pinned (OpenSpec.upto marksBelowSpec)

/-- 'cadencylaw02.MarksSums', WHERE WHAT IT READS IS OF BULK AT MOST 1048576: true; the input reads as it did. -/
def marksSumsUptoRow : OpenClaim := { program := "ytjfpddgldfaahaadoor", sum := "7e57c6a4c244549e6472f7fcda68928b5f4b32d64116d8c135d8b67746c129d2", func := "cadency/cadencylaw02.MarksSums", spec := "marksSums", unfollowed := true, recurses := true, named := ["math/bits.deBruijn64tab"], plainKeys := false, apart := false, laid := [("math/bits.deBruijn64tab", laid_math_bits_deBruijn64tab)], narrowed := true }
def MarksSumsUptoSaid : Prop := marksSumsUptoRow.holds Tryd.pinned (OpenSpec.upto marksSumsSpec)

/-- 'cadencylaw02.MarksPlays', WHERE WHAT IT READS IS OF BULK AT MOST 1048576: true; the input reads as it did. -/
def marksPlaysUptoRow : OpenClaim := { program := "ytjfpddgldfaahaadoor", sum := "7e57c6a4c244549e6472f7fcda68928b5f4b32d64116d8c135d8b67746c129d2", func := "cadency/cadencylaw02.MarksPlays", spec := "marksPlays", unfollowed := true, recurses := true, named := ["math/bits.deBruijn64tab"], plainKeys := false, apart := false, laid := [("math/bits.deBruijn64tab", laid_math_bits_deBruijn64tab)], narrowed := true }
def MarksPlaysUptoSaid : Prop := marksPlaysUptoRow.holds Tryd.pinned (OpenSpec.upto marksPlaysSpec)

end Rows
end Go.Proofs.YtjfpddgldfaahaaDoor
