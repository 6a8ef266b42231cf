/-
  NARROWER THAN 'FOR EVERY INPUT', by the rows' own cells (each row's printed sentence says how): LoadCompares: laid · LoadAdds: laid · LoadOrder: laid · LoadPeriod: laid · LoadScales: laid · LoadSums: laid.
  DERIVED. THE GIVEN ROWS OF THIS SEAT. 6 by the template 'for every input the law returns true; each argument reads behind the call as it read before'; 0 by the template 'total and deterministic' (their statements: YtjpmbklfaoejmaaDoorTotals.lean).
  GIVEN WITH THE SEED: the statements are not yours to turn. If you find one false, say at which input.
  Laid BY PROGRAM, IN A SANDBOX (cutbox-rows.mjs): the forced cells as the released guide's own fill.sh prints them over the translation bb7de8b952c51f33… (all of the seat's roots in one cut). By AI agents, Wed Nov 11 2026. No macro, syntax, notation, axiom, sorry.
-/
import Derived.Test.YtjpmbklfaoejmaaDoorChecked
import GoSem.Claim
import GoSem.ClaimJoined
import GoSem.ClaimMapViews
import Derived.JoinedTies
import Derived.KernelRfl
namespace Go.Proofs.YtjpmbklfaoejmaaDoor
/- THE CELL 'sum', in the pinned program and in every row, IS THE sha256 OF THE DUMP (.gsa) THAT YtjpmbklfaoejmaaDoorProg.lean LOADS. Nothing in Lean hashes anything: it is a label: what it is worth is what the hold of that sum in a sandbox is worth. -/
noncomputable def Tryd.pinned : Pinned := { name := "ytjpmbklfaoejmaadoor", sum := "bb7de8b952c51f33e4006916e91dbae9377f29280b2c261778082d3484017896", checked := Tryd.checked }
namespace Rows
def none {H : Type} : Left H := { results := [], args := [] }

/- WHAT THE LISTED PACKAGE-LEVEL VARIABLES READ AS WHEN THE CALL BEGINS. Each datum BY PROGRAM (the guide's laid-datum.mjs) off the statement by which the dump's own 'gosem.cut.vars' lays the variable. In a bare row this is a premise. The card (YtjpmbklfaoejmaaDoorCards.lean) ties it to the program's text. -/
def laid_cadency_load_none {H : Type} : DataW H := .agg [.lit (.int .u64 0), .lit (.int .u64 0)]
def laid_cadency_load_nothing {H : Type} : DataW H := .agg [.lit (.int .u64 0), .lit (.int .u64 1)]

/-- 'cadencylaw12.LoadCompares': WHATEVER THE INPUT: true; the input reads as it did. -/
def loadComparesSpec : ChangeSpec := { name := "loadCompares", fn := fun _ => fun
  | [d1, d2, d3] => { results := [.lit (.bool true)], args := [d1, d2, d3] }
  | _ => none }
def loadComparesRow : OpenClaim := { program := "ytjpmbklfaoejmaadoor", sum := "bb7de8b952c51f33e4006916e91dbae9377f29280b2c261778082d3484017896", func := "cadency/cadencylaw12.LoadCompares", spec := "loadCompares", inPlace := ["math/bits.Add64"], unfollowed := true, recurses := true, named := ["cadency/load.none", "cadency/load.nothing"], apart := false, laid := [("cadency/load.none", laid_cadency_load_none), ("cadency/load.nothing", laid_cadency_load_nothing)] }
def LoadComparesSaid : Prop := loadComparesRow.holds Tryd.pinned (OpenSpec.ofChange loadComparesSpec)

/-- ITS FALSE NEIGHBOUR: 'it returns false'. Refute it at one input. -/
def loadComparesWrong : ChangeSpec := { name := "loadCompares", fn := fun _ => fun
  | [d1, d2, d3] => { results := [.lit (.bool false)], args := [d1, d2, d3] }
  | _ => none }
def LoadComparesWrongFalsely : Prop := loadComparesRow.holds Tryd.pinned (OpenSpec.ofChange loadComparesWrong)

/-- 'cadencylaw12.LoadAdds': WHATEVER THE INPUT: true; the input reads as it did. -/
def loadAddsSpec : ChangeSpec := { name := "loadAdds", fn := fun _ => fun
  | [d1, d2] => { results := [.lit (.bool true)], args := [d1, d2] }
  | _ => none }
def loadAddsRow : OpenClaim := { program := "ytjpmbklfaoejmaadoor", sum := "bb7de8b952c51f33e4006916e91dbae9377f29280b2c261778082d3484017896", func := "cadency/cadencylaw12.LoadAdds", spec := "loadAdds", inPlace := ["math/bits.Add64"], unfollowed := true, recurses := true, named := ["cadency/load.none", "cadency/load.nothing"], apart := false, laid := [("cadency/load.none", laid_cadency_load_none), ("cadency/load.nothing", laid_cadency_load_nothing)] }
def LoadAddsSaid : Prop := loadAddsRow.holds Tryd.pinned (OpenSpec.ofChange loadAddsSpec)

/-- ITS FALSE NEIGHBOUR: 'it returns false'. Refute it at one input. -/
def loadAddsWrong : ChangeSpec := { name := "loadAdds", fn := fun _ => fun
  | [d1, d2] => { results := [.lit (.bool false)], args := [d1, d2] }
  | _ => none }
def LoadAddsWrongFalsely : Prop := loadAddsRow.holds Tryd.pinned (OpenSpec.ofChange loadAddsWrong)

/-- 'cadencylaw12.LoadOrder': WHATEVER THE INPUT: true; the input reads as it did. -/
def loadOrderSpec : ChangeSpec := { name := "loadOrder", fn := fun _ => fun
  | [d1, d2] => { results := [.lit (.bool true)], args := [d1, d2] }
  | _ => none }
def loadOrderRow : OpenClaim := { program := "ytjpmbklfaoejmaadoor", sum := "bb7de8b952c51f33e4006916e91dbae9377f29280b2c261778082d3484017896", func := "cadency/cadencylaw12.LoadOrder", spec := "loadOrder", inPlace := ["math/bits.Add64"], unfollowed := true, recurses := true, named := ["cadency/load.none", "cadency/load.nothing"], apart := false, laid := [("cadency/load.none", laid_cadency_load_none), ("cadency/load.nothing", laid_cadency_load_nothing)] }
def LoadOrderSaid : Prop := loadOrderRow.holds Tryd.pinned (OpenSpec.ofChange loadOrderSpec)

/-- ITS FALSE NEIGHBOUR: 'it returns false'. Refute it at one input. -/
def loadOrderWrong : ChangeSpec := { name := "loadOrder", fn := fun _ => fun
  | [d1, d2] => { results := [.lit (.bool false)], args := [d1, d2] }
  | _ => none }
def LoadOrderWrongFalsely : Prop := loadOrderRow.holds Tryd.pinned (OpenSpec.ofChange loadOrderWrong)

/-- 'cadencylaw12.LoadPeriod': WHATEVER THE INPUT: true; the input reads as it did. -/
def loadPeriodSpec : ChangeSpec := { name := "loadPeriod", fn := fun _ => fun
  | [d1, d2] => { results := [.lit (.bool true)], args := [d1, d2] }
  | _ => none }
def loadPeriodRow : OpenClaim := { program := "ytjpmbklfaoejmaadoor", sum := "bb7de8b952c51f33e4006916e91dbae9377f29280b2c261778082d3484017896", func := "cadency/cadencylaw12.LoadPeriod", spec := "loadPeriod", inPlace := ["math/bits.Add64"], unfollowed := true, recurses := true, named := ["cadency/load.none", "cadency/load.nothing"], apart := false, laid := [("cadency/load.none", laid_cadency_load_none), ("cadency/load.nothing", laid_cadency_load_nothing)] }
def LoadPeriodSaid : Prop := loadPeriodRow.holds Tryd.pinned (OpenSpec.ofChange loadPeriodSpec)

/-- ITS FALSE NEIGHBOUR: 'it returns false'. Refute it at one input. -/
def loadPeriodWrong : ChangeSpec := { name := "loadPeriod", fn := fun _ => fun
  | [d1, d2] => { results := [.lit (.bool false)], args := [d1, d2] }
  | _ => none }
def LoadPeriodWrongFalsely : Prop := loadPeriodRow.holds Tryd.pinned (OpenSpec.ofChange loadPeriodWrong)

/-- 'cadencylaw12.LoadScales': WHATEVER THE INPUT: true; the input reads as it did. -/
def loadScalesSpec : ChangeSpec := { name := "loadScales", fn := fun _ => fun
  | [d1, d2, d3] => { results := [.lit (.bool true)], args := [d1, d2, d3] }
  | _ => none }
def loadScalesRow : OpenClaim := { program := "ytjpmbklfaoejmaadoor", sum := "bb7de8b952c51f33e4006916e91dbae9377f29280b2c261778082d3484017896", func := "cadency/cadencylaw12.LoadScales", spec := "loadScales", inPlace := ["math/bits.Add64"], unfollowed := true, recurses := true, named := ["cadency/load.none", "cadency/load.nothing"], apart := false, laid := [("cadency/load.none", laid_cadency_load_none), ("cadency/load.nothing", laid_cadency_load_nothing)] }
def LoadScalesSaid : Prop := loadScalesRow.holds Tryd.pinned (OpenSpec.ofChange loadScalesSpec)

/-- ITS FALSE NEIGHBOUR: 'it returns false'. Refute it at one input. -/
def loadScalesWrong : ChangeSpec := { name := "loadScales", fn := fun _ => fun
  | [d1, d2, d3] => { results := [.lit (.bool false)], args := [d1, d2, d3] }
  | _ => none }
def LoadScalesWrongFalsely : Prop := loadScalesRow.holds Tryd.pinned (OpenSpec.ofChange loadScalesWrong)

/-- 'cadencylaw12.LoadSums': WHATEVER THE INPUT: true; the input reads as it did. -/
def loadSumsSpec : ChangeSpec := { name := "loadSums", fn := fun _ => fun
  | [d1, d2, d3] => { results := [.lit (.bool true)], args := [d1, d2, d3] }
  | _ => none }
def loadSumsRow : OpenClaim := { program := "ytjpmbklfaoejmaadoor", sum := "bb7de8b952c51f33e4006916e91dbae9377f29280b2c261778082d3484017896", func := "cadency/cadencylaw12.LoadSums", spec := "loadSums", inPlace := ["math/bits.Add64"], unfollowed := true, recurses := true, named := ["cadency/load.none", "cadency/load.nothing"], apart := false, laid := [("cadency/load.none", laid_cadency_load_none), ("cadency/load.nothing", laid_cadency_load_nothing)] }
def LoadSumsSaid : Prop := loadSumsRow.holds Tryd.pinned (OpenSpec.ofChange loadSumsSpec)

/-- ITS FALSE NEIGHBOUR: 'it returns false'. Refute it at one input. -/
def loadSumsWrong : ChangeSpec := { name := "loadSums", fn := fun _ => fun
  | [d1, d2, d3] => { results := [.lit (.bool false)], args := [d1, d2, d3] }
  | _ => none }
def LoadSumsWrongFalsely : Prop := loadSumsRow.holds Tryd.pinned (OpenSpec.ofChange loadSumsWrong)

/- THE SECOND FORM. 'bulk': how many values and letters a reading holds, each counted each time it is reached (what is shared counts as often as it is met; a slice's spare places count too). A statement '..UptoSaid' is the law's where the arguments, and the package variables that the reading takes, are together of bulk at most 1048576: NARROWER than '..Said'. Prove '..Said' where nothing that the law and all that it calls make is longer than what came in: it says more and counts as full. Else prove '..UptoSaid'. A law counts once. -/
mutual
def uptoBulk {H : Type} : DataW H → Nat
  | .lit (.string bytes) => bytes.length + 1
  | .lit _ => 1
  | .nil => 1
  | .ptr d => uptoBulk d + 1
  | .slice elems spare => uptoBulkAll elems + uptoBulkAll spare + 1
  | .agg parts => uptoBulkAll parts + 1
  | .iface _ d => uptoBulk d + 1
  | .map entries => uptoBulkEntries entries + 1
  | .held _ => 1
def uptoBulkAll {H : Type} : List (DataW H) → Nat
  | [] => 0
  | d :: r => uptoBulk d + uptoBulkAll r
def uptoBulkEntries {H : Type} : List (Lit × DataW H) → Nat
  | [] => 0
  | x :: r => uptoBulkEntry x + uptoBulkEntries r
def uptoBulkEntry {H : Type} : Lit × DataW H → Nat
  | (.string bytes, d) => bytes.length + uptoBulk d + 1
  | (_, d) => uptoBulk d + 1
 end
def uptoSmall : (H : Type) → List (DataW H) → Bool := fun _ ds => decide (uptoBulkAll ds ≤ 1048576)
def OpenSpec.upto (s : _root_.Go.ChangeSpec) : _root_.Go.OpenSpec := { _root_.Go.OpenSpec.ofChange s with cond := some uptoSmall }

/-- 'cadencylaw12.LoadCompares', WHERE WHAT IT READS IS OF BULK AT MOST 1048576: true; the input reads as it did. -/
def loadComparesUptoRow : OpenClaim := { program := "ytjpmbklfaoejmaadoor", sum := "bb7de8b952c51f33e4006916e91dbae9377f29280b2c261778082d3484017896", func := "cadency/cadencylaw12.LoadCompares", spec := "loadCompares", inPlace := ["math/bits.Add64"], unfollowed := true, recurses := true, named := ["cadency/load.none", "cadency/load.nothing"], apart := false, laid := [("cadency/load.none", laid_cadency_load_none), ("cadency/load.nothing", laid_cadency_load_nothing)], narrowed := true }
def LoadComparesUptoSaid : Prop := loadComparesUptoRow.holds Tryd.pinned (OpenSpec.upto loadComparesSpec)

/-- 'cadencylaw12.LoadAdds', WHERE WHAT IT READS IS OF BULK AT MOST 1048576: true; the input reads as it did. -/
def loadAddsUptoRow : OpenClaim := { program := "ytjpmbklfaoejmaadoor", sum := "bb7de8b952c51f33e4006916e91dbae9377f29280b2c261778082d3484017896", func := "cadency/cadencylaw12.LoadAdds", spec := "loadAdds", inPlace := ["math/bits.Add64"], unfollowed := true, recurses := true, named := ["cadency/load.none", "cadency/load.nothing"], apart := false, laid := [("cadency/load.none", laid_cadency_load_none), ("cadency/load.nothing", laid_cadency_load_nothing)], narrowed := true }
def LoadAddsUptoSaid : Prop := loadAddsUptoRow.holds Tryd.pinned (OpenSpec.upto loadAddsSpec)

/-- 'cadencylaw12.LoadOrder', WHERE WHAT IT READS IS OF BULK AT MOST 1048576: true; the input reads as it did. -/
def loadOrderUptoRow : OpenClaim := { program := "ytjpmbklfaoejmaadoor", sum := "bb7de8b952c51f33e4006916e91dbae9377f29280b2c261778082d3484017896", func := "cadency/cadencylaw12.LoadOrder", spec := "loadOrder", inPlace := ["math/bits.Add64"], unfollowed := true, recurses := true, named := ["cadency/load.none", "cadency/load.nothing"], apart := false, laid := [("cadency/load.none", laid_cadency_load_none), ("cadency/load.nothing", laid_cadency_load_nothing)], narrowed := true }
def LoadOrderUptoSaid : Prop := loadOrderUptoRow.holds Tryd.pinned (OpenSpec.upto loadOrderSpec)

/-- 'cadencylaw12.LoadPeriod', WHERE WHAT IT READS IS OF BULK AT MOST 1048576: true; the input reads as it did. -/
def loadPeriodUptoRow : OpenClaim := { program := "ytjpmbklfaoejmaadoor", sum := "bb7de8b952c51f33e4006916e91dbae9377f29280b2c261778082d3484017896", func := "cadency/cadencylaw12.LoadPeriod", spec := "loadPeriod", inPlace := ["math/bits.Add64"], unfollowed := true, recurses := true, named := ["cadency/load.none", "cadency/load.nothing"], apart := false, laid := [("cadency/load.none", laid_cadency_load_none), ("cadency/load.nothing", laid_cadency_load_nothing)], narrowed := true }
def LoadPeriodUptoSaid : Prop := loadPeriodUptoRow.holds Tryd.pinned (OpenSpec.upto loadPeriodSpec)

/-- 'cadencylaw12.LoadScales', WHERE WHAT IT READS IS OF BULK AT MOST 1048576: true; the input reads as it did. -/
def loadScalesUptoRow : OpenClaim := { program := "ytjpmbklfaoejmaadoor", sum := "bb7de8b952c51f33e4006916e91dbae9377f29280b2c261778082d3484017896", func := "cadency/cadencylaw12.LoadScales", spec := "loadScales", inPlace := ["math/bits.Add64"], unfollowed := true, recurses := true, named := ["cadency/load.none", "cadency/load.nothing"], apart := false, laid := [("cadency/load.none", laid_cadency_load_none), ("cadency/load.nothing", laid_cadency_load_nothing)], narrowed := true }
def LoadScalesUptoSaid : Prop := loadScalesUptoRow.holds Tryd.pinned (OpenSpec.upto loadScalesSpec)

/-- 'cadencylaw12.LoadSums', WHERE WHAT IT READS IS OF BULK AT MOST 1048576: true; the input reads as it did. -/
def loadSumsUptoRow : OpenClaim := { program := "ytjpmbklfaoejmaadoor", sum := "bb7de8b952c51f33e4006916e91dbae9377f29280b2c261778082d3484017896", func := "cadency/cadencylaw12.LoadSums", spec := "loadSums", inPlace := ["math/bits.Add64"], unfollowed := true, recurses := true, named := ["cadency/load.none", "cadency/load.nothing"], apart := false, laid := [("cadency/load.none", laid_cadency_load_none), ("cadency/load.nothing", laid_cadency_load_nothing)], narrowed := true }
def LoadSumsUptoSaid : Prop := loadSumsUptoRow.holds Tryd.pinned (OpenSpec.upto loadSumsSpec)

end Rows
end Go.Proofs.YtjpmbklfaoejmaaDoor
