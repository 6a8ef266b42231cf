/-
  No cell of these rows narrows 'for every input' (looked for: loops, veiled, ifaces, maps, wideKeys, modest, calm, conditions, laid).
  DERIVED. THE GIVEN ROWS OF THIS SEAT. 5 by the template 'for every input the law returns true; each argument reads behind the call as it read before'; 0 by the template 'total and deterministic' (their statements: YtkgajiddcljdjaaTotals.lean).
  GIVEN WITH THE SEED: the statements are not yours to turn. If you find one false, say at which input.
  Laid BY PROGRAM, IN A SANDBOX (cutbox-rows.mjs): the forced cells as the released guide's own fill.sh prints them over the translation 359ae0b792a6fe25… (all of the seat's roots in one cut). By AI agents, Wed Nov 11 2026. No macro, syntax, notation, axiom, sorry.
-/
import Derived.Test.YtkgajiddcljdjaaChecked
import GoSem.Claim
import GoSem.ClaimJoined
import GoSem.ClaimMapViews
import Derived.JoinedTies
import Derived.KernelRfl
namespace Go.Proofs.Ytkgajiddcljdjaa
/- THE CELL 'sum', in the pinned program and in every row, IS THE sha256 OF THE DUMP (.gsa) THAT YtkgajiddcljdjaaProg.lean LOADS. Nothing in Lean hashes anything: it is a label: what it is worth is what the hold of that sum in a sandbox is worth. -/
noncomputable def Try.pinned : Pinned := { name := "ytkgajiddcljdjaa", sum := "359ae0b792a6fe25610830741ce4cd679967d7697cde1f9d5b53359f4d2ecad0", checked := Try.checked }
namespace Rows
def none {H : Type} : Left H := { results := [], args := [] }

/-- 'cadencylaw18.OrderBack': WHATEVER THE INPUT: true; the input reads as it did. -/
def orderBackSpec : ChangeSpec := { name := "orderBack", fn := fun _ => fun
  | [d1, d2, d3] => { results := [.lit (.bool true)], args := [d1, d2, d3] }
  | _ => none }
def orderBackRow : OpenClaim := { program := "ytkgajiddcljdjaa", sum := "359ae0b792a6fe25610830741ce4cd679967d7697cde1f9d5b53359f4d2ecad0", func := "cadency/cadencylaw18.OrderBack", spec := "orderBack", apart := false }
def OrderBackSaid : Prop := orderBackRow.holds Try.pinned (OpenSpec.ofChange orderBackSpec)

/-- ITS FALSE NEIGHBOUR: 'it returns false'. Refute it at one input. -/
def orderBackWrong : ChangeSpec := { name := "orderBack", fn := fun _ => fun
  | [d1, d2, d3] => { results := [.lit (.bool false)], args := [d1, d2, d3] }
  | _ => none }
def OrderBackWrongFalsely : Prop := orderBackRow.holds Try.pinned (OpenSpec.ofChange orderBackWrong)

/-- 'cadencylaw18.OrderTells': WHATEVER THE INPUT: true; the input reads as it did. -/
def orderTellsSpec : ChangeSpec := { name := "orderTells", fn := fun _ => fun
  | [d1, d2] => { results := [.lit (.bool true)], args := [d1, d2] }
  | _ => none }
def orderTellsRow : OpenClaim := { program := "ytkgajiddcljdjaa", sum := "359ae0b792a6fe25610830741ce4cd679967d7697cde1f9d5b53359f4d2ecad0", func := "cadency/cadencylaw18.OrderTells", spec := "orderTells", apart := false }
def OrderTellsSaid : Prop := orderTellsRow.holds Try.pinned (OpenSpec.ofChange orderTellsSpec)

/-- ITS FALSE NEIGHBOUR: 'it returns false'. Refute it at one input. -/
def orderTellsWrong : ChangeSpec := { name := "orderTells", fn := fun _ => fun
  | [d1, d2] => { results := [.lit (.bool false)], args := [d1, d2] }
  | _ => none }
def OrderTellsWrongFalsely : Prop := orderTellsRow.holds Try.pinned (OpenSpec.ofChange orderTellsWrong)

/-- 'cadencylaw18.OrderSwaps': WHATEVER THE INPUT: true; the input reads as it did. -/
def orderSwapsSpec : ChangeSpec := { name := "orderSwaps", fn := fun _ => fun
  | [d1, d2, d3] => { results := [.lit (.bool true)], args := [d1, d2, d3] }
  | _ => none }
def orderSwapsRow : OpenClaim := { program := "ytkgajiddcljdjaa", sum := "359ae0b792a6fe25610830741ce4cd679967d7697cde1f9d5b53359f4d2ecad0", func := "cadency/cadencylaw18.OrderSwaps", spec := "orderSwaps", apart := false }
def OrderSwapsSaid : Prop := orderSwapsRow.holds Try.pinned (OpenSpec.ofChange orderSwapsSpec)

/-- ITS FALSE NEIGHBOUR: 'it returns false'. Refute it at one input. -/
def orderSwapsWrong : ChangeSpec := { name := "orderSwaps", fn := fun _ => fun
  | [d1, d2, d3] => { results := [.lit (.bool false)], args := [d1, d2, d3] }
  | _ => none }
def OrderSwapsWrongFalsely : Prop := orderSwapsRow.holds Try.pinned (OpenSpec.ofChange orderSwapsWrong)

/-- 'cadencylaw18.OrderAll': WHATEVER THE INPUT: true; the input reads as it did. -/
def orderAllSpec : ChangeSpec := { name := "orderAll", fn := fun _ => fun
  | [d1, d2] => { results := [.lit (.bool true)], args := [d1, d2] }
  | _ => none }
def orderAllRow : OpenClaim := { program := "ytkgajiddcljdjaa", sum := "359ae0b792a6fe25610830741ce4cd679967d7697cde1f9d5b53359f4d2ecad0", func := "cadency/cadencylaw18.OrderAll", spec := "orderAll", unfollowed := true, recurses := true, apart := false }
def OrderAllSaid : Prop := orderAllRow.holds Try.pinned (OpenSpec.ofChange orderAllSpec)

/-- ITS FALSE NEIGHBOUR: 'it returns false'. Refute it at one input. -/
def orderAllWrong : ChangeSpec := { name := "orderAll", fn := fun _ => fun
  | [d1, d2] => { results := [.lit (.bool false)], args := [d1, d2] }
  | _ => none }
def OrderAllWrongFalsely : Prop := orderAllRow.holds Try.pinned (OpenSpec.ofChange orderAllWrong)

/-- 'cadencylaw18.OrderApplies': WHATEVER THE INPUT: true; the input reads as it did. -/
def orderAppliesSpec : ChangeSpec := { name := "orderApplies", fn := fun _ => fun
  | [d1, d2, d3] => { results := [.lit (.bool true)], args := [d1, d2, d3] }
  | _ => none }
def orderAppliesRow : OpenClaim := { program := "ytkgajiddcljdjaa", sum := "359ae0b792a6fe25610830741ce4cd679967d7697cde1f9d5b53359f4d2ecad0", func := "cadency/cadencylaw18.OrderApplies", spec := "orderApplies", unfollowed := true, recurses := true, apart := false }
def OrderAppliesSaid : Prop := orderAppliesRow.holds Try.pinned (OpenSpec.ofChange orderAppliesSpec)

/-- ITS FALSE NEIGHBOUR: 'it returns false'. Refute it at one input. -/
def orderAppliesWrong : ChangeSpec := { name := "orderApplies", fn := fun _ => fun
  | [d1, d2, d3] => { results := [.lit (.bool false)], args := [d1, d2, d3] }
  | _ => none }
def OrderAppliesWrongFalsely : Prop := orderAppliesRow.holds Try.pinned (OpenSpec.ofChange orderAppliesWrong)

/- THE SECOND FORM. 'bulk': how many values and letters a reading holds, each counted each time it is reached (what is shared counts as often as it is met; a slice's spare places count too). A statement '..UptoSaid' is the law's where the arguments, and the package variables that the reading takes, are together of bulk at most 1048576: NARROWER than '..Said'. Prove '..Said' where nothing that the law and all that it calls make is longer than what came in: it says more and counts as full. Else prove '..UptoSaid'. A law counts once. -/
mutual
def uptoBulk {H : Type} : DataW H → Nat
  | .lit (.string bytes) => bytes.length + 1
  | .lit _ => 1
  | .nil => 1
  | .ptr d => uptoBulk d + 1
  | .slice elems spare => uptoBulkAll elems + uptoBulkAll spare + 1
  | .agg parts => uptoBulkAll parts + 1
  | .iface _ d => uptoBulk d + 1
  | .map entries => uptoBulkEntries entries + 1
  | .held _ => 1
def uptoBulkAll {H : Type} : List (DataW H) → Nat
  | [] => 0
  | d :: r => uptoBulk d + uptoBulkAll r
def uptoBulkEntries {H : Type} : List (Lit × DataW H) → Nat
  | [] => 0
  | x :: r => uptoBulkEntry x + uptoBulkEntries r
def uptoBulkEntry {H : Type} : Lit × DataW H → Nat
  | (.string bytes, d) => bytes.length + uptoBulk d + 1
  | (_, d) => uptoBulk d + 1
 end
def uptoSmall : (H : Type) → List (DataW H) → Bool := fun _ ds => decide (uptoBulkAll ds ≤ 1048576)
def OpenSpec.upto (s : _root_.Go.ChangeSpec) : _root_.Go.OpenSpec := { _root_.Go.OpenSpec.ofChange s with cond := some uptoSmall }

/-- 'cadencylaw18.OrderBack', WHERE WHAT IT READS IS OF BULK AT MOST 1048576: true; the input reads as it did. -/
def orderBackUptoRow : OpenClaim := { program := "ytkgajiddcljdjaa", sum := "359ae0b792a6fe25610830741ce4cd679967d7697cde1f9d5b53359f4d2ecad0", func := "cadency/cadencylaw18.OrderBack", spec := "orderBack", apart := false, narrowed := true }
def OrderBackUptoSaid : Prop := orderBackUptoRow.holds Try.pinned (OpenSpec.upto orderBackSpec)

/-- 'cadencylaw18.OrderTells', WHERE WHAT IT READS IS OF BULK AT MOST 1048576: true; the input reads as it did. -/
def orderTellsUptoRow : OpenClaim := { program := "ytkgajiddcljdjaa", sum := "359ae0b792a6fe25610830741ce4cd679967d7697cde1f9d5b53359f4d2ecad0", func := "cadency/cadencylaw18.OrderTells", spec := "orderTells", apart := false, narrowed := true }
def OrderTellsUptoSaid : Prop := orderTellsUptoRow.holds Try.pinned (OpenSpec.upto orderTellsSpec)

/-- 'cadencylaw18.OrderSwaps', WHERE WHAT IT READS IS OF BULK AT MOST 1048576: true; the input reads as it did. -/
def orderSwapsUptoRow : OpenClaim := { program := "ytkgajiddcljdjaa", sum := "359ae0b792a6fe25610830741ce4cd679967d7697cde1f9d5b53359f4d2ecad0", func := "cadency/cadencylaw18.OrderSwaps", spec := "orderSwaps", apart := false, narrowed := true }
def OrderSwapsUptoSaid : Prop := orderSwapsUptoRow.holds Try.pinned (OpenSpec.upto orderSwapsSpec)

/-- 'cadencylaw18.OrderAll', WHERE WHAT IT READS IS OF BULK AT MOST 1048576: true; the input reads as it did. -/
def orderAllUptoRow : OpenClaim := { program := "ytkgajiddcljdjaa", sum := "359ae0b792a6fe25610830741ce4cd679967d7697cde1f9d5b53359f4d2ecad0", func := "cadency/cadencylaw18.OrderAll", spec := "orderAll", unfollowed := true, recurses := true, apart := false, narrowed := true }
def OrderAllUptoSaid : Prop := orderAllUptoRow.holds Try.pinned (OpenSpec.upto orderAllSpec)

/-- 'cadencylaw18.OrderApplies', WHERE WHAT IT READS IS OF BULK AT MOST 1048576: true; the input reads as it did. -/
def orderAppliesUptoRow : OpenClaim := { program := "ytkgajiddcljdjaa", sum := "359ae0b792a6fe25610830741ce4cd679967d7697cde1f9d5b53359f4d2ecad0", func := "cadency/cadencylaw18.OrderApplies", spec := "orderApplies", unfollowed := true, recurses := true, apart := false, narrowed := true }
def OrderAppliesUptoSaid : Prop := orderAppliesUptoRow.holds Try.pinned (OpenSpec.upto orderAppliesSpec)

end Rows
end Go.Proofs.Ytkgajiddcljdjaa
