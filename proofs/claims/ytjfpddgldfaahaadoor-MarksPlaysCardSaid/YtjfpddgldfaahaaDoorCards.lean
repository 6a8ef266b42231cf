/-
  DERIVED. GIVEN WITH THE SEED: THE CARDS: each row of YtjfpddgldfaahaaDoorRows.lean that lists a variable, with what it lists TIED to the program's text (the seventh form; the later family's looks); each row that meets fmt, with fmt's text TOLD by the authors' own Lean function (tested against real Go, not proved from fmt's source: count such statements apart). THE CARD IS WHAT COUNTS. Prove the row's statement (the work); the ties are given (YtjfpddgldfaahaaDoorTie.lean); close each card by the builder's one call (the guide's Derived/Test/ToyasCard.lean, 'card_holds'). Laid BY PROGRAM, IN A SANDBOX (cutbox-door.mjs). By AI agents, Wed Nov 11 2026. No macro, syntax, notation, axiom, sorry.
-/
import Derived.Test.YtjfpddgldfaahaaDoorRows
import GoSem.ClaimSeven
namespace Go.Proofs.YtjfpddgldfaahaaDoor
namespace Rows

/-- THE TIED CARD OF 'cadencylaw02.MarksSame'. -/
def marksSameCard : Claim7 := { stood := { row := marksSameRow, standIns := [], harness := (true, "9fb05d64485680f7616c38ce32831af1dce9c4f781b967805765b8d52425f60d"), looks := false }, kinds := [], alts := [], laidByText := true, laidKinds := [.data], laidTests := true, laidLooks := .later }
def MarksSameCardSaid : Prop := Claim7.holds Tryd.pinned (.plain (OpenSpec.ofChange marksSameSpec)) marksSameCard

/-- THE TIED CARD OF 'cadencylaw02.MarksStops'. -/
def marksStopsCard : Claim7 := { stood := { row := marksStopsRow, standIns := [], harness := (true, "9fb05d64485680f7616c38ce32831af1dce9c4f781b967805765b8d52425f60d"), looks := false }, kinds := [], alts := [], laidByText := true, laidKinds := [.data], laidTests := true, laidLooks := .later }
def MarksStopsCardSaid : Prop := Claim7.holds Tryd.pinned (.plain (OpenSpec.ofChange marksStopsSpec)) marksStopsCard

/-- THE TIED CARD OF 'cadencylaw02.MarksTells'. -/
def marksTellsCard : Claim7 := { stood := { row := marksTellsRow, standIns := [], harness := (true, "9fb05d64485680f7616c38ce32831af1dce9c4f781b967805765b8d52425f60d"), looks := false }, kinds := [], alts := [], laidByText := true, laidKinds := [.data], laidTests := true, laidLooks := .later }
def MarksTellsCardSaid : Prop := Claim7.holds Tryd.pinned (.plain (OpenSpec.ofChange marksTellsSpec)) marksTellsCard

/-- THE TIED CARD OF 'cadencylaw02.MarksBelow'. -/
def marksBelowCard : Claim7 := { stood := { row := marksBelowRow, standIns := [], harness := (true, "9fb05d64485680f7616c38ce32831af1dce9c4f781b967805765b8d52425f60d"), looks := false }, kinds := [], alts := [], laidByText := true, laidKinds := [.data], laidTests := true, laidLooks := .later }
def MarksBelowCardSaid : Prop := Claim7.holds Tryd.pinned (.plain (OpenSpec.ofChange marksBelowSpec)) marksBelowCard

/-- THE TIED CARD OF 'cadencylaw02.MarksSums'. -/
def marksSumsCard : Claim7 := { stood := { row := marksSumsRow, standIns := [], harness := (true, "9fb05d64485680f7616c38ce32831af1dce9c4f781b967805765b8d52425f60d"), looks := false }, kinds := [], alts := [], laidByText := true, laidKinds := [.data], laidTests := true, laidLooks := .later }
def MarksSumsCardSaid : Prop := Claim7.holds Tryd.pinned (.plain (OpenSpec.ofChange marksSumsSpec)) marksSumsCard

/-- THE TIED CARD OF 'cadencylaw02.MarksPlays'. -/
def marksPlaysCard : Claim7 := { stood := { row := marksPlaysRow, standIns := [], harness := (true, "9fb05d64485680f7616c38ce32831af1dce9c4f781b967805765b8d52425f60d"), looks := false }, kinds := [], alts := [], laidByText := true, laidKinds := [.data], laidTests := true, laidLooks := .later }
def MarksPlaysCardSaid : Prop := Claim7.holds Tryd.pinned (.plain (OpenSpec.ofChange marksPlaysSpec)) marksPlaysCard

/-- THE SECOND FORM's CARD OF 'cadencylaw02.MarksSame'. -/
def marksSameUptoCard : Claim7 := { stood := { row := marksSameUptoRow, standIns := [], harness := (true, "9fb05d64485680f7616c38ce32831af1dce9c4f781b967805765b8d52425f60d"), looks := false }, kinds := [], alts := [], laidByText := true, laidKinds := [.data], laidTests := true, laidLooks := .later }
def MarksSameUptoCardSaid : Prop := Claim7.holds Tryd.pinned (.plain (OpenSpec.upto marksSameSpec)) marksSameUptoCard

/-- THE SECOND FORM's CARD OF 'cadencylaw02.MarksStops'. -/
def marksStopsUptoCard : Claim7 := { stood := { row := marksStopsUptoRow, standIns := [], harness := (true, "9fb05d64485680f7616c38ce32831af1dce9c4f781b967805765b8d52425f60d"), looks := false }, kinds := [], alts := [], laidByText := true, laidKinds := [.data], laidTests := true, laidLooks := .later }
def MarksStopsUptoCardSaid : Prop := Claim7.holds Tryd.pinned (.plain (OpenSpec.upto marksStopsSpec)) marksStopsUptoCard

/-- THE SECOND FORM's CARD OF 'cadencylaw02.MarksTells'. -/
def marksTellsUptoCard : Claim7 := { stood := { row := marksTellsUptoRow, standIns := [], harness := (true, "9fb05d64485680f7616c38ce32831af1dce9c4f781b967805765b8d52425f60d"), looks := false }, kinds := [], alts := [], laidByText := true, laidKinds := [.data], laidTests := true, laidLooks := .later }
def MarksTellsUptoCardSaid : Prop := Claim7.holds Tryd.pinned (.plain (OpenSpec.upto marksTellsSpec)) marksTellsUptoCard

/-- THE SECOND FORM's CARD OF 'cadencylaw02.MarksBelow'. -/
def marksBelowUptoCard : Claim7 := { stood := { row := marksBelowUptoRow, standIns := [], harness := (true, "9fb05d64485680f7616c38ce32831af1dce9c4f781b967805765b8d52425f60d"), looks := false }, kinds := [], alts := [], laidByText := true, laidKinds := [.data], laidTests := true, laidLooks := .later }
def MarksBelowUptoCardSaid : Prop := Claim7.holds Tryd.pinned (.plain (OpenSpec.upto marksBelowSpec)) marksBelowUptoCard

/-- THE SECOND FORM's CARD OF 'cadencylaw02.MarksSums'. -/
def marksSumsUptoCard : Claim7 := { stood := { row := marksSumsUptoRow, standIns := [], harness := (true, "9fb05d64485680f7616c38ce32831af1dce9c4f781b967805765b8d52425f60d"), looks := false }, kinds := [], alts := [], laidByText := true, laidKinds := [.data], laidTests := true, laidLooks := .later }
def MarksSumsUptoCardSaid : Prop := Claim7.holds Tryd.pinned (.plain (OpenSpec.upto marksSumsSpec)) marksSumsUptoCard

/-- THE SECOND FORM's CARD OF 'cadencylaw02.MarksPlays'. -/
def marksPlaysUptoCard : Claim7 := { stood := { row := marksPlaysUptoRow, standIns := [], harness := (true, "9fb05d64485680f7616c38ce32831af1dce9c4f781b967805765b8d52425f60d"), looks := false }, kinds := [], alts := [], laidByText := true, laidKinds := [.data], laidTests := true, laidLooks := .later }
def MarksPlaysUptoCardSaid : Prop := Claim7.holds Tryd.pinned (.plain (OpenSpec.upto marksPlaysSpec)) marksPlaysUptoCard
end Rows
end Go.Proofs.YtjfpddgldfaahaaDoor
