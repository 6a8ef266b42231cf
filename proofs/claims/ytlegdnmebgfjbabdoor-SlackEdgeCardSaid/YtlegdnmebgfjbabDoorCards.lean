/-
  DERIVED. GIVEN WITH THE SEED: THE CARDS: each row of YtlegdnmebgfjbabDoorRows.lean that lists a variable, with what it lists TIED to the program's text (the seventh form; the later family's looks); each row that meets fmt, with fmt's text TOLD by the authors' own Lean function (tested against real Go, not proved from fmt's source: count such statements apart). THE CARD IS WHAT COUNTS. Prove the row's statement (the work); the ties are given (YtlegdnmebgfjbabDoorTie.lean); close each card by the builder's one call (the guide's Derived/Test/ToyasCard.lean, 'card_holds'). Laid BY PROGRAM, IN A SANDBOX (cutbox-door.mjs). By AI agents, Wed Nov 11 2026. No macro, syntax, notation, axiom, sorry.
-/
import Derived.Test.YtlegdnmebgfjbabDoorRows
import GoSem.ClaimSeven
namespace Go.Proofs.YtlegdnmebgfjbabDoor
namespace Rows

/-- THE TIED CARD OF 'cadencylaw22.SlackEdge'. -/
def slackEdgeCard : Claim7 := { stood := { row := slackEdgeRow, standIns := [], harness := (true, "1037421c77385e64732aaaa3c4fe789fbc19bf52f4ae884c8d89f2a529a4ee2b"), looks := false }, kinds := [], alts := [], laidByText := true, laidKinds := [.data], laidTests := true, laidLooks := .later }
def SlackEdgeCardSaid : Prop := Claim7.holds Tryd.pinned (.plain (OpenSpec.ofChange slackEdgeSpec)) slackEdgeCard

/-- THE TIED CARD OF 'cadencylaw22.SlackGreat'. -/
def slackGreatCard : Claim7 := { stood := { row := slackGreatRow, standIns := [], harness := (true, "1037421c77385e64732aaaa3c4fe789fbc19bf52f4ae884c8d89f2a529a4ee2b"), looks := false }, kinds := [], alts := [], laidByText := true, laidKinds := [.data], laidTests := true, laidLooks := .later }
def SlackGreatCardSaid : Prop := Claim7.holds Tryd.pinned (.plain (OpenSpec.ofChange slackGreatSpec)) slackGreatCard

/-- THE SECOND FORM's CARD OF 'cadencylaw22.SlackEdge'. -/
def slackEdgeUptoCard : Claim7 := { stood := { row := slackEdgeUptoRow, standIns := [], harness := (true, "1037421c77385e64732aaaa3c4fe789fbc19bf52f4ae884c8d89f2a529a4ee2b"), looks := false }, kinds := [], alts := [], laidByText := true, laidKinds := [.data], laidTests := true, laidLooks := .later }
def SlackEdgeUptoCardSaid : Prop := Claim7.holds Tryd.pinned (.plain (OpenSpec.upto slackEdgeSpec)) slackEdgeUptoCard

/-- THE SECOND FORM's CARD OF 'cadencylaw22.SlackGreat'. -/
def slackGreatUptoCard : Claim7 := { stood := { row := slackGreatUptoRow, standIns := [], harness := (true, "1037421c77385e64732aaaa3c4fe789fbc19bf52f4ae884c8d89f2a529a4ee2b"), looks := false }, kinds := [], alts := [], laidByText := true, laidKinds := [.data], laidTests := true, laidLooks := .later }
def SlackGreatUptoCardSaid : Prop := Claim7.holds Tryd.pinned (.plain (OpenSpec.upto slackGreatSpec)) slackGreatUptoCard
end Rows
end Go.Proofs.YtlegdnmebgfjbabDoor
