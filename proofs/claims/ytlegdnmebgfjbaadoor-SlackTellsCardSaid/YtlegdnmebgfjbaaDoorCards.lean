/-
  DERIVED. GIVEN WITH THE SEED: THE CARDS: each row of YtlegdnmebgfjbaaDoorRows.lean that lists a variable, with what it lists TIED to the program's text (the seventh form; the later family's looks); each row that meets fmt, with fmt's text TOLD by the authors' own Lean function (tested against real Go, not proved from fmt's source: count such statements apart). THE CARD IS WHAT COUNTS. Prove the row's statement (the work); the ties are given (YtlegdnmebgfjbaaDoorTie.lean); close each card by the builder's one call (the guide's Derived/Test/ToyasCard.lean, 'card_holds'). Laid BY PROGRAM, IN A SANDBOX (cutbox-door.mjs). By AI agents, Wed Nov 11 2026. No macro, syntax, notation, axiom, sorry.
-/
import Derived.Test.YtlegdnmebgfjbaaDoorRows
import GoSem.ClaimSeven
namespace Go.Proofs.YtlegdnmebgfjbaaDoor
namespace Rows

/-- THE TIED CARD OF 'cadencylaw22.SlackLeast'. -/
def slackLeastCard : Claim7 := { stood := { row := slackLeastRow, standIns := [], harness := (true, "dccc50f4ef974f344463667f32beb55518ab37aaec4aedc9077b59caf3212992"), looks := false }, kinds := [], alts := [], laidByText := true, laidKinds := [.data], laidTests := true, laidLooks := .later }
def SlackLeastCardSaid : Prop := Claim7.holds Tryd.pinned (.plain (OpenSpec.ofChange slackLeastSpec)) slackLeastCard

/-- THE TIED CARD OF 'cadencylaw22.SlackTells'. -/
def slackTellsCard : Claim7 := { stood := { row := slackTellsRow, standIns := [], harness := (true, "dccc50f4ef974f344463667f32beb55518ab37aaec4aedc9077b59caf3212992"), looks := false }, kinds := [], alts := [], laidByText := true, laidKinds := [.data], laidTests := true, laidLooks := .later }
def SlackTellsCardSaid : Prop := Claim7.holds Tryd.pinned (.plain (OpenSpec.ofChange slackTellsSpec)) slackTellsCard

/-- THE SECOND FORM's CARD OF 'cadencylaw22.SlackLeast'. -/
def slackLeastUptoCard : Claim7 := { stood := { row := slackLeastUptoRow, standIns := [], harness := (true, "dccc50f4ef974f344463667f32beb55518ab37aaec4aedc9077b59caf3212992"), looks := false }, kinds := [], alts := [], laidByText := true, laidKinds := [.data], laidTests := true, laidLooks := .later }
def SlackLeastUptoCardSaid : Prop := Claim7.holds Tryd.pinned (.plain (OpenSpec.upto slackLeastSpec)) slackLeastUptoCard

/-- THE SECOND FORM's CARD OF 'cadencylaw22.SlackTells'. -/
def slackTellsUptoCard : Claim7 := { stood := { row := slackTellsUptoRow, standIns := [], harness := (true, "dccc50f4ef974f344463667f32beb55518ab37aaec4aedc9077b59caf3212992"), looks := false }, kinds := [], alts := [], laidByText := true, laidKinds := [.data], laidTests := true, laidLooks := .later }
def SlackTellsUptoCardSaid : Prop := Claim7.holds Tryd.pinned (.plain (OpenSpec.upto slackTellsSpec)) slackTellsUptoCard
end Rows
end Go.Proofs.YtlegdnmebgfjbaaDoor
