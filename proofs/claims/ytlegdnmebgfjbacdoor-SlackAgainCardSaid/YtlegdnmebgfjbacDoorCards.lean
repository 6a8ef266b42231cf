/-
  DERIVED. GIVEN WITH THE SEED: THE CARDS: each row of YtlegdnmebgfjbacDoorRows.lean that lists a variable, with what it lists TIED to the program's text (the seventh form; the later family's looks); each row that meets fmt, with fmt's text TOLD by the authors' own Lean function (tested against real Go, not proved from fmt's source: count such statements apart). THE CARD IS WHAT COUNTS. Prove the row's statement (the work); the ties are given (YtlegdnmebgfjbacDoorTie.lean); close each card by the builder's one call (the guide's Derived/Test/ToyasCard.lean, 'card_holds'). Laid BY PROGRAM, IN A SANDBOX (cutbox-door.mjs). By AI agents, Wed Nov 11 2026. No macro, syntax, notation, axiom, sorry.
-/
import Derived.Test.YtlegdnmebgfjbacDoorRows
import GoSem.ClaimSeven
namespace Go.Proofs.YtlegdnmebgfjbacDoor
namespace Rows

/-- THE TIED CARD OF 'cadencylaw22.SlackLast'. -/
def slackLastCard : Claim7 := { stood := { row := slackLastRow, standIns := [], harness := (true, "a2ebfa5a06738449f23a68ebbfde7995c6d3e9839c03da3e34d1db9596557748"), looks := false }, kinds := [], alts := [], laidByText := true, laidKinds := [.data], laidTests := true, laidLooks := .later }
def SlackLastCardSaid : Prop := Claim7.holds Tryd.pinned (.plain (OpenSpec.ofChange slackLastSpec)) slackLastCard

/-- THE TIED CARD OF 'cadencylaw22.SlackAgain'. -/
def slackAgainCard : Claim7 := { stood := { row := slackAgainRow, standIns := [], harness := (true, "a2ebfa5a06738449f23a68ebbfde7995c6d3e9839c03da3e34d1db9596557748"), looks := false }, kinds := [], alts := [], laidByText := true, laidKinds := [.data], laidTests := true, laidLooks := .later }
def SlackAgainCardSaid : Prop := Claim7.holds Tryd.pinned (.plain (OpenSpec.ofChange slackAgainSpec)) slackAgainCard

/-- THE SECOND FORM's CARD OF 'cadencylaw22.SlackLast'. -/
def slackLastUptoCard : Claim7 := { stood := { row := slackLastUptoRow, standIns := [], harness := (true, "a2ebfa5a06738449f23a68ebbfde7995c6d3e9839c03da3e34d1db9596557748"), looks := false }, kinds := [], alts := [], laidByText := true, laidKinds := [.data], laidTests := true, laidLooks := .later }
def SlackLastUptoCardSaid : Prop := Claim7.holds Tryd.pinned (.plain (OpenSpec.upto slackLastSpec)) slackLastUptoCard

/-- THE SECOND FORM's CARD OF 'cadencylaw22.SlackAgain'. -/
def slackAgainUptoCard : Claim7 := { stood := { row := slackAgainUptoRow, standIns := [], harness := (true, "a2ebfa5a06738449f23a68ebbfde7995c6d3e9839c03da3e34d1db9596557748"), looks := false }, kinds := [], alts := [], laidByText := true, laidKinds := [.data], laidTests := true, laidLooks := .later }
def SlackAgainUptoCardSaid : Prop := Claim7.holds Tryd.pinned (.plain (OpenSpec.upto slackAgainSpec)) slackAgainUptoCard
end Rows
end Go.Proofs.YtlegdnmebgfjbacDoor
