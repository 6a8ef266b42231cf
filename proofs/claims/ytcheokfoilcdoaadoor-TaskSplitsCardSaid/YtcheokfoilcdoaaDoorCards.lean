/-
  DERIVED. GIVEN WITH THE SEED: THE CARDS: each row of YtcheokfoilcdoaaDoorRows.lean that lists a variable, with what it lists TIED to the program's text (the seventh form; the later family's looks); each row that meets fmt, with fmt's text TOLD by the authors' own Lean function (tested against real Go, not proved from fmt's source: count such statements apart). THE CARD IS WHAT COUNTS. Prove the row's statement (the work); the ties are given (YtcheokfoilcdoaaDoorTie.lean); close each card by the builder's one call (the guide's Derived/Test/ToyasCard.lean, 'card_holds'). Laid BY PROGRAM, IN A SANDBOX (cutbox-door.mjs). By AI agents, Wed Nov 11 2026. No macro, syntax, notation, axiom, sorry.
-/
import Derived.Test.YtcheokfoilcdoaaDoorRows
import GoSem.ClaimSeven
namespace Go.Proofs.YtcheokfoilcdoaaDoor
namespace Rows

/-- THE TIED CARD OF 'cadencylaw04.TaskUrgent'. -/
def taskUrgentCard : Claim7 := { stood := { row := taskUrgentRow, standIns := [], harness := (true, "6602d01c72527186549cac2433cdbe20865f8d7127280af44bc8ec1afb0bfa8f"), looks := false }, kinds := [], alts := [], laidByText := true, laidKinds := [.data], laidTests := true, laidLooks := .later }
def TaskUrgentCardSaid : Prop := Claim7.holds Tryd.pinned (.plain (OpenSpec.ofChange taskUrgentSpec)) taskUrgentCard

/-- THE TIED CARD OF 'cadencylaw04.TaskSplits'. -/
def taskSplitsCard : Claim7 := { stood := { row := taskSplitsRow, standIns := [], harness := (true, "6602d01c72527186549cac2433cdbe20865f8d7127280af44bc8ec1afb0bfa8f"), looks := false }, kinds := [], alts := [], laidByText := true, laidKinds := [.data], laidTests := true, laidLooks := .later }
def TaskSplitsCardSaid : Prop := Claim7.holds Tryd.pinned (.plain (OpenSpec.ofChange taskSplitsSpec)) taskSplitsCard

/-- THE SECOND FORM's CARD OF 'cadencylaw04.TaskUrgent'. -/
def taskUrgentUptoCard : Claim7 := { stood := { row := taskUrgentUptoRow, standIns := [], harness := (true, "6602d01c72527186549cac2433cdbe20865f8d7127280af44bc8ec1afb0bfa8f"), looks := false }, kinds := [], alts := [], laidByText := true, laidKinds := [.data], laidTests := true, laidLooks := .later }
def TaskUrgentUptoCardSaid : Prop := Claim7.holds Tryd.pinned (.plain (OpenSpec.upto taskUrgentSpec)) taskUrgentUptoCard

/-- THE SECOND FORM's CARD OF 'cadencylaw04.TaskSplits'. -/
def taskSplitsUptoCard : Claim7 := { stood := { row := taskSplitsUptoRow, standIns := [], harness := (true, "6602d01c72527186549cac2433cdbe20865f8d7127280af44bc8ec1afb0bfa8f"), looks := false }, kinds := [], alts := [], laidByText := true, laidKinds := [.data], laidTests := true, laidLooks := .later }
def TaskSplitsUptoCardSaid : Prop := Claim7.holds Tryd.pinned (.plain (OpenSpec.upto taskSplitsSpec)) taskSplitsUptoCard
end Rows
end Go.Proofs.YtcheokfoilcdoaaDoor
