/-
  DERIVED. GIVEN WITH THE SEED: THE CARDS: each row of YtacgfbdeobmiaaaDoorRows.lean that lists a variable, with what it lists TIED to the program's text (the seventh form; the later family's looks); each row that meets fmt, with fmt's text TOLD by the authors' own Lean function (tested against real Go, not proved from fmt's source: count such statements apart). THE CARD IS WHAT COUNTS. Prove the row's statement (the work); the ties are given (YtacgfbdeobmiaaaDoorTie.lean); close each card by the builder's one call (the guide's Derived/Test/ToyasCard.lean, 'card_holds'). Laid BY PROGRAM, IN A SANDBOX (cutbox-door.mjs). By AI agents, Wed Nov 11 2026. No macro, syntax, notation, axiom, sorry.
-/
import Derived.Test.YtacgfbdeobmiaaaDoorRows
import GoSem.ClaimSeven
namespace Go.Proofs.YtacgfbdeobmiaaaDoor
namespace Rows

/-- THE TIED CARD OF 'cadencylaw13.DemandTells'. -/
def demandTellsCard : Claim7 := { stood := { row := demandTellsRow, standIns := [], harness := (true, "141ef70c43dc0ecb7764cbfa47f490d4cb903085bf7826cceff235c447172979"), looks := false }, kinds := [], alts := [], laidByText := true, laidKinds := [.data], laidTests := true, laidLooks := .later }
def DemandTellsCardSaid : Prop := Claim7.holds Tryd.pinned (.plain (OpenSpec.ofChange demandTellsSpec)) demandTellsCard

/-- THE TIED CARD OF 'cadencylaw13.DemandGrows'. -/
def demandGrowsCard : Claim7 := { stood := { row := demandGrowsRow, standIns := [], harness := (true, "141ef70c43dc0ecb7764cbfa47f490d4cb903085bf7826cceff235c447172979"), looks := false }, kinds := [], alts := [], laidByText := true, laidKinds := [.data], laidTests := true, laidLooks := .later }
def DemandGrowsCardSaid : Prop := Claim7.holds Tryd.pinned (.plain (OpenSpec.ofChange demandGrowsSpec)) demandGrowsCard

/-- THE TIED CARD OF 'cadencylaw13.DemandUrgent'. -/
def demandUrgentCard : Claim7 := { stood := { row := demandUrgentRow, standIns := [], harness := (true, "141ef70c43dc0ecb7764cbfa47f490d4cb903085bf7826cceff235c447172979"), looks := false }, kinds := [], alts := [], laidByText := true, laidKinds := [.data], laidTests := true, laidLooks := .later }
def DemandUrgentCardSaid : Prop := Claim7.holds Tryd.pinned (.plain (OpenSpec.ofChange demandUrgentSpec)) demandUrgentCard

/-- THE TIED CARD OF 'cadencylaw13.DemandScales'. -/
def demandScalesCard : Claim7 := { stood := { row := demandScalesRow, standIns := [], harness := (true, "141ef70c43dc0ecb7764cbfa47f490d4cb903085bf7826cceff235c447172979"), looks := false }, kinds := [], alts := [], laidByText := true, laidKinds := [.data], laidTests := true, laidLooks := .later }
def DemandScalesCardSaid : Prop := Claim7.holds Tryd.pinned (.plain (OpenSpec.ofChange demandScalesSpec)) demandScalesCard

/-- THE TIED CARD OF 'cadencylaw13.DemandParts'. -/
def demandPartsCard : Claim7 := { stood := { row := demandPartsRow, standIns := [], harness := (true, "141ef70c43dc0ecb7764cbfa47f490d4cb903085bf7826cceff235c447172979"), looks := false }, kinds := [], alts := [], laidByText := true, laidKinds := [.data], laidTests := true, laidLooks := .later }
def DemandPartsCardSaid : Prop := Claim7.holds Tryd.pinned (.plain (OpenSpec.ofChange demandPartsSpec)) demandPartsCard

/-- THE TIED CARD OF 'cadencylaw13.DemandSteps'. -/
def demandStepsCard : Claim7 := { stood := { row := demandStepsRow, standIns := [], harness := (true, "141ef70c43dc0ecb7764cbfa47f490d4cb903085bf7826cceff235c447172979"), looks := false }, kinds := [], alts := [], laidByText := true, laidKinds := [.data], laidTests := true, laidLooks := .later }
def DemandStepsCardSaid : Prop := Claim7.holds Tryd.pinned (.plain (OpenSpec.ofChange demandStepsSpec)) demandStepsCard

/-- THE SECOND FORM's CARD OF 'cadencylaw13.DemandTells'. -/
def demandTellsUptoCard : Claim7 := { stood := { row := demandTellsUptoRow, standIns := [], harness := (true, "141ef70c43dc0ecb7764cbfa47f490d4cb903085bf7826cceff235c447172979"), looks := false }, kinds := [], alts := [], laidByText := true, laidKinds := [.data], laidTests := true, laidLooks := .later }
def DemandTellsUptoCardSaid : Prop := Claim7.holds Tryd.pinned (.plain (OpenSpec.upto demandTellsSpec)) demandTellsUptoCard

/-- THE SECOND FORM's CARD OF 'cadencylaw13.DemandGrows'. -/
def demandGrowsUptoCard : Claim7 := { stood := { row := demandGrowsUptoRow, standIns := [], harness := (true, "141ef70c43dc0ecb7764cbfa47f490d4cb903085bf7826cceff235c447172979"), looks := false }, kinds := [], alts := [], laidByText := true, laidKinds := [.data], laidTests := true, laidLooks := .later }
def DemandGrowsUptoCardSaid : Prop := Claim7.holds Tryd.pinned (.plain (OpenSpec.upto demandGrowsSpec)) demandGrowsUptoCard

/-- THE SECOND FORM's CARD OF 'cadencylaw13.DemandUrgent'. -/
def demandUrgentUptoCard : Claim7 := { stood := { row := demandUrgentUptoRow, standIns := [], harness := (true, "141ef70c43dc0ecb7764cbfa47f490d4cb903085bf7826cceff235c447172979"), looks := false }, kinds := [], alts := [], laidByText := true, laidKinds := [.data], laidTests := true, laidLooks := .later }
def DemandUrgentUptoCardSaid : Prop := Claim7.holds Tryd.pinned (.plain (OpenSpec.upto demandUrgentSpec)) demandUrgentUptoCard

/-- THE SECOND FORM's CARD OF 'cadencylaw13.DemandScales'. -/
def demandScalesUptoCard : Claim7 := { stood := { row := demandScalesUptoRow, standIns := [], harness := (true, "141ef70c43dc0ecb7764cbfa47f490d4cb903085bf7826cceff235c447172979"), looks := false }, kinds := [], alts := [], laidByText := true, laidKinds := [.data], laidTests := true, laidLooks := .later }
def DemandScalesUptoCardSaid : Prop := Claim7.holds Tryd.pinned (.plain (OpenSpec.upto demandScalesSpec)) demandScalesUptoCard

/-- THE SECOND FORM's CARD OF 'cadencylaw13.DemandParts'. -/
def demandPartsUptoCard : Claim7 := { stood := { row := demandPartsUptoRow, standIns := [], harness := (true, "141ef70c43dc0ecb7764cbfa47f490d4cb903085bf7826cceff235c447172979"), looks := false }, kinds := [], alts := [], laidByText := true, laidKinds := [.data], laidTests := true, laidLooks := .later }
def DemandPartsUptoCardSaid : Prop := Claim7.holds Tryd.pinned (.plain (OpenSpec.upto demandPartsSpec)) demandPartsUptoCard

/-- THE SECOND FORM's CARD OF 'cadencylaw13.DemandSteps'. -/
def demandStepsUptoCard : Claim7 := { stood := { row := demandStepsUptoRow, standIns := [], harness := (true, "141ef70c43dc0ecb7764cbfa47f490d4cb903085bf7826cceff235c447172979"), looks := false }, kinds := [], alts := [], laidByText := true, laidKinds := [.data], laidTests := true, laidLooks := .later }
def DemandStepsUptoCardSaid : Prop := Claim7.holds Tryd.pinned (.plain (OpenSpec.upto demandStepsSpec)) demandStepsUptoCard
end Rows
end Go.Proofs.YtacgfbdeobmiaaaDoor
