/-
  DERIVED. GIVEN WITH THE SEED: THE CARDS: each row of YtjpmbklfaoejmaaDoorRows.lean that lists a variable, with what it lists TIED to the program's text (the seventh form; the later family's looks); each row that meets fmt, with fmt's text TOLD by the authors' own Lean function (tested against real Go, not proved from fmt's source: count such statements apart). THE CARD IS WHAT COUNTS. Prove the row's statement (the work); the ties are given (YtjpmbklfaoejmaaDoorTie.lean); close each card by the builder's one call (the guide's Derived/Test/ToyasCard.lean, 'card_holds'). Laid BY PROGRAM, IN A SANDBOX (cutbox-door.mjs). By AI agents, Wed Nov 11 2026. No macro, syntax, notation, axiom, sorry.
-/
import Derived.Test.YtjpmbklfaoejmaaDoorRows
import GoSem.ClaimSeven
namespace Go.Proofs.YtjpmbklfaoejmaaDoor
namespace Rows

/-- THE TIED CARD OF 'cadencylaw12.LoadCompares'. -/
def loadComparesCard : Claim7 := { stood := { row := loadComparesRow, standIns := [], harness := (true, "36fa7a6f0129a4cd5447ca2e91a7e4a70ca7cb89f551f628f6e655e3d7ade633"), looks := false }, kinds := [], alts := [], laidByText := true, laidKinds := [.data, .data], laidTests := true, laidLooks := .later }
def LoadComparesCardSaid : Prop := Claim7.holds Tryd.pinned (.plain (OpenSpec.ofChange loadComparesSpec)) loadComparesCard

/-- THE TIED CARD OF 'cadencylaw12.LoadAdds'. -/
def loadAddsCard : Claim7 := { stood := { row := loadAddsRow, standIns := [], harness := (true, "36fa7a6f0129a4cd5447ca2e91a7e4a70ca7cb89f551f628f6e655e3d7ade633"), looks := false }, kinds := [], alts := [], laidByText := true, laidKinds := [.data, .data], laidTests := true, laidLooks := .later }
def LoadAddsCardSaid : Prop := Claim7.holds Tryd.pinned (.plain (OpenSpec.ofChange loadAddsSpec)) loadAddsCard

/-- THE TIED CARD OF 'cadencylaw12.LoadOrder'. -/
def loadOrderCard : Claim7 := { stood := { row := loadOrderRow, standIns := [], harness := (true, "36fa7a6f0129a4cd5447ca2e91a7e4a70ca7cb89f551f628f6e655e3d7ade633"), looks := false }, kinds := [], alts := [], laidByText := true, laidKinds := [.data, .data], laidTests := true, laidLooks := .later }
def LoadOrderCardSaid : Prop := Claim7.holds Tryd.pinned (.plain (OpenSpec.ofChange loadOrderSpec)) loadOrderCard

/-- THE TIED CARD OF 'cadencylaw12.LoadPeriod'. -/
def loadPeriodCard : Claim7 := { stood := { row := loadPeriodRow, standIns := [], harness := (true, "36fa7a6f0129a4cd5447ca2e91a7e4a70ca7cb89f551f628f6e655e3d7ade633"), looks := false }, kinds := [], alts := [], laidByText := true, laidKinds := [.data, .data], laidTests := true, laidLooks := .later }
def LoadPeriodCardSaid : Prop := Claim7.holds Tryd.pinned (.plain (OpenSpec.ofChange loadPeriodSpec)) loadPeriodCard

/-- THE TIED CARD OF 'cadencylaw12.LoadScales'. -/
def loadScalesCard : Claim7 := { stood := { row := loadScalesRow, standIns := [], harness := (true, "36fa7a6f0129a4cd5447ca2e91a7e4a70ca7cb89f551f628f6e655e3d7ade633"), looks := false }, kinds := [], alts := [], laidByText := true, laidKinds := [.data, .data], laidTests := true, laidLooks := .later }
def LoadScalesCardSaid : Prop := Claim7.holds Tryd.pinned (.plain (OpenSpec.ofChange loadScalesSpec)) loadScalesCard

/-- THE TIED CARD OF 'cadencylaw12.LoadSums'. -/
def loadSumsCard : Claim7 := { stood := { row := loadSumsRow, standIns := [], harness := (true, "36fa7a6f0129a4cd5447ca2e91a7e4a70ca7cb89f551f628f6e655e3d7ade633"), looks := false }, kinds := [], alts := [], laidByText := true, laidKinds := [.data, .data], laidTests := true, laidLooks := .later }
def LoadSumsCardSaid : Prop := Claim7.holds Tryd.pinned (.plain (OpenSpec.ofChange loadSumsSpec)) loadSumsCard

/-- THE SECOND FORM's CARD OF 'cadencylaw12.LoadCompares'. -/
def loadComparesUptoCard : Claim7 := { stood := { row := loadComparesUptoRow, standIns := [], harness := (true, "36fa7a6f0129a4cd5447ca2e91a7e4a70ca7cb89f551f628f6e655e3d7ade633"), looks := false }, kinds := [], alts := [], laidByText := true, laidKinds := [.data, .data], laidTests := true, laidLooks := .later }
def LoadComparesUptoCardSaid : Prop := Claim7.holds Tryd.pinned (.plain (OpenSpec.upto loadComparesSpec)) loadComparesUptoCard

/-- THE SECOND FORM's CARD OF 'cadencylaw12.LoadAdds'. -/
def loadAddsUptoCard : Claim7 := { stood := { row := loadAddsUptoRow, standIns := [], harness := (true, "36fa7a6f0129a4cd5447ca2e91a7e4a70ca7cb89f551f628f6e655e3d7ade633"), looks := false }, kinds := [], alts := [], laidByText := true, laidKinds := [.data, .data], laidTests := true, laidLooks := .later }
def LoadAddsUptoCardSaid : Prop := Claim7.holds Tryd.pinned (.plain (OpenSpec.upto loadAddsSpec)) loadAddsUptoCard

/-- THE SECOND FORM's CARD OF 'cadencylaw12.LoadOrder'. -/
def loadOrderUptoCard : Claim7 := { stood := { row := loadOrderUptoRow, standIns := [], harness := (true, "36fa7a6f0129a4cd5447ca2e91a7e4a70ca7cb89f551f628f6e655e3d7ade633"), looks := false }, kinds := [], alts := [], laidByText := true, laidKinds := [.data, .data], laidTests := true, laidLooks := .later }
def LoadOrderUptoCardSaid : Prop := Claim7.holds Tryd.pinned (.plain (OpenSpec.upto loadOrderSpec)) loadOrderUptoCard

/-- THE SECOND FORM's CARD OF 'cadencylaw12.LoadPeriod'. -/
def loadPeriodUptoCard : Claim7 := { stood := { row := loadPeriodUptoRow, standIns := [], harness := (true, "36fa7a6f0129a4cd5447ca2e91a7e4a70ca7cb89f551f628f6e655e3d7ade633"), looks := false }, kinds := [], alts := [], laidByText := true, laidKinds := [.data, .data], laidTests := true, laidLooks := .later }
def LoadPeriodUptoCardSaid : Prop := Claim7.holds Tryd.pinned (.plain (OpenSpec.upto loadPeriodSpec)) loadPeriodUptoCard

/-- THE SECOND FORM's CARD OF 'cadencylaw12.LoadScales'. -/
def loadScalesUptoCard : Claim7 := { stood := { row := loadScalesUptoRow, standIns := [], harness := (true, "36fa7a6f0129a4cd5447ca2e91a7e4a70ca7cb89f551f628f6e655e3d7ade633"), looks := false }, kinds := [], alts := [], laidByText := true, laidKinds := [.data, .data], laidTests := true, laidLooks := .later }
def LoadScalesUptoCardSaid : Prop := Claim7.holds Tryd.pinned (.plain (OpenSpec.upto loadScalesSpec)) loadScalesUptoCard

/-- THE SECOND FORM's CARD OF 'cadencylaw12.LoadSums'. -/
def loadSumsUptoCard : Claim7 := { stood := { row := loadSumsUptoRow, standIns := [], harness := (true, "36fa7a6f0129a4cd5447ca2e91a7e4a70ca7cb89f551f628f6e655e3d7ade633"), looks := false }, kinds := [], alts := [], laidByText := true, laidKinds := [.data, .data], laidTests := true, laidLooks := .later }
def LoadSumsUptoCardSaid : Prop := Claim7.holds Tryd.pinned (.plain (OpenSpec.upto loadSumsSpec)) loadSumsUptoCard
end Rows
end Go.Proofs.YtjpmbklfaoejmaaDoor
