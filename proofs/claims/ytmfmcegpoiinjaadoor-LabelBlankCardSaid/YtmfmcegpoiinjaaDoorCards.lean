/-
  DERIVED. GIVEN WITH THE SEED: THE CARDS: each row of YtmfmcegpoiinjaaDoorRows.lean that lists a variable, with what it lists TIED to the program's text (the seventh form; the later family's looks); each row that meets fmt, with fmt's text TOLD by the authors' own Lean function (tested against real Go, not proved from fmt's source: count such statements apart). THE CARD IS WHAT COUNTS. Prove the row's statement (the work); the ties are given (YtmfmcegpoiinjaaDoorTie.lean); close each card by the builder's one call (the guide's Derived/Test/ToyasCard.lean, 'card_holds'). Laid BY PROGRAM, IN A SANDBOX (cutbox-door.mjs). By AI agents, Wed Nov 11 2026. No macro, syntax, notation, axiom, sorry.
-/
import Derived.Test.YtmfmcegpoiinjaaDoorRows
import GoSem.ClaimSeven
namespace Go.Proofs.YtmfmcegpoiinjaaDoor
namespace Rows

/-- THE TIED CARD OF 'countermandlaw26.LabelWrites'. -/
def labelWritesCard : Claim7 := { stood := { row := labelWritesRow, standIns := [], harness := (true, "b73955d4189b87c6aa64c779127569a889c9d0f1771f10a08d7ff4ae65ca5d74"), looks := true }, kinds := [], alts := [], laidByText := true, laidKinds := [.data, .data, .data, .data, .sentinel, .sentinel, .data, .data, .pinned], laidTests := true, laidLooks := .later }
def LabelWritesCardSaid : Prop := Claim7.holds Tryd.pinned (.plain (OpenSpec.ofChange labelWritesSpec)) labelWritesCard

/-- THE TIED CARD OF 'countermandlaw26.LabelReturns'. -/
def labelReturnsCard : Claim7 := { stood := { row := labelReturnsRow, standIns := [], harness := (true, "b73955d4189b87c6aa64c779127569a889c9d0f1771f10a08d7ff4ae65ca5d74"), looks := true }, kinds := [], alts := [], laidByText := true, laidKinds := [.data, .data, .data, .data, .sentinel, .sentinel, .data, .data, .pinned], laidTests := true, laidLooks := .later }
def LabelReturnsCardSaid : Prop := Claim7.holds Tryd.pinned (.plain (OpenSpec.ofChange labelReturnsSpec)) labelReturnsCard

/-- THE TIED CARD OF 'countermandlaw26.LabelAgain'. -/
def labelAgainCard : Claim7 := { stood := { row := labelAgainRow, standIns := [], harness := (true, "b73955d4189b87c6aa64c779127569a889c9d0f1771f10a08d7ff4ae65ca5d74"), looks := true }, kinds := [], alts := [], laidByText := true, laidKinds := [.data, .data, .data, .data, .sentinel, .sentinel, .data, .data, .pinned], laidTests := true, laidLooks := .later }
def LabelAgainCardSaid : Prop := Claim7.holds Tryd.pinned (.plain (OpenSpec.ofChange labelAgainSpec)) labelAgainCard

/-- THE TIED CARD OF 'countermandlaw26.LabelNames'. -/
def labelNamesCard : Claim7 := { stood := { row := labelNamesRow, standIns := [], harness := (true, "b73955d4189b87c6aa64c779127569a889c9d0f1771f10a08d7ff4ae65ca5d74"), looks := true }, kinds := [], alts := [], laidByText := true, laidKinds := [.data, .data, .data, .data, .sentinel, .sentinel, .data, .data, .pinned], laidTests := true, laidLooks := .later }
def LabelNamesCardSaid : Prop := Claim7.holds Tryd.pinned (.plain (OpenSpec.ofChange labelNamesSpec)) labelNamesCard

/-- THE TIED CARD OF 'countermandlaw26.LabelFaults'. -/
def labelFaultsCard : Claim7 := { stood := { row := labelFaultsRow, standIns := [], harness := (true, "b73955d4189b87c6aa64c779127569a889c9d0f1771f10a08d7ff4ae65ca5d74"), looks := true }, kinds := [], alts := [], laidByText := true, laidKinds := [.data, .data, .data, .data, .sentinel, .sentinel, .data, .data, .pinned], laidTests := true, laidLooks := .later }
def LabelFaultsCardSaid : Prop := Claim7.holds Tryd.pinned (.plain (OpenSpec.ofChange labelFaultsSpec)) labelFaultsCard

/-- THE TIED CARD OF 'countermandlaw26.LabelBlank'. -/
def labelBlankCard : Claim7 := { stood := { row := labelBlankRow, standIns := [], harness := (true, "b73955d4189b87c6aa64c779127569a889c9d0f1771f10a08d7ff4ae65ca5d74"), looks := true }, kinds := [], alts := [], laidByText := true, laidKinds := [.data, .data, .data, .data, .sentinel, .sentinel, .data, .data, .pinned], laidTests := true, laidLooks := .later }
def LabelBlankCardSaid : Prop := Claim7.holds Tryd.pinned (.plain (OpenSpec.ofChange labelBlankSpec)) labelBlankCard

/-- THE TIED CARD OF 'countermandlaw26.LabelReads'. -/
def labelReadsCard : Claim7 := { stood := { row := labelReadsRow, standIns := [], harness := (true, "b73955d4189b87c6aa64c779127569a889c9d0f1771f10a08d7ff4ae65ca5d74"), looks := true }, kinds := [], alts := [], laidByText := true, laidKinds := [.data, .data, .data, .data, .sentinel, .sentinel, .data, .data, .pinned], laidTests := true, laidLooks := .later }
def LabelReadsCardSaid : Prop := Claim7.holds Tryd.pinned (.plain (OpenSpec.ofChange labelReadsSpec)) labelReadsCard

/-- THE TIED CARD OF 'countermandlaw26.LabelFull'. -/
def labelFullCard : Claim7 := { stood := { row := labelFullRow, standIns := [], harness := (true, "b73955d4189b87c6aa64c779127569a889c9d0f1771f10a08d7ff4ae65ca5d74"), looks := true }, kinds := [], alts := [], laidByText := true, laidKinds := [.data, .data, .data, .data, .sentinel, .sentinel, .data, .data, .pinned], laidTests := true, laidLooks := .later }
def LabelFullCardSaid : Prop := Claim7.holds Tryd.pinned (.plain (OpenSpec.ofChange labelFullSpec)) labelFullCard

/-- THE SECOND FORM's CARD OF 'countermandlaw26.LabelWrites'. -/
def labelWritesUptoCard : Claim7 := { stood := { row := labelWritesUptoRow, standIns := [], harness := (true, "b73955d4189b87c6aa64c779127569a889c9d0f1771f10a08d7ff4ae65ca5d74"), looks := true }, kinds := [], alts := [], laidByText := true, laidKinds := [.data, .data, .data, .data, .sentinel, .sentinel, .data, .data, .pinned], laidTests := true, laidLooks := .later }
def LabelWritesUptoCardSaid : Prop := Claim7.holds Tryd.pinned (.plain (OpenSpec.upto labelWritesSpec)) labelWritesUptoCard

/-- THE SECOND FORM's CARD OF 'countermandlaw26.LabelReturns'. -/
def labelReturnsUptoCard : Claim7 := { stood := { row := labelReturnsUptoRow, standIns := [], harness := (true, "b73955d4189b87c6aa64c779127569a889c9d0f1771f10a08d7ff4ae65ca5d74"), looks := true }, kinds := [], alts := [], laidByText := true, laidKinds := [.data, .data, .data, .data, .sentinel, .sentinel, .data, .data, .pinned], laidTests := true, laidLooks := .later }
def LabelReturnsUptoCardSaid : Prop := Claim7.holds Tryd.pinned (.plain (OpenSpec.upto labelReturnsSpec)) labelReturnsUptoCard

/-- THE SECOND FORM's CARD OF 'countermandlaw26.LabelAgain'. -/
def labelAgainUptoCard : Claim7 := { stood := { row := labelAgainUptoRow, standIns := [], harness := (true, "b73955d4189b87c6aa64c779127569a889c9d0f1771f10a08d7ff4ae65ca5d74"), looks := true }, kinds := [], alts := [], laidByText := true, laidKinds := [.data, .data, .data, .data, .sentinel, .sentinel, .data, .data, .pinned], laidTests := true, laidLooks := .later }
def LabelAgainUptoCardSaid : Prop := Claim7.holds Tryd.pinned (.plain (OpenSpec.upto labelAgainSpec)) labelAgainUptoCard

/-- THE SECOND FORM's CARD OF 'countermandlaw26.LabelNames'. -/
def labelNamesUptoCard : Claim7 := { stood := { row := labelNamesUptoRow, standIns := [], harness := (true, "b73955d4189b87c6aa64c779127569a889c9d0f1771f10a08d7ff4ae65ca5d74"), looks := true }, kinds := [], alts := [], laidByText := true, laidKinds := [.data, .data, .data, .data, .sentinel, .sentinel, .data, .data, .pinned], laidTests := true, laidLooks := .later }
def LabelNamesUptoCardSaid : Prop := Claim7.holds Tryd.pinned (.plain (OpenSpec.upto labelNamesSpec)) labelNamesUptoCard

/-- THE SECOND FORM's CARD OF 'countermandlaw26.LabelFaults'. -/
def labelFaultsUptoCard : Claim7 := { stood := { row := labelFaultsUptoRow, standIns := [], harness := (true, "b73955d4189b87c6aa64c779127569a889c9d0f1771f10a08d7ff4ae65ca5d74"), looks := true }, kinds := [], alts := [], laidByText := true, laidKinds := [.data, .data, .data, .data, .sentinel, .sentinel, .data, .data, .pinned], laidTests := true, laidLooks := .later }
def LabelFaultsUptoCardSaid : Prop := Claim7.holds Tryd.pinned (.plain (OpenSpec.upto labelFaultsSpec)) labelFaultsUptoCard

/-- THE SECOND FORM's CARD OF 'countermandlaw26.LabelBlank'. -/
def labelBlankUptoCard : Claim7 := { stood := { row := labelBlankUptoRow, standIns := [], harness := (true, "b73955d4189b87c6aa64c779127569a889c9d0f1771f10a08d7ff4ae65ca5d74"), looks := true }, kinds := [], alts := [], laidByText := true, laidKinds := [.data, .data, .data, .data, .sentinel, .sentinel, .data, .data, .pinned], laidTests := true, laidLooks := .later }
def LabelBlankUptoCardSaid : Prop := Claim7.holds Tryd.pinned (.plain (OpenSpec.upto labelBlankSpec)) labelBlankUptoCard

/-- THE SECOND FORM's CARD OF 'countermandlaw26.LabelReads'. -/
def labelReadsUptoCard : Claim7 := { stood := { row := labelReadsUptoRow, standIns := [], harness := (true, "b73955d4189b87c6aa64c779127569a889c9d0f1771f10a08d7ff4ae65ca5d74"), looks := true }, kinds := [], alts := [], laidByText := true, laidKinds := [.data, .data, .data, .data, .sentinel, .sentinel, .data, .data, .pinned], laidTests := true, laidLooks := .later }
def LabelReadsUptoCardSaid : Prop := Claim7.holds Tryd.pinned (.plain (OpenSpec.upto labelReadsSpec)) labelReadsUptoCard

/-- THE SECOND FORM's CARD OF 'countermandlaw26.LabelFull'. -/
def labelFullUptoCard : Claim7 := { stood := { row := labelFullUptoRow, standIns := [], harness := (true, "b73955d4189b87c6aa64c779127569a889c9d0f1771f10a08d7ff4ae65ca5d74"), looks := true }, kinds := [], alts := [], laidByText := true, laidKinds := [.data, .data, .data, .data, .sentinel, .sentinel, .data, .data, .pinned], laidTests := true, laidLooks := .later }
def LabelFullUptoCardSaid : Prop := Claim7.holds Tryd.pinned (.plain (OpenSpec.upto labelFullSpec)) labelFullUptoCard
end Rows
end Go.Proofs.YtmfmcegpoiinjaaDoor
