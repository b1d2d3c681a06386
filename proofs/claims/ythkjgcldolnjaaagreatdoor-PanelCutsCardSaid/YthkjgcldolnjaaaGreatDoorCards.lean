/-
  DERIVED. GIVEN WITH THE SEED: THE CARDS: each row of YthkjgcldolnjaaaGreatDoorRows.lean that lists a variable, with what it lists TIED to the program's text (the seventh form; the later family's looks); each row that meets fmt, with fmt's text TOLD by the authors' own Lean function (tested against real Go, not proved from fmt's source: count such statements apart). THE CARD IS WHAT COUNTS. Prove the row's statement (the work); the ties are given (YthkjgcldolnjaaaGreatDoorTie.lean); close each card by the builder's one call (the guide's Derived/Test/ToyasCard.lean, 'card_holds'). Laid BY PROGRAM, IN A SANDBOX (cutbox-door.mjs). By AI agents, Wed Nov 11 2026. No macro, syntax, notation, axiom, sorry.
-/
import Derived.Test.YthkjgcldolnjaaaGreatDoorRows
import GoSem.ClaimSeven
namespace Go.Proofs.YthkjgcldolnjaaaGreatDoor
namespace Rows

/-- THE TIED CARD OF 'codendlaw03.PanelForms'. -/
def panelFormsCard : Claim7 := { stood := { row := panelFormsRow, standIns := [], harness := (true, "f609a6a26c31bc9e4a6d37b0837338c15a92b6289c93cd40ad7d46596afb15f0"), looks := true }, kinds := [], alts := [], laidByText := true, laidKinds := [.data, .data, .data, .data, .sentinel, .sentinel, .pinned], laidTests := true, laidLooks := .later }
def PanelFormsCardSaid : Prop := Claim7.holds Tryz.pinned (.plain (OpenSpec.ofChange panelFormsSpec)) panelFormsCard

/-- THE TIED CARD OF 'codendlaw03.PanelNets'. -/
def panelNetsCard : Claim7 := { stood := { row := panelNetsRow, standIns := [], harness := (true, "f609a6a26c31bc9e4a6d37b0837338c15a92b6289c93cd40ad7d46596afb15f0"), looks := true }, kinds := [], alts := [], laidByText := true, laidKinds := [.data, .data, .data, .data, .sentinel, .sentinel, .pinned], laidTests := true, laidLooks := .later }
def PanelNetsCardSaid : Prop := Claim7.holds Tryz.pinned (.plain (OpenSpec.ofChange panelNetsSpec)) panelNetsCard

/-- THE TIED CARD OF 'codendlaw03.PanelFrames'. -/
def panelFramesCard : Claim7 := { stood := { row := panelFramesRow, standIns := [], harness := (true, "f609a6a26c31bc9e4a6d37b0837338c15a92b6289c93cd40ad7d46596afb15f0"), looks := true }, kinds := [], alts := [], laidByText := true, laidKinds := [.data, .data, .data, .data, .sentinel, .sentinel, .pinned], laidTests := true, laidLooks := .later }
def PanelFramesCardSaid : Prop := Claim7.holds Tryz.pinned (.plain (OpenSpec.ofChange panelFramesSpec)) panelFramesCard

/-- THE TIED CARD OF 'codendlaw03.PanelGreat'. -/
def panelGreatCard : Claim7 := { stood := { row := panelGreatRow, standIns := [], harness := (true, "f609a6a26c31bc9e4a6d37b0837338c15a92b6289c93cd40ad7d46596afb15f0"), looks := true }, kinds := [], alts := [], laidByText := true, laidKinds := [.data, .data, .data, .data, .sentinel, .sentinel, .pinned], laidTests := true, laidLooks := .later }
def PanelGreatCardSaid : Prop := Claim7.holds Tryz.pinned (.plain (OpenSpec.ofChange panelGreatSpec)) panelGreatCard

/-- THE TIED CARD OF 'codendlaw03.PanelWide'. -/
def panelWideCard : Claim7 := { stood := { row := panelWideRow, standIns := [], harness := (true, "f609a6a26c31bc9e4a6d37b0837338c15a92b6289c93cd40ad7d46596afb15f0"), looks := true }, kinds := [], alts := [], laidByText := true, laidKinds := [.data, .data, .data, .data, .sentinel, .sentinel, .pinned], laidTests := true, laidLooks := .later }
def PanelWideCardSaid : Prop := Claim7.holds Tryz.pinned (.plain (OpenSpec.ofChange panelWideSpec)) panelWideCard

/-- THE TIED CARD OF 'codendlaw03.PanelCuts'. -/
def panelCutsCard : Claim7 := { stood := { row := panelCutsRow, standIns := [], harness := (true, "f609a6a26c31bc9e4a6d37b0837338c15a92b6289c93cd40ad7d46596afb15f0"), looks := true }, kinds := [], alts := [], laidByText := true, laidKinds := [.data, .data, .data, .data, .sentinel, .sentinel, .pinned], laidTests := true, laidLooks := .later }
def PanelCutsCardSaid : Prop := Claim7.holds Tryz.pinned (.plain (OpenSpec.ofChange panelCutsSpec)) panelCutsCard

/-- THE SECOND FORM's CARD OF 'codendlaw03.PanelForms'. -/
def panelFormsUptoCard : Claim7 := { stood := { row := panelFormsUptoRow, standIns := [], harness := (true, "f609a6a26c31bc9e4a6d37b0837338c15a92b6289c93cd40ad7d46596afb15f0"), looks := true }, kinds := [], alts := [], laidByText := true, laidKinds := [.data, .data, .data, .data, .sentinel, .sentinel, .pinned], laidTests := true, laidLooks := .later }
def PanelFormsUptoCardSaid : Prop := Claim7.holds Tryz.pinned (.plain (OpenSpec.upto panelFormsSpec)) panelFormsUptoCard

/-- THE SECOND FORM's CARD OF 'codendlaw03.PanelNets'. -/
def panelNetsUptoCard : Claim7 := { stood := { row := panelNetsUptoRow, standIns := [], harness := (true, "f609a6a26c31bc9e4a6d37b0837338c15a92b6289c93cd40ad7d46596afb15f0"), looks := true }, kinds := [], alts := [], laidByText := true, laidKinds := [.data, .data, .data, .data, .sentinel, .sentinel, .pinned], laidTests := true, laidLooks := .later }
def PanelNetsUptoCardSaid : Prop := Claim7.holds Tryz.pinned (.plain (OpenSpec.upto panelNetsSpec)) panelNetsUptoCard

/-- THE SECOND FORM's CARD OF 'codendlaw03.PanelFrames'. -/
def panelFramesUptoCard : Claim7 := { stood := { row := panelFramesUptoRow, standIns := [], harness := (true, "f609a6a26c31bc9e4a6d37b0837338c15a92b6289c93cd40ad7d46596afb15f0"), looks := true }, kinds := [], alts := [], laidByText := true, laidKinds := [.data, .data, .data, .data, .sentinel, .sentinel, .pinned], laidTests := true, laidLooks := .later }
def PanelFramesUptoCardSaid : Prop := Claim7.holds Tryz.pinned (.plain (OpenSpec.upto panelFramesSpec)) panelFramesUptoCard

/-- THE SECOND FORM's CARD OF 'codendlaw03.PanelGreat'. -/
def panelGreatUptoCard : Claim7 := { stood := { row := panelGreatUptoRow, standIns := [], harness := (true, "f609a6a26c31bc9e4a6d37b0837338c15a92b6289c93cd40ad7d46596afb15f0"), looks := true }, kinds := [], alts := [], laidByText := true, laidKinds := [.data, .data, .data, .data, .sentinel, .sentinel, .pinned], laidTests := true, laidLooks := .later }
def PanelGreatUptoCardSaid : Prop := Claim7.holds Tryz.pinned (.plain (OpenSpec.upto panelGreatSpec)) panelGreatUptoCard

/-- THE SECOND FORM's CARD OF 'codendlaw03.PanelWide'. -/
def panelWideUptoCard : Claim7 := { stood := { row := panelWideUptoRow, standIns := [], harness := (true, "f609a6a26c31bc9e4a6d37b0837338c15a92b6289c93cd40ad7d46596afb15f0"), looks := true }, kinds := [], alts := [], laidByText := true, laidKinds := [.data, .data, .data, .data, .sentinel, .sentinel, .pinned], laidTests := true, laidLooks := .later }
def PanelWideUptoCardSaid : Prop := Claim7.holds Tryz.pinned (.plain (OpenSpec.upto panelWideSpec)) panelWideUptoCard

/-- THE SECOND FORM's CARD OF 'codendlaw03.PanelCuts'. -/
def panelCutsUptoCard : Claim7 := { stood := { row := panelCutsUptoRow, standIns := [], harness := (true, "f609a6a26c31bc9e4a6d37b0837338c15a92b6289c93cd40ad7d46596afb15f0"), looks := true }, kinds := [], alts := [], laidByText := true, laidKinds := [.data, .data, .data, .data, .sentinel, .sentinel, .pinned], laidTests := true, laidLooks := .later }
def PanelCutsUptoCardSaid : Prop := Claim7.holds Tryz.pinned (.plain (OpenSpec.upto panelCutsSpec)) panelCutsUptoCard
end Rows
end Go.Proofs.YthkjgcldolnjaaaGreatDoor
