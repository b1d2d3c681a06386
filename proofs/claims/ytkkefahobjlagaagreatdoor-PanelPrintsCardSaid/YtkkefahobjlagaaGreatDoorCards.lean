/-
  DERIVED. GIVEN WITH THE SEED: THE CARDS: each row of YtkkefahobjlagaaGreatDoorRows.lean that lists a variable, with what it lists TIED to the program's text (the seventh form; the later family's looks); each row that meets fmt, with fmt's text TOLD by the authors' own Lean function (tested against real Go, not proved from fmt's source: count such statements apart). THE CARD IS WHAT COUNTS. Prove the row's statement (the work); the ties are given (YtkkefahobjlagaaGreatDoorTie.lean); close each card by the builder's one call (the guide's Derived/Test/ToyasCard.lean, 'card_holds'). Laid BY PROGRAM, IN A SANDBOX (cutbox-door.mjs). By AI agents, Wed Nov 11 2026. No macro, syntax, notation, axiom, sorry.
-/
import Derived.Test.YtkkefahobjlagaaGreatDoorRows
import GoSem.ClaimSeven
namespace Go.Proofs.YtkkefahobjlagaaGreatDoor
namespace Rows

/-- THE TIED CARD OF 'codendlaw03.PanelPieces'. -/
def panelPiecesCard : Claim7 := { stood := { row := panelPiecesRow, standIns := [], harness := (true, "34484aba8be14fb23b055c34843f68306072b73212b0d88356f17663d5c05954"), looks := true }, kinds := [], alts := [], laidByText := true, laidKinds := [.data, .data, .data, .data, .sentinel, .sentinel, .pinned], laidTests := true, laidLooks := .later }
def PanelPiecesCardSaid : Prop := Claim7.holds Tryz.pinned (.plain (OpenSpec.ofChange panelPiecesSpec)) panelPiecesCard

/-- THE TIED CARD OF 'codendlaw03.PanelMotions'. -/
def panelMotionsCard : Claim7 := { stood := { row := panelMotionsRow, standIns := [], harness := (true, "34484aba8be14fb23b055c34843f68306072b73212b0d88356f17663d5c05954"), looks := true }, kinds := [], alts := [], laidByText := true, laidKinds := [.data, .data, .data, .data, .sentinel, .sentinel, .pinned], laidTests := true, laidLooks := .later }
def PanelMotionsCardSaid : Prop := Claim7.holds Tryz.pinned (.plain (OpenSpec.ofChange panelMotionsSpec)) panelMotionsCard

/-- THE TIED CARD OF 'codendlaw03.PanelPick'. -/
def panelPickCard : Claim7 := { stood := { row := panelPickRow, standIns := [], harness := (true, "34484aba8be14fb23b055c34843f68306072b73212b0d88356f17663d5c05954"), looks := true }, kinds := [], alts := [], laidByText := true, laidKinds := [.data, .data, .data, .data, .sentinel, .sentinel, .pinned], laidTests := true, laidLooks := .later }
def PanelPickCardSaid : Prop := Claim7.holds Tryz.pinned (.plain (OpenSpec.ofChange panelPickSpec)) panelPickCard

/-- THE TIED CARD OF 'codendlaw03.PanelTexts'. -/
def panelTextsCard : Claim7 := { stood := { row := panelTextsRow, standIns := [], harness := (true, "34484aba8be14fb23b055c34843f68306072b73212b0d88356f17663d5c05954"), looks := true }, kinds := [], alts := [], laidByText := true, laidKinds := [.data, .data, .data, .data, .sentinel, .sentinel, .pinned], laidTests := true, laidLooks := .later }
def PanelTextsCardSaid : Prop := Claim7.holds Tryz.pinned (.plain (OpenSpec.ofChange panelTextsSpec)) panelTextsCard

/-- THE TIED CARD OF 'codendlaw03.PanelPrints'. -/
def panelPrintsCard : Claim7 := { stood := { row := panelPrintsRow, standIns := [], harness := (true, "34484aba8be14fb23b055c34843f68306072b73212b0d88356f17663d5c05954"), looks := true }, kinds := [], alts := [], laidByText := true, laidKinds := [.data, .data, .data, .data, .sentinel, .sentinel, .pinned], laidTests := true, laidLooks := .later }
def PanelPrintsCardSaid : Prop := Claim7.holds Tryz.pinned (.plain (OpenSpec.ofChange panelPrintsSpec)) panelPrintsCard

/-- THE SECOND FORM's CARD OF 'codendlaw03.PanelPieces'. -/
def panelPiecesUptoCard : Claim7 := { stood := { row := panelPiecesUptoRow, standIns := [], harness := (true, "34484aba8be14fb23b055c34843f68306072b73212b0d88356f17663d5c05954"), looks := true }, kinds := [], alts := [], laidByText := true, laidKinds := [.data, .data, .data, .data, .sentinel, .sentinel, .pinned], laidTests := true, laidLooks := .later }
def PanelPiecesUptoCardSaid : Prop := Claim7.holds Tryz.pinned (.plain (OpenSpec.upto panelPiecesSpec)) panelPiecesUptoCard

/-- THE SECOND FORM's CARD OF 'codendlaw03.PanelMotions'. -/
def panelMotionsUptoCard : Claim7 := { stood := { row := panelMotionsUptoRow, standIns := [], harness := (true, "34484aba8be14fb23b055c34843f68306072b73212b0d88356f17663d5c05954"), looks := true }, kinds := [], alts := [], laidByText := true, laidKinds := [.data, .data, .data, .data, .sentinel, .sentinel, .pinned], laidTests := true, laidLooks := .later }
def PanelMotionsUptoCardSaid : Prop := Claim7.holds Tryz.pinned (.plain (OpenSpec.upto panelMotionsSpec)) panelMotionsUptoCard

/-- THE SECOND FORM's CARD OF 'codendlaw03.PanelPick'. -/
def panelPickUptoCard : Claim7 := { stood := { row := panelPickUptoRow, standIns := [], harness := (true, "34484aba8be14fb23b055c34843f68306072b73212b0d88356f17663d5c05954"), looks := true }, kinds := [], alts := [], laidByText := true, laidKinds := [.data, .data, .data, .data, .sentinel, .sentinel, .pinned], laidTests := true, laidLooks := .later }
def PanelPickUptoCardSaid : Prop := Claim7.holds Tryz.pinned (.plain (OpenSpec.upto panelPickSpec)) panelPickUptoCard

/-- THE SECOND FORM's CARD OF 'codendlaw03.PanelTexts'. -/
def panelTextsUptoCard : Claim7 := { stood := { row := panelTextsUptoRow, standIns := [], harness := (true, "34484aba8be14fb23b055c34843f68306072b73212b0d88356f17663d5c05954"), looks := true }, kinds := [], alts := [], laidByText := true, laidKinds := [.data, .data, .data, .data, .sentinel, .sentinel, .pinned], laidTests := true, laidLooks := .later }
def PanelTextsUptoCardSaid : Prop := Claim7.holds Tryz.pinned (.plain (OpenSpec.upto panelTextsSpec)) panelTextsUptoCard

/-- THE SECOND FORM's CARD OF 'codendlaw03.PanelPrints'. -/
def panelPrintsUptoCard : Claim7 := { stood := { row := panelPrintsUptoRow, standIns := [], harness := (true, "34484aba8be14fb23b055c34843f68306072b73212b0d88356f17663d5c05954"), looks := true }, kinds := [], alts := [], laidByText := true, laidKinds := [.data, .data, .data, .data, .sentinel, .sentinel, .pinned], laidTests := true, laidLooks := .later }
def PanelPrintsUptoCardSaid : Prop := Claim7.holds Tryz.pinned (.plain (OpenSpec.upto panelPrintsSpec)) panelPrintsUptoCard
end Rows
end Go.Proofs.YtkkefahobjlagaaGreatDoor
