/-
  DERIVED. GIVEN WITH THE SEED: THE CARDS: each row of YtilfeobkiiefkaaGreatDoorRows.lean that lists a variable, with what it lists TIED to the program's text (the seventh form; the later family's looks); each row that meets fmt, with fmt's text TOLD by the authors' own Lean function (tested against real Go, not proved from fmt's source: count such statements apart). THE CARD IS WHAT COUNTS. Prove the row's statement (the work); the ties are given (YtilfeobkiiefkaaGreatDoorTie.lean); close each card by the builder's one call (the guide's Derived/Test/ToyasCard.lean, 'card_holds'). Laid BY PROGRAM, IN A SANDBOX (cutbox-door.mjs). By AI agents, Wed Nov 11 2026. No macro, syntax, notation, axiom, sorry.
-/
import Derived.Test.YtilfeobkiiefkaaGreatDoorRows
import GoSem.ClaimSeven
namespace Go.Proofs.YtilfeobkiiefkaaGreatDoor
namespace Rows

/-- THE TIED CARD OF 'codendlaw03.PanelChecks'. -/
def panelChecksCard : Claim7 := { stood := { row := panelChecksRow, standIns := [], harness := (true, "e828c2d03dea49d28ed4c251b89a358cf3c04d097430bc32a019f7b5d88154bb"), looks := true }, kinds := [], alts := [], laidByText := true, laidKinds := [.data, .data, .data, .data, .sentinel, .sentinel, .pinned], laidTests := true, laidLooks := .later }
def PanelChecksCardSaid : Prop := Claim7.holds Tryz.pinned (.plain (OpenSpec.ofChange panelChecksSpec)) panelChecksCard

/-- THE TIED CARD OF 'codendlaw03.PanelOutlines'. -/
def panelOutlinesCard : Claim7 := { stood := { row := panelOutlinesRow, standIns := [], harness := (true, "e828c2d03dea49d28ed4c251b89a358cf3c04d097430bc32a019f7b5d88154bb"), looks := true }, kinds := [], alts := [], laidByText := true, laidKinds := [.data, .data, .data, .data, .sentinel, .sentinel, .pinned], laidTests := true, laidLooks := .later }
def PanelOutlinesCardSaid : Prop := Claim7.holds Tryz.pinned (.plain (OpenSpec.ofChange panelOutlinesSpec)) panelOutlinesCard

/-- THE SECOND FORM's CARD OF 'codendlaw03.PanelChecks'. -/
def panelChecksUptoCard : Claim7 := { stood := { row := panelChecksUptoRow, standIns := [], harness := (true, "e828c2d03dea49d28ed4c251b89a358cf3c04d097430bc32a019f7b5d88154bb"), looks := true }, kinds := [], alts := [], laidByText := true, laidKinds := [.data, .data, .data, .data, .sentinel, .sentinel, .pinned], laidTests := true, laidLooks := .later }
def PanelChecksUptoCardSaid : Prop := Claim7.holds Tryz.pinned (.plain (OpenSpec.upto panelChecksSpec)) panelChecksUptoCard

/-- THE SECOND FORM's CARD OF 'codendlaw03.PanelOutlines'. -/
def panelOutlinesUptoCard : Claim7 := { stood := { row := panelOutlinesUptoRow, standIns := [], harness := (true, "e828c2d03dea49d28ed4c251b89a358cf3c04d097430bc32a019f7b5d88154bb"), looks := true }, kinds := [], alts := [], laidByText := true, laidKinds := [.data, .data, .data, .data, .sentinel, .sentinel, .pinned], laidTests := true, laidLooks := .later }
def PanelOutlinesUptoCardSaid : Prop := Claim7.holds Tryz.pinned (.plain (OpenSpec.upto panelOutlinesSpec)) panelOutlinesUptoCard
end Rows
end Go.Proofs.YtilfeobkiiefkaaGreatDoor
