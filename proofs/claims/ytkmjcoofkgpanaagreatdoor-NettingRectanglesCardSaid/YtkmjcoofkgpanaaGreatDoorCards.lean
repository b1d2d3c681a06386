/-
  DERIVED. GIVEN WITH THE SEED: THE CARDS: each row of YtkmjcoofkgpanaaGreatDoorRows.lean that lists a variable, with what it lists TIED to the program's text (the seventh form; the later family's looks); each row that meets fmt, with fmt's text TOLD by the authors' own Lean function (tested against real Go, not proved from fmt's source: count such statements apart). THE CARD IS WHAT COUNTS. Prove the row's statement (the work); the ties are given (YtkmjcoofkgpanaaGreatDoorTie.lean); close each card by the builder's one call (the guide's Derived/Test/ToyasCard.lean, 'card_holds'). Laid BY PROGRAM, IN A SANDBOX (cutbox-door.mjs). By AI agents, Wed Nov 11 2026. No macro, syntax, notation, axiom, sorry.
-/
import Derived.Test.YtkmjcoofkgpanaaGreatDoorRows
import GoSem.ClaimSeven
namespace Go.Proofs.YtkmjcoofkgpanaaGreatDoor
namespace Rows

/-- THE TIED CARD OF 'codendlaw01.NettingSheets'. -/
def nettingSheetsCard : Claim7 := { stood := { row := nettingSheetsRow, standIns := [], harness := (true, "990ad92517b89351c2f246a75ca85d757c4da301d35f2805c3b6a46fdce1c356"), looks := true }, kinds := [], alts := [], laidByText := true, laidKinds := [.data, .data, .data, .data, .sentinel, .sentinel, .pinned], laidTests := true, laidLooks := .later }
def NettingSheetsCardSaid : Prop := Claim7.holds Tryz.pinned (.plain (OpenSpec.ofChange nettingSheetsSpec)) nettingSheetsCard

/-- THE TIED CARD OF 'codendlaw01.NettingParts'. -/
def nettingPartsCard : Claim7 := { stood := { row := nettingPartsRow, standIns := [], harness := (true, "990ad92517b89351c2f246a75ca85d757c4da301d35f2805c3b6a46fdce1c356"), looks := true }, kinds := [], alts := [], laidByText := true, laidKinds := [.data, .data, .data, .data, .sentinel, .sentinel, .pinned], laidTests := true, laidLooks := .later }
def NettingPartsCardSaid : Prop := Claim7.holds Tryz.pinned (.plain (OpenSpec.ofChange nettingPartsSpec)) nettingPartsCard

/-- THE TIED CARD OF 'codendlaw01.NettingForms'. -/
def nettingFormsCard : Claim7 := { stood := { row := nettingFormsRow, standIns := [], harness := (true, "990ad92517b89351c2f246a75ca85d757c4da301d35f2805c3b6a46fdce1c356"), looks := true }, kinds := [], alts := [], laidByText := true, laidKinds := [.data, .data, .data, .data, .sentinel, .sentinel, .pinned], laidTests := true, laidLooks := .later }
def NettingFormsCardSaid : Prop := Claim7.holds Tryz.pinned (.plain (OpenSpec.ofChange nettingFormsSpec)) nettingFormsCard

/-- THE TIED CARD OF 'codendlaw01.NettingEuler'. -/
def nettingEulerCard : Claim7 := { stood := { row := nettingEulerRow, standIns := [], harness := (true, "990ad92517b89351c2f246a75ca85d757c4da301d35f2805c3b6a46fdce1c356"), looks := true }, kinds := [], alts := [], laidByText := true, laidKinds := [.data, .data, .data, .data, .sentinel, .sentinel, .pinned], laidTests := true, laidLooks := .later }
def NettingEulerCardSaid : Prop := Claim7.holds Tryz.pinned (.plain (OpenSpec.ofChange nettingEulerSpec)) nettingEulerCard

/-- THE TIED CARD OF 'codendlaw01.NettingPrints'. -/
def nettingPrintsCard : Claim7 := { stood := { row := nettingPrintsRow, standIns := [], harness := (true, "990ad92517b89351c2f246a75ca85d757c4da301d35f2805c3b6a46fdce1c356"), looks := true }, kinds := [], alts := [], laidByText := true, laidKinds := [.data, .data, .data, .data, .sentinel, .sentinel, .pinned], laidTests := true, laidLooks := .later }
def NettingPrintsCardSaid : Prop := Claim7.holds Tryz.pinned (.plain (OpenSpec.ofChange nettingPrintsSpec)) nettingPrintsCard

/-- THE TIED CARD OF 'codendlaw01.NettingKnots'. -/
def nettingKnotsCard : Claim7 := { stood := { row := nettingKnotsRow, standIns := [], harness := (true, "990ad92517b89351c2f246a75ca85d757c4da301d35f2805c3b6a46fdce1c356"), looks := true }, kinds := [], alts := [], laidByText := true, laidKinds := [.data, .data, .data, .data, .sentinel, .sentinel, .pinned], laidTests := true, laidLooks := .later }
def NettingKnotsCardSaid : Prop := Claim7.holds Tryz.pinned (.plain (OpenSpec.ofChange nettingKnotsSpec)) nettingKnotsCard

/-- THE TIED CARD OF 'codendlaw01.NettingSets'. -/
def nettingSetsCard : Claim7 := { stood := { row := nettingSetsRow, standIns := [], harness := (true, "990ad92517b89351c2f246a75ca85d757c4da301d35f2805c3b6a46fdce1c356"), looks := true }, kinds := [], alts := [], laidByText := true, laidKinds := [.data, .data, .data, .data, .sentinel, .sentinel, .pinned], laidTests := true, laidLooks := .later }
def NettingSetsCardSaid : Prop := Claim7.holds Tryz.pinned (.plain (OpenSpec.ofChange nettingSetsSpec)) nettingSetsCard

/-- THE TIED CARD OF 'codendlaw01.NettingMotions'. -/
def nettingMotionsCard : Claim7 := { stood := { row := nettingMotionsRow, standIns := [], harness := (true, "990ad92517b89351c2f246a75ca85d757c4da301d35f2805c3b6a46fdce1c356"), looks := true }, kinds := [], alts := [], laidByText := true, laidKinds := [.data, .data, .data, .data, .sentinel, .sentinel, .pinned], laidTests := true, laidLooks := .later }
def NettingMotionsCardSaid : Prop := Claim7.holds Tryz.pinned (.plain (OpenSpec.ofChange nettingMotionsSpec)) nettingMotionsCard

/-- THE TIED CARD OF 'codendlaw01.NettingTurns'. -/
def nettingTurnsCard : Claim7 := { stood := { row := nettingTurnsRow, standIns := [], harness := (true, "990ad92517b89351c2f246a75ca85d757c4da301d35f2805c3b6a46fdce1c356"), looks := true }, kinds := [], alts := [], laidByText := true, laidKinds := [.data, .data, .data, .data, .sentinel, .sentinel, .pinned], laidTests := true, laidLooks := .later }
def NettingTurnsCardSaid : Prop := Claim7.holds Tryz.pinned (.plain (OpenSpec.ofChange nettingTurnsSpec)) nettingTurnsCard

/-- THE TIED CARD OF 'codendlaw01.NettingBars'. -/
def nettingBarsCard : Claim7 := { stood := { row := nettingBarsRow, standIns := [], harness := (true, "990ad92517b89351c2f246a75ca85d757c4da301d35f2805c3b6a46fdce1c356"), looks := true }, kinds := [], alts := [], laidByText := true, laidKinds := [.data, .data, .data, .data, .sentinel, .sentinel, .pinned], laidTests := true, laidLooks := .later }
def NettingBarsCardSaid : Prop := Claim7.holds Tryz.pinned (.plain (OpenSpec.ofChange nettingBarsSpec)) nettingBarsCard

/-- THE TIED CARD OF 'codendlaw01.NettingNames'. -/
def nettingNamesCard : Claim7 := { stood := { row := nettingNamesRow, standIns := [], harness := (true, "990ad92517b89351c2f246a75ca85d757c4da301d35f2805c3b6a46fdce1c356"), looks := true }, kinds := [], alts := [], laidByText := true, laidKinds := [.data, .data, .data, .data, .sentinel, .sentinel, .pinned], laidTests := true, laidLooks := .later }
def NettingNamesCardSaid : Prop := Claim7.holds Tryz.pinned (.plain (OpenSpec.ofChange nettingNamesSpec)) nettingNamesCard

/-- THE TIED CARD OF 'codendlaw01.NettingAlgebra'. -/
def nettingAlgebraCard : Claim7 := { stood := { row := nettingAlgebraRow, standIns := [], harness := (true, "990ad92517b89351c2f246a75ca85d757c4da301d35f2805c3b6a46fdce1c356"), looks := true }, kinds := [], alts := [], laidByText := true, laidKinds := [.data, .data, .data, .data, .sentinel, .sentinel, .pinned], laidTests := true, laidLooks := .later }
def NettingAlgebraCardSaid : Prop := Claim7.holds Tryz.pinned (.plain (OpenSpec.ofChange nettingAlgebraSpec)) nettingAlgebraCard

/-- THE TIED CARD OF 'codendlaw01.NettingRectangles'. -/
def nettingRectanglesCard : Claim7 := { stood := { row := nettingRectanglesRow, standIns := [], harness := (true, "990ad92517b89351c2f246a75ca85d757c4da301d35f2805c3b6a46fdce1c356"), looks := true }, kinds := [], alts := [], laidByText := true, laidKinds := [.data, .data, .data, .data, .sentinel, .sentinel, .pinned], laidTests := true, laidLooks := .later }
def NettingRectanglesCardSaid : Prop := Claim7.holds Tryz.pinned (.plain (OpenSpec.ofChange nettingRectanglesSpec)) nettingRectanglesCard

/-- THE SECOND FORM's CARD OF 'codendlaw01.NettingSheets'. -/
def nettingSheetsUptoCard : Claim7 := { stood := { row := nettingSheetsUptoRow, standIns := [], harness := (true, "990ad92517b89351c2f246a75ca85d757c4da301d35f2805c3b6a46fdce1c356"), looks := true }, kinds := [], alts := [], laidByText := true, laidKinds := [.data, .data, .data, .data, .sentinel, .sentinel, .pinned], laidTests := true, laidLooks := .later }
def NettingSheetsUptoCardSaid : Prop := Claim7.holds Tryz.pinned (.plain (OpenSpec.upto nettingSheetsSpec)) nettingSheetsUptoCard

/-- THE SECOND FORM's CARD OF 'codendlaw01.NettingParts'. -/
def nettingPartsUptoCard : Claim7 := { stood := { row := nettingPartsUptoRow, standIns := [], harness := (true, "990ad92517b89351c2f246a75ca85d757c4da301d35f2805c3b6a46fdce1c356"), looks := true }, kinds := [], alts := [], laidByText := true, laidKinds := [.data, .data, .data, .data, .sentinel, .sentinel, .pinned], laidTests := true, laidLooks := .later }
def NettingPartsUptoCardSaid : Prop := Claim7.holds Tryz.pinned (.plain (OpenSpec.upto nettingPartsSpec)) nettingPartsUptoCard

/-- THE SECOND FORM's CARD OF 'codendlaw01.NettingForms'. -/
def nettingFormsUptoCard : Claim7 := { stood := { row := nettingFormsUptoRow, standIns := [], harness := (true, "990ad92517b89351c2f246a75ca85d757c4da301d35f2805c3b6a46fdce1c356"), looks := true }, kinds := [], alts := [], laidByText := true, laidKinds := [.data, .data, .data, .data, .sentinel, .sentinel, .pinned], laidTests := true, laidLooks := .later }
def NettingFormsUptoCardSaid : Prop := Claim7.holds Tryz.pinned (.plain (OpenSpec.upto nettingFormsSpec)) nettingFormsUptoCard

/-- THE SECOND FORM's CARD OF 'codendlaw01.NettingEuler'. -/
def nettingEulerUptoCard : Claim7 := { stood := { row := nettingEulerUptoRow, standIns := [], harness := (true, "990ad92517b89351c2f246a75ca85d757c4da301d35f2805c3b6a46fdce1c356"), looks := true }, kinds := [], alts := [], laidByText := true, laidKinds := [.data, .data, .data, .data, .sentinel, .sentinel, .pinned], laidTests := true, laidLooks := .later }
def NettingEulerUptoCardSaid : Prop := Claim7.holds Tryz.pinned (.plain (OpenSpec.upto nettingEulerSpec)) nettingEulerUptoCard

/-- THE SECOND FORM's CARD OF 'codendlaw01.NettingPrints'. -/
def nettingPrintsUptoCard : Claim7 := { stood := { row := nettingPrintsUptoRow, standIns := [], harness := (true, "990ad92517b89351c2f246a75ca85d757c4da301d35f2805c3b6a46fdce1c356"), looks := true }, kinds := [], alts := [], laidByText := true, laidKinds := [.data, .data, .data, .data, .sentinel, .sentinel, .pinned], laidTests := true, laidLooks := .later }
def NettingPrintsUptoCardSaid : Prop := Claim7.holds Tryz.pinned (.plain (OpenSpec.upto nettingPrintsSpec)) nettingPrintsUptoCard

/-- THE SECOND FORM's CARD OF 'codendlaw01.NettingKnots'. -/
def nettingKnotsUptoCard : Claim7 := { stood := { row := nettingKnotsUptoRow, standIns := [], harness := (true, "990ad92517b89351c2f246a75ca85d757c4da301d35f2805c3b6a46fdce1c356"), looks := true }, kinds := [], alts := [], laidByText := true, laidKinds := [.data, .data, .data, .data, .sentinel, .sentinel, .pinned], laidTests := true, laidLooks := .later }
def NettingKnotsUptoCardSaid : Prop := Claim7.holds Tryz.pinned (.plain (OpenSpec.upto nettingKnotsSpec)) nettingKnotsUptoCard

/-- THE SECOND FORM's CARD OF 'codendlaw01.NettingSets'. -/
def nettingSetsUptoCard : Claim7 := { stood := { row := nettingSetsUptoRow, standIns := [], harness := (true, "990ad92517b89351c2f246a75ca85d757c4da301d35f2805c3b6a46fdce1c356"), looks := true }, kinds := [], alts := [], laidByText := true, laidKinds := [.data, .data, .data, .data, .sentinel, .sentinel, .pinned], laidTests := true, laidLooks := .later }
def NettingSetsUptoCardSaid : Prop := Claim7.holds Tryz.pinned (.plain (OpenSpec.upto nettingSetsSpec)) nettingSetsUptoCard

/-- THE SECOND FORM's CARD OF 'codendlaw01.NettingMotions'. -/
def nettingMotionsUptoCard : Claim7 := { stood := { row := nettingMotionsUptoRow, standIns := [], harness := (true, "990ad92517b89351c2f246a75ca85d757c4da301d35f2805c3b6a46fdce1c356"), looks := true }, kinds := [], alts := [], laidByText := true, laidKinds := [.data, .data, .data, .data, .sentinel, .sentinel, .pinned], laidTests := true, laidLooks := .later }
def NettingMotionsUptoCardSaid : Prop := Claim7.holds Tryz.pinned (.plain (OpenSpec.upto nettingMotionsSpec)) nettingMotionsUptoCard

/-- THE SECOND FORM's CARD OF 'codendlaw01.NettingTurns'. -/
def nettingTurnsUptoCard : Claim7 := { stood := { row := nettingTurnsUptoRow, standIns := [], harness := (true, "990ad92517b89351c2f246a75ca85d757c4da301d35f2805c3b6a46fdce1c356"), looks := true }, kinds := [], alts := [], laidByText := true, laidKinds := [.data, .data, .data, .data, .sentinel, .sentinel, .pinned], laidTests := true, laidLooks := .later }
def NettingTurnsUptoCardSaid : Prop := Claim7.holds Tryz.pinned (.plain (OpenSpec.upto nettingTurnsSpec)) nettingTurnsUptoCard

/-- THE SECOND FORM's CARD OF 'codendlaw01.NettingBars'. -/
def nettingBarsUptoCard : Claim7 := { stood := { row := nettingBarsUptoRow, standIns := [], harness := (true, "990ad92517b89351c2f246a75ca85d757c4da301d35f2805c3b6a46fdce1c356"), looks := true }, kinds := [], alts := [], laidByText := true, laidKinds := [.data, .data, .data, .data, .sentinel, .sentinel, .pinned], laidTests := true, laidLooks := .later }
def NettingBarsUptoCardSaid : Prop := Claim7.holds Tryz.pinned (.plain (OpenSpec.upto nettingBarsSpec)) nettingBarsUptoCard

/-- THE SECOND FORM's CARD OF 'codendlaw01.NettingNames'. -/
def nettingNamesUptoCard : Claim7 := { stood := { row := nettingNamesUptoRow, standIns := [], harness := (true, "990ad92517b89351c2f246a75ca85d757c4da301d35f2805c3b6a46fdce1c356"), looks := true }, kinds := [], alts := [], laidByText := true, laidKinds := [.data, .data, .data, .data, .sentinel, .sentinel, .pinned], laidTests := true, laidLooks := .later }
def NettingNamesUptoCardSaid : Prop := Claim7.holds Tryz.pinned (.plain (OpenSpec.upto nettingNamesSpec)) nettingNamesUptoCard

/-- THE SECOND FORM's CARD OF 'codendlaw01.NettingAlgebra'. -/
def nettingAlgebraUptoCard : Claim7 := { stood := { row := nettingAlgebraUptoRow, standIns := [], harness := (true, "990ad92517b89351c2f246a75ca85d757c4da301d35f2805c3b6a46fdce1c356"), looks := true }, kinds := [], alts := [], laidByText := true, laidKinds := [.data, .data, .data, .data, .sentinel, .sentinel, .pinned], laidTests := true, laidLooks := .later }
def NettingAlgebraUptoCardSaid : Prop := Claim7.holds Tryz.pinned (.plain (OpenSpec.upto nettingAlgebraSpec)) nettingAlgebraUptoCard

/-- THE SECOND FORM's CARD OF 'codendlaw01.NettingRectangles'. -/
def nettingRectanglesUptoCard : Claim7 := { stood := { row := nettingRectanglesUptoRow, standIns := [], harness := (true, "990ad92517b89351c2f246a75ca85d757c4da301d35f2805c3b6a46fdce1c356"), looks := true }, kinds := [], alts := [], laidByText := true, laidKinds := [.data, .data, .data, .data, .sentinel, .sentinel, .pinned], laidTests := true, laidLooks := .later }
def NettingRectanglesUptoCardSaid : Prop := Claim7.holds Tryz.pinned (.plain (OpenSpec.upto nettingRectanglesSpec)) nettingRectanglesUptoCard
end Rows
end Go.Proofs.YtkmjcoofkgpanaaGreatDoor
