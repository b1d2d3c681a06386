/-
  DERIVED. GIVEN WITH THE SEED: THE CARDS: each row of YtmjfkgbbhplhcaaGreatDoorRows.lean that lists a variable, with what it lists TIED to the program's text (the seventh form; the later family's looks); each row that meets fmt, with fmt's text TOLD by the authors' own Lean function (tested against real Go, not proved from fmt's source: count such statements apart). THE CARD IS WHAT COUNTS. Prove the row's statement (the work); the ties are given (YtmjfkgbbhplhcaaGreatDoorTie.lean); close each card by the builder's one call (the guide's Derived/Test/ToyasCard.lean, 'card_holds'). Laid BY PROGRAM, IN A SANDBOX (cutbox-door.mjs). By AI agents, Wed Nov 11 2026. No macro, syntax, notation, axiom, sorry.
-/
import Derived.Test.YtmjfkgbbhplhcaaGreatDoorRows
import GoSem.ClaimSeven
namespace Go.Proofs.YtmjfkgbbhplhcaaGreatDoor
namespace Rows

/-- THE TIED CARD OF 'codendlaw03.PanelJoins'. -/
def panelJoinsCard : Claim7 := { stood := { row := panelJoinsRow, standIns := [], harness := (true, "8935003a3f50e00a8cf19e3a27acd14b32d8a24d3dea6e6483127f0a222581f9"), looks := true }, kinds := [], alts := [], laidByText := true, laidKinds := [.data, .data, .data, .data, .sentinel, .sentinel, .pinned], laidTests := true, laidLooks := .later }
def PanelJoinsCardSaid : Prop := Claim7.holds Tryz.pinned (.plain (OpenSpec.ofChange panelJoinsSpec)) panelJoinsCard

/-- THE TIED CARD OF 'codendlaw03.PanelForms'. -/
def panelFormsCard : Claim7 := { stood := { row := panelFormsRow, standIns := [], harness := (true, "8935003a3f50e00a8cf19e3a27acd14b32d8a24d3dea6e6483127f0a222581f9"), looks := true }, kinds := [], alts := [], laidByText := true, laidKinds := [.data, .data, .data, .data, .sentinel, .sentinel, .pinned], laidTests := true, laidLooks := .later }
def PanelFormsCardSaid : Prop := Claim7.holds Tryz.pinned (.plain (OpenSpec.ofChange panelFormsSpec)) panelFormsCard

/-- THE SECOND FORM's CARD OF 'codendlaw03.PanelJoins'. -/
def panelJoinsUptoCard : Claim7 := { stood := { row := panelJoinsUptoRow, standIns := [], harness := (true, "8935003a3f50e00a8cf19e3a27acd14b32d8a24d3dea6e6483127f0a222581f9"), looks := true }, kinds := [], alts := [], laidByText := true, laidKinds := [.data, .data, .data, .data, .sentinel, .sentinel, .pinned], laidTests := true, laidLooks := .later }
def PanelJoinsUptoCardSaid : Prop := Claim7.holds Tryz.pinned (.plain (OpenSpec.upto panelJoinsSpec)) panelJoinsUptoCard

/-- THE SECOND FORM's CARD OF 'codendlaw03.PanelForms'. -/
def panelFormsUptoCard : Claim7 := { stood := { row := panelFormsUptoRow, standIns := [], harness := (true, "8935003a3f50e00a8cf19e3a27acd14b32d8a24d3dea6e6483127f0a222581f9"), looks := true }, kinds := [], alts := [], laidByText := true, laidKinds := [.data, .data, .data, .data, .sentinel, .sentinel, .pinned], laidTests := true, laidLooks := .later }
def PanelFormsUptoCardSaid : Prop := Claim7.holds Tryz.pinned (.plain (OpenSpec.upto panelFormsSpec)) panelFormsUptoCard
end Rows
end Go.Proofs.YtmjfkgbbhplhcaaGreatDoor
