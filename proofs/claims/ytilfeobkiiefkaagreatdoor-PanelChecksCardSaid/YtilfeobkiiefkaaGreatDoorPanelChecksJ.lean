/- PanelChecks: the card. Conditions: none. -/
import Derived.Test.YtilfeobkiiefkaaGreatDoorPanelChecksBJ
namespace Go.Proofs.YtilfeobkiiefkaaGreatDoor
open Go.ChangeShapes Go.WideShapes Go.ChangeAt Go.RowKit Go.Deep Go.Joins
set_option maxRecDepth 100000
set_option maxHeartbeats 4000000
theorem panelChecks_wf : Rows.panelChecksRow.wfByText (OpenSpec.ofChange Rows.panelChecksSpec) = true := by kernel_rfl
theorem panelChecks_goes : false = Rows.panelChecksRow.goesBy Tryz.pinned.checked.prog := by kernel_rfl
theorem panelChecks_named : Tryz.prog.funcNamed "codend/codendlaw03.PanelChecks" = some 3 := by kernel_rfl
theorem panelChecks_wants : ([24, 26].all fun u => !Tryz.prog.wantsStandIn u) = true := by kernel_rfl
theorem panelChecks_card : Rows.PanelChecksCardSaid :=
  Claim7.holds_tied_plain_at .later [] [.data, .data, .data, .data, .sentinel, .sentinel, .pinned] true (true, "e828c2d03dea49d28ed4c251b89a358cf3c04d097430bc32a019f7b5d88154bb") true
    panelChecks_holds (fun _ h => by cases h) panelChecks_wf (fun _ h => by cases h) panelChecks_row_tie rfl ⟨rfl, rfl⟩ law_main rfl
    (fun f fn hf hfn => by
      obtain rfl : f = 3 := Option.some.inj (panelChecks_named.symm.trans hf) |>.symm
      obtain rfl : fn = Tryz.f3 := (Option.some.inj (Tryz.func3.symm.trans hfn)).symm
      exact ⟨law_looks, fun j t ht => by
        rw [Tryz.params3] at ht
        have hm : t ∈ [24, 26] := by simpa using Array.mem_of_getElem? ht
        exact (show Tryz.prog.wantsStandIn t = false by simpa using List.all_eq_true.1 panelChecks_wants t hm)⟩)
    panelChecks_goes
end Go.Proofs.YtilfeobkiiefkaaGreatDoor
