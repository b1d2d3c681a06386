/- PanelOutlines: the card. Conditions: none. -/
import Derived.Test.YtilfeobkiiefkaaGreatDoorPanelOutlinesBJ
namespace Go.Proofs.YtilfeobkiiefkaaGreatDoor
open Go.ChangeShapes Go.WideShapes Go.ChangeAt Go.RowKit Go.Deep Go.Joins
set_option maxRecDepth 100000
set_option maxHeartbeats 4000000
theorem panelOutlines_wf : Rows.panelOutlinesRow.wfByText (OpenSpec.ofChange Rows.panelOutlinesSpec) = true := by kernel_rfl
theorem panelOutlines_goes : false = Rows.panelOutlinesRow.goesBy Tryz.pinned.checked.prog := by kernel_rfl
theorem panelOutlines_named : Tryz.prog.funcNamed "codend/codendlaw03.PanelOutlines" = some 4 := by kernel_rfl
theorem panelOutlines_wants : ([24, 4].all fun u => !Tryz.prog.wantsStandIn u) = true := by kernel_rfl
theorem panelOutlines_card : Rows.PanelOutlinesCardSaid :=
  Claim7.holds_tied_plain_at .later [] [.data, .data, .data, .data, .sentinel, .sentinel, .pinned] true (true, "e828c2d03dea49d28ed4c251b89a358cf3c04d097430bc32a019f7b5d88154bb") true
    panelOutlines_holds (fun _ h => by cases h) panelOutlines_wf (fun _ h => by cases h) panelOutlines_row_tie rfl ⟨rfl, rfl⟩ law_main rfl
    (fun f fn hf hfn => by
      obtain rfl : f = 4 := Option.some.inj (panelOutlines_named.symm.trans hf) |>.symm
      obtain rfl : fn = Tryz.f4 := (Option.some.inj (Tryz.func4.symm.trans hfn)).symm
      exact ⟨law_looks, fun j t ht => by
        rw [Tryz.params4] at ht
        have hm : t ∈ [24, 4] := by simpa using Array.mem_of_getElem? ht
        exact (show Tryz.prog.wantsStandIn t = false by simpa using List.all_eq_true.1 panelOutlines_wants t hm)⟩)
    panelOutlines_goes
end Go.Proofs.YtilfeobkiiefkaaGreatDoor
