/- PanelFrames: the card. Conditions: none. -/
import Derived.Test.YthkjgcldolnjaaaGreatDoorPanelFramesBJ
namespace Go.Proofs.YthkjgcldolnjaaaGreatDoor
open Go.ChangeShapes Go.WideShapes Go.ChangeAt Go.RowKit Go.Deep Go.Joins
set_option maxRecDepth 100000
set_option maxHeartbeats 4000000
theorem panelFrames_wf : Rows.panelFramesRow.wfByText (OpenSpec.ofChange Rows.panelFramesSpec) = true := by kernel_rfl
theorem panelFrames_goes : false = Rows.panelFramesRow.goesBy Tryz.pinned.checked.prog := by kernel_rfl
theorem panelFrames_named : Tryz.prog.funcNamed "codend/codendlaw03.PanelFrames" = some 5 := by kernel_rfl
theorem panelFrames_wants : ([24].all fun u => !Tryz.prog.wantsStandIn u) = true := by kernel_rfl
theorem panelFrames_card : Rows.PanelFramesCardSaid :=
  Claim7.holds_tied_plain_at .later [] [.data, .data, .data, .data, .sentinel, .sentinel, .pinned] true (true, "f609a6a26c31bc9e4a6d37b0837338c15a92b6289c93cd40ad7d46596afb15f0") true
    panelFrames_holds (fun _ h => by cases h) panelFrames_wf (fun _ h => by cases h) panelFrames_row_tie rfl ⟨rfl, rfl⟩ law_main rfl
    (fun f fn hf hfn => by
      obtain rfl : f = 5 := Option.some.inj (panelFrames_named.symm.trans hf) |>.symm
      obtain rfl : fn = Tryz.f5 := (Option.some.inj (Tryz.func5.symm.trans hfn)).symm
      exact ⟨law_looks, fun j t ht => by
        rw [Tryz.params5] at ht
        have hm : t ∈ [24] := by simpa using Array.mem_of_getElem? ht
        exact (show Tryz.prog.wantsStandIn t = false by simpa using List.all_eq_true.1 panelFrames_wants t hm)⟩)
    panelFrames_goes
end Go.Proofs.YthkjgcldolnjaaaGreatDoor
