/- PanelNets: the card. Conditions: none. -/
import Derived.Test.YthkjgcldolnjaaaGreatDoorPanelNetsBJ
namespace Go.Proofs.YthkjgcldolnjaaaGreatDoor
open Go.ChangeShapes Go.WideShapes Go.ChangeAt Go.RowKit Go.Deep Go.Joins
set_option maxRecDepth 100000
set_option maxHeartbeats 4000000
theorem panelNets_wf : Rows.panelNetsRow.wfByText (OpenSpec.ofChange Rows.panelNetsSpec) = true := by kernel_rfl
theorem panelNets_goes : false = Rows.panelNetsRow.goesBy Tryz.pinned.checked.prog := by kernel_rfl
theorem panelNets_named : Tryz.prog.funcNamed "codend/codendlaw03.PanelNets" = some 4 := by kernel_rfl
theorem panelNets_wants : ([24].all fun u => !Tryz.prog.wantsStandIn u) = true := by kernel_rfl
theorem panelNets_card : Rows.PanelNetsCardSaid :=
  Claim7.holds_tied_plain_at .later [] [.data, .data, .data, .data, .sentinel, .sentinel, .pinned] true (true, "f609a6a26c31bc9e4a6d37b0837338c15a92b6289c93cd40ad7d46596afb15f0") true
    panelNets_holds (fun _ h => by cases h) panelNets_wf (fun _ h => by cases h) panelNets_row_tie rfl ⟨rfl, rfl⟩ law_main rfl
    (fun f fn hf hfn => by
      obtain rfl : f = 4 := Option.some.inj (panelNets_named.symm.trans hf) |>.symm
      obtain rfl : fn = Tryz.f4 := (Option.some.inj (Tryz.func4.symm.trans hfn)).symm
      exact ⟨law_looks, fun j t ht => by
        rw [Tryz.params4] at ht
        have hm : t ∈ [24] := by simpa using Array.mem_of_getElem? ht
        exact (show Tryz.prog.wantsStandIn t = false by simpa using List.all_eq_true.1 panelNets_wants t hm)⟩)
    panelNets_goes
end Go.Proofs.YthkjgcldolnjaaaGreatDoor
