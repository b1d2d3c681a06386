/- PanelCuts: the card. Conditions: none. -/
import Derived.Test.YthkjgcldolnjaaaGreatDoorPanelCutsBJ
namespace Go.Proofs.YthkjgcldolnjaaaGreatDoor
open Go.ChangeShapes Go.WideShapes Go.ChangeAt Go.RowKit Go.Deep Go.Joins
set_option maxRecDepth 100000
set_option maxHeartbeats 4000000
theorem panelCuts_wf : Rows.panelCutsRow.wfByText (OpenSpec.ofChange Rows.panelCutsSpec) = true := by kernel_rfl
theorem panelCuts_goes : false = Rows.panelCutsRow.goesBy Tryz.pinned.checked.prog := by kernel_rfl
theorem panelCuts_named : Tryz.prog.funcNamed "codend/codendlaw03.PanelCuts" = some 8 := by kernel_rfl
theorem panelCuts_wants : ([24, 3].all fun u => !Tryz.prog.wantsStandIn u) = true := by kernel_rfl
theorem panelCuts_card : Rows.PanelCutsCardSaid :=
  Claim7.holds_tied_plain_at .later [] [.data, .data, .data, .data, .sentinel, .sentinel, .pinned] true (true, "f609a6a26c31bc9e4a6d37b0837338c15a92b6289c93cd40ad7d46596afb15f0") true
    panelCuts_holds (fun _ h => by cases h) panelCuts_wf (fun _ h => by cases h) panelCuts_row_tie rfl ⟨rfl, rfl⟩ law_main rfl
    (fun f fn hf hfn => by
      obtain rfl : f = 8 := Option.some.inj (panelCuts_named.symm.trans hf) |>.symm
      obtain rfl : fn = Tryz.f8 := (Option.some.inj (Tryz.func8.symm.trans hfn)).symm
      exact ⟨law_looks, fun j t ht => by
        rw [Tryz.params8] at ht
        have hm : t ∈ [24, 3] := by simpa using Array.mem_of_getElem? ht
        exact (show Tryz.prog.wantsStandIn t = false by simpa using List.all_eq_true.1 panelCuts_wants t hm)⟩)
    panelCuts_goes
end Go.Proofs.YthkjgcldolnjaaaGreatDoor
