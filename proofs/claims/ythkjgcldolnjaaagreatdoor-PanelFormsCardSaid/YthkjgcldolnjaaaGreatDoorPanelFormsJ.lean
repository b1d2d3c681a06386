/- PanelForms: the card. Conditions: none. -/
import Derived.Test.YthkjgcldolnjaaaGreatDoorPanelFormsBJ
namespace Go.Proofs.YthkjgcldolnjaaaGreatDoor
open Go.ChangeShapes Go.WideShapes Go.ChangeAt Go.RowKit Go.Deep Go.Joins
set_option maxRecDepth 100000
set_option maxHeartbeats 4000000
theorem panelForms_wf : Rows.panelFormsRow.wfByText (OpenSpec.ofChange Rows.panelFormsSpec) = true := by kernel_rfl
theorem panelForms_goes : false = Rows.panelFormsRow.goesBy Tryz.pinned.checked.prog := by kernel_rfl
theorem panelForms_named : Tryz.prog.funcNamed "codend/codendlaw03.PanelForms" = some 3 := by kernel_rfl
theorem panelForms_wants : ([24, 24].all fun u => !Tryz.prog.wantsStandIn u) = true := by kernel_rfl
theorem panelForms_card : Rows.PanelFormsCardSaid :=
  Claim7.holds_tied_plain_at .later [] [.data, .data, .data, .data, .sentinel, .sentinel, .pinned] true (true, "f609a6a26c31bc9e4a6d37b0837338c15a92b6289c93cd40ad7d46596afb15f0") true
    panelForms_holds (fun _ h => by cases h) panelForms_wf (fun _ h => by cases h) panelForms_row_tie rfl ⟨rfl, rfl⟩ law_main rfl
    (fun f fn hf hfn => by
      obtain rfl : f = 3 := Option.some.inj (panelForms_named.symm.trans hf) |>.symm
      obtain rfl : fn = Tryz.f3 := (Option.some.inj (Tryz.func3.symm.trans hfn)).symm
      exact ⟨law_looks, fun j t ht => by
        rw [Tryz.params3] at ht
        have hm : t ∈ [24, 24] := by simpa using Array.mem_of_getElem? ht
        exact (show Tryz.prog.wantsStandIn t = false by simpa using List.all_eq_true.1 panelForms_wants t hm)⟩)
    panelForms_goes
end Go.Proofs.YthkjgcldolnjaaaGreatDoor
