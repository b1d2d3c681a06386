/- PanelWide: the card. Conditions: none. -/
import Derived.Test.YthkjgcldolnjaaaGreatDoorPanelWideBJ
namespace Go.Proofs.YthkjgcldolnjaaaGreatDoor
open Go.ChangeShapes Go.WideShapes Go.ChangeAt Go.RowKit Go.Deep Go.Joins
set_option maxRecDepth 100000
set_option maxHeartbeats 4000000
theorem panelWide_wf : Rows.panelWideRow.wfByText (OpenSpec.ofChange Rows.panelWideSpec) = true := by kernel_rfl
theorem panelWide_goes : false = Rows.panelWideRow.goesBy Tryz.pinned.checked.prog := by kernel_rfl
theorem panelWide_named : Tryz.prog.funcNamed "codend/codendlaw03.PanelWide" = some 7 := by kernel_rfl
theorem panelWide_wants : ([24].all fun u => !Tryz.prog.wantsStandIn u) = true := by kernel_rfl
theorem panelWide_card : Rows.PanelWideCardSaid :=
  Claim7.holds_tied_plain_at .later [] [.data, .data, .data, .data, .sentinel, .sentinel, .pinned] true (true, "f609a6a26c31bc9e4a6d37b0837338c15a92b6289c93cd40ad7d46596afb15f0") true
    panelWide_holds (fun _ h => by cases h) panelWide_wf (fun _ h => by cases h) panelWide_row_tie rfl ⟨rfl, rfl⟩ law_main rfl
    (fun f fn hf hfn => by
      obtain rfl : f = 7 := Option.some.inj (panelWide_named.symm.trans hf) |>.symm
      obtain rfl : fn = Tryz.f7 := (Option.some.inj (Tryz.func7.symm.trans hfn)).symm
      exact ⟨law_looks, fun j t ht => by
        rw [Tryz.params7] at ht
        have hm : t ∈ [24] := by simpa using Array.mem_of_getElem? ht
        exact (show Tryz.prog.wantsStandIn t = false by simpa using List.all_eq_true.1 panelWide_wants t hm)⟩)
    panelWide_goes
end Go.Proofs.YthkjgcldolnjaaaGreatDoor
