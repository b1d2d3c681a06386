/- PanelGreat: the card. Conditions: none. -/
import Derived.Test.YthkjgcldolnjaaaGreatDoorPanelGreatBJ
namespace Go.Proofs.YthkjgcldolnjaaaGreatDoor
open Go.ChangeShapes Go.WideShapes Go.ChangeAt Go.RowKit Go.Deep Go.Joins
set_option maxRecDepth 100000
set_option maxHeartbeats 4000000
theorem panelGreat_wf : Rows.panelGreatRow.wfByText (OpenSpec.ofChange Rows.panelGreatSpec) = true := by kernel_rfl
theorem panelGreat_goes : false = Rows.panelGreatRow.goesBy Tryz.pinned.checked.prog := by kernel_rfl
theorem panelGreat_named : Tryz.prog.funcNamed "codend/codendlaw03.PanelGreat" = some 6 := by kernel_rfl
theorem panelGreat_wants : ([5, 5, 4].all fun u => !Tryz.prog.wantsStandIn u) = true := by kernel_rfl
theorem panelGreat_card : Rows.PanelGreatCardSaid :=
  Claim7.holds_tied_plain_at .later [] [.data, .data, .data, .data, .sentinel, .sentinel, .pinned] true (true, "f609a6a26c31bc9e4a6d37b0837338c15a92b6289c93cd40ad7d46596afb15f0") true
    panelGreat_holds (fun _ h => by cases h) panelGreat_wf (fun _ h => by cases h) panelGreat_row_tie rfl ⟨rfl, rfl⟩ law_main rfl
    (fun f fn hf hfn => by
      obtain rfl : f = 6 := Option.some.inj (panelGreat_named.symm.trans hf) |>.symm
      obtain rfl : fn = Tryz.f6 := (Option.some.inj (Tryz.func6.symm.trans hfn)).symm
      exact ⟨law_looks, fun j t ht => by
        rw [Tryz.params6] at ht
        have hm : t ∈ [5, 5, 4] := by simpa using Array.mem_of_getElem? ht
        exact (show Tryz.prog.wantsStandIn t = false by simpa using List.all_eq_true.1 panelGreat_wants t hm)⟩)
    panelGreat_goes
end Go.Proofs.YthkjgcldolnjaaaGreatDoor
