/- PanelJoins: the card. Conditions: none. -/
import Derived.Test.YtmjfkgbbhplhcaaGreatDoorPanelJoinsBJ
namespace Go.Proofs.YtmjfkgbbhplhcaaGreatDoor
open Go.ChangeShapes Go.WideShapes Go.ChangeAt Go.RowKit Go.Deep Go.Joins
set_option maxRecDepth 100000
set_option maxHeartbeats 4000000
theorem panelJoins_wf : Rows.panelJoinsRow.wfByText (OpenSpec.ofChange Rows.panelJoinsSpec) = true := by kernel_rfl
theorem panelJoins_goes : false = Rows.panelJoinsRow.goesBy Tryz.pinned.checked.prog := by kernel_rfl
theorem panelJoins_named : Tryz.prog.funcNamed "codend/codendlaw03.PanelJoins" = some 3 := by kernel_rfl
theorem panelJoins_wants : ([24, 24, 3].all fun u => !Tryz.prog.wantsStandIn u) = true := by kernel_rfl
theorem panelJoins_card : Rows.PanelJoinsCardSaid :=
  Claim7.holds_tied_plain_at .later [] [.data, .data, .data, .data, .sentinel, .sentinel, .pinned] true (true, "8935003a3f50e00a8cf19e3a27acd14b32d8a24d3dea6e6483127f0a222581f9") true
    panelJoins_holds (fun _ h => by cases h) panelJoins_wf (fun _ h => by cases h) panelJoins_row_tie rfl ⟨rfl, rfl⟩ law_main rfl
    (fun f fn hf hfn => by
      obtain rfl : f = 3 := Option.some.inj (panelJoins_named.symm.trans hf) |>.symm
      obtain rfl : fn = Tryz.f3 := (Option.some.inj (Tryz.func3.symm.trans hfn)).symm
      exact ⟨law_looks, fun j t ht => by
        rw [Tryz.params3] at ht
        have hm : t ∈ [24, 24, 3] := by simpa using Array.mem_of_getElem? ht
        exact (show Tryz.prog.wantsStandIn t = false by simpa using List.all_eq_true.1 panelJoins_wants t hm)⟩)
    panelJoins_goes
end Go.Proofs.YtmjfkgbbhplhcaaGreatDoor
