/- PanelMotions: the card. Conditions: none. -/
import Derived.Test.YtkkefahobjlagaaGreatDoorPanelMotionsBJ
namespace Go.Proofs.YtkkefahobjlagaaGreatDoor
open Go.ChangeShapes Go.WideShapes Go.ChangeAt Go.RowKit Go.Deep Go.Joins
set_option maxRecDepth 100000
set_option maxHeartbeats 4000000
theorem panelMotions_wf : Rows.panelMotionsRow.wfByText (OpenSpec.ofChange Rows.panelMotionsSpec) = true := by kernel_rfl
theorem panelMotions_goes : false = Rows.panelMotionsRow.goesBy Tryz.pinned.checked.prog := by kernel_rfl
theorem panelMotions_named : Tryz.prog.funcNamed "codend/codendlaw03.PanelMotions" = some 4 := by kernel_rfl
theorem panelMotions_wants : ([24].all fun u => !Tryz.prog.wantsStandIn u) = true := by kernel_rfl
theorem panelMotions_card : Rows.PanelMotionsCardSaid :=
 Claim7.holds_tied_plain_at .later [] [.data, .data, .data, .data, .sentinel, .sentinel, .pinned] true (true, "34484aba8be14fb23b055c34843f68306072b73212b0d88356f17663d5c05954") true
  panelMotions_holds (fun _ h => by cases h) panelMotions_wf (fun _ h => by cases h) panelMotions_row_tie rfl ⟨rfl, rfl⟩ law_main rfl
  (fun f fn hf hfn => by
   obtain rfl : f = 4 := Option.some.inj (panelMotions_named.symm.trans hf) |>.symm
   obtain rfl : fn = Tryz.f4 := (Option.some.inj (Tryz.func4.symm.trans hfn)).symm
   exact ⟨law_looks, fun j t ht => by
    rw [Tryz.params4] at ht
    have hm : t ∈ [24] := by simpa using Array.mem_of_getElem? ht
    exact (show Tryz.prog.wantsStandIn t = false by simpa using List.all_eq_true.1 panelMotions_wants t hm)⟩)
  panelMotions_goes
end Go.Proofs.YtkkefahobjlagaaGreatDoor
