/- PanelPick: the card. Conditions: none. -/
import Derived.Test.YtkkefahobjlagaaGreatDoorPanelPickBJ
namespace Go.Proofs.YtkkefahobjlagaaGreatDoor
open Go.ChangeShapes Go.WideShapes Go.ChangeAt Go.RowKit Go.Deep Go.Joins
set_option maxRecDepth 100000
set_option maxHeartbeats 4000000
theorem panelPick_wf : Rows.panelPickRow.wfByText (OpenSpec.ofChange Rows.panelPickSpec) = true := by kernel_rfl
theorem panelPick_goes : false = Rows.panelPickRow.goesBy Tryz.pinned.checked.prog := by kernel_rfl
theorem panelPick_named : Tryz.prog.funcNamed "codend/codendlaw03.PanelPick" = some 5 := by kernel_rfl
theorem panelPick_wants : ([24].all fun u => !Tryz.prog.wantsStandIn u) = true := by kernel_rfl
theorem panelPick_card : Rows.PanelPickCardSaid :=
 Claim7.holds_tied_plain_at .later [] [.data, .data, .data, .data, .sentinel, .sentinel, .pinned] true (true, "34484aba8be14fb23b055c34843f68306072b73212b0d88356f17663d5c05954") true
  panelPick_holds (fun _ h => by cases h) panelPick_wf (fun _ h => by cases h) panelPick_row_tie rfl ⟨rfl, rfl⟩ law_main rfl
  (fun f fn hf hfn => by
   obtain rfl : f = 5 := Option.some.inj (panelPick_named.symm.trans hf) |>.symm
   obtain rfl : fn = Tryz.f5 := (Option.some.inj (Tryz.func5.symm.trans hfn)).symm
   exact ⟨law_looks, fun j t ht => by
    rw [Tryz.params5] at ht
    have hm : t ∈ [24] := by simpa using Array.mem_of_getElem? ht
    exact (show Tryz.prog.wantsStandIn t = false by simpa using List.all_eq_true.1 panelPick_wants t hm)⟩)
  panelPick_goes
end Go.Proofs.YtkkefahobjlagaaGreatDoor
