/- PanelPrints: the card. Conditions: none. -/
import Derived.Test.YtkkefahobjlagaaGreatDoorPanelPrintsBJ
namespace Go.Proofs.YtkkefahobjlagaaGreatDoor
open Go.ChangeShapes Go.WideShapes Go.ChangeAt Go.RowKit Go.Deep Go.Joins
set_option maxRecDepth 100000
set_option maxHeartbeats 4000000
theorem panelPrints_wf : Rows.panelPrintsRow.wfByText (OpenSpec.ofChange Rows.panelPrintsSpec) = true := by kernel_rfl
theorem panelPrints_goes : false = Rows.panelPrintsRow.goesBy Tryz.pinned.checked.prog := by kernel_rfl
theorem panelPrints_named : Tryz.prog.funcNamed "codend/codendlaw03.PanelPrints" = some 7 := by kernel_rfl
theorem panelPrints_wants : ([78, 9].all fun u => !Tryz.prog.wantsStandIn u) = true := by kernel_rfl
theorem panelPrints_card : Rows.PanelPrintsCardSaid :=
 Claim7.holds_tied_plain_at .later [] [.data, .data, .data, .data, .sentinel, .sentinel, .pinned] true (true, "34484aba8be14fb23b055c34843f68306072b73212b0d88356f17663d5c05954") true
  panelPrints_holds (fun _ h => by cases h) panelPrints_wf (fun _ h => by cases h) panelPrints_row_tie rfl ⟨rfl, rfl⟩ law_main rfl
  (fun f fn hf hfn => by
   obtain rfl : f = 7 := Option.some.inj (panelPrints_named.symm.trans hf) |>.symm
   obtain rfl : fn = Tryz.f7 := (Option.some.inj (Tryz.func7.symm.trans hfn)).symm
   exact ⟨law_looks, fun j t ht => by
    rw [Tryz.params7] at ht
    have hm : t ∈ [78, 9] := by simpa using Array.mem_of_getElem? ht
    exact (show Tryz.prog.wantsStandIn t = false by simpa using List.all_eq_true.1 panelPrints_wants t hm)⟩)
  panelPrints_goes
end Go.Proofs.YtkkefahobjlagaaGreatDoor
